/-
  The walks (printed by my generator).
-/
import Derived.Test.YtagooehmocpcjaaDoorEx2
import Derived.Test.YtagooehmocpcjaaDoorExY
set_option maxRecDepth 100000
set_option maxHeartbeats 4000000
set_option linter.unusedVariables false
namespace Go.Pw
open Go.Proofs
theorem A92 : tyAgg Tryd.prog 92 = some (true, 2) := by kernel_rfl

theorem IA92 : intArr Tryd.prog 92 2 = true := by kernel_rfl

theorem N60 : (Tryd.f60.name == "runtime.NumGoroutine") = false := by kernel_rfl

theorem slices_Compact____2_int__2_int__o_sim {w0 w : World} {s : PHeap} {H : List Res} {s_100 : (List Arr2_int)} {v100 : Value} {r : Nat × (List Arr2_int)} (hm : slices_Compact____2_int__2_int__o_p s_100 = some r) (hS : St w0 s (Res.arr encArr2_int 92 v100 s_100 :: H) w)  :
  Calls Tryd.prog 60 #[v100] w fun e w' => ∃ v, e = .returned v ∧ ((un2 fun (y100 : Nat) (l100 : (List Arr2_int)) => ∃ (s100 : PHeap) (v101 : Value), PHeap.le s s100 ∧ St w0 s100 (Res.arr encArr2_int 92 v100 l100 :: H) w' ∧ v = v101 ∧ SubOf 2 v100 v101 0 y100) r) := by
 unfold slices_Compact____2_int__2_int__o_p at hm
 refine calls_of_W Tryd.func60 rfl rfl ?_
 refine W_seq ?_
 refine W_region ?_
 refine WL_step rfl rfl (Exec.assign (v := Value.slice none 0 0) rfl rfl ?_)
 refine WL_nil (at_normal ?_)
 refine W_seq ?_
 refine W_seq ?_
 refine W_region ?_
 refine WL_step rfl rfl (Exec.move (v := v100) rfl rfl ?_)
 refine WL_step rfl rfl (Exec.len_arr (hS) S91 rfl rfl ?_)
 refine WL_step rfl rfl (Exec.lss rfl rfl rfl ?_)
 refine WL_nil (at_normal ?_)
 rcases ite_some hm with ⟨hc100, hm⟩ | ⟨hc100, hm⟩
 ·refine W_cond_t rfl hc100 ?_
  refine W_seq ?_
  refine W_region ?_
  refine WL_step rfl rfl (Exec.move (v := v100) rfl rfl ?_)
  refine WL_step rfl rfl (Exec.assign (v := v100) rfl rfl ?_)
  refine WL_nil (at_normal ?_)
  refine W_ret (at_ret ?_)
  have e100 := Option.some.inj hm
  subst r
  refine ⟨_, ret1 rfl, ?_⟩
  exact ⟨s, v100, (PHeap.le_refl _), hS, rfl, (Or.inl ⟨rfl, rfl, (hS).arr_shape⟩)⟩
 ·refine W_cond_f rfl hc100 ?_
  replace hc100 := not_true hc100
  refine W_skip (at_normal ?_)
  refine W_seq ?_
  refine W_seq ?_
  refine W_region ?_
  refine WL_step rfl rfl (Exec.assign (v := Value.int .i64 (1)) rfl rfl ?_)
  refine WL_nil (at_normal ?_)
  obtain ⟨c100, hB100, hr100, hn100, hb100⟩ := ctl_some hm
  refine W_mid (M := fun f' w' => ∃ s', (c100 = .next s' ∨ c100 = .brk s') ∧ (fun (k100 : Int) => ∃ (s101 : PHeap) , PHeap.le s s101 ∧ St w0 s101 (Res.arr encArr2_int 92 v100 s_100 :: H) w' ∧ f' 0 = v100 ∧ f' 3 = Value.int .i64 (k100)) s') ?_ ?_
  ·refine W_block (W_while (fun s' f' w' => (fun (k101 : Int) => ∃ (s102 : PHeap) , PHeap.le s s102 ∧ St w0 s102 (Res.arr encArr2_int 92 v100 s_100 :: H) w' ∧ f' 0 = v100 ∧ f' 3 = Value.int .i64 (k101)) s') hB100 ?_ ?_)
   ·exact ⟨s, (PHeap.le_refl _), hS, rfl, rfl⟩
   ·intro k101 c101 f100 w100 hI100 hm100 hres100
    obtain ⟨s103, l101, hS100, p100, p101⟩ := hI100
    refine W_seq ?_
    refine W_seq ?_
    refine W_region ?_
    refine WL_step rfl rfl (Exec.move (v := Value.int .i64 (k101)) rfl p101 ?_)
    refine WL_step rfl rfl (Exec.move (v := v100) rfl p100 ?_)
    refine WL_step rfl rfl (Exec.len_arr (hS100) S91 rfl rfl ?_)
    refine WL_step rfl rfl (Exec.lss rfl rfl rfl ?_)
    refine WL_nil (at_normal ?_)
    rcases ite_some hm100 with ⟨hc101, hm100⟩ | ⟨hc101, hm100⟩
    ·refine W_cond_t rfl hc101 ?_
     refine W_skip (at_normal ?_)
     refine W_seq ?_
     refine W_block ?_
     refine W_seq ?_
     refine W_dl (n0 := 10) (.q 0 (.q 1 (.q 2 (.q 3 (.q 4 (.q 5 (.q 6 (.q 7 (.q 8 (.q 9 .done)))))))))) hmix (by kernel_rfl) (by kernel_rfl) ?_
     have hS101 := hS100.drew
     refine DL_q rfl rfl (Exec.move (v := v100) rfl p100 ⟨rfl, ?_⟩)
     refine DL_q rfl rfl (Exec.move (v := Value.int .i64 (k101)) rfl p101 ⟨rfl, ?_⟩)
     obtain ⟨x100, q100, hm100⟩ := bind_some hm100
     obtain ⟨g100, c102, e101⟩ := (hS101).arr_at q100
     refine DL_q rfl rfl (Exec.index_slice S91 rfl e101 rfl (idx_some q100).1 (idx_some q100).2.1 ⟨rfl, ?_⟩)
     refine DL_q rfl rfl (Exec.load_arr (F := encArr2_int) (hS101) e101 A92 rfl rfl rfl q100 (Sub.refl _) ?_)
     intro v102 q101
     obtain rfl := encArr2_int_val.1 q101
     refine ⟨rfl, ?_⟩
     refine DL_q rfl rfl (Exec.move (v := v100) rfl p100 ⟨rfl, ?_⟩)
     refine DL_q rfl rfl (Exec.move (v := Value.int .i64 (k101)) rfl p101 ⟨rfl, ?_⟩)
     refine DL_q rfl rfl (Exec.sub rfl rfl rfl ⟨rfl, ?_⟩)
     obtain ⟨x101, q102, hm100⟩ := bind_some hm100
     obtain ⟨g101, c103, e102⟩ := (hS101).arr_at q102
     refine DL_q rfl rfl (Exec.index_slice S91 rfl e102 rfl (idx_some q102).1 (idx_some q102).2.1 ⟨rfl, ?_⟩)
     refine DL_q rfl rfl (Exec.load_arr (F := encArr2_int) (hS101) e102 A92 rfl rfl rfl q102 (Sub.refl _) ?_)
     intro v103 q103
     obtain rfl := encArr2_int_val.1 q103
     refine ⟨rfl, ?_⟩
     refine DL_q rfl rfl (Exec.arr_eql (xs := [x100.a0, x100.a1]) (ys := [x101.a0, x101.a1]) IA92 rfl rfl rfl rfl rfl rfl rfl ⟨rfl, ?_⟩)
     refine DL_done ?_
     refine WL_nil (at_normal ?_)
     rcases ite_some hm100 with ⟨hc102, hm100⟩ | ⟨hc102, hm100⟩
     ·refine W_cond_t rfl hc102 ?_
      refine W_seq ?_
      refine W_region ?_
      refine WL_step rfl rfl (Exec.move (v := v100) rfl p100 ?_)
      refine WL_step rfl rfl (Exec.move (v := Value.int .i64 (k101)) rfl p101 ?_)
      obtain ⟨n100, q104, hm100⟩ := bind_some hm100
      refine WL_step rfl rfl (Exec.sub_from (hS101) S91 rfl rfl rfl q104 ?_)
      intro v104 h100
      refine WL_step rfl rfl (Exec.assign (v := v104) rfl rfl ?_)
      refine WL_nil (at_normal ?_)
      refine W_seq ?_
      refine W_seq ?_
      refine W_region ?_
      refine WL_step rfl rfl (Exec.assign (v := Value.int .i64 (1)) rfl rfl ?_)
      refine WL_nil (at_normal ?_)
      obtain ⟨c104, hB101, hr101, hn101, hb101⟩ := ctl_some hm100
      refine W_mid (M := fun f' w' => ∃ s', (c104 = .next s' ∨ c104 = .brk s') ∧ (un3 fun (k102 : Int) (k103 : Int) (l102 : (List Arr2_int)) => ∃ (s104 : PHeap) , PHeap.le s103 s104 ∧ St w0 s104 (Res.arr encArr2_int 92 v100 l102 :: H) w' ∧ f' 0 = v100 ∧ f' 3 = Value.int .i64 (k102) ∧ f' 4 = v104 ∧ f' 5 = Value.int .i64 (k103)) s') ?_ ?_
      ·refine W_block (W_while (fun s' f' w' => (un3 fun (k104 : Int) (k105 : Int) (l103 : (List Arr2_int)) => ∃ (s105 : PHeap) , PHeap.le s103 s105 ∧ St w0 s105 (Res.arr encArr2_int 92 v100 l103 :: H) w' ∧ f' 0 = v100 ∧ f' 3 = Value.int .i64 (k104) ∧ f' 4 = v104 ∧ f' 5 = Value.int .i64 (k105)) s') hB101 ?_ ?_)
       ·exact ⟨s103, (PHeap.le_refl _), hS101, p100, p101, rfl, rfl⟩
       ·intro t100 c105 f101 w101 hI101 hm101 hres101
        obtain ⟨k104, k105, l103⟩ := t100
        replace hm101 := un3_eq hm101
        obtain ⟨s106, l104, hS102, p102, p103, p104, p105⟩ := hI101
        refine W_seq ?_
        refine W_seq ?_
        refine W_region ?_
        refine WL_step rfl rfl (Exec.move (v := Value.int .i64 (k105)) rfl p105 ?_)
        refine WL_step rfl rfl (Exec.move (v := v104) rfl p104 ?_)
        refine WL_step rfl rfl (Exec.len_sub S91 h100 rfl rfl ?_)
        refine WL_step rfl rfl (Exec.lss rfl rfl rfl ?_)
        refine WL_nil (at_normal ?_)
        rcases ite_some hm101 with ⟨hc103, hm101⟩ | ⟨hc103, hm101⟩
        ·refine W_cond_t rfl hc103 ?_
         refine W_skip (at_normal ?_)
         refine W_seq ?_
         refine W_block ?_
         refine W_seq ?_
         refine W_dl (n0 := 10) (.q 0 (.q 1 (.q 2 (.q 3 (.q 4 (.q 5 (.q 6 (.q 7 (.q 8 (.q 9 .done)))))))))) hmix (by kernel_rfl) (by kernel_rfl) ?_
         have hS103 := hS102.drew
         refine DL_q rfl rfl (Exec.move (v := v104) rfl p104 ⟨rfl, ?_⟩)
         refine DL_q rfl rfl (Exec.move (v := Value.int .i64 (k105)) rfl p105 ⟨rfl, ?_⟩)
         obtain ⟨x102, q105, hm101⟩ := bind_some hm101
         obtain ⟨g102, c106, e103⟩ := (hS103).arr_at (idxV_some q105).2.2
         refine DL_q rfl rfl (Exec.index_sub S91 (view_some q104).1 h100 e103 rfl rfl rfl (idxV_some q105).1 (idxV_some q105).2.1 ⟨rfl, ?_⟩)
         refine DL_q rfl rfl (Exec.load_arr (F := encArr2_int) (hS103) e103 A92 rfl rfl rfl (idxV_some q105).2.2 (Sub.refl _) ?_)
         intro v105 q106
         obtain rfl := encArr2_int_val.1 q106
         refine ⟨rfl, ?_⟩
         refine DL_q rfl rfl (Exec.move (v := v104) rfl p104 ⟨rfl, ?_⟩)
         refine DL_q rfl rfl (Exec.move (v := Value.int .i64 (k105)) rfl p105 ⟨rfl, ?_⟩)
         refine DL_q rfl rfl (Exec.sub rfl rfl rfl ⟨rfl, ?_⟩)
         obtain ⟨x103, q107, hm101⟩ := bind_some hm101
         obtain ⟨g103, c107, e104⟩ := (hS103).arr_at (idxV_some q107).2.2
         refine DL_q rfl rfl (Exec.index_sub S91 (view_some q104).1 h100 e104 rfl rfl rfl (idxV_some q107).1 (idxV_some q107).2.1 ⟨rfl, ?_⟩)
         refine DL_q rfl rfl (Exec.load_arr (F := encArr2_int) (hS103) e104 A92 rfl rfl rfl (idxV_some q107).2.2 (Sub.refl _) ?_)
         intro v106 q108
         obtain rfl := encArr2_int_val.1 q108
         refine ⟨rfl, ?_⟩
         refine DL_q rfl rfl (Exec.arr_neq (xs := [x102.a0, x102.a1]) (ys := [x103.a0, x103.a1]) IA92 rfl rfl rfl rfl rfl rfl rfl ⟨rfl, ?_⟩)
         refine DL_done ?_
         refine WL_nil (at_normal ?_)
         obtain ⟨t101, ht100, hm101⟩ := bind_some hm101
         refine W_mid (M := fun f' w' => (un2 fun (k106 : Int) (l105 : (List Arr2_int)) => ∃ (s107 : PHeap) , PHeap.le s106 s107 ∧ St w0 s107 (Res.arr encArr2_int 92 v100 l105 :: H) w' ∧ f' 0 = v100 ∧ f' 3 = Value.int .i64 (k106) ∧ f' 4 = v104 ∧ f' 5 = Value.int .i64 (k105)) t101) ?_ ?_
         ·rcases ite_some ht100 with ⟨hc104, ht100⟩ | ⟨hc104, ht100⟩
          ·refine W_cond_t rfl hc104 ?_
           refine W_seq ?_
           refine W_region ?_
           refine WL_step rfl rfl (Exec.move (v := v100) rfl p102 ?_)
           refine WL_step rfl rfl (Exec.move (v := Value.int .i64 (k104)) rfl p103 ?_)
           refine WL_step rfl rfl (Exec.move (v := v104) rfl p104 ?_)
           refine WL_step rfl rfl (Exec.move (v := Value.int .i64 (k105)) rfl p105 ?_)
           obtain ⟨x104, q109, ht100⟩ := bind_some ht100
           obtain ⟨g104, c108, e105⟩ := (hS103).arr_at (idxV_some q109).2.2
           refine WL_step rfl rfl (Exec.index_sub S91 (view_some q104).1 h100 e105 rfl rfl rfl (idxV_some q109).1 (idxV_some q109).2.1 ?_)
           refine WL_step rfl rfl (Exec.load_arr (F := encArr2_int) (hS103) e105 A92 rfl rfl rfl (idxV_some q109).2.2 (Sub.refl _) ?_)
           intro v107 q110
           obtain rfl := encArr2_int_val.1 q110
           obtain ⟨x105, q111, ht100⟩ := bind_some ht100
           obtain ⟨g105, c109, e106⟩ := (hS103).arr_at q111
           refine WL_step rfl rfl (Exec.index_slice S91 rfl e106 rfl (idx_some q111).1 (idx_some q111).2.1 ?_)
           obtain ⟨l106, q112, ht100⟩ := bind_some ht100
           refine WL_step rfl rfl (Exec.store_arr hS103 e106 A92 rfl rfl rfl rfl (encArr2_int_val.2 rfl) q112 ?_)
           intro w102 hS104
           refine WL_nil (at_normal ?_)
           refine W_region ?_
           refine WL_step rfl rfl (Exec.move (v := Value.int .i64 (k104)) rfl p103 ?_)
           refine WL_step rfl rfl (Exec.add rfl rfl rfl ?_)
           refine WL_step rfl rfl (Exec.assign (v := Value.int .i64 (IntKind.i64.wrap (k104 + 1))) rfl rfl ?_)
           refine WL_nil (at_normal ?_)
           have e107 := Option.some.inj ht100
           subst t101
           exact ⟨s106, (PHeap.le_refl _), hS104, p102, rfl, p104, p105⟩
          ·refine W_cond_f rfl hc104 ?_
           replace hc104 := not_true hc104
           refine W_skip (at_normal ?_)
           have e108 := Option.some.inj ht100
           subst t101
           exact ⟨s106, (PHeap.le_refl _), hS103, p102, p103, p104, p105⟩
         ·intro f102 w103 hM100
          obtain ⟨k106, l105⟩ := t101
          replace hm101 := un2_eq hm101
          obtain ⟨s108, l107, hS105, p106, p107, p108, p109⟩ := hM100
          refine (ib_normal (at_normal ?_))
          refine W_region ?_
          refine WL_step rfl rfl (Exec.move (v := Value.int .i64 (k105)) rfl p109 ?_)
          refine WL_step rfl rfl (Exec.add rfl rfl rfl ?_)
          refine WL_step rfl rfl (Exec.assign (v := Value.int .i64 (IntKind.i64.wrap (k105 + 1))) rfl rfl ?_)
          refine WL_nil (at_normal ?_)
          have e109 := Option.some.inj hm101
          subst c105
          refine ⟨_, rfl, ?_⟩; exact ⟨s108, (PHeap.le.trans l104 l107), hS105, p106, p107, p108, rfl⟩
        ·refine W_cond_f rfl hc103 ?_
         replace hc103 := not_true hc103
         refine W_exit (at_exit (at_exit (ib_here (at_normal ?_))))
         have e110 := Option.some.inj hm101
         subst c105
         refine ⟨_, .inr (hres101 (by intro _ h; cases h)), ?_⟩; exact ⟨s106, l104, hS102, p102, p103, p104, p105⟩
      ·rintro f103 w104 ⟨t102, hc105, hM101⟩
       have hm100 := hc105.elim (hn101 _) (hb101 _)
       clear hc105
       obtain ⟨k102, k103, l102⟩ := t102
       replace hm100 := un3_eq hm100
       obtain ⟨s109, l108, hS106, p110, p111, p112, p113⟩ := hM101
       refine (at_normal ?_)
       refine W_seq ?_
       refine W_region ?_
       refine WL_step rfl rfl (Exec.move (v := v100) rfl p110 ?_)
       refine WL_step rfl rfl (Exec.move (v := Value.int .i64 (k102)) rfl p111 ?_)
       obtain ⟨n101, q113, hm100⟩ := bind_some hm100
       refine WL_step rfl rfl (Exec.sub_from (hS106) S91 rfl rfl rfl q113 ?_)
       intro v108 h101
       refine WL_step rfl rfl (Exec.clear_sub (E := encArr2_int) (y := (⟨0, 0⟩ : Arr2_int)) hS106 h101 (view_some q113).2.2.2.2.2 S91 Z92 ⟨[Value.int .i64 (0)], [Value.int .i64 (0)], rfl, rfl, rfl⟩ rfl rfl ?_)
       intro w105 hS107
       refine WL_nil (at_normal ?_)
       refine W_seq ?_
       refine W_region ?_
       refine WL_step rfl rfl (Exec.move (v := v100) rfl p110 ?_)
       refine WL_step rfl rfl (Exec.move (v := Value.int .i64 (k102)) rfl p111 ?_)
       obtain ⟨n102, q114, hm100⟩ := bind_some hm100
       refine WL_step rfl rfl (Exec.sub_to (hS107) S91 rfl rfl rfl q114 ?_)
       intro v109 h102
       refine WL_step rfl rfl (Exec.assign (v := v109) rfl rfl ?_)
       refine WL_nil (at_normal ?_)
       refine W_ret (ib_ret (at_ret (at_ret (ib_ret (at_ret (at_ret ?_))))))
       have e111 := Option.some.inj hm100
       subst c101
       have hq100 := hr100 _ (hres100 (by intro _ h; cases h))
       have e112 := Option.some.inj hq100
       subst r
       refine ⟨_, ret1 rfl, ?_⟩
       exact ⟨s109, v109, (PHeap.le.trans l101 l108), hS107, rfl, h102⟩
     ·refine W_cond_f rfl hc102 ?_
      replace hc102 := not_true hc102
      refine W_skip (ib_normal (at_normal ?_))
      refine W_region ?_
      refine WL_step rfl rfl (Exec.move (v := Value.int .i64 (k101)) rfl p101 ?_)
      refine WL_step rfl rfl (Exec.add rfl rfl rfl ?_)
      refine WL_step rfl rfl (Exec.assign (v := Value.int .i64 (IntKind.i64.wrap (k101 + 1))) rfl rfl ?_)
      refine WL_nil (at_normal ?_)
      have e113 := Option.some.inj hm100
      subst c101
      refine ⟨_, rfl, ?_⟩; exact ⟨s103, l101, hS101, p100, rfl⟩
    ·refine W_cond_f rfl hc101 ?_
     replace hc101 := not_true hc101
     refine W_exit (at_exit (at_exit (ib_here (at_normal ?_))))
     have e114 := Option.some.inj hm100
     subst c101
     refine ⟨_, .inr (hres100 (by intro _ h; cases h)), ?_⟩; exact ⟨s103, l101, hS100, p100, p101⟩
  ·rintro f104 w106 ⟨k100, hc106, hM102⟩
   have hm := hc106.elim (hn100 _) (hb100 _)
   clear hc106
   obtain ⟨s110, l109, hS108, p114, p115⟩ := hM102
   refine (at_normal ?_)
   refine W_seq ?_
   refine W_region ?_
   refine WL_step rfl rfl (Exec.move (v := v100) rfl p114 ?_)
   refine WL_step rfl rfl (Exec.assign (v := v100) rfl rfl ?_)
   refine WL_nil (at_normal ?_)
   refine W_ret ?_
   have e115 := Option.some.inj hm
   subst r
   refine ⟨_, ret1 rfl, ?_⟩
   exact ⟨s110, v100, l109, hS108, rfl, (Or.inl ⟨rfl, rfl, (hS108).arr_shape⟩)⟩

theorem N42 : (Tryd.f42.name == "runtime.NumGoroutine") = false := by kernel_rfl

theorem N31 : (Tryd.f31.name == "runtime.NumGoroutine") = false := by kernel_rfl

theorem shrink_refine_o_sim {w0 w : World} {s : PHeap} {H : List Res} {x100 : System} {class100 : (List Int)} {v100 : Value} {v101 : Value} {v102 : Value} {v103 : Value} {r : (List Int) × Int} (hm : shrink_refine_o_p x100 class100 = some r) (hS : St w0 s (Res.arr (encInt .i64) 3 v103 class100 :: H) w) (a100 : SliceRep (encInt .i64) s v100 x100.Costs) (a101 : SliceRep encEdge s v101 x100.Edges) (a102 : SliceRep encBool s v102 x100.Goals) (ht : TabS Tryd.prog s) :
  Calls Tryd.prog 31 #[Value.agg #[Value.int .i64 (x100.States), Value.int .i64 (x100.Init), v100, v101, v102], v103] w fun e w' => ∃ v, e = .returned v ∧ ((un2 fun (y100 : (List Int)) (y101 : Int) => ∃ (s100 : PHeap) (v104 : Value), PHeap.le s s100 ∧ St w0 s100 (Res.arr (encInt .i64) 3 v103 class100 :: Res.arr (encInt .i64) 3 v104 y100 :: H) w' ∧ v = Value.tuple #[v104, Value.int .i64 (y101)]) r) := by
 unfold shrink_refine_o_p at hm
 refine calls_of_W Tryd.func31 rfl rfl ?_
 refine W_seq ?_
 refine W_region ?_
 refine WL_step rfl rfl (Exec.box (cs := [Value.int .i64 (x100.States), Value.int .i64 (x100.Init), v100, v101, v102]) hS rfl rfl rfl ?_)
 intro b100 w100 hS100
 refine WL_step rfl rfl (Exec.assign (v := Value.slice none 0 0) rfl rfl ?_)
 refine WL_step rfl rfl (Exec.assign (v := Value.int .i64 (0)) rfl rfl ?_)
 refine WL_nil (at_normal ?_)
 refine W_seq ?_
 refine W_region ?_
 refine WL_step rfl rfl (Exec.field F26_0 rfl rfl rfl ?_)
 refine WL_step rfl rfl (Exec.load_box (hS100) A3 rfl rfl rfl ?_)
 obtain ⟨l100, q100, hm⟩ := bind_some hm
 refine WL_step rfl rfl (Exec.make_grid (F := encArr2_int) (T2 := 92) hS100 S90 Z91 rfl rfl rfl q100 ?_)
 intro v105 hs100 w101 hS101
 refine WL_step rfl rfl (Exec.assign (v := v105) rfl rfl ?_)
 refine WL_nil (at_normal ?_)
 refine W_seq ?_
 refine W_seq ?_
 refine W_region ?_
 refine WL_step rfl rfl (Exec.field F26_3 rfl rfl rfl ?_)
 refine WL_step rfl rfl (Exec.load_box ((hS101).f2) A23 rfl rfl rfl ?_)
 refine WL_step rfl rfl (Exec.len_rep S23 rfl rfl a101 ?_)
 refine WL_step rfl rfl (Exec.move (v := Value.int .i64 (0)) rfl rfl ?_)
 refine WL_nil (at_normal ?_)
 obtain ⟨l101, hB100, hm⟩ := bind_some hm
 refine W_block (W_forS (fun k' s' f' w' => (fun (l101 : (List (List Arr2_int))) => ∃ (s101 : PHeap) (hs101 : List Value), PHeap.le s s101 ∧ St w0 s101 (Res.arr (encInt .i64) 3 v103 class100 :: Res.box b100 26 [Value.int .i64 (x100.States), Value.int .i64 (x100.Init), v100, v101, v102] :: Res.arr encRaw 91 v105 hs101 :: Res.rows encArr2_int 92 hs101 l101 :: H) w' ∧ f' 1 = v103 ∧ f' 2 = Value.pointer (some ⟨b100, 0, none⟩) ∧ f' 6 = v105 ∧ f' 19 = v101 ∧ f' 20 = Value.int .i64 ((x100.Edges.length : Int)) ∧ f' 21 = Value.int .i64 (k' : Int)) s') hB100 ?_ ?_ ?_)
 ·have hS102 := (hS101).f2
  have hS103 := (hS102).f3
  exact ⟨s, hs100, (PHeap.le_refl _), hS103, rfl, rfl, rfl, rfl, rfl, rfl⟩
 ·intro i100 l101 s102 f100 w102 hi100 hI100 hm100
  obtain ⟨s103, hs101, l102, hS104, p100, p101, p102, p103, p104, x101⟩ := hI100
  refine W_seq ?_
  refine W_region ?_
  refine WL_step rfl rfl (Exec.lss rfl x101 p104 ?_)
  refine WL_nil (at_normal ?_)
  refine W_seq ?_
  refine W_true (congrArg Value.bool (decide_eq_true (by omega))) ?_
  refine W_skip (at_normal ?_)
  refine W_seq ?_
  refine W_block ?_
  refine W_seq ?_
  refine W_region ?_
  obtain ⟨x102, q101, hm100⟩ := bind_some hm100
  refine WL_step rfl rfl (Exec.index_rep S23 rfl p103 x101 (a101.mono l102) q101 ?_)
  intro b101 o100 a103
  refine WL_step rfl rfl (Exec.load_at (E := encEdge) hS104 A53 rfl rfl rfl a103 ?_)
  intro v106 q102
  obtain rfl := encEdge_val.1 q102
  refine WL_step rfl rfl (Exec.alloc (cs := [Value.int .i64 (0), Value.int .i64 (0), Value.int .i64 (0)]) hS104 Z53 rfl rfl ?_)
  intro b102 w103 hS105
  refine WL_step rfl rfl (Exec.store_box (ds := [Value.int .i64 (x102.From), Value.int .i64 (x102.Label), Value.int .i64 (x102.To)]) (es := [Value.int .i64 (x102.From), Value.int .i64 (x102.Label), Value.int .i64 (x102.To)]) hS105 A53 rfl rfl rfl rfl (one_cons rfl (one_cons rfl (one_cons rfl one_nil))) (Nat.le_of_ble_eq_true rfl) rfl ?_)
  intro w104 hS106
  refine WL_nil (at_normal ?_)
  refine W_dl (n0 := 18) (.q 0 (.q 1 (.q 2 (.q 3 (.q 4 (.q 5 (.q 6 (.q 7 (.q 8 (.q 9 (.q 10 (.q 11 (.q 12 (.q 13 (.q 14 (.q 15 (.e 16 [0, 1, 2, 3, 4, 5, 6, 7] (.e 17 [0, 1, 2] .done)))))))))))))))))) hmix (by kernel_rfl) (by kernel_rfl) ?_
  have hS107 := hS106.drew
  refine DL_q rfl rfl (Exec.move (v := v105) rfl p102 ⟨rfl, ?_⟩)
  refine DL_q rfl rfl (Exec.field F53_0 rfl rfl rfl ⟨rfl, ?_⟩)
  refine DL_q rfl rfl (Exec.load_box (hS107) A3 rfl rfl rfl ⟨rfl, ?_⟩)
  refine DL_q rfl rfl (Exec.move (v := v105) rfl p102 ⟨rfl, ?_⟩)
  refine DL_q rfl rfl (Exec.field F53_0 rfl rfl rfl ⟨rfl, ?_⟩)
  refine DL_q rfl rfl (Exec.load_box (hS107) A3 rfl rfl rfl ⟨rfl, ?_⟩)
  obtain ⟨row100, q103, hm100⟩ := bind_some hm100
  obtain ⟨h100, e100, e101, _⟩ := ((((hS107).f4).f4).f1).rows_at q103
  obtain ⟨g100, c100, e102⟩ := (((hS107).f4).f4).arr_at e100
  refine DL_q rfl rfl (Exec.index_slice S90 rfl e102 rfl (idx_some e100).1 (idx_some e100).2.1 ⟨rfl, ?_⟩)
  refine DL_q rfl rfl (Exec.load_arr (F := encRaw) (((hS107).f4).f4) e102 A91 rfl rfl rfl e100 (Sub.refl _) ?_)
  intro v107 q104
  replace q104 := (encRaw_val.1 q104).1
  subst v107
  refine ⟨rfl, ?_⟩
  refine DL_q rfl rfl (Exec.field F53_1 rfl rfl rfl ⟨rfl, ?_⟩)
  refine DL_q rfl rfl (Exec.load_box (hS107) A3 rfl rfl rfl ⟨rfl, ?_⟩)
  refine DL_q rfl rfl (Exec.move (v := v103) rfl p100 ⟨rfl, ?_⟩)
  refine DL_q rfl rfl (Exec.field F53_2 rfl rfl rfl ⟨rfl, ?_⟩)
  refine DL_q rfl rfl (Exec.load_box (hS107) A3 rfl rfl rfl ⟨rfl, ?_⟩)
  obtain ⟨x103, q105, hm100⟩ := bind_some hm100
  obtain ⟨g101, c101, e103⟩ := ((hS107).f1).arr_at q105
  refine DL_q rfl rfl (Exec.index_slice S22 rfl e103 rfl (idx_some q105).1 (idx_some q105).2.1 ⟨rfl, ?_⟩)
  refine DL_q rfl rfl (Exec.load_arr (F := (encInt .i64)) ((hS107).f1) e103 A3 rfl rfl rfl q105 (Sub.refl _) ?_)
  intro v108 q106
  obtain rfl := encInt_val.1 q106
  refine ⟨rfl, ?_⟩
  refine DL_q rfl rfl (Exec.build rfl (parts_cons (c := [Value.int .i64 (x102.Label)]) (cells_of rfl rfl) (parts_cons (c := [Value.int .i64 (x103)]) (cells_of rfl rfl) parts_nil)) (v := Value.agg #[Value.int .i64 (x102.Label), Value.int .i64 (x103)]) (fun _ => by kernel_rfl) ⟨rfl, ?_⟩)
  refine DL_e rfl rfl (Exec.buildSlice (Te := 92) (cs := [Value.int .i64 (x102.Label), Value.int .i64 (x103)]) hS107 rfl (parts_cons (c := [Value.int .i64 (x102.Label), Value.int .i64 (x103)]) (cells_of rfl rfl) parts_nil) (fun _ => by kernel_rfl) ?_)
  intro b103 w105 hS108
  refine ⟨(ag_cons (ag_r rfl rfl (Exec.move (v := v105) rfl p102 ⟨rfl, rfl⟩)) (ag_cons (ag_r rfl rfl (Exec.field F53_0 rfl rfl rfl ⟨rfl, rfl⟩)) (ag_cons (ag_r rfl rfl (Exec.load_box ((hS108).f1) A3 rfl rfl rfl ⟨rfl, rfl⟩)) (ag_cons (ag_r rfl rfl (Exec.move (v := v105) rfl p102 ⟨rfl, rfl⟩)) (ag_cons (ag_r rfl rfl (Exec.field F53_0 rfl rfl rfl ⟨rfl, rfl⟩)) (ag_cons (ag_r rfl rfl (Exec.load_box ((hS108).f1) A3 rfl rfl rfl ⟨rfl, rfl⟩)) (ag_cons (ag_r rfl rfl (Exec.index_slice S90 rfl e102 rfl (idx_some e100).1 (idx_some e100).2.1 ⟨rfl, rfl⟩)) (ag_cons (ag_r rfl rfl (Exec.load_arr (F := encRaw) (((hS108).f5).f5) e102 A91 rfl rfl rfl e100 (Sub.refl _) (fun _ q => ⟨rfl, (encRaw_val.1 q).1⟩))) ag_nil)))))))), ?_⟩
  have hS109 := ((((hS108).f5).f5).f1).rows_split e101 (idx_some q103).2.2
  obtain ⟨l103, q107, hm100⟩ := bind_some hm100
  have hS110 := (hS109).f3
  have hS111 := (hS110).f1
  refine DL_e rfl rfl (Exec.append_box (E := encArr2_int) (ys := [(⟨x102.Label, x103⟩ : Arr2_int)]) hS111 S91 Z92 rfl (by decide) rfl rfl rfl rfl ⟨[Value.int .i64 (x102.Label), Value.int .i64 (x103)], [], rfl, ⟨[Value.int .i64 (x102.Label)], [Value.int .i64 (x103)], rfl, rfl, rfl⟩, rfl⟩ rfl q107 ?_)
  intro v109 w106 hS112
  refine ⟨(ag_cons (ag_r rfl rfl (Exec.move (v := v105) rfl p102 ⟨rfl, rfl⟩)) (ag_cons (ag_r rfl rfl (Exec.field F53_0 rfl rfl rfl ⟨rfl, rfl⟩)) (ag_cons (ag_r rfl rfl (Exec.load_box ((hS112).f3) A3 rfl rfl rfl ⟨rfl, rfl⟩)) ag_nil))), ?_⟩
  refine DL_done ?_
  refine WL_step rfl rfl (Exec.index_slice S90 rfl e102 rfl (idx_some e100).1 (idx_some e100).2.1 ?_)
  obtain ⟨l104, q108, hm100⟩ := bind_some hm100
  have hS113 := ((hS112).f2).f2
  have hS114 := (hS113).f2
  refine WL_step rfl rfl (Exec.store_row hS114 e101 e102 A91 rfl rfl rfl rfl q108 ?_)
  intro hs102 w107 hS115
  refine WL_nil (ib_normal (at_normal ?_))
  refine W_region ?_
  refine WL_step rfl rfl (Exec.add rfl x101 rfl ?_)
  refine WL_step rfl rfl (Exec.move (v := Value.int .i64 (IntKind.i64.wrap ((i100 : Int) + 1))) rfl rfl ?_)
  refine WL_nil (at_normal ?_)
  have e104 := Option.some.inj hm100
  subst s102
  have hS116 := ((hS115).f2).drop
  have hS117 := (hS116).f3
  have hS118 := (hS117).f3
  exact ⟨s103, hs102, l102, hS118, p100, p101, p102, p103, p104, (Eq.trans rfl (wrap_up hi100 (SliceRep.le a101)))⟩
 ·intro f101 w108 hI101
  obtain ⟨s104, hs101, l105, hS119, p105, p106, p107, p108, p109, x104⟩ := hI101
  refine W_seq ?_
  refine W_region ?_
  refine WL_step rfl rfl (Exec.lss rfl x104 p109 ?_)
  refine WL_nil (at_normal ?_)
  refine W_seq ?_
  refine W_false (congrArg Value.bool (decide_eq_false (by omega))) ?_
  refine W_exit (at_exit (at_exit (ib_here (at_normal ?_))))
  refine W_seq ?_
  refine W_region ?_
  refine WL_step rfl rfl (Exec.field F26_0 rfl p106 rfl ?_)
  refine WL_step rfl rfl (Exec.load_box ((hS119).f1) A3 rfl rfl rfl ?_)
  obtain ⟨l106, q109, hm⟩ := bind_some hm
  refine WL_step rfl rfl (Exec.make (E := encStr) hS119 S54 Z9 rfl rfl rfl rfl q109 ?_)
  intro v110 w109 hS120
  refine WL_step rfl rfl (Exec.assign (v := v110) rfl rfl ?_)
  refine WL_nil (at_normal ?_)
  refine W_seq ?_
  refine W_seq ?_
  refine W_region ?_
  refine WL_step rfl rfl (Exec.move (v := v105) rfl p107 ?_)
  refine WL_step rfl rfl (Exec.len_grid (((hS120).f4).f4) (((hS120).f4).f4).f1.rows_len S90 rfl rfl ?_)
  refine WL_step rfl rfl (Exec.move (v := Value.int .i64 (0)) rfl rfl ?_)
  refine WL_nil (at_normal ?_)
  obtain ⟨t100, hB101, hm⟩ := bind_some hm
  refine W_block (W_forS (fun k' s' f' w' => (un2 fun (l107 : (List ByteArray)) (l108 : (List (List Arr2_int))) => ∃ (s105 : PHeap) , PHeap.le s104 s105 ∧ St w0 s105 (Res.arr (encInt .i64) 3 v103 class100 :: Res.arr encStr 9 v110 l107 :: Res.arr encRaw 91 v105 hs101 :: Res.rows encArr2_int 92 hs101 l108 :: H) w' ∧ f' 1 = v103 ∧ f' 9 = v110 ∧ f' 48 = v105 ∧ f' 49 = Value.int .i64 ((l101.length : Int)) ∧ f' 50 = Value.int .i64 (k' : Int)) s') hB101 ?_ ?_ ?_)
  ·have hS121 := ((hS120).f2).drop
   have hS122 := ((hS121).f3).f3
   have hS123 := (hS122).f2
   have hS124 := (hS123).f3
   exact ⟨s104, (PHeap.le_refl _), hS124, p105, rfl, rfl, rfl, rfl⟩
  ·intro i101 t101 s106 f102 w110 hi101 hI102 hm101
   obtain ⟨l107, l108⟩ := t101
   replace hm101 := un2_eq hm101
   obtain ⟨s107, l109, hS125, p110, p111, p112, p113, x105⟩ := hI102
   refine W_seq ?_
   refine W_region ?_
   refine WL_step rfl rfl (Exec.lss rfl x105 p113 ?_)
   refine WL_nil (at_normal ?_)
   refine W_seq ?_
   refine W_true (congrArg Value.bool (decide_eq_true (by omega))) ?_
   refine W_skip (at_normal ?_)
   refine W_seq ?_
   refine W_block ?_
   refine W_seq ?_
   refine W_region ?_
   refine WL_step rfl rfl (Exec.move (v := Value.int .i64 ((i101 : Int))) rfl x105 ?_)
   obtain ⟨row101, q110, hm101⟩ := bind_some hm101
   obtain ⟨h101, e105, e106, _⟩ := ((((hS125).f3).f3).f1).rows_at q110
   obtain ⟨g102, c102, e107⟩ := (((hS125).f3).f3).arr_at e105
   refine WL_step rfl rfl (Exec.index_slice S90 rfl (Eq.trans p112 e107) x105 (idx_some e105).1 (idx_some e105).2.1 ?_)
   refine WL_step rfl rfl (Exec.load_arr (F := encRaw) (((hS125).f3).f3) e107 A91 rfl rfl rfl e105 (Sub.refl _) ?_)
   intro v111 q111
   replace q111 := (encRaw_val.1 q111).1
   subst v111
   refine WL_step rfl rfl (Exec.assign (v := Value.int .i64 ((i101 : Int))) rfl rfl ?_)
   refine WL_step rfl rfl (Exec.assign (v := h101) rfl rfl ?_)
   refine WL_nil (at_normal ?_)
   refine W_seq ?_
   refine W_region ?_
   refine WL_step rfl rfl (Exec.move (v := h101) rfl rfl ?_)
   have hS126 := ((((hS125).f3).f3).f1).rows_split e106 (idx_some q110).2.2
   obtain ⟨l110, q112, hm101⟩ := bind_some hm101
   refine WL_step rfl rfl (Exec.call rfl rfl Tryd.func56 rfl N56 (args_cons rfl (args_cons rfl args_nil)) ((sortPairs_sim q112 hS126 ).mono ?_))
   rintro _ w111 ⟨_, rfl, ⟨s108, l111, hS127, rfl⟩⟩
   refine ⟨_, rfl, ?_⟩
   obtain ⟨l112, q113, hm101⟩ := bind_some hm101
   have hS128 := ((hS127).f2).f2
   have hS129 := (hS128).f2
   have hS130 := (hS129).rows_back e106 (setI_some q113).2.1
   rw [← (setI_some q113).2.2] at hS130
   have hS131 := (hS130).f1
   refine WL_nil (at_normal ?_)
   refine W_seq ?_
   refine W_region ?_
   refine WL_step rfl rfl (Exec.alloc (cs := [Value.pointer none, Value.slice none 0 0]) hS131 Z71 rfl rfl ?_)
   intro b104 w112 hS132
   have hS133 := St.bld_close (.inl rfl) ((St.arr_none (E := encInt .u8) (Te := 5) hS132).perm (.swap _ _ _))
   refine WL_nil (at_normal ?_)
   refine W_seq ?_
   refine W_region ?_
   refine WL_step rfl rfl (Exec.move (v := v103) rfl p110 ?_)
   refine WL_step rfl rfl (Exec.move (v := Value.int .i64 ((i101 : Int))) rfl rfl ?_)
   obtain ⟨x106, q114, hm101⟩ := bind_some hm101
   obtain ⟨g103, c103, e108⟩ := ((hS133).f3).arr_at q114
   refine WL_step rfl rfl (Exec.index_slice S22 rfl e108 rfl (idx_some q114).1 (idx_some q114).2.1 ?_)
   refine WL_step rfl rfl (Exec.load_arr (F := (encInt .i64)) ((hS133).f3) e108 A3 rfl rfl rfl q114 (Sub.refl _) ?_)
   intro v112 q115
   obtain rfl := encInt_val.1 q115
   obtain ⟨y102, q116, hm101⟩ := bind_some hm101
   refine WL_step rfl rfl (Exec.call rfl rfl Tryd.func41 rfl N41 (args_cons rfl args_nil) ((strconv_Itoa_sim q116 hS133  (ht.mono (PHeap.le.trans (PHeap.le.trans l105 l109) l111))).mono ?_))
   rintro _ w113 ⟨_, rfl, ⟨s109, l113, hS134, rfl⟩⟩
   refine ⟨_, rfl, ?_⟩
   obtain ⟨l114, q117, hm101⟩ := bind_some hm101
   refine WL_step rfl rfl (Exec.call rfl rfl Tryd.func40 rfl N40 (args_cons rfl (args_cons rfl args_nil)) ((bld_write_sim q117 hS134).mono ?_))
   rintro _ w114 ⟨_, rfl, rfl, hS135⟩
   refine ⟨_, rfl, ?_⟩
   refine WL_nil (at_normal ?_)
   refine W_seq ?_
   refine W_seq ?_
   refine W_region ?_
   refine WL_step rfl rfl (Exec.move (v := h101) rfl rfl ?_)
   obtain ⟨row102, q118, hm101⟩ := bind_some hm101
   have hS136 := ((((hS135).f2).f2).f1).rows_split e106 (idx_some q118).2.2
   obtain ⟨t102, q119, hm101⟩ := bind_some hm101
   obtain ⟨y103, l115⟩ := t102
   replace hm101 := un2_eq hm101
   refine WL_step rfl rfl (Exec.call rfl rfl Tryd.func60 rfl N60 (args_cons rfl args_nil) ((slices_Compact____2_int__2_int__o_sim q119 hS136 ).mono ?_))
   rintro _ w115 ⟨v113, rfl, ⟨s110, _, l116, hS137, rfl, r100⟩⟩
   refine ⟨_, rfl, ?_⟩
   obtain ⟨l117, q120, hm101⟩ := bind_some hm101
   have hS138 := ((hS137).f2).f2
   have hS139 := (hS138).f2
   have hS140 := (hS139).rows_back e106 (setI_some q120).2.1
   rw [← (setI_some q120).2.2] at hS140
   have hS141 := (hS140).f1
   refine WL_step rfl rfl (Exec.len_sub S91 r100 rfl rfl ?_)
   refine WL_step rfl rfl (Exec.move (v := Value.int .i64 (0)) rfl rfl ?_)
   refine WL_nil (at_normal ?_)
   obtain ⟨u100, q121, hm101⟩ := bind_some hm101
   obtain ⟨l118, hB102, hm101⟩ := bind_some hm101
   refine W_block (W_forS (fun k' s' f' w' => (fun (l118 : (List Int)) => ∃ (s111 : PHeap) , PHeap.le s110 s111 ∧ St w0 s111 (Res.arr (encInt .i64) 3 v103 class100 :: Res.arr encStr 9 v110 l107 :: Res.bld 71 5 b104 l118 :: Res.arr encRaw 91 v105 hs101 :: Res.rows encArr2_int 92 hs101 l117 :: H) w' ∧ f' 1 = v103 ∧ f' 9 = v110 ∧ f' 10 = Value.int .i64 ((i101 : Int)) ∧ f' 12 = Value.pointer (some ⟨b104, 0, none⟩) ∧ f' 48 = v105 ∧ f' 49 = Value.int .i64 ((l101.length : Int)) ∧ f' 50 = Value.int .i64 ((i101 : Int)) ∧ f' 64 = v113 ∧ f' 65 = Value.int .i64 ((y103 : Int)) ∧ f' 66 = Value.int .i64 (k' : Int)) s') hB102 ?_ ?_ ?_)
   ·have hS142 := (hS141).f2
    have hS143 := (hS142).f4
    have hS144 := (hS143).f4
    exact ⟨s110, (PHeap.le_refl _), hS144, p110, p111, rfl, rfl, p112, p113, x105, rfl, rfl, rfl⟩
   ·intro i102 l118 s112 f103 w116 hi102 hI103 hm102
    obtain ⟨s113, l119, hS145, p114, p115, p116, p117, p118, p119, p120, p121, p122, x107⟩ := hI103
    refine W_seq ?_
    refine W_region ?_
    refine WL_step rfl rfl (Exec.lss rfl x107 p122 ?_)
    refine WL_nil (at_normal ?_)
    refine W_seq ?_
    refine W_true (congrArg Value.bool (decide_eq_true (by omega))) ?_
    refine W_skip (at_normal ?_)
    refine W_seq ?_
    refine W_block ?_
    refine W_seq ?_
    refine W_region ?_
    obtain ⟨row103, q122, hm102⟩ := bind_some hm102
    obtain ⟨x108, q123, hm102⟩ := bind_some hm102
    obtain ⟨g104, c104, e109⟩ := (((((hS145).f4).f4).f1).rows_split e106 (idx_some q122).2.2).arr_at (idxV_some q123).2.2
    refine WL_step rfl rfl (Exec.index_sub S91 (Int.le_refl 0) r100 e109 rfl p121 x107 (idxV_some q123).1 (idxV_some q123).2.1 ?_)
    refine WL_step rfl rfl (Exec.load_arr (F := encArr2_int) (((((hS145).f4).f4).f1).rows_split e106 (idx_some q122).2.2) e109 A92 rfl rfl rfl (idxV_some q123).2.2 (Sub.refl _) ?_)
    intro v114 q124
    obtain rfl := encArr2_int_val.1 q124
    refine WL_step rfl rfl (Exec.alloc (cs := [Value.int .i64 (0), Value.int .i64 (0)]) hS145 Z92 rfl rfl ?_)
    intro b105 w117 hS146
    refine WL_step rfl rfl (Exec.store_box (ds := [Value.int .i64 (x108.a0), Value.int .i64 (x108.a1)]) (es := [Value.int .i64 (x108.a0), Value.int .i64 (x108.a1)]) hS146 A92 rfl rfl rfl rfl (one_cons rfl (one_cons rfl one_nil)) (Nat.le_of_ble_eq_true rfl) rfl ?_)
    intro w118 hS147
    refine WL_nil (at_normal ?_)
    refine W_dl (n0 := 10) (.q 0 (.q 1 (.q 5 (.q 6 (.e 2 [5, 6] (.q 3 (.q 4 (.e 7 [3, 4] (.q 8 (.e 9 [] .done)))))))))) hmix (by kernel_rfl) (by kernel_rfl) ?_
    have hS148 := hS147.drew
    refine DL_q rfl rfl (Exec.index_parr Tryd.underlying92 A3 rfl rfl rfl (by decide) rfl ⟨rfl, ?_⟩)
    refine DL_q rfl rfl (Exec.load_box (hS148) A3 rfl rfl rfl ⟨rfl, ?_⟩)
    refine DL_q rfl rfl (Exec.index_parr Tryd.underlying92 A3 rfl rfl rfl (by decide) rfl ⟨rfl, ?_⟩)
    refine DL_q rfl rfl (Exec.load_box (hS148) A3 rfl rfl rfl ⟨rfl, ?_⟩)
    obtain ⟨y104, q125, hm102⟩ := bind_some hm102
    refine DL_e rfl rfl (Exec.call rfl rfl Tryd.func41 rfl N41 (args_cons rfl args_nil) ((strconv_Itoa_sim q125 hS148  (ht.mono (PHeap.le.trans (PHeap.le.trans (PHeap.le.trans (PHeap.le.trans (PHeap.le.trans l105 l109) l111) l113) l116) l119))).mono ?_))
    rintro _ w119 ⟨_, rfl, ⟨s114, l120, hS149, rfl⟩⟩
    refine ⟨_, rfl, ?_⟩
    refine ⟨(ag_cons (ag_r rfl rfl (Exec.index_parr Tryd.underlying92 A3 rfl rfl rfl (by decide) rfl ⟨rfl, rfl⟩)) (ag_cons (ag_r rfl rfl (Exec.load_box (hS149) A3 rfl rfl rfl ⟨rfl, rfl⟩)) ag_nil)), ?_⟩
    obtain ⟨c105, q126, hm102⟩ := bind_some hm102
    refine DL_q rfl rfl (Exec.str_add rfl rfl rfl q126 ⟨rfl, ?_⟩)
    obtain ⟨c106, q127, hm102⟩ := bind_some hm102
    refine DL_q rfl rfl (Exec.str_add rfl rfl rfl q127 ⟨rfl, ?_⟩)
    obtain ⟨y105, q128, hm102⟩ := bind_some hm102
    refine DL_e rfl rfl (Exec.call rfl rfl Tryd.func41 rfl N41 (args_cons rfl args_nil) ((strconv_Itoa_sim q128 hS149  (ht.mono (PHeap.le.trans (PHeap.le.trans (PHeap.le.trans (PHeap.le.trans (PHeap.le.trans (PHeap.le.trans l105 l109) l111) l113) l116) l119) l120))).mono ?_))
    rintro _ w120 ⟨_, rfl, ⟨s115, l121, hS150, rfl⟩⟩
    refine ⟨_, rfl, ?_⟩
    refine ⟨(ag_cons (ag_r rfl rfl (Exec.str_add rfl rfl rfl q126 ⟨rfl, rfl⟩)) (ag_cons (ag_r rfl rfl (Exec.str_add rfl rfl rfl q127 ⟨rfl, rfl⟩)) ag_nil)), ?_⟩
    obtain ⟨c107, q129, hm102⟩ := bind_some hm102
    refine DL_q rfl rfl (Exec.str_add rfl rfl rfl q129 ⟨rfl, ?_⟩)
    obtain ⟨l122, q130, hm102⟩ := bind_some hm102
    have hS151 := (hS150).f3
    refine DL_e rfl rfl (Exec.call rfl rfl Tryd.func40 rfl N40 (args_cons p117 (args_cons rfl args_nil)) ((bld_write_sim q130 hS151).mono ?_))
    rintro _ w121 ⟨_, rfl, rfl, hS152⟩
    refine ⟨_, rfl, ?_⟩
    refine ⟨ag_nil, ?_⟩
    refine DL_done ?_
    refine WL_nil (ib_normal (at_normal ?_))
    refine W_region ?_
    refine WL_step rfl rfl (Exec.add rfl x107 rfl ?_)
    refine WL_step rfl rfl (Exec.move (v := Value.int .i64 (IntKind.i64.wrap ((i102 : Int) + 1))) rfl rfl ?_)
    refine WL_nil (at_normal ?_)
    have e110 := Option.some.inj hm102
    subst s112
    have hS153 := ((hS152).f1).drop
    have hS154 := ((hS153).f4).f4
    have hS155 := (hS154).f2
    have hS156 := (hS155).f4
    have hS157 := (hS156).f4
    exact ⟨s115, (PHeap.le.trans (PHeap.le.trans l119 l120) l121), hS157, p114, p115, p116, p117, p118, p119, p120, p121, p122, (Eq.trans rfl (wrap_up hi102 (by have h := must_some q121; simp at h; simp only [maxLen]; omega)))⟩
   ·intro f104 w122 hI104
    obtain ⟨s116, l123, hS158, p123, p124, p125, p126, p127, p128, p129, p130, p131, x109⟩ := hI104
    refine W_seq ?_
    refine W_region ?_
    refine WL_step rfl rfl (Exec.lss rfl x109 p131 ?_)
    refine WL_nil (at_normal ?_)
    refine W_seq ?_
    refine W_false (congrArg Value.bool (decide_eq_false (by omega))) ?_
    refine W_exit (at_exit (at_exit (ib_here (at_normal ?_))))
    refine W_region ?_
    refine WL_step rfl rfl (Exec.move (v := v110) rfl p124 ?_)
    refine WL_step rfl rfl (Exec.move (v := Value.int .i64 ((i101 : Int))) rfl p125 ?_)
    obtain ⟨q131, q132, hm101⟩ := bind_some hm101
    have hS159 := (hS158).f2
    refine WL_step rfl rfl (Exec.call rfl rfl Tryd.func42 rfl N42 (args_cons p126 args_nil) ((bld_string_sim q132 hS159).mono ?_))
    rintro _ w123 ⟨_, rfl, rfl, hS160⟩
    refine ⟨_, rfl, ?_⟩
    obtain ⟨x110, q133, hm101⟩ := bind_some hm101
    obtain ⟨g105, c108, e111⟩ := ((hS160).f1).arr_at q133
    refine WL_step rfl rfl (Exec.index_slice S54 rfl e111 rfl (idx_some q133).1 (idx_some q133).2.1 ?_)
    obtain ⟨l124, q134, hm101⟩ := bind_some hm101
    have hS161 := (hS160).f1
    refine WL_step rfl rfl (Exec.store_arr hS161 e111 A9 rfl rfl rfl rfl (encStr_val.2 rfl) q134 ?_)
    intro w124 hS162
    refine WL_nil (ib_normal (at_normal ?_))
    refine W_region ?_
    refine WL_step rfl rfl (Exec.add rfl p129 rfl ?_)
    refine WL_step rfl rfl (Exec.move (v := Value.int .i64 (IntKind.i64.wrap ((i101 : Int) + 1))) rfl rfl ?_)
    refine WL_nil (at_normal ?_)
    have e112 := Option.some.inj hm101
    subst s106
    have hS163 := ((hS162).f3).f3
    have hS164 := (hS163).f2
    have hS165 := (hS164).f3
    exact ⟨s116, (PHeap.le.trans (PHeap.le.trans (PHeap.le.trans (PHeap.le.trans l109 l111) l113) l116) l123), hS165, p123, p124, p127, p128, (Eq.trans rfl (wrap_up hi101 (by have h := (((hS120).f4).f4).f1.rows_len; have h2 := (((hS120).f4).f4).arr_le; omega)))⟩
  ·intro f105 w125 hI105
   obtain ⟨l107, l108⟩ := t100
   replace hm := un2_eq hm
   obtain ⟨s117, l125, hS166, p132, p133, p134, p135, x111⟩ := hI105
   refine W_seq ?_
   refine W_region ?_
   refine WL_step rfl rfl (Exec.lss rfl x111 p135 ?_)
   refine WL_nil (at_normal ?_)
   refine W_seq ?_
   refine W_false (congrArg Value.bool (decide_eq_false (by omega))) ?_
   refine W_exit (at_exit (at_exit (ib_here (at_normal ?_))))
   refine W_seq ?_
   refine W_region ?_
   refine WL_step rfl rfl (Exec.move (v := v110) rfl p133 ?_)
   obtain ⟨t103, q135, hm⟩ := bind_some hm
   obtain ⟨y106, y107⟩ := t103
   replace hm := un2_eq hm
   have hS167 := (hS166).f1
   refine WL_step rfl rfl (Exec.call rfl rfl Tryd.func30 rfl N30 (args_cons rfl args_nil) ((shrink_numbered_o_sim q135 hS167 ).mono ?_))
   rintro _ w126 ⟨_, rfl, ⟨s118, v115, l126, hS168, rfl⟩⟩
   refine ⟨_, rfl, ?_⟩
   refine WL_step rfl rfl (Exec.extract (v := v115) rfl rfl rfl ?_)
   refine WL_step rfl rfl (Exec.extract (v := Value.int .i64 (y107)) rfl rfl rfl ?_)
   refine WL_step rfl rfl (Exec.assign (v := v115) rfl rfl ?_)
   refine WL_step rfl rfl (Exec.assign (v := Value.int .i64 (y107)) rfl rfl ?_)
   refine WL_nil (at_normal ?_)
   refine W_ret ?_
   have e113 := Option.some.inj hm
   subst r
   refine ⟨_, ret2 rfl, ?_⟩
   have hS169 := (hS168).drop
   have hS170 := ((((hS169).f3).f3).drop).drop
   have hS171 := (hS170).f1
   exact ⟨s118, v115, (PHeap.le.trans (PHeap.le.trans l105 l125) l126), hS171, (tup2 rfl rfl)⟩

theorem N12 : (Tryd.f12.name == "runtime.NumGoroutine") = false := by kernel_rfl

theorem shrink_Bisimulation_sim {w0 w : World} {s : PHeap} {H : List Res} {x51 : System} {v52 : Value} {v54 : Value} {v56 : Value} {r : (List Int) × (Option Int)} (hm : shrink_Bisimulation_p x51 = some r) (hS : St w0 s (H) w) (a53 : SliceRep (encInt .i64) s v52 x51.Costs) (a55 : SliceRep encEdge s v54 x51.Edges) (a57 : SliceRep encBool s v56 x51.Goals) (ht : TabS Tryd.prog s) :
  Calls Tryd.prog 12 #[Value.agg #[Value.int .i64 (x51.States), Value.int .i64 (x51.Init), v52, v54, v56]] w fun e w' => ∃ v, e = .returned v ∧ ((un2 fun (y100 : (List Int)) (y101 : (Option Int)) => ∃ (s100 : PHeap) (v100 : Value), PHeap.le s s100 ∧ St w0 s100 (Res.arr (encInt .i64) 3 v100 y100 :: H) w' ∧ v = Value.tuple #[v100, errV 34 (y101)]) r) := by
 unfold shrink_Bisimulation_p at hm
 refine calls_of_W Tryd.func12 rfl rfl ?_
 refine W_seq ?_
 refine W_region ?_
 refine WL_step rfl rfl (Exec.box (cs := [Value.int .i64 (x51.States), Value.int .i64 (x51.Init), v52, v54, v56]) hS rfl rfl rfl ?_)
 intro b100 w100 hS100
 refine WL_step rfl rfl (Exec.assign (v := Value.slice none 0 0) rfl rfl ?_)
 refine WL_step rfl rfl (Exec.assign (v := errV 34 (none)) rfl rfl ?_)
 refine WL_nil (at_normal ?_)
 refine W_seq ?_
 refine W_seq ?_
 refine W_region ?_
 refine WL_step rfl rfl (Exec.load_box_agg (ds := [Value.int .i64 (x51.States), Value.int .i64 (x51.Init), v52, v54, v56]) (hS100) A26 rfl rfl rfl ?_)
 obtain ⟨y102, q100, hm⟩ := bind_some hm
 refine WL_step rfl rfl (Exec.call rfl rfl Tryd.func22 rfl N22 (args_cons rfl args_nil) ((transys_Valid_sim q100 hS100 a53 a55 a57).mono ?_))
 rintro _ w101 ⟨_, rfl, ⟨s101, l100, hS101, rfl⟩⟩
 refine ⟨_, rfl, ?_⟩
 refine WL_step rfl rfl (Exec.not rfl rfl ?_)
 refine WL_nil (at_normal ?_)
 rcases ite_some hm with ⟨hc100, hm⟩ | ⟨hc100, hm⟩
 ·refine W_cond_t rfl hc100 ?_
  refine W_seq ?_
  refine W_region ?_
  refine WL_step rfl rfl (Exec.makeInterface C34 rfl rfl ?_)
  refine WL_step rfl rfl (Exec.assign (v := Value.slice none 0 0) rfl rfl ?_)
  refine WL_step rfl rfl (Exec.assign (v := errV 34 (some 2)) rfl rfl ?_)
  refine WL_nil (at_normal ?_)
  refine W_ret (at_ret ?_)
  have e100 := Option.some.inj hm
  subst r
  refine ⟨_, ret2 rfl, ?_⟩
  have hS102 := hS101.nilArr (encInt .i64) 3
  have hS103 := ((hS102).f1).drop
  exact ⟨s101, (Value.slice none 0 0), l100, hS103, (tup2 rfl rfl)⟩
 ·refine W_cond_f rfl hc100 ?_
  replace hc100 := not_true hc100
  refine W_skip (at_normal ?_)
  refine W_seq ?_
  refine W_region ?_
  refine WL_step rfl rfl (Exec.field F26_0 rfl rfl rfl ?_)
  refine WL_step rfl rfl (Exec.load_box (hS101) A3 rfl rfl rfl ?_)
  obtain ⟨l101, q101, hm⟩ := bind_some hm
  refine WL_step rfl rfl (Exec.make (E := encStr) hS101 S54 Z9 rfl rfl rfl rfl q101 ?_)
  intro v101 w102 hS104
  refine WL_step rfl rfl (Exec.assign (v := v101) rfl rfl ?_)
  refine WL_nil (at_normal ?_)
  refine W_seq ?_
  refine W_seq ?_
  refine W_region ?_
  refine WL_step rfl rfl (Exec.field F26_4 rfl rfl rfl ?_)
  refine WL_step rfl rfl (Exec.load_box ((hS104).f1) A24 rfl rfl rfl ?_)
  refine WL_step rfl rfl (Exec.len_rep S24 rfl rfl (a57.mono l100) ?_)
  refine WL_step rfl rfl (Exec.move (v := Value.int .i64 (0)) rfl rfl ?_)
  refine WL_nil (at_normal ?_)
  obtain ⟨l102, hB100, hm⟩ := bind_some hm
  refine W_block (W_forS (fun k' s' f' w' => (fun (l102 : (List ByteArray)) => ∃ (s102 : PHeap) , PHeap.le s101 s102 ∧ St w0 s102 (Res.box b100 26 [Value.int .i64 (x51.States), Value.int .i64 (x51.Init), v52, v54, v56] :: Res.arr encStr 9 v101 l102 :: H) w' ∧ f' 1 = Value.pointer (some ⟨b100, 0, none⟩) ∧ f' 4 = v101 ∧ f' 19 = v56 ∧ f' 20 = Value.int .i64 ((x51.Goals.length : Int)) ∧ f' 21 = Value.int .i64 (k' : Int)) s') hB100 ?_ ?_ ?_)
  ·have hS105 := (hS104).f1
   exact ⟨s101, (PHeap.le_refl _), hS105, rfl, rfl, rfl, rfl, rfl⟩
  ·intro i100 l102 s103 f100 w103 hi100 hI100 hm100
   obtain ⟨s104, l103, hS106, p100, p101, p102, p103, x100⟩ := hI100
   refine W_seq ?_
   refine W_region ?_
   refine WL_step rfl rfl (Exec.lss rfl x100 p103 ?_)
   refine WL_nil (at_normal ?_)
   refine W_seq ?_
   refine W_true (congrArg Value.bool (decide_eq_true (by omega))) ?_
   refine W_skip (at_normal ?_)
   refine W_seq ?_
   refine W_block ?_
   refine W_seq ?_
   refine W_region ?_
   refine WL_step rfl rfl (Exec.move (v := Value.int .i64 ((i100 : Int))) rfl x100 ?_)
   obtain ⟨x101, q102, hm100⟩ := bind_some hm100
   refine WL_step rfl rfl (Exec.index_rep S24 rfl p102 x100 (a57.mono (PHeap.le.trans l100 l103)) q102 ?_)
   intro b101 o100 a100
   refine WL_step rfl rfl (Exec.load_at (E := encBool) hS106 A4 rfl rfl rfl a100 ?_)
   intro v102 q103
   obtain rfl := encBool_val.1 q103
   refine WL_step rfl rfl (Exec.assign (v := Value.int .i64 ((i100 : Int))) rfl rfl ?_)
   refine WL_step rfl rfl (Exec.assign (v := Value.bool (x101)) rfl rfl ?_)
   refine WL_nil (at_normal ?_)
   refine W_region ?_
   refine WL_step rfl rfl (Exec.move (v := v101) rfl p101 ?_)
   refine WL_step rfl rfl (Exec.move (v := Value.int .i64 ((i100 : Int))) rfl rfl ?_)
   refine WL_step rfl rfl (Exec.move (v := Value.bool (x101)) rfl rfl ?_)
   refine WL_step rfl rfl (Exec.call rfl rfl Tryd.func29 rfl N29 (args_cons rfl args_nil) ((strconv_FormatBool_sim (strconv_FormatBool_tot x101) hS106 ).mono ?_))
   rintro _ w104 ⟨_, rfl, ⟨s105, l104, hS107, rfl⟩⟩
   refine ⟨_, rfl, ?_⟩
   obtain ⟨x102, q104, hm100⟩ := bind_some hm100
   obtain ⟨g100, c100, e101⟩ := ((hS107).f1).arr_at q104
   refine WL_step rfl rfl (Exec.index_slice S54 rfl e101 rfl (idx_some q104).1 (idx_some q104).2.1 ?_)
   obtain ⟨l105, q105, hm100⟩ := bind_some hm100
   have hS108 := (hS107).f1
   refine WL_step rfl rfl (Exec.store_arr hS108 e101 A9 rfl rfl rfl rfl (encStr_val.2 rfl) q105 ?_)
   intro w105 hS109
   refine WL_nil (ib_normal (at_normal ?_))
   refine W_region ?_
   refine WL_step rfl rfl (Exec.add rfl x100 rfl ?_)
   refine WL_step rfl rfl (Exec.move (v := Value.int .i64 (IntKind.i64.wrap ((i100 : Int) + 1))) rfl rfl ?_)
   refine WL_nil (at_normal ?_)
   have e102 := Option.some.inj hm100
   subst s103
   have hS110 := (hS109).f1
   exact ⟨s105, (PHeap.le.trans l103 l104), hS110, p100, p101, p102, p103, (Eq.trans rfl (wrap_up hi100 (SliceRep.le (a57.mono l100))))⟩
  ·intro f101 w106 hI101
   obtain ⟨s106, l106, hS111, p104, p105, p106, p107, x103⟩ := hI101
   refine W_seq ?_
   refine W_region ?_
   refine WL_step rfl rfl (Exec.lss rfl x103 p107 ?_)
   refine WL_nil (at_normal ?_)
   refine W_seq ?_
   refine W_false (congrArg Value.bool (decide_eq_false (by omega))) ?_
   refine W_exit (at_exit (at_exit (ib_here (at_normal ?_))))
   refine W_seq ?_
   refine W_region ?_
   refine WL_step rfl rfl (Exec.move (v := v101) rfl p105 ?_)
   obtain ⟨t100, q106, hm⟩ := bind_some hm
   obtain ⟨y103, y104⟩ := t100
   replace hm := un2_eq hm
   have hS112 := (hS111).f1
   refine WL_step rfl rfl (Exec.call rfl rfl Tryd.func30 rfl N30 (args_cons rfl args_nil) ((shrink_numbered_o_sim q106 hS112 ).mono ?_))
   rintro _ w107 ⟨_, rfl, ⟨s107, v103, l107, hS113, rfl⟩⟩
   refine ⟨_, rfl, ?_⟩
   refine WL_step rfl rfl (Exec.move (v := Value.tuple #[v103, Value.int .i64 (y104)]) rfl rfl ?_)
   refine WL_step rfl rfl (Exec.extract (v := v103) rfl rfl rfl ?_)
   refine WL_step rfl rfl (Exec.extract (v := Value.int .i64 (y104)) rfl rfl rfl ?_)
   refine WL_step rfl rfl (Exec.assign (v := v103) rfl rfl ?_)
   refine WL_step rfl rfl (Exec.assign (v := Value.int .i64 (y104)) rfl rfl ?_)
   refine WL_nil (at_normal ?_)
   obtain ⟨c101, hB101, hr100, hn100, hb100⟩ := ctl_some hm
   refine W_mid (M := fun f' w' => ∃ s', (c101 = .next s' ∨ c101 = .brk s') ∧ (un2 fun (class100 : (List Int)) (n100 : Int) => ∃ (s108 : PHeap) (v104 : Value), PHeap.le s107 s108 ∧ St w0 s108 (Res.box b100 26 [Value.int .i64 (x51.States), Value.int .i64 (x51.Init), v52, v54, v56] :: Res.arr (encInt .i64) 3 v104 class100 :: H) w' ∧ f' 1 = Value.pointer (some ⟨b100, 0, none⟩) ∧ f' 7 = v104 ∧ f' 8 = Value.int .i64 (n100)) s') ?_ ?_
   ·refine W_block (W_while (fun s' f' w' => (un2 fun (class101 : (List Int)) (n101 : Int) => ∃ (s109 : PHeap) (v105 : Value), PHeap.le s107 s109 ∧ St w0 s109 (Res.box b100 26 [Value.int .i64 (x51.States), Value.int .i64 (x51.Init), v52, v54, v56] :: Res.arr (encInt .i64) 3 v105 class101 :: H) w' ∧ f' 1 = Value.pointer (some ⟨b100, 0, none⟩) ∧ f' 7 = v105 ∧ f' 8 = Value.int .i64 (n101)) s') hB101 ?_ ?_)
    ·have hS114 := (hS113).drop
     have hS115 := (hS114).f1
     exact ⟨s107, v103, (PHeap.le_refl _), hS115, p104, rfl, rfl⟩
    ·intro t101 c102 f102 w108 hI102 hm101 hres100
     obtain ⟨class101, n101⟩ := t101
     replace hm101 := un2_eq hm101
     obtain ⟨s110, v105, l108, hS116, p108, p109, p110⟩ := hI102
     refine W_block ?_
     refine W_seq ?_
     refine W_region ?_
     refine WL_step rfl rfl (Exec.load_box_agg (ds := [Value.int .i64 (x51.States), Value.int .i64 (x51.Init), v52, v54, v56]) (hS116) A26 rfl p108 rfl ?_)
     refine WL_step rfl rfl (Exec.move (v := v105) rfl p109 ?_)
     obtain ⟨t102, q107, hm101⟩ := bind_some hm101
     obtain ⟨y105, y106⟩ := t102
     replace hm101 := un2_eq hm101
     have hS117 := (hS116).f1
     refine WL_step rfl rfl (Exec.call rfl rfl Tryd.func31 rfl N31 (args_cons rfl (args_cons rfl args_nil)) ((shrink_refine_o_sim q107 hS117 (a53.mono (PHeap.le.trans (PHeap.le.trans (PHeap.le.trans l100 l106) l107) l108)) (a55.mono (PHeap.le.trans (PHeap.le.trans (PHeap.le.trans l100 l106) l107) l108)) (a57.mono (PHeap.le.trans (PHeap.le.trans (PHeap.le.trans l100 l106) l107) l108)) (ht.mono (PHeap.le.trans (PHeap.le.trans (PHeap.le.trans l100 l106) l107) l108))).mono ?_))
     rintro _ w109 ⟨_, rfl, ⟨s111, v106, l109, hS118, rfl⟩⟩
     refine ⟨_, rfl, ?_⟩
     refine WL_step rfl rfl (Exec.move (v := Value.tuple #[v106, Value.int .i64 (y106)]) rfl rfl ?_)
     refine WL_step rfl rfl (Exec.extract (v := v106) rfl rfl rfl ?_)
     refine WL_step rfl rfl (Exec.extract (v := Value.int .i64 (y106)) rfl rfl rfl ?_)
     refine WL_step rfl rfl (Exec.assign (v := v106) rfl rfl ?_)
     refine WL_step rfl rfl (Exec.assign (v := Value.int .i64 (y106)) rfl rfl ?_)
     refine WL_nil (at_normal ?_)
     refine W_seq ?_
     refine W_region ?_
     refine WL_step rfl rfl (Exec.move (v := v106) rfl rfl ?_)
     refine WL_step rfl rfl (Exec.assign (v := v106) rfl rfl ?_)
     refine WL_nil (at_normal ?_)
     refine W_seq ?_
     refine W_seq ?_
     refine W_region ?_
     refine WL_step rfl rfl (Exec.move (v := Value.int .i64 (y106)) rfl rfl ?_)
     refine WL_step rfl rfl (Exec.move (v := Value.int .i64 (n101)) rfl p110 ?_)
     refine WL_step rfl rfl (Exec.eql rfl rfl rfl ?_)
     refine WL_nil (at_normal ?_)
     rcases ite_some hm101 with ⟨hc101, hm101⟩ | ⟨hc101, hm101⟩
     ·refine W_cond_t rfl hc101 ?_
      refine W_seq ?_
      refine W_region ?_
      refine WL_step rfl rfl (Exec.move (v := v106) rfl rfl ?_)
      refine WL_step rfl rfl (Exec.assign (v := v106) rfl rfl ?_)
      refine WL_step rfl rfl (Exec.assign (v := errV 34 (none)) rfl rfl ?_)
      refine WL_nil (at_normal ?_)
      refine W_ret (at_ret (ib_ret (at_ret (ib_ret (at_ret ?_)))))
      have e103 := Option.some.inj hm101
      subst c102
      have hq100 := hr100 _ (hres100 (by intro _ h; cases h))
      have e104 := Option.some.inj hq100
      subst r
      refine ⟨_, ret2 rfl, ?_⟩
      have hS119 := (hS118).drop
      have hS120 := ((hS119).f1).drop
      exact ⟨s111, v106, (PHeap.le.trans (PHeap.le.trans (PHeap.le.trans (PHeap.le.trans l100 l106) l107) l108) l109), hS120, (tup2 rfl rfl)⟩
     ·refine W_cond_f rfl hc101 ?_
      replace hc101 := not_true hc101
      refine W_skip (at_normal ?_)
      refine W_region ?_
      refine WL_step rfl rfl (Exec.move (v := Value.int .i64 (y106)) rfl rfl ?_)
      refine WL_step rfl rfl (Exec.assign (v := Value.int .i64 (y106)) rfl rfl ?_)
      refine WL_nil (ib_normal (at_normal ?_))
      have e105 := Option.some.inj hm101
      subst c102
      have hS121 := (hS118).drop
      have hS122 := (hS121).f1
      refine ⟨_, rfl, ?_⟩; exact ⟨s111, v106, (PHeap.le.trans l108 l109), hS122, p108, rfl, rfl⟩
   ·rintro f103 w110 ⟨t103, hc102, hM100⟩
    have hm := hc102.elim (hn100 _) (hb100 _)
    clear hc102
    obtain ⟨class100, n100⟩ := t103
    replace hm := un2_eq hm
    obtain ⟨s112, v104, l110, hS123, p111, p112, p113⟩ := hM100
    refine ?_
    cases hm

theorem N33 : (Tryd.f33.name == "runtime.NumGoroutine") = false := by kernel_rfl

theorem slices_Max___int_int__o_sim {w0 w : World} {s : PHeap} {H : List Res} {x100 : (List Int)} {v100 : Value} {r : Int} (hm : slices_Max___int_int__o_p x100 = some r) (hS : St w0 s (Res.arr (encInt .i64) 3 v100 x100 :: H) w)  :
  Calls Tryd.prog 33 #[v100] w fun e w' => ∃ v, e = .returned v ∧ ((fun (y100 : Int) => ∃ (s100 : PHeap) , PHeap.le s s100 ∧ St w0 s100 (Res.arr (encInt .i64) 3 v100 x100 :: H) w' ∧ v = Value.int .i64 (y100)) r) := by
 unfold slices_Max___int_int__o_p at hm
 refine calls_of_W Tryd.func33 rfl rfl ?_
 refine W_seq ?_
 refine W_region ?_
 refine WL_step rfl rfl (Exec.assign (v := Value.int .i64 (0)) rfl rfl ?_)
 refine WL_nil (at_normal ?_)
 refine W_seq ?_
 refine W_seq ?_
 refine W_region ?_
 refine WL_step rfl rfl (Exec.move (v := v100) rfl rfl ?_)
 refine WL_step rfl rfl (Exec.len_arr (hS) S22 rfl rfl ?_)
 refine WL_step rfl rfl (Exec.lss rfl rfl rfl ?_)
 refine WL_nil (at_normal ?_)
 obtain ⟨t100, ht100, hm⟩ := bind_some hm
 refine W_mid (M := fun f' w' => (fun (_ : Unit) => ∃ (s101 : PHeap) , PHeap.le s s101 ∧ St w0 s101 (Res.arr (encInt .i64) 3 v100 x100 :: H) w' ∧ f' 0 = v100) t100) ?_ ?_
 ·rcases ite_some ht100 with ⟨hc100, ht100⟩ | ⟨hc100, ht100⟩
  ·refine W_cond_t rfl hc100 ?_
   cases ht100
  ·refine W_cond_f rfl hc100 ?_
   replace hc100 := not_true hc100
   refine W_skip (at_normal ?_)
   have e100 := Option.some.inj ht100
   subst t100
   exact ⟨s, (PHeap.le_refl _), hS, rfl⟩
 ·intro f100 w100 hM100
  obtain ⟨s102, l100, hS100, p100⟩ := hM100
  refine (at_normal ?_)
  refine W_seq ?_
  refine W_region ?_
  refine WL_step rfl rfl (Exec.move (v := v100) rfl p100 ?_)
  obtain ⟨x101, q100, hm⟩ := bind_some hm
  obtain ⟨g100, c100, e101⟩ := (hS100).arr_at q100
  refine WL_step rfl rfl (Exec.index_slice S22 rfl e101 rfl (idx_some q100).1 (idx_some q100).2.1 ?_)
  refine WL_step rfl rfl (Exec.load_arr (F := (encInt .i64)) (hS100) e101 A3 rfl rfl rfl q100 (Sub.refl _) ?_)
  intro v101 q101
  obtain rfl := encInt_val.1 q101
  refine WL_step rfl rfl (Exec.assign (v := Value.int .i64 (x101)) rfl rfl ?_)
  refine WL_nil (at_normal ?_)
  refine W_seq ?_
  refine W_seq ?_
  refine W_region ?_
  refine WL_step rfl rfl (Exec.assign (v := Value.int .i64 (1)) rfl rfl ?_)
  refine WL_nil (at_normal ?_)
  obtain ⟨c101, hB100, hr100, hn100, hb100⟩ := ctl_some hm
  refine W_mid (M := fun f' w' => ∃ s', (c101 = .next s' ∨ c101 = .brk s') ∧ (un2 fun (m100 : Int) (i100 : Int) => ∃ (s103 : PHeap) , PHeap.le s102 s103 ∧ St w0 s103 (Res.arr (encInt .i64) 3 v100 x100 :: H) w' ∧ f' 0 = v100 ∧ f' 3 = Value.int .i64 (m100) ∧ f' 4 = Value.int .i64 (i100)) s') ?_ ?_
  ·refine W_block (W_while (fun s' f' w' => (un2 fun (m101 : Int) (i101 : Int) => ∃ (s104 : PHeap) , PHeap.le s102 s104 ∧ St w0 s104 (Res.arr (encInt .i64) 3 v100 x100 :: H) w' ∧ f' 0 = v100 ∧ f' 3 = Value.int .i64 (m101) ∧ f' 4 = Value.int .i64 (i101)) s') hB100 ?_ ?_)
   ·exact ⟨s102, (PHeap.le_refl _), hS100, p100, rfl, rfl⟩
   ·intro t101 c102 f101 w101 hI100 hm100 hres100
    obtain ⟨m101, i101⟩ := t101
    replace hm100 := un2_eq hm100
    obtain ⟨s105, l101, hS101, p101, p102, p103⟩ := hI100
    refine W_seq ?_
    refine W_seq ?_
    refine W_region ?_
    refine WL_step rfl rfl (Exec.move (v := Value.int .i64 (i101)) rfl p103 ?_)
    refine WL_step rfl rfl (Exec.move (v := v100) rfl p101 ?_)
    refine WL_step rfl rfl (Exec.len_arr (hS101) S22 rfl rfl ?_)
    refine WL_step rfl rfl (Exec.lss rfl rfl rfl ?_)
    refine WL_nil (at_normal ?_)
    rcases ite_some hm100 with ⟨hc101, hm100⟩ | ⟨hc101, hm100⟩
    ·refine W_cond_t rfl hc101 ?_
     refine W_skip (at_normal ?_)
     refine W_seq ?_
     refine W_block ?_
     refine W_region ?_
     refine WL_step rfl rfl (Exec.move (v := Value.int .i64 (m101)) rfl p102 ?_)
     refine WL_step rfl rfl (Exec.move (v := v100) rfl p101 ?_)
     refine WL_step rfl rfl (Exec.move (v := Value.int .i64 (i101)) rfl p103 ?_)
     obtain ⟨x102, q102, hm100⟩ := bind_some hm100
     obtain ⟨g101, c103, e102⟩ := (hS101).arr_at q102
     refine WL_step rfl rfl (Exec.index_slice S22 rfl e102 rfl (idx_some q102).1 (idx_some q102).2.1 ?_)
     refine WL_step rfl rfl (Exec.load_arr (F := (encInt .i64)) (hS101) e102 A3 rfl rfl rfl q102 (Sub.refl _) ?_)
     intro v102 q103
     obtain rfl := encInt_val.1 q103
     refine WL_step rfl rfl (Exec.max2 rfl rfl rfl ?_)
     refine WL_step rfl rfl (Exec.assign (v := Value.int .i64 (max m101 x102)) rfl rfl ?_)
     refine WL_nil (ib_normal (at_normal ?_))
     refine W_region ?_
     refine WL_step rfl rfl (Exec.move (v := Value.int .i64 (i101)) rfl p103 ?_)
     refine WL_step rfl rfl (Exec.add rfl rfl rfl ?_)
     refine WL_step rfl rfl (Exec.assign (v := Value.int .i64 (IntKind.i64.wrap (i101 + 1))) rfl rfl ?_)
     refine WL_nil (at_normal ?_)
     have e103 := Option.some.inj hm100
     subst c102
     refine ⟨_, rfl, ?_⟩; exact ⟨s105, l101, hS101, p101, rfl, rfl⟩
    ·refine W_cond_f rfl hc101 ?_
     replace hc101 := not_true hc101
     refine W_exit (at_exit (at_exit (ib_here (at_normal ?_))))
     have e104 := Option.some.inj hm100
     subst c102
     refine ⟨_, .inr (hres100 (by intro _ h; cases h)), ?_⟩; exact ⟨s105, l101, hS101, p101, p102, p103⟩
  ·rintro f102 w102 ⟨t102, hc102, hM101⟩
   have hm := hc102.elim (hn100 _) (hb100 _)
   clear hc102
   obtain ⟨m100, i100⟩ := t102
   replace hm := un2_eq hm
   obtain ⟨s106, l102, hS102, p104, p105, p106⟩ := hM101
   refine (at_normal ?_)
   refine W_seq ?_
   refine W_region ?_
   refine WL_step rfl rfl (Exec.move (v := Value.int .i64 (m100)) rfl p105 ?_)
   refine WL_step rfl rfl (Exec.assign (v := Value.int .i64 (m100)) rfl rfl ?_)
   refine WL_nil (at_normal ?_)
   refine W_ret ?_
   have e105 := Option.some.inj hm
   subst r
   refine ⟨_, ret1 rfl, ?_⟩
   exact ⟨s106, (PHeap.le.trans l100 l102), hS102, rfl⟩

theorem Z4 : tyZero Tryd.prog 4 = some (Value.bool false) := by kernel_rfl

theorem N34 : (Tryd.f34.name == "runtime.NumGoroutine") = false := by kernel_rfl

theorem shrink_pair_o_sim {w0 w : World} {s : PHeap} {H : List Res} {goals100 : (List Bool)} {v100 : Value} {r : Int × Int} (hm : shrink_pair_o_p goals100 = some r) (hS : St w0 s (Res.arr encBool 4 v100 goals100 :: H) w)  :
  Calls Tryd.prog 34 #[v100] w fun e w' => ∃ v, e = .returned v ∧ ((un2 fun (y100 : Int) (y101 : Int) => ∃ (s100 : PHeap) , PHeap.le s s100 ∧ St w0 s100 (Res.arr encBool 4 v100 goals100 :: H) w' ∧ v = Value.tuple #[Value.int .i64 (y100), Value.int .i64 (y101)]) r) := by
 unfold shrink_pair_o_p at hm
 refine calls_of_W Tryd.func34 rfl rfl ?_
 refine W_seq ?_
 refine W_region ?_
 refine WL_step rfl rfl (Exec.assign (v := Value.int .i64 (0)) rfl rfl ?_)
 refine WL_step rfl rfl (Exec.assign (v := Value.int .i64 (0)) rfl rfl ?_)
 refine WL_nil (at_normal ?_)
 refine W_seq ?_
 refine W_seq ?_
 refine W_region ?_
 refine WL_step rfl rfl (Exec.move (v := v100) rfl rfl ?_)
 refine WL_step rfl rfl (Exec.len_arr (hS) S24 rfl rfl ?_)
 refine WL_step rfl rfl (Exec.sub rfl rfl rfl ?_)
 refine WL_step rfl rfl (Exec.assign (v := Value.int .i64 (IntKind.i64.wrap ((goals100.length : Int) - 1))) rfl rfl ?_)
 refine WL_nil (at_normal ?_)
 obtain ⟨c100, hB100, hr100, hn100, hb100⟩ := ctl_some hm
 refine W_mid (M := fun f' w' => ∃ s', (c100 = .next s' ∨ c100 = .brk s') ∧ (fun (k100 : Int) => ∃ (s101 : PHeap) , PHeap.le s s101 ∧ St w0 s101 (Res.arr encBool 4 v100 goals100 :: H) w' ∧ f' 0 = v100 ∧ f' 4 = Value.int .i64 (k100)) s') ?_ ?_
 ·refine W_block (W_while (fun s' f' w' => (fun (k101 : Int) => ∃ (s102 : PHeap) , PHeap.le s s102 ∧ St w0 s102 (Res.arr encBool 4 v100 goals100 :: H) w' ∧ f' 0 = v100 ∧ f' 4 = Value.int .i64 (k101)) s') hB100 ?_ ?_)
  ·exact ⟨s, (PHeap.le_refl _), hS, rfl, rfl⟩
  ·intro k101 c101 f100 w100 hI100 hm100 hres100
   obtain ⟨s103, l100, hS100, p100, p101⟩ := hI100
   refine W_seq ?_
   refine W_seq ?_
   refine W_region ?_
   refine WL_step rfl rfl (Exec.move (v := Value.int .i64 (k101)) rfl p101 ?_)
   refine WL_step rfl rfl (Exec.gtr rfl rfl rfl ?_)
   refine WL_nil (at_normal ?_)
   rcases ite_some hm100 with ⟨hc100, hm100⟩ | ⟨hc100, hm100⟩
   ·refine W_cond_t rfl hc100 ?_
    refine W_skip (at_normal ?_)
    refine W_seq ?_
    refine W_block ?_
    refine W_seq ?_
    refine W_region ?_
    refine WL_step rfl rfl (Exec.move (v := Value.int .i64 (k101)) rfl p101 ?_)
    refine WL_step rfl rfl (Exec.sub rfl rfl rfl ?_)
    refine WL_step rfl rfl (Exec.assign (v := Value.int .i64 (IntKind.i64.wrap (k101 - 1))) rfl rfl ?_)
    refine WL_nil (at_normal ?_)
    obtain ⟨c102, hB101, hr101, hn101, hb101⟩ := ctl_some hm100
    refine W_mid (M := fun f' w' => ∃ s', (c102 = .next s' ∨ c102 = .brk s') ∧ (fun (i100 : Int) => ∃ (s104 : PHeap) , PHeap.le s103 s104 ∧ St w0 s104 (Res.arr encBool 4 v100 goals100 :: H) w' ∧ f' 0 = v100 ∧ f' 4 = Value.int .i64 (k101) ∧ f' 5 = Value.int .i64 (i100)) s') ?_ ?_
    ·refine W_block (W_while (fun s' f' w' => (fun (i101 : Int) => ∃ (s105 : PHeap) , PHeap.le s103 s105 ∧ St w0 s105 (Res.arr encBool 4 v100 goals100 :: H) w' ∧ f' 0 = v100 ∧ f' 4 = Value.int .i64 (k101) ∧ f' 5 = Value.int .i64 (i101)) s') hB101 ?_ ?_)
     ·exact ⟨s103, (PHeap.le_refl _), hS100, p100, p101, rfl⟩
     ·intro i101 c103 f101 w101 hI101 hm101 hres101
      obtain ⟨s106, l101, hS101, p102, p103, p104⟩ := hI101
      refine W_seq ?_
      refine W_seq ?_
      refine W_region ?_
      refine WL_step rfl rfl (Exec.move (v := Value.int .i64 (i101)) rfl p104 ?_)
      refine WL_step rfl rfl (Exec.geq rfl rfl rfl ?_)
      refine WL_nil (at_normal ?_)
      rcases ite_some hm101 with ⟨hc101, hm101⟩ | ⟨hc101, hm101⟩
      ·refine W_cond_t rfl hc101 ?_
       refine W_skip (at_normal ?_)
       refine W_seq ?_
       refine W_block ?_
       refine W_seq ?_
       refine W_dl (n0 := 9) (.q 0 (.q 1 (.q 2 (.q 3 (.q 4 (.q 5 (.q 6 (.q 7 (.q 8 .done))))))))) hmix (by kernel_rfl) (by kernel_rfl) ?_
       have hS102 := hS101.drew
       refine DL_q rfl rfl (Exec.move (v := v100) rfl p102 ⟨rfl, ?_⟩)
       refine DL_q rfl rfl (Exec.move (v := Value.int .i64 (i101)) rfl p104 ⟨rfl, ?_⟩)
       obtain ⟨x100, q100, hm101⟩ := bind_some hm101
       obtain ⟨g100, c104, e100⟩ := (hS102).arr_at q100
       refine DL_q rfl rfl (Exec.index_slice S24 rfl e100 rfl (idx_some q100).1 (idx_some q100).2.1 ⟨rfl, ?_⟩)
       refine DL_q rfl rfl (Exec.load_arr (F := encBool) (hS102) e100 A4 rfl rfl rfl q100 (Sub.refl _) ?_)
       intro v101 q101
       obtain rfl := encBool_val.1 q101
       refine ⟨rfl, ?_⟩
       refine DL_q rfl rfl (Exec.move (v := v100) rfl p102 ⟨rfl, ?_⟩)
       refine DL_q rfl rfl (Exec.move (v := Value.int .i64 (k101)) rfl p103 ⟨rfl, ?_⟩)
       obtain ⟨x101, q102, hm101⟩ := bind_some hm101
       obtain ⟨g101, c105, e101⟩ := (hS102).arr_at q102
       refine DL_q rfl rfl (Exec.index_slice S24 rfl e101 rfl (idx_some q102).1 (idx_some q102).2.1 ⟨rfl, ?_⟩)
       refine DL_q rfl rfl (Exec.load_arr (F := encBool) (hS102) e101 A4 rfl rfl rfl q102 (Sub.refl _) ?_)
       intro v102 q103
       obtain rfl := encBool_val.1 q103
       refine ⟨rfl, ?_⟩
       refine DL_q rfl rfl (Exec.bool_eql Tryd.underlying4 rfl rfl rfl ⟨rfl, ?_⟩)
       refine DL_done ?_
       refine WL_nil (at_normal ?_)
       rcases ite_some hm101 with ⟨hc102, hm101⟩ | ⟨hc102, hm101⟩
       ·refine W_cond_t rfl hc102 ?_
        refine W_seq ?_
        refine W_region ?_
        refine WL_step rfl rfl (Exec.move (v := Value.int .i64 (i101)) rfl p104 ?_)
        refine WL_step rfl rfl (Exec.move (v := Value.int .i64 (k101)) rfl p103 ?_)
        refine WL_step rfl rfl (Exec.assign (v := Value.int .i64 (i101)) rfl rfl ?_)
        refine WL_step rfl rfl (Exec.assign (v := Value.int .i64 (k101)) rfl rfl ?_)
        refine WL_nil (at_normal ?_)
        refine W_ret (ib_ret (at_ret (at_ret (ib_ret (at_ret (ib_ret (at_ret (at_ret (ib_ret (at_ret (at_ret ?_)))))))))))
        have e102 := Option.some.inj hm101
        subst c103
        have hq100 := hr101 _ (hres101 (by intro _ h; cases h))
        have e103 := Option.some.inj hq100
        subst c101
        have hq101 := hr100 _ (hres100 (by intro _ h; cases h))
        have e104 := Option.some.inj hq101
        subst r
        refine ⟨_, ret2 rfl, ?_⟩
        exact ⟨s106, (PHeap.le.trans l100 l101), hS102, (tup2 rfl rfl)⟩
       ·refine W_cond_f rfl hc102 ?_
        replace hc102 := not_true hc102
        refine W_skip (ib_normal (at_normal ?_))
        refine W_region ?_
        refine WL_step rfl rfl (Exec.move (v := Value.int .i64 (i101)) rfl p104 ?_)
        refine WL_step rfl rfl (Exec.sub rfl rfl rfl ?_)
        refine WL_step rfl rfl (Exec.assign (v := Value.int .i64 (IntKind.i64.wrap (i101 - 1))) rfl rfl ?_)
        refine WL_nil (at_normal ?_)
        have e105 := Option.some.inj hm101
        subst c103
        refine ⟨_, rfl, ?_⟩; exact ⟨s106, l101, hS102, p102, p103, rfl⟩
      ·refine W_cond_f rfl hc101 ?_
       replace hc101 := not_true hc101
       refine W_exit (at_exit (at_exit (ib_here (at_normal ?_))))
       have e106 := Option.some.inj hm101
       subst c103
       refine ⟨_, .inr (hres101 (by intro _ h; cases h)), ?_⟩; exact ⟨s106, l101, hS101, p102, p103, p104⟩
    ·rintro f102 w102 ⟨i100, hc103, hM100⟩
     have hm100 := hc103.elim (hn101 _) (hb101 _)
     clear hc103
     obtain ⟨s107, l102, hS103, p105, p106, p107⟩ := hM100
     refine (ib_normal (at_normal ?_))
     refine W_region ?_
     refine WL_step rfl rfl (Exec.move (v := Value.int .i64 (k101)) rfl p106 ?_)
     refine WL_step rfl rfl (Exec.sub rfl rfl rfl ?_)
     refine WL_step rfl rfl (Exec.assign (v := Value.int .i64 (IntKind.i64.wrap (k101 - 1))) rfl rfl ?_)
     refine WL_nil (at_normal ?_)
     have e107 := Option.some.inj hm100
     subst c101
     refine ⟨_, rfl, ?_⟩; exact ⟨s107, (PHeap.le.trans l100 l102), hS103, p105, rfl⟩
   ·refine W_cond_f rfl hc100 ?_
    replace hc100 := not_true hc100
    refine W_exit (at_exit (at_exit (ib_here (at_normal ?_))))
    have e108 := Option.some.inj hm100
    subst c101
    refine ⟨_, .inr (hres100 (by intro _ h; cases h)), ?_⟩; exact ⟨s103, l100, hS100, p100, p101⟩
 ·rintro f103 w103 ⟨k100, hc104, hM101⟩
  have hm := hc104.elim (hn100 _) (hb100 _)
  clear hc104
  obtain ⟨s108, l103, hS104, p108, p109⟩ := hM101
  refine (at_normal ?_)
  refine W_seq ?_
  refine W_region ?_
  refine WL_step rfl rfl (Exec.assign (v := Value.int .i64 (0)) rfl rfl ?_)
  refine WL_step rfl rfl (Exec.assign (v := Value.int .i64 (1)) rfl rfl ?_)
  refine WL_nil (at_normal ?_)
  refine W_ret ?_
  have e109 := Option.some.inj hm
  subst r
  refine ⟨_, ret2 rfl, ?_⟩
  exact ⟨s108, l103, hS104, (tup2 rfl rfl)⟩

theorem N35 : (Tryd.f35.name == "runtime.NumGoroutine") = false := by kernel_rfl

end Go.Pw
