/-
  The walks (printed by my generator).
-/
import Derived.Test.YtagooehmocpcjaaDoorEx5
import Derived.Test.YtagooehmocpcjaaDoorExX
set_option maxRecDepth 100000
set_option maxHeartbeats 4000000
set_option linter.unusedVariables false
namespace Go.Pw
open Go.Proofs
theorem IS53 : intStruct Tryd.prog 53 3 = true := by kernel_rfl

theorem N64 : (Tryd.f64.name == "runtime.NumGoroutine") = false := by kernel_rfl

theorem api_Edge__o_sim {w0 w : World} {s : PHeap} {H : List Res} {s_100 : (List Edge)} {v100 : Value} {r : Nat × (List Edge)} (hm : api_Edge__o_p s_100 = some r) (hS : St w0 s (Res.arr encEdge 53 v100 s_100 :: H) w)  :
  Calls Tryd.prog 64 #[v100] w fun e w' => ∃ v, e = .returned v ∧ ((un2 fun (y100 : Nat) (l100 : (List Edge)) => ∃ (s100 : PHeap) (v101 : Value), PHeap.le s s100 ∧ St w0 s100 (Res.arr encEdge 53 v100 l100 :: H) w' ∧ v = v101 ∧ SubOf 3 v100 v101 0 y100) r) := by
 unfold api_Edge__o_p at hm
 refine calls_of_W Tryd.func64 rfl rfl ?_
 refine W_seq ?_
 refine W_region ?_
 refine WL_step rfl rfl (Exec.assign (v := Value.slice none 0 0) rfl rfl ?_)
 refine WL_nil (at_normal ?_)
 refine W_seq ?_
 refine W_seq ?_
 refine W_region ?_
 refine WL_step rfl rfl (Exec.move (v := v100) rfl rfl ?_)
 refine WL_step rfl rfl (Exec.len_arr (hS) S23 rfl rfl ?_)
 refine WL_step rfl rfl (Exec.lss rfl rfl rfl ?_)
 refine WL_nil (at_normal ?_)
 rcases ite_some hm with ⟨hc100, hm⟩ | ⟨hc100, hm⟩
 ·refine W_cond_t rfl hc100 ?_
  refine W_seq ?_
  refine W_region ?_
  refine WL_step rfl rfl (Exec.move (v := v100) rfl rfl ?_)
  refine WL_step rfl rfl (Exec.assign (v := v100) rfl rfl ?_)
  refine WL_nil (at_normal ?_)
  refine W_ret (at_ret ?_)
  have e100 := Option.some.inj hm
  subst r
  refine ⟨_, ret1 rfl, ?_⟩
  exact ⟨s, v100, (PHeap.le_refl _), hS, rfl, (Or.inl ⟨rfl, rfl, (hS).arr_shape⟩)⟩
 ·refine W_cond_f rfl hc100 ?_
  replace hc100 := not_true hc100
  refine W_skip (at_normal ?_)
  refine W_seq ?_
  refine W_seq ?_
  refine W_region ?_
  refine WL_step rfl rfl (Exec.assign (v := Value.int .i64 (1)) rfl rfl ?_)
  refine WL_nil (at_normal ?_)
  obtain ⟨c100, hB100, hr100, hn100, hb100⟩ := ctl_some hm
  refine W_mid (M := fun f' w' => ∃ s', (c100 = .next s' ∨ c100 = .brk s') ∧ (fun (k100 : Int) => ∃ (s101 : PHeap) , PHeap.le s s101 ∧ St w0 s101 (Res.arr encEdge 53 v100 s_100 :: H) w' ∧ f' 0 = v100 ∧ f' 3 = Value.int .i64 (k100)) s') ?_ ?_
  ·refine W_block (W_while (fun s' f' w' => (fun (k101 : Int) => ∃ (s102 : PHeap) , PHeap.le s s102 ∧ St w0 s102 (Res.arr encEdge 53 v100 s_100 :: H) w' ∧ f' 0 = v100 ∧ f' 3 = Value.int .i64 (k101)) s') hB100 ?_ ?_)
   ·exact ⟨s, (PHeap.le_refl _), hS, rfl, rfl⟩
   ·intro k101 c101 f100 w100 hI100 hm100 hres100
    obtain ⟨s103, l101, hS100, p100, p101⟩ := hI100
    refine W_seq ?_
    refine W_seq ?_
    refine W_region ?_
    refine WL_step rfl rfl (Exec.move (v := Value.int .i64 (k101)) rfl p101 ?_)
    refine WL_step rfl rfl (Exec.move (v := v100) rfl p100 ?_)
    refine WL_step rfl rfl (Exec.len_arr (hS100) S23 rfl rfl ?_)
    refine WL_step rfl rfl (Exec.lss rfl rfl rfl ?_)
    refine WL_nil (at_normal ?_)
    rcases ite_some hm100 with ⟨hc101, hm100⟩ | ⟨hc101, hm100⟩
    ·refine W_cond_t rfl hc101 ?_
     refine W_skip (at_normal ?_)
     refine W_seq ?_
     refine W_block ?_
     refine W_seq ?_
     refine W_dl (n0 := 10) (.q 0 (.q 1 (.q 2 (.q 3 (.q 4 (.q 5 (.q 6 (.q 7 (.q 8 (.q 9 .done)))))))))) hmix (by kernel_rfl) (by kernel_rfl) ?_
     have hS101 := hS100.drew
     refine DL_q rfl rfl (Exec.move (v := v100) rfl p100 ⟨rfl, ?_⟩)
     refine DL_q rfl rfl (Exec.move (v := Value.int .i64 (k101)) rfl p101 ⟨rfl, ?_⟩)
     obtain ⟨x100, q100, hm100⟩ := bind_some hm100
     obtain ⟨g100, c102, e101⟩ := (hS101).arr_at q100
     refine DL_q rfl rfl (Exec.index_slice S23 rfl e101 rfl (idx_some q100).1 (idx_some q100).2.1 ⟨rfl, ?_⟩)
     refine DL_q rfl rfl (Exec.load_arr (F := encEdge) (hS101) e101 A53 rfl rfl rfl q100 (Sub.refl _) ?_)
     intro v102 q101
     obtain rfl := encEdge_val.1 q101
     refine ⟨rfl, ?_⟩
     refine DL_q rfl rfl (Exec.move (v := v100) rfl p100 ⟨rfl, ?_⟩)
     refine DL_q rfl rfl (Exec.move (v := Value.int .i64 (k101)) rfl p101 ⟨rfl, ?_⟩)
     refine DL_q rfl rfl (Exec.sub rfl rfl rfl ⟨rfl, ?_⟩)
     obtain ⟨x101, q102, hm100⟩ := bind_some hm100
     obtain ⟨g101, c103, e102⟩ := (hS101).arr_at q102
     refine DL_q rfl rfl (Exec.index_slice S23 rfl e102 rfl (idx_some q102).1 (idx_some q102).2.1 ⟨rfl, ?_⟩)
     refine DL_q rfl rfl (Exec.load_arr (F := encEdge) (hS101) e102 A53 rfl rfl rfl q102 (Sub.refl _) ?_)
     intro v103 q103
     obtain rfl := encEdge_val.1 q103
     refine ⟨rfl, ?_⟩
     refine DL_q rfl rfl (Exec.ints_eql (xs := [x100.From, x100.Label, x100.To]) (ys := [x101.From, x101.Label, x101.To]) IS53 rfl rfl rfl rfl rfl rfl rfl ⟨rfl, ?_⟩)
     refine DL_done ?_
     refine WL_nil (at_normal ?_)
     rcases ite_some hm100 with ⟨hc102, hm100⟩ | ⟨hc102, hm100⟩
     ·refine W_cond_t rfl hc102 ?_
      refine W_seq ?_
      refine W_region ?_
      refine WL_step rfl rfl (Exec.move (v := v100) rfl p100 ?_)
      refine WL_step rfl rfl (Exec.move (v := Value.int .i64 (k101)) rfl p101 ?_)
      obtain ⟨n100, q104, hm100⟩ := bind_some hm100
      refine WL_step rfl rfl (Exec.sub_from (hS101) S23 rfl rfl rfl q104 ?_)
      intro v104 h100
      refine WL_step rfl rfl (Exec.assign (v := v104) rfl rfl ?_)
      refine WL_nil (at_normal ?_)
      refine W_seq ?_
      refine W_seq ?_
      refine W_region ?_
      refine WL_step rfl rfl (Exec.assign (v := Value.int .i64 (1)) rfl rfl ?_)
      refine WL_nil (at_normal ?_)
      obtain ⟨c104, hB101, hr101, hn101, hb101⟩ := ctl_some hm100
      refine W_mid (M := fun f' w' => ∃ s', (c104 = .next s' ∨ c104 = .brk s') ∧ (un3 fun (k102 : Int) (k103 : Int) (l102 : (List Edge)) => ∃ (s104 : PHeap) , PHeap.le s103 s104 ∧ St w0 s104 (Res.arr encEdge 53 v100 l102 :: H) w' ∧ f' 0 = v100 ∧ f' 3 = Value.int .i64 (k102) ∧ f' 4 = v104 ∧ f' 5 = Value.int .i64 (k103)) s') ?_ ?_
      ·refine W_block (W_while (fun s' f' w' => (un3 fun (k104 : Int) (k105 : Int) (l103 : (List Edge)) => ∃ (s105 : PHeap) , PHeap.le s103 s105 ∧ St w0 s105 (Res.arr encEdge 53 v100 l103 :: H) w' ∧ f' 0 = v100 ∧ f' 3 = Value.int .i64 (k104) ∧ f' 4 = v104 ∧ f' 5 = Value.int .i64 (k105)) s') hB101 ?_ ?_)
       ·exact ⟨s103, (PHeap.le_refl _), hS101, p100, p101, rfl, rfl⟩
       ·intro t100 c105 f101 w101 hI101 hm101 hres101
        obtain ⟨k104, k105, l103⟩ := t100
        replace hm101 := un3_eq hm101
        obtain ⟨s106, l104, hS102, p102, p103, p104, p105⟩ := hI101
        refine W_seq ?_
        refine W_seq ?_
        refine W_region ?_
        refine WL_step rfl rfl (Exec.move (v := Value.int .i64 (k105)) rfl p105 ?_)
        refine WL_step rfl rfl (Exec.move (v := v104) rfl p104 ?_)
        refine WL_step rfl rfl (Exec.len_sub S23 h100 rfl rfl ?_)
        refine WL_step rfl rfl (Exec.lss rfl rfl rfl ?_)
        refine WL_nil (at_normal ?_)
        rcases ite_some hm101 with ⟨hc103, hm101⟩ | ⟨hc103, hm101⟩
        ·refine W_cond_t rfl hc103 ?_
         refine W_skip (at_normal ?_)
         refine W_seq ?_
         refine W_block ?_
         refine W_seq ?_
         refine W_dl (n0 := 10) (.q 0 (.q 1 (.q 2 (.q 3 (.q 4 (.q 5 (.q 6 (.q 7 (.q 8 (.q 9 .done)))))))))) hmix (by kernel_rfl) (by kernel_rfl) ?_
         have hS103 := hS102.drew
         refine DL_q rfl rfl (Exec.move (v := v104) rfl p104 ⟨rfl, ?_⟩)
         refine DL_q rfl rfl (Exec.move (v := Value.int .i64 (k105)) rfl p105 ⟨rfl, ?_⟩)
         obtain ⟨x102, q105, hm101⟩ := bind_some hm101
         obtain ⟨g102, c106, e103⟩ := (hS103).arr_at (idxV_some q105).2.2
         refine DL_q rfl rfl (Exec.index_sub S23 (view_some q104).1 h100 e103 rfl rfl rfl (idxV_some q105).1 (idxV_some q105).2.1 ⟨rfl, ?_⟩)
         refine DL_q rfl rfl (Exec.load_arr (F := encEdge) (hS103) e103 A53 rfl rfl rfl (idxV_some q105).2.2 (Sub.refl _) ?_)
         intro v105 q106
         obtain rfl := encEdge_val.1 q106
         refine ⟨rfl, ?_⟩
         refine DL_q rfl rfl (Exec.move (v := v104) rfl p104 ⟨rfl, ?_⟩)
         refine DL_q rfl rfl (Exec.move (v := Value.int .i64 (k105)) rfl p105 ⟨rfl, ?_⟩)
         refine DL_q rfl rfl (Exec.sub rfl rfl rfl ⟨rfl, ?_⟩)
         obtain ⟨x103, q107, hm101⟩ := bind_some hm101
         obtain ⟨g103, c107, e104⟩ := (hS103).arr_at (idxV_some q107).2.2
         refine DL_q rfl rfl (Exec.index_sub S23 (view_some q104).1 h100 e104 rfl rfl rfl (idxV_some q107).1 (idxV_some q107).2.1 ⟨rfl, ?_⟩)
         refine DL_q rfl rfl (Exec.load_arr (F := encEdge) (hS103) e104 A53 rfl rfl rfl (idxV_some q107).2.2 (Sub.refl _) ?_)
         intro v106 q108
         obtain rfl := encEdge_val.1 q108
         refine ⟨rfl, ?_⟩
         refine DL_q rfl rfl (Exec.ints_neq (xs := [x102.From, x102.Label, x102.To]) (ys := [x103.From, x103.Label, x103.To]) IS53 rfl rfl rfl rfl rfl rfl rfl ⟨rfl, ?_⟩)
         refine DL_done ?_
         refine WL_nil (at_normal ?_)
         obtain ⟨t101, ht100, hm101⟩ := bind_some hm101
         refine W_mid (M := fun f' w' => (un2 fun (k106 : Int) (l105 : (List Edge)) => ∃ (s107 : PHeap) , PHeap.le s106 s107 ∧ St w0 s107 (Res.arr encEdge 53 v100 l105 :: H) w' ∧ f' 0 = v100 ∧ f' 3 = Value.int .i64 (k106) ∧ f' 4 = v104 ∧ f' 5 = Value.int .i64 (k105)) t101) ?_ ?_
         ·rcases ite_some ht100 with ⟨hc104, ht100⟩ | ⟨hc104, ht100⟩
          ·refine W_cond_t rfl hc104 ?_
           refine W_seq ?_
           refine W_region ?_
           refine WL_step rfl rfl (Exec.move (v := v100) rfl p102 ?_)
           refine WL_step rfl rfl (Exec.move (v := Value.int .i64 (k104)) rfl p103 ?_)
           refine WL_step rfl rfl (Exec.move (v := v104) rfl p104 ?_)
           refine WL_step rfl rfl (Exec.move (v := Value.int .i64 (k105)) rfl p105 ?_)
           obtain ⟨x104, q109, ht100⟩ := bind_some ht100
           obtain ⟨g104, c108, e105⟩ := (hS103).arr_at (idxV_some q109).2.2
           refine WL_step rfl rfl (Exec.index_sub S23 (view_some q104).1 h100 e105 rfl rfl rfl (idxV_some q109).1 (idxV_some q109).2.1 ?_)
           refine WL_step rfl rfl (Exec.load_arr (F := encEdge) (hS103) e105 A53 rfl rfl rfl (idxV_some q109).2.2 (Sub.refl _) ?_)
           intro v107 q110
           obtain rfl := encEdge_val.1 q110
           obtain ⟨x105, q111, ht100⟩ := bind_some ht100
           obtain ⟨g105, c109, e106⟩ := (hS103).arr_at q111
           refine WL_step rfl rfl (Exec.index_slice S23 rfl e106 rfl (idx_some q111).1 (idx_some q111).2.1 ?_)
           obtain ⟨l106, q112, ht100⟩ := bind_some ht100
           refine WL_step rfl rfl (Exec.store_arr hS103 e106 A53 rfl rfl rfl rfl (encEdge_val.2 rfl) q112 ?_)
           intro w102 hS104
           refine WL_nil (at_normal ?_)
           refine W_region ?_
           refine WL_step rfl rfl (Exec.move (v := Value.int .i64 (k104)) rfl p103 ?_)
           refine WL_step rfl rfl (Exec.add rfl rfl rfl ?_)
           refine WL_step rfl rfl (Exec.assign (v := Value.int .i64 (IntKind.i64.wrap (k104 + 1))) rfl rfl ?_)
           refine WL_nil (at_normal ?_)
           have e107 := Option.some.inj ht100
           subst t101
           exact ⟨s106, (PHeap.le_refl _), hS104, p102, rfl, p104, p105⟩
          ·refine W_cond_f rfl hc104 ?_
           replace hc104 := not_true hc104
           refine W_skip (at_normal ?_)
           have e108 := Option.some.inj ht100
           subst t101
           exact ⟨s106, (PHeap.le_refl _), hS103, p102, p103, p104, p105⟩
         ·intro f102 w103 hM100
          obtain ⟨k106, l105⟩ := t101
          replace hm101 := un2_eq hm101
          obtain ⟨s108, l107, hS105, p106, p107, p108, p109⟩ := hM100
          refine (ib_normal (at_normal ?_))
          refine W_region ?_
          refine WL_step rfl rfl (Exec.move (v := Value.int .i64 (k105)) rfl p109 ?_)
          refine WL_step rfl rfl (Exec.add rfl rfl rfl ?_)
          refine WL_step rfl rfl (Exec.assign (v := Value.int .i64 (IntKind.i64.wrap (k105 + 1))) rfl rfl ?_)
          refine WL_nil (at_normal ?_)
          have e109 := Option.some.inj hm101
          subst c105
          refine ⟨_, rfl, ?_⟩; exact ⟨s108, (PHeap.le.trans l104 l107), hS105, p106, p107, p108, rfl⟩
        ·refine W_cond_f rfl hc103 ?_
         replace hc103 := not_true hc103
         refine W_exit (at_exit (at_exit (ib_here (at_normal ?_))))
         have e110 := Option.some.inj hm101
         subst c105
         refine ⟨_, .inr (hres101 (by intro _ h; cases h)), ?_⟩; exact ⟨s106, l104, hS102, p102, p103, p104, p105⟩
      ·rintro f103 w104 ⟨t102, hc105, hM101⟩
       have hm100 := hc105.elim (hn101 _) (hb101 _)
       clear hc105
       obtain ⟨k102, k103, l102⟩ := t102
       replace hm100 := un3_eq hm100
       obtain ⟨s109, l108, hS106, p110, p111, p112, p113⟩ := hM101
       refine (at_normal ?_)
       refine W_seq ?_
       refine W_region ?_
       refine WL_step rfl rfl (Exec.move (v := v100) rfl p110 ?_)
       refine WL_step rfl rfl (Exec.move (v := Value.int .i64 (k102)) rfl p111 ?_)
       obtain ⟨n101, q113, hm100⟩ := bind_some hm100
       refine WL_step rfl rfl (Exec.sub_from (hS106) S23 rfl rfl rfl q113 ?_)
       intro v108 h101
       refine WL_step rfl rfl (Exec.clear_sub (E := encEdge) (y := (⟨0, 0, 0⟩ : Edge)) hS106 h101 (view_some q113).2.2.2.2.2 S23 Z53 ⟨[Value.int .i64 (0)], [Value.int .i64 (0), Value.int .i64 (0)], rfl, rfl, ⟨[Value.int .i64 (0)], [Value.int .i64 (0)], rfl, rfl, rfl⟩⟩ rfl rfl ?_)
       intro w105 hS107
       refine WL_nil (at_normal ?_)
       refine W_seq ?_
       refine W_region ?_
       refine WL_step rfl rfl (Exec.move (v := v100) rfl p110 ?_)
       refine WL_step rfl rfl (Exec.move (v := Value.int .i64 (k102)) rfl p111 ?_)
       obtain ⟨n102, q114, hm100⟩ := bind_some hm100
       refine WL_step rfl rfl (Exec.sub_to (hS107) S23 rfl rfl rfl q114 ?_)
       intro v109 h102
       refine WL_step rfl rfl (Exec.assign (v := v109) rfl rfl ?_)
       refine WL_nil (at_normal ?_)
       refine W_ret (ib_ret (at_ret (at_ret (ib_ret (at_ret (at_ret ?_))))))
       have e111 := Option.some.inj hm100
       subst c101
       have hq100 := hr100 _ (hres100 (by intro _ h; cases h))
       have e112 := Option.some.inj hq100
       subst r
       refine ⟨_, ret1 rfl, ?_⟩
       exact ⟨s109, v109, (PHeap.le.trans l101 l108), hS107, rfl, h102⟩
     ·refine W_cond_f rfl hc102 ?_
      replace hc102 := not_true hc102
      refine W_skip (ib_normal (at_normal ?_))
      refine W_region ?_
      refine WL_step rfl rfl (Exec.move (v := Value.int .i64 (k101)) rfl p101 ?_)
      refine WL_step rfl rfl (Exec.add rfl rfl rfl ?_)
      refine WL_step rfl rfl (Exec.assign (v := Value.int .i64 (IntKind.i64.wrap (k101 + 1))) rfl rfl ?_)
      refine WL_nil (at_normal ?_)
      have e113 := Option.some.inj hm100
      subst c101
      refine ⟨_, rfl, ?_⟩; exact ⟨s103, l101, hS101, p100, rfl⟩
    ·refine W_cond_f rfl hc101 ?_
     replace hc101 := not_true hc101
     refine W_exit (at_exit (at_exit (ib_here (at_normal ?_))))
     have e114 := Option.some.inj hm100
     subst c101
     refine ⟨_, .inr (hres100 (by intro _ h; cases h)), ?_⟩; exact ⟨s103, l101, hS100, p100, p101⟩
  ·rintro f104 w106 ⟨k100, hc106, hM102⟩
   have hm := hc106.elim (hn100 _) (hb100 _)
   clear hc106
   obtain ⟨s110, l109, hS108, p114, p115⟩ := hM102
   refine (at_normal ?_)
   refine W_seq ?_
   refine W_region ?_
   refine WL_step rfl rfl (Exec.move (v := v100) rfl p114 ?_)
   refine WL_step rfl rfl (Exec.assign (v := v100) rfl rfl ?_)
   refine WL_nil (at_normal ?_)
   refine W_ret ?_
   have e115 := Option.some.inj hm
   subst r
   refine ⟨_, ret1 rfl, ?_⟩
   exact ⟨s110, v100, l109, hS108, rfl, (Or.inl ⟨rfl, rfl, (hS108).arr_shape⟩)⟩

theorem N48 : (Tryd.f48.name == "runtime.NumGoroutine") = false := by kernel_rfl

theorem shrink_order_o_sim {w0 w : World} {s : PHeap} {H : List Res} {l100 : (List Edge)} {v100 : Value} {r : (List Edge)} (hm : shrink_order_o_p l100 = some r) (hS : St w0 s (Res.arr encEdge 53 v100 l100 :: H) w)  :
  Calls Tryd.prog 48 #[v100] w fun e w' => ∃ v, e = .returned v ∧ ((fun (l101 : (List Edge)) => ∃ (s100 : PHeap) (v101 : Value), PHeap.le s s100 ∧ St w0 s100 (Res.arr encEdge 53 v101 l101 :: H) w' ∧ v = v101) r) := by
 unfold shrink_order_o_p at hm
 refine calls_of_W Tryd.func48 rfl rfl ?_
 refine W_seq ?_
 refine W_region ?_
 refine WL_step rfl rfl (Exec.assign (v := Value.slice none 0 0) rfl rfl ?_)
 refine WL_nil (at_normal ?_)
 refine W_seq ?_
 refine W_region ?_
 refine WL_step rfl rfl (Exec.move (v := v100) rfl rfl ?_)
 obtain ⟨l102, q100, hm⟩ := bind_some hm
 refine WL_step rfl rfl (Exec.call rfl rfl Tryd.func54 rfl N54 (args_cons rfl (args_cons rfl args_nil)) ((sortEdges_sim q100 hS ).mono ?_))
 rintro _ w100 ⟨_, rfl, ⟨s101, l103, hS100, rfl⟩⟩
 refine ⟨_, rfl, ?_⟩
 refine WL_nil (at_normal ?_)
 refine W_seq ?_
 refine W_region ?_
 refine WL_step rfl rfl (Exec.move (v := v100) rfl rfl ?_)
 obtain ⟨t100, q101, hm⟩ := bind_some hm
 obtain ⟨y100, l104⟩ := t100
 replace hm := un2_eq hm
 refine WL_step rfl rfl (Exec.call rfl rfl Tryd.func64 rfl N64 (args_cons rfl args_nil) ((api_Edge__o_sim q101 hS100 ).mono ?_))
 rintro _ w101 ⟨v102, rfl, ⟨s102, _, l105, hS101, rfl, r100⟩⟩
 refine ⟨_, rfl, ?_⟩
 obtain ⟨u100, q102, hm⟩ := bind_some hm
 have hS102 := (hS101).arr_head r100 (by simpa using must_some q102)
 refine WL_step rfl rfl (Exec.assign (v := v102) rfl rfl ?_)
 refine WL_nil (at_normal ?_)
 refine W_ret ?_
 have e100 := Option.some.inj hm
 subst r
 refine ⟨_, ret1 rfl, ?_⟩
 exact ⟨s102, v102, (PHeap.le.trans l103 l105), hS102, rfl⟩

theorem N27 : (Tryd.f27.name == "runtime.NumGoroutine") = false := by kernel_rfl

theorem shrink_Relabel_sim {w0 w : World} {s : PHeap} {H : List Res} {x100 : System} {class100 : (List Int)} {v100 : Value} {v101 : Value} {v102 : Value} {v103 : Value} {r : (Option Int) × System} (hm : shrink_Relabel_p x100 class100 = some r) (hS : St w0 s (H) w) (a100 : SliceRep (encInt .i64) s v100 x100.Costs) (a101 : SliceRep encEdge s v101 x100.Edges) (a102 : SliceRep encBool s v102 x100.Goals) (a103 : SliceRep (encInt .i64) s v103 class100) :
  Calls Tryd.prog 27 #[Value.agg #[Value.int .i64 (x100.States), Value.int .i64 (x100.Init), v100, v101, v102], v103] w fun e w' => ∃ v, e = .returned v ∧ ((un2 fun (y100 : (Option Int)) (y101 : System) => ∃ (s100 : PHeap) (v104 : Value) (v105 : Value) (v106 : Value), PHeap.le s s100 ∧ St w0 s100 (H) w' ∧ v = Value.tuple #[Value.agg #[Value.int .i64 (y101.States), Value.int .i64 (y101.Init), v104, v105, v106], errV 34 (y100)] ∧ SliceRep (encInt .i64) s100 v104 y101.Costs ∧ SliceRep encEdge s100 v105 y101.Edges ∧ SliceRep encBool s100 v106 y101.Goals) r) := by
 unfold shrink_Relabel_p at hm
 refine calls_of_W Tryd.func27 rfl rfl ?_
 refine W_seq ?_
 refine W_region ?_
 refine WL_step rfl rfl (Exec.box (cs := [Value.int .i64 (x100.States), Value.int .i64 (x100.Init), v100, v101, v102]) hS rfl rfl rfl ?_)
 intro b100 w100 hS100
 refine WL_step rfl rfl (Exec.alloc (cs := [Value.int .i64 (0), Value.int .i64 (0), Value.slice none 0 0, Value.slice none 0 0, Value.slice none 0 0]) hS100 Z26 rfl rfl ?_)
 intro b101 w101 hS101
 refine WL_step rfl rfl (Exec.assign (v := errV 34 (none)) rfl rfl ?_)
 refine WL_nil (at_normal ?_)
 refine W_seq ?_
 refine W_region ?_
 refine WL_step rfl rfl (Exec.move (v := v103) rfl rfl ?_)
 refine WL_step rfl rfl (Exec.field F26_2 rfl rfl rfl ?_)
 refine WL_step rfl rfl (Exec.load_box ((hS101).f1) A22 rfl rfl rfl ?_)
 refine WL_step rfl rfl (Exec.len_rep S22 rfl rfl a100 ?_)
 obtain ⟨t100, q100, hm⟩ := bind_some hm
 obtain ⟨y102, y103⟩ := t100
 replace hm := un2_eq hm
 refine WL_step rfl rfl (Exec.call rfl rfl Tryd.func46 rfl N46 (args_cons rfl (args_cons rfl args_nil)) ((shrink_classes_sim q100 hS101 a103).mono ?_))
 rintro _ w102 ⟨_, rfl, ⟨s101, l100, hS102, rfl⟩⟩
 refine ⟨_, rfl, ?_⟩
 refine WL_step rfl rfl (Exec.move (v := Value.tuple #[Value.int .i64 (y102), Value.bool (y103)]) rfl rfl ?_)
 refine WL_step rfl rfl (Exec.extract (v := Value.int .i64 (y102)) rfl rfl rfl ?_)
 refine WL_step rfl rfl (Exec.extract (v := Value.bool (y103)) rfl rfl rfl ?_)
 refine WL_step rfl rfl (Exec.assign (v := Value.int .i64 (y102)) rfl rfl ?_)
 refine WL_step rfl rfl (Exec.assign (v := Value.bool (y103)) rfl rfl ?_)
 refine WL_nil (at_normal ?_)
 refine W_seq ?_
 refine W_seq ?_
 obtain ⟨z100, ht100, hm⟩ := bind_some hm
 refine W_mid (M := fun f' w' => (fun (z100 : Bool) => ∃ (s102 : PHeap) , PHeap.le s101 s102 ∧ St w0 s102 (Res.box b100 26 [Value.int .i64 (x100.States), Value.int .i64 (x100.Init), v100, v101, v102] :: Res.box b101 26 [Value.int .i64 (0), Value.int .i64 (0), Value.slice none 0 0, Value.slice none 0 0, Value.slice none 0 0] :: H) w' ∧ f' 1 = v103 ∧ f' 2 = Value.pointer (some ⟨b100, 0, none⟩) ∧ f' 4 = Value.pointer (some ⟨b101, 0, none⟩) ∧ f' 6 = Value.int .i64 (y102) ∧ f' 29 = Value.bool (z100)) z100) ?_ ?_
 ·refine W_region ?_
  refine WL_step rfl rfl (Exec.load_box_agg (ds := [Value.int .i64 (x100.States), Value.int .i64 (x100.Init), v100, v101, v102]) ((hS102).f1) A26 rfl rfl rfl ?_)
  obtain ⟨y104, q101, ht100⟩ := bind_some ht100
  refine WL_step rfl rfl (Exec.call rfl rfl Tryd.func22 rfl N22 (args_cons rfl args_nil) ((transys_Valid_sim q101 hS102 (a100.mono l100) (a101.mono l100) (a102.mono l100)).mono ?_))
  rintro _ w103 ⟨_, rfl, ⟨s103, l101, hS103, rfl⟩⟩
  refine ⟨_, rfl, ?_⟩
  refine WL_step rfl rfl (Exec.not rfl rfl ?_)
  refine WL_step rfl rfl (Exec.move (v := Value.bool (!y104)) rfl rfl ?_)
  rcases ite_some ht100 with ⟨hc100, ht100⟩ | ⟨hc100, ht100⟩
  ·refine WL_pass rfl (yield_of rfl (congrArg Value.bool hc100)) rfl rfl ?_
   refine WL_pass rfl (yield_of rfl (congrArg Value.bool hc100)) rfl rfl ?_
   refine WL_step rfl rfl (Exec.pick_t (v := Value.bool (true)) rfl (congrArg Value.bool hc100) rfl ?_)
   refine WL_nil (at_normal ?_)
   have e100 := Option.some.inj ht100
   subst z100
   have hS104 := (hS103).f1
   exact ⟨s103, l101, hS104, rfl, rfl, rfl, rfl, rfl⟩
  ·replace hc100 := not_true hc100
   refine WL_run rfl (yield_of rfl (congrArg Value.bool hc100)) rfl (Exec.move (v := Value.bool (y103)) rfl rfl ?_)
   refine WL_run rfl (yield_of rfl (congrArg Value.bool hc100)) rfl (Exec.not rfl rfl ?_)
   refine WL_step rfl rfl (Exec.pick_f (v := Value.bool (!y103)) rfl (congrArg Value.bool hc100) rfl ?_)
   refine WL_nil (at_normal ?_)
   have e101 := Option.some.inj ht100
   subst z100
   have hS105 := (hS103).f1
   exact ⟨s103, l101, hS105, rfl, rfl, rfl, rfl, rfl⟩
 ·intro f100 w104 hM100
  obtain ⟨s104, l102, hS106, p100, p101, p102, p103, p104⟩ := hM100
  refine (at_normal ?_)
  rcases ite_some hm with ⟨hc101, hm⟩ | ⟨hc101, hm⟩
  ·refine W_cond_t p104 hc101 ?_
   refine W_seq ?_
   refine W_region ?_
   refine WL_step rfl rfl (Exec.build rfl parts_nil (v := Value.agg #[Value.int .i64 (0), Value.int .i64 (0), Value.slice none 0 0, Value.slice none 0 0, Value.slice none 0 0]) (fun _ => by kernel_rfl) ?_)
   refine WL_step rfl rfl (Exec.makeInterface C34 rfl rfl ?_)
   have hS107 := (hS106).f1
   refine WL_step rfl rfl (Exec.store_box (ds := [Value.int .i64 (0), Value.int .i64 (0), Value.slice none 0 0, Value.slice none 0 0, Value.slice none 0 0]) (es := [Value.int .i64 (0), Value.int .i64 (0), Value.slice none 0 0, Value.slice none 0 0, Value.slice none 0 0]) hS107 A26 rfl p102 rfl rfl (one_cons rfl (one_cons rfl (one_cons rfl (one_cons rfl (one_cons rfl one_nil))))) (Nat.le_of_ble_eq_true rfl) rfl ?_)
   intro w105 hS108
   refine WL_step rfl rfl (Exec.assign (v := errV 34 (some 2)) rfl rfl ?_)
   refine WL_nil (at_normal ?_)
   refine W_ret (at_ret ?_)
   have e102 := Option.some.inj hm
   subst r
   refine ⟨_, retG2 rfl ⟨_, _, p102, cellRes (hS108) A26⟩ rfl, ?_⟩
   have hS109 := (hS108).drop
   have hS110 := (hS109).drop
   exact ⟨s104, (Value.slice none 0 0), (Value.slice none 0 0), (Value.slice none 0 0), (PHeap.le.trans l100 l102), hS110, (tup2 rfl rfl), (SliceRep.nil _ _), (SliceRep.nil _ _), (SliceRep.nil _ _)⟩
  ·refine W_cond_f p104 hc101 ?_
   replace hc101 := not_true hc101
   refine W_skip (at_normal ?_)
   refine W_seq ?_
   refine W_region ?_
   refine WL_step rfl rfl (Exec.move (v := Value.int .i64 (y102)) rfl p103 ?_)
   obtain ⟨l103, q102, hm⟩ := bind_some hm
   refine WL_step rfl rfl (Exec.make (E := (encInt .i64)) hS106 S22 Z3 rfl rfl rfl rfl q102 ?_)
   intro v107 w106 hS111
   refine WL_step rfl rfl (Exec.assign (v := v107) rfl rfl ?_)
   refine WL_nil (at_normal ?_)
   refine W_seq ?_
   refine W_seq ?_
   refine W_region ?_
   refine WL_step rfl rfl (Exec.move (v := v103) rfl p100 ?_)
   refine WL_step rfl rfl (Exec.len_rep S22 rfl rfl (a103.mono (PHeap.le.trans l100 l102)) ?_)
   refine WL_step rfl rfl (Exec.sub rfl rfl rfl ?_)
   refine WL_step rfl rfl (Exec.assign (v := Value.int .i64 (IntKind.i64.wrap ((class100.length : Int) - 1))) rfl rfl ?_)
   refine WL_nil (at_normal ?_)
   obtain ⟨c100, hB100, hr100, hn100, hb100⟩ := ctl_some hm
   refine W_mid (M := fun f' w' => ∃ s', (c100 = .next s' ∨ c100 = .brk s') ∧ (un2 fun (l104 : Int) (l105 : (List Int)) => ∃ (s105 : PHeap) , PHeap.le s104 s105 ∧ St w0 s105 (Res.box b100 26 [Value.int .i64 (x100.States), Value.int .i64 (x100.Init), v100, v101, v102] :: Res.box b101 26 [Value.int .i64 (0), Value.int .i64 (0), Value.slice none 0 0, Value.slice none 0 0, Value.slice none 0 0] :: Res.arr (encInt .i64) 3 v107 l105 :: H) w' ∧ f' 1 = v103 ∧ f' 2 = Value.pointer (some ⟨b100, 0, none⟩) ∧ f' 4 = Value.pointer (some ⟨b101, 0, none⟩) ∧ f' 8 = v107 ∧ f' 9 = Value.int .i64 (l104)) s') ?_ ?_
   ·refine W_block (W_while (fun s' f' w' => (un2 fun (l106 : Int) (l107 : (List Int)) => ∃ (s106 : PHeap) , PHeap.le s104 s106 ∧ St w0 s106 (Res.box b100 26 [Value.int .i64 (x100.States), Value.int .i64 (x100.Init), v100, v101, v102] :: Res.box b101 26 [Value.int .i64 (0), Value.int .i64 (0), Value.slice none 0 0, Value.slice none 0 0, Value.slice none 0 0] :: Res.arr (encInt .i64) 3 v107 l107 :: H) w' ∧ f' 1 = v103 ∧ f' 2 = Value.pointer (some ⟨b100, 0, none⟩) ∧ f' 4 = Value.pointer (some ⟨b101, 0, none⟩) ∧ f' 8 = v107 ∧ f' 9 = Value.int .i64 (l106)) s') hB100 ?_ ?_)
    ·have hS112 := (hS111).f2
     have hS113 := (hS112).f2
     exact ⟨s104, (PHeap.le_refl _), hS113, p100, p101, p102, rfl, rfl⟩
    ·intro t101 c101 f101 w107 hI100 hm100 hres100
     obtain ⟨l106, l107⟩ := t101
     replace hm100 := un2_eq hm100
     obtain ⟨s107, l108, hS114, p105, p106, p107, p108, p109⟩ := hI100
     refine W_seq ?_
     refine W_seq ?_
     refine W_region ?_
     refine WL_step rfl rfl (Exec.move (v := Value.int .i64 (l106)) rfl p109 ?_)
     refine WL_step rfl rfl (Exec.geq rfl rfl rfl ?_)
     refine WL_nil (at_normal ?_)
     rcases ite_some hm100 with ⟨hc102, hm100⟩ | ⟨hc102, hm100⟩
     ·refine W_cond_t rfl hc102 ?_
      refine W_skip (at_normal ?_)
      refine W_seq ?_
      refine W_block ?_
      refine W_region ?_
      refine WL_step rfl rfl (Exec.move (v := v107) rfl p108 ?_)
      refine WL_step rfl rfl (Exec.move (v := v103) rfl p105 ?_)
      refine WL_step rfl rfl (Exec.move (v := Value.int .i64 (l106)) rfl p109 ?_)
      obtain ⟨x101, q103, hm100⟩ := bind_some hm100
      refine WL_step rfl rfl (Exec.index_rep S22 rfl rfl rfl (a103.mono (PHeap.le.trans (PHeap.le.trans l100 l102) l108)) q103 ?_)
      intro b102 o100 a104
      refine WL_step rfl rfl (Exec.load_at (E := (encInt .i64)) hS114 A3 rfl rfl rfl a104 ?_)
      intro v108 q104
      obtain rfl := encInt_val.1 q104
      refine WL_step rfl rfl (Exec.move (v := Value.int .i64 (l106)) rfl p109 ?_)
      obtain ⟨x102, q105, hm100⟩ := bind_some hm100
      obtain ⟨g100, c102, e103⟩ := ((hS114).f2).arr_at q105
      refine WL_step rfl rfl (Exec.index_slice S22 rfl e103 rfl (idx_some q105).1 (idx_some q105).2.1 ?_)
      obtain ⟨l109, q106, hm100⟩ := bind_some hm100
      have hS115 := (hS114).f2
      refine WL_step rfl rfl (Exec.store_arr hS115 e103 A3 rfl rfl rfl rfl (encInt_val.2 rfl) q106 ?_)
      intro w108 hS116
      refine WL_nil (ib_normal (at_normal ?_))
      refine W_region ?_
      refine WL_step rfl rfl (Exec.move (v := Value.int .i64 (l106)) rfl p109 ?_)
      refine WL_step rfl rfl (Exec.sub rfl rfl rfl ?_)
      refine WL_step rfl rfl (Exec.assign (v := Value.int .i64 (IntKind.i64.wrap (l106 - 1))) rfl rfl ?_)
      refine WL_nil (at_normal ?_)
      have e104 := Option.some.inj hm100
      subst c101
      have hS117 := (hS116).f2
      have hS118 := (hS117).f2
      refine ⟨_, rfl, ?_⟩; exact ⟨s107, l108, hS118, p105, p106, p107, p108, rfl⟩
     ·refine W_cond_f rfl hc102 ?_
      replace hc102 := not_true hc102
      refine W_exit (at_exit (at_exit (ib_here (at_normal ?_))))
      have e105 := Option.some.inj hm100
      subst c101
      have hS119 := (hS114).f2
      have hS120 := (hS119).f2
      have hS121 := (hS120).f2
      refine ⟨_, .inr (hres100 (by intro _ h; cases h)), ?_⟩; exact ⟨s107, l108, hS121, p105, p106, p107, p108, p109⟩
   ·rintro f102 w109 ⟨t102, hc103, hM101⟩
    have hm := hc103.elim (hn100 _) (hb100 _)
    clear hc103
    obtain ⟨l104, l105⟩ := t102
    replace hm := un2_eq hm
    obtain ⟨s108, l110, hS122, p110, p111, p112, p113, p114⟩ := hM101
    refine (at_normal ?_)
    refine W_seq ?_
    refine W_seq ?_
    refine W_region ?_
    refine WL_step rfl rfl (Exec.move (v := v103) rfl p110 ?_)
    refine WL_step rfl rfl (Exec.len_rep S22 rfl rfl (a103.mono (PHeap.le.trans (PHeap.le.trans l100 l102) l110)) ?_)
    refine WL_step rfl rfl (Exec.move (v := Value.int .i64 (0)) rfl rfl ?_)
    refine WL_nil (at_normal ?_)
    obtain ⟨c103, hB101, hr101, hn101, hb101⟩ := ctl_some hm
    refine W_mid (M := fun f' w' => ∃ s', (c103 = .next s' ∨ c103 = .brk s') ∧ (fun (_ : Unit) => ∃ (s109 : PHeap) , PHeap.le s108 s109 ∧ St w0 s109 (Res.box b100 26 [Value.int .i64 (x100.States), Value.int .i64 (x100.Init), v100, v101, v102] :: Res.box b101 26 [Value.int .i64 (0), Value.int .i64 (0), Value.slice none 0 0, Value.slice none 0 0, Value.slice none 0 0] :: Res.arr (encInt .i64) 3 v107 l105 :: H) w' ∧ f' 1 = v103 ∧ f' 2 = Value.pointer (some ⟨b100, 0, none⟩) ∧ f' 4 = Value.pointer (some ⟨b101, 0, none⟩) ∧ f' 8 = v107 ∧ f' 48 = v103 ∧ f' 49 = Value.int .i64 ((class100.length : Int))) s') ?_ ?_
    ·refine W_block (W_forC (fun k' s' f' w' => (fun (_ : Unit) => ∃ (s110 : PHeap) , PHeap.le s108 s110 ∧ St w0 s110 (Res.box b100 26 [Value.int .i64 (x100.States), Value.int .i64 (x100.Init), v100, v101, v102] :: Res.box b101 26 [Value.int .i64 (0), Value.int .i64 (0), Value.slice none 0 0, Value.slice none 0 0, Value.slice none 0 0] :: Res.arr (encInt .i64) 3 v107 l105 :: H) w' ∧ f' 1 = v103 ∧ f' 2 = Value.pointer (some ⟨b100, 0, none⟩) ∧ f' 4 = Value.pointer (some ⟨b101, 0, none⟩) ∧ f' 8 = v107 ∧ f' 48 = v103 ∧ f' 49 = Value.int .i64 ((class100.length : Int)) ∧ f' 50 = Value.int .i64 (k' : Int)) s') hB101 ?_ ?_ ?_)
     ·have hS123 := (hS122).f2
      have hS124 := (hS123).f2
      have hS125 := (hS124).f2
      exact ⟨s108, (PHeap.le_refl _), hS125, p110, p111, p112, p113, rfl, rfl, rfl⟩
     ·intro i100 t103 c104 f103 w110 hi100 hI101 hm101 hres101
      obtain ⟨s111, l111, hS126, p115, p116, p117, p118, p119, p120, x103⟩ := hI101
      refine W_seq ?_
      refine W_region ?_
      refine WL_step rfl rfl (Exec.lss rfl x103 p120 ?_)
      refine WL_nil (at_normal ?_)
      refine W_seq ?_
      refine W_true (congrArg Value.bool (decide_eq_true (by omega))) ?_
      refine W_skip (at_normal ?_)
      refine W_seq ?_
      refine W_block ?_
      refine W_seq ?_
      refine W_region ?_
      refine WL_step rfl rfl (Exec.move (v := Value.int .i64 ((i100 : Int))) rfl x103 ?_)
      obtain ⟨x104, q107, hm101⟩ := bind_some hm101
      refine WL_step rfl rfl (Exec.index_rep S22 rfl p119 x103 (a103.mono (PHeap.le.trans (PHeap.le.trans (PHeap.le.trans l100 l102) l110) l111)) q107 ?_)
      intro b103 o101 a105
      refine WL_step rfl rfl (Exec.load_at (E := (encInt .i64)) hS126 A3 rfl rfl rfl a105 ?_)
      intro v109 q108
      obtain rfl := encInt_val.1 q108
      refine WL_step rfl rfl (Exec.assign (v := Value.int .i64 ((i100 : Int))) rfl rfl ?_)
      refine WL_step rfl rfl (Exec.assign (v := Value.int .i64 (x104)) rfl rfl ?_)
      refine WL_nil (at_normal ?_)
      refine W_seq ?_
      refine W_dl (n0 := 14) (.q 0 (.q 1 (.q 2 (.q 3 (.q 4 (.q 5 (.q 6 (.q 7 (.q 8 (.q 9 (.q 10 (.q 11 (.q 12 (.q 13 .done)))))))))))))) hmix (by kernel_rfl) (by kernel_rfl) ?_
      have hS127 := hS126.drew
      refine DL_q rfl rfl (Exec.field F26_2 rfl p116 rfl ⟨rfl, ?_⟩)
      refine DL_q rfl rfl (Exec.load_box (hS127) A22 rfl rfl rfl ⟨rfl, ?_⟩)
      refine DL_q rfl rfl (Exec.move (v := Value.int .i64 ((i100 : Int))) rfl rfl ⟨rfl, ?_⟩)
      obtain ⟨x105, q109, hm101⟩ := bind_some hm101
      refine DL_q rfl rfl (Exec.index_repE S22 rfl rfl rfl (a100.mono (PHeap.le.trans (PHeap.le.trans (PHeap.le.trans l100 l102) l110) l111)) q109 ?_)
      intro b104 o102 a106 e106
      refine ⟨rfl, ?_⟩
      refine DL_q rfl rfl (Exec.load_at (E := (encInt .i64)) hS127 A3 rfl rfl rfl a106 ?_)
      intro v110 q110
      obtain rfl := encInt_val.1 q110
      refine ⟨rfl, ?_⟩
      refine DL_q rfl rfl (Exec.field F26_2 rfl p116 rfl ⟨rfl, ?_⟩)
      refine DL_q rfl rfl (Exec.load_box (hS127) A22 rfl rfl rfl ⟨rfl, ?_⟩)
      refine DL_q rfl rfl (Exec.move (v := v107) rfl p118 ⟨rfl, ?_⟩)
      refine DL_q rfl rfl (Exec.move (v := Value.int .i64 (x104)) rfl rfl ⟨rfl, ?_⟩)
      obtain ⟨x106, q111, hm101⟩ := bind_some hm101
      obtain ⟨g101, c105, e107⟩ := ((hS127).f2).arr_at q111
      refine DL_q rfl rfl (Exec.index_slice S22 rfl e107 rfl (idx_some q111).1 (idx_some q111).2.1 ⟨rfl, ?_⟩)
      refine DL_q rfl rfl (Exec.load_arr (F := (encInt .i64)) ((hS127).f2) e107 A3 rfl rfl rfl q111 (Sub.refl _) ?_)
      intro v111 q112
      obtain rfl := encInt_val.1 q112
      refine ⟨rfl, ?_⟩
      obtain ⟨x107, q113, hm101⟩ := bind_some hm101
      refine DL_q rfl rfl (Exec.index_repE S22 rfl rfl rfl (a100.mono (PHeap.le.trans (PHeap.le.trans (PHeap.le.trans l100 l102) l110) l111)) q113 ?_)
      intro b105 o103 a107 e108
      refine ⟨rfl, ?_⟩
      refine DL_q rfl rfl (Exec.load_at (E := (encInt .i64)) hS127 A3 rfl rfl rfl a107 ?_)
      intro v112 q114
      obtain rfl := encInt_val.1 q114
      refine ⟨rfl, ?_⟩
      refine DL_q rfl rfl (Exec.neq rfl rfl rfl ⟨rfl, ?_⟩)
      refine DL_done ?_
      refine WL_nil (at_normal ?_)
      rcases ite_some hm101 with ⟨hc104, hm101⟩ | ⟨hc104, hm101⟩
      ·refine W_cond_t rfl hc104 ?_
       refine W_seq ?_
       refine W_region ?_
       refine WL_step rfl rfl (Exec.build rfl parts_nil (v := Value.agg #[Value.int .i64 (0), Value.int .i64 (0), Value.slice none 0 0, Value.slice none 0 0, Value.slice none 0 0]) (fun _ => by kernel_rfl) ?_)
       refine WL_step rfl rfl (Exec.makeInterface C34 rfl rfl ?_)
       have hS128 := (hS127).f1
       refine WL_step rfl rfl (Exec.store_box (ds := [Value.int .i64 (0), Value.int .i64 (0), Value.slice none 0 0, Value.slice none 0 0, Value.slice none 0 0]) (es := [Value.int .i64 (0), Value.int .i64 (0), Value.slice none 0 0, Value.slice none 0 0, Value.slice none 0 0]) hS128 A26 rfl p117 rfl rfl (one_cons rfl (one_cons rfl (one_cons rfl (one_cons rfl (one_cons rfl one_nil))))) (Nat.le_of_ble_eq_true rfl) rfl ?_)
       intro w111 hS129
       refine WL_step rfl rfl (Exec.assign (v := errV 34 (some 2)) rfl rfl ?_)
       refine WL_nil (at_normal ?_)
       refine W_ret (ib_ret (at_ret (at_ret (ib_ret (at_ret (at_ret ?_))))))
       have e109 := Option.some.inj hm101
       subst c104
       have hq100 := hr101 _ (hres101 (by intro _ h; cases h))
       have e110 := Option.some.inj hq100
       subst r
       refine ⟨_, retG2 rfl ⟨_, _, p117, cellRes (hS129) A26⟩ rfl, ?_⟩
       have hS130 := (hS129).drop
       have hS131 := (hS130).drop
       have hS132 := (hS131).drop
       exact ⟨s111, (Value.slice none 0 0), (Value.slice none 0 0), (Value.slice none 0 0), (PHeap.le.trans (PHeap.le.trans (PHeap.le.trans l100 l102) l110) l111), hS132, (tup2 rfl rfl), (SliceRep.nil _ _), (SliceRep.nil _ _), (SliceRep.nil _ _)⟩
      ·refine W_cond_f rfl hc104 ?_
       replace hc104 := not_true hc104
       refine W_skip (ib_normal (at_normal ?_))
       refine W_region ?_
       refine WL_step rfl rfl (Exec.add rfl x103 rfl ?_)
       refine WL_step rfl rfl (Exec.move (v := Value.int .i64 (IntKind.i64.wrap ((i100 : Int) + 1))) rfl rfl ?_)
       refine WL_nil (at_normal ?_)
       have e111 := Option.some.inj hm101
       subst c104
       have hS133 := (hS127).f2
       have hS134 := (hS133).f2
       have hS135 := (hS134).f2
       refine ⟨_, rfl, ?_⟩; exact ⟨s111, l111, hS135, p115, p116, p117, p118, p119, p120, (Eq.trans rfl (wrap_up hi100 (SliceRep.le (a103.mono (PHeap.le.trans (PHeap.le.trans l100 l102) l110)))))⟩
     ·intro t104 f104 w112 hI102 hres102
      obtain ⟨s112, l112, hS136, p121, p122, p123, p124, p125, p126, x108⟩ := hI102
      refine W_seq ?_
      refine W_region ?_
      refine WL_step rfl rfl (Exec.lss rfl x108 p126 ?_)
      refine WL_nil (at_normal ?_)
      refine W_seq ?_
      refine W_false (congrArg Value.bool (decide_eq_false (by omega))) ?_
      refine W_exit (at_exit (at_exit (ib_here (at_normal ?_))))
      have hS137 := (hS136).f2
      have hS138 := (hS137).f2
      have hS139 := (hS138).f2
      refine ⟨_, .inl hres102, ?_⟩; exact ⟨s112, l112, hS139, p121, p122, p123, p124, p125, p126⟩
    ·rintro f105 w113 ⟨t105, hc105, hM102⟩
     have hm := hc105.elim (hn101 _) (hb101 _)
     clear hc105
     obtain ⟨s113, l113, hS140, p127, p128, p129, p130, p131, p132⟩ := hM102
     refine (at_normal ?_)
     refine W_seq ?_
     obtain ⟨y105, q115, hm⟩ := bind_some hm
     obtain ⟨y106, q116, hm⟩ := bind_some hm
     refine W_mid (M := fun f' w' => ∃ (s114 : PHeap) (b106 : Nat) (v113 : Value) (v114 : Value), PHeap.le s113 s114 ∧ St w0 s114 (Res.box b100 26 [Value.int .i64 (x100.States), Value.int .i64 (x100.Init), v100, v101, v102] :: Res.box b101 26 [Value.int .i64 (0), Value.int .i64 (0), Value.slice none 0 0, Value.slice none 0 0, Value.slice none 0 0] :: Res.arr (encInt .i64) 3 v107 l105 :: Res.box b106 26 [Value.int .i64 (x100.States), Value.int .i64 (x100.Init), v113, Value.slice none 0 0, v114] :: Res.arr (encInt .i64) 3 v113 y105 :: Res.arr encBool 4 v114 y106 :: H) w' ∧ f' 1 = v103 ∧ f' 2 = Value.pointer (some ⟨b100, 0, none⟩) ∧ f' 4 = Value.pointer (some ⟨b101, 0, none⟩) ∧ f' 8 = v107 ∧ f' 12 = Value.pointer (some ⟨b106, 0, none⟩)) ?_ ?_
     ·refine W_dl (n0 := 12) (.q 0 (.q 1 (.q 2 (.q 3 (.q 4 (.q 5 (.q 7 (.q 8 (.alt (.e 6 [0, 1, 2, 3, 7, 8] (.alt (.e 9 [0, 1, 2, 3] (.q 10 (.e 11 [0, 1, 2, 3, 10] .done))) (.e 11 [0, 1, 2, 3, 7, 8] (.e 9 [0, 1, 2, 3] (.q 10 .done))))) (.e 11 [0, 1, 2, 3, 4, 5, 7, 8] (.e 6 [0, 1, 2, 3, 7, 8] (.e 9 [0, 1, 2, 3] (.q 10 .done))))))))))))) hmix (by kernel_rfl) (by kernel_rfl) ?_
      have hS141 := hS140.drew
      refine DL_q rfl rfl (Exec.field F26_0 rfl p128 rfl ⟨rfl, ?_⟩)
      refine DL_q rfl rfl (Exec.load_box (hS141) A3 rfl rfl rfl ⟨rfl, ?_⟩)
      refine DL_q rfl rfl (Exec.field F26_1 rfl p128 rfl ⟨rfl, ?_⟩)
      refine DL_q rfl rfl (Exec.load_box (hS141) A3 rfl rfl rfl ⟨rfl, ?_⟩)
      refine DL_q rfl rfl (Exec.field F26_2 rfl p128 rfl ⟨rfl, ?_⟩)
      refine DL_q rfl rfl (Exec.load_box (hS141) A22 rfl rfl rfl ⟨rfl, ?_⟩)
      refine DL_q rfl rfl (Exec.field F26_4 rfl p128 rfl ⟨rfl, ?_⟩)
      refine DL_q rfl rfl (Exec.load_box (hS141) A24 rfl rfl rfl ⟨rfl, ?_⟩)
      refine DL_alt ?_ ?_
      ·refine DL_e rfl rfl (Exec.call rfl rfl Tryd.func47 rfl N47 (args_cons rfl args_nil) ((slices_Clone___int_int__sim q115 hS141 (a100.mono (PHeap.le.trans (PHeap.le.trans (PHeap.le.trans l100 l102) l110) l113))).mono ?_))
       rintro _ w114 ⟨v115, rfl, ⟨s115, _, l114, hS142, rfl⟩⟩
       refine ⟨_, rfl, ?_⟩
       refine ⟨(ag_cons (ag_r rfl rfl (Exec.field F26_0 rfl p128 rfl ⟨rfl, rfl⟩)) (ag_cons (ag_r rfl rfl (Exec.load_box ((hS142).f1) A3 rfl rfl rfl ⟨rfl, rfl⟩)) (ag_cons (ag_r rfl rfl (Exec.field F26_1 rfl p128 rfl ⟨rfl, rfl⟩)) (ag_cons (ag_r rfl rfl (Exec.load_box ((hS142).f1) A3 rfl rfl rfl ⟨rfl, rfl⟩)) (ag_cons (ag_r rfl rfl (Exec.field F26_4 rfl p128 rfl ⟨rfl, rfl⟩)) (ag_cons (ag_r rfl rfl (Exec.load_box ((hS142).f1) A24 rfl rfl rfl ⟨rfl, rfl⟩)) ag_nil)))))), ?_⟩
       refine DL_alt ?_ ?_
       ·refine DL_e rfl rfl (Exec.call rfl rfl Tryd.func52 rfl N52 (args_cons rfl args_nil) ((slices_Clone___bool_bool__sim q116 hS142 (a102.mono (PHeap.le.trans (PHeap.le.trans (PHeap.le.trans (PHeap.le.trans l100 l102) l110) l113) l114))).mono ?_))
        rintro _ w115 ⟨v116, rfl, ⟨s116, _, l115, hS143, rfl⟩⟩
        refine ⟨_, rfl, ?_⟩
        refine ⟨(ag_cons (ag_r rfl rfl (Exec.field F26_0 rfl p128 rfl ⟨rfl, rfl⟩)) (ag_cons (ag_r rfl rfl (Exec.load_box ((hS143).f2) A3 rfl rfl rfl ⟨rfl, rfl⟩)) (ag_cons (ag_r rfl rfl (Exec.field F26_1 rfl p128 rfl ⟨rfl, rfl⟩)) (ag_cons (ag_r rfl rfl (Exec.load_box ((hS143).f2) A3 rfl rfl rfl ⟨rfl, rfl⟩)) ag_nil)))), ?_⟩
        refine DL_q rfl rfl (Exec.build rfl (parts_cons (c := [Value.int .i64 (x100.States)]) (cells_of rfl rfl) (parts_cons (c := [Value.int .i64 (x100.Init)]) (cells_of rfl rfl) (parts_cons (c := [v115]) (cells_of rfl (cells_one ((hS143).f1).arr_one)) (parts_cons (c := [v116]) (cells_of rfl (cells_one (hS143).arr_one)) parts_nil)))) (v := Value.agg #[Value.int .i64 (x100.States), Value.int .i64 (x100.Init), v115, Value.slice none 0 0, v116]) (fun _ => by kernel_rfl) ⟨rfl, ?_⟩)
        refine DL_e rfl rfl (Exec.alloc (cs := [Value.int .i64 (0), Value.int .i64 (0), Value.slice none 0 0, Value.slice none 0 0, Value.slice none 0 0]) hS143 Z26 rfl rfl ?_)
        intro b107 w116 hS144
        refine ⟨(ag_cons (ag_r rfl rfl (Exec.field F26_0 rfl p128 rfl ⟨rfl, rfl⟩)) (ag_cons (ag_r rfl rfl (Exec.load_box ((hS144).f3) A3 rfl rfl rfl ⟨rfl, rfl⟩)) (ag_cons (ag_r rfl rfl (Exec.field F26_1 rfl p128 rfl ⟨rfl, rfl⟩)) (ag_cons (ag_r rfl rfl (Exec.load_box ((hS144).f3) A3 rfl rfl rfl ⟨rfl, rfl⟩)) (ag_cons (ag_r rfl rfl (Exec.build rfl (parts_cons (c := [Value.int .i64 (x100.States)]) (cells_of rfl rfl) (parts_cons (c := [Value.int .i64 (x100.Init)]) (cells_of rfl rfl) (parts_cons (c := [v115]) (cells_of rfl (cells_one ((hS144).f2).arr_one)) (parts_cons (c := [v116]) (cells_of rfl (cells_one ((hS144).f1).arr_one)) parts_nil)))) (v := Value.agg #[Value.int .i64 (x100.States), Value.int .i64 (x100.Init), v115, Value.slice none 0 0, v116]) (fun _ => by kernel_rfl) ⟨rfl, rfl⟩)) ag_nil))))), ?_⟩
        refine DL_done ?_
        refine WL_step rfl rfl (Exec.store_box (ds := [Value.int .i64 (x100.States), Value.int .i64 (x100.Init), v115, Value.slice none 0 0, v116]) (es := [Value.int .i64 (x100.States), Value.int .i64 (x100.Init), v115, Value.slice none 0 0, v116]) hS144 A26 rfl rfl rfl rfl (one_cons rfl (one_cons rfl (one_cons ((hS144).f2).arr_one (one_cons rfl (one_cons ((hS144).f1).arr_one one_nil))))) (Nat.le_of_ble_eq_true rfl) rfl ?_)
        intro w117 hS145
        refine WL_nil (at_normal ?_)
        have hS146 := (hS145).f1
        have hS147 := (hS146).f2
        have hS148 := (hS147).f2
        have hS149 := (hS148).f5
        have hS150 := (hS149).f5
        have hS151 := (hS150).f5
        exact ⟨s116, b107, v115, v116, (PHeap.le.trans l114 l115), hS151, p127, p128, p129, p130, rfl⟩
       refine DL_e rfl rfl (Exec.alloc (cs := [Value.int .i64 (0), Value.int .i64 (0), Value.slice none 0 0, Value.slice none 0 0, Value.slice none 0 0]) hS142 Z26 rfl rfl ?_)
       intro b108 w118 hS152
       refine ⟨(ag_cons (ag_r rfl rfl (Exec.field F26_0 rfl p128 rfl ⟨rfl, rfl⟩)) (ag_cons (ag_r rfl rfl (Exec.load_box ((hS152).f2) A3 rfl rfl rfl ⟨rfl, rfl⟩)) (ag_cons (ag_r rfl rfl (Exec.field F26_1 rfl p128 rfl ⟨rfl, rfl⟩)) (ag_cons (ag_r rfl rfl (Exec.load_box ((hS152).f2) A3 rfl rfl rfl ⟨rfl, rfl⟩)) (ag_cons (ag_r rfl rfl (Exec.field F26_4 rfl p128 rfl ⟨rfl, rfl⟩)) (ag_cons (ag_r rfl rfl (Exec.load_box ((hS152).f2) A24 rfl rfl rfl ⟨rfl, rfl⟩)) ag_nil)))))), ?_⟩
       refine DL_e rfl rfl (Exec.call rfl rfl Tryd.func52 rfl N52 (args_cons rfl args_nil) ((slices_Clone___bool_bool__sim q116 hS152 (a102.mono (PHeap.le.trans (PHeap.le.trans (PHeap.le.trans (PHeap.le.trans l100 l102) l110) l113) l114))).mono ?_))
       rintro _ w119 ⟨v117, rfl, ⟨s117, _, l116, hS153, rfl⟩⟩
       refine ⟨_, rfl, ?_⟩
       refine ⟨(ag_cons (ag_r rfl rfl (Exec.field F26_0 rfl p128 rfl ⟨rfl, rfl⟩)) (ag_cons (ag_r rfl rfl (Exec.load_box ((hS153).f3) A3 rfl rfl rfl ⟨rfl, rfl⟩)) (ag_cons (ag_r rfl rfl (Exec.field F26_1 rfl p128 rfl ⟨rfl, rfl⟩)) (ag_cons (ag_r rfl rfl (Exec.load_box ((hS153).f3) A3 rfl rfl rfl ⟨rfl, rfl⟩)) ag_nil)))), ?_⟩
       refine DL_q rfl rfl (Exec.build rfl (parts_cons (c := [Value.int .i64 (x100.States)]) (cells_of rfl rfl) (parts_cons (c := [Value.int .i64 (x100.Init)]) (cells_of rfl rfl) (parts_cons (c := [v115]) (cells_of rfl (cells_one ((hS153).f2).arr_one)) (parts_cons (c := [v117]) (cells_of rfl (cells_one (hS153).arr_one)) parts_nil)))) (v := Value.agg #[Value.int .i64 (x100.States), Value.int .i64 (x100.Init), v115, Value.slice none 0 0, v117]) (fun _ => by kernel_rfl) ⟨rfl, ?_⟩)
       refine DL_done ?_
       have hS154 := (hS153).f1
       refine WL_step rfl rfl (Exec.store_box (ds := [Value.int .i64 (x100.States), Value.int .i64 (x100.Init), v115, Value.slice none 0 0, v117]) (es := [Value.int .i64 (x100.States), Value.int .i64 (x100.Init), v115, Value.slice none 0 0, v117]) hS154 A26 rfl rfl rfl rfl (one_cons rfl (one_cons rfl (one_cons ((hS154).f2).arr_one (one_cons rfl (one_cons ((hS154).f1).arr_one one_nil))))) (Nat.le_of_ble_eq_true rfl) rfl ?_)
       intro w120 hS155
       refine WL_nil (at_normal ?_)
       have hS156 := (hS155).f1
       have hS157 := (hS156).f2
       have hS158 := (hS157).f2
       have hS159 := (hS158).f5
       have hS160 := (hS159).f5
       have hS161 := (hS160).f5
       exact ⟨s117, b108, v115, v117, (PHeap.le.trans l114 l116), hS161, p127, p128, p129, p130, rfl⟩
      refine DL_e rfl rfl (Exec.alloc (cs := [Value.int .i64 (0), Value.int .i64 (0), Value.slice none 0 0, Value.slice none 0 0, Value.slice none 0 0]) hS141 Z26 rfl rfl ?_)
      intro b109 w121 hS162
      refine ⟨(ag_cons (ag_r rfl rfl (Exec.field F26_0 rfl p128 rfl ⟨rfl, rfl⟩)) (ag_cons (ag_r rfl rfl (Exec.load_box ((hS162).f1) A3 rfl rfl rfl ⟨rfl, rfl⟩)) (ag_cons (ag_r rfl rfl (Exec.field F26_1 rfl p128 rfl ⟨rfl, rfl⟩)) (ag_cons (ag_r rfl rfl (Exec.load_box ((hS162).f1) A3 rfl rfl rfl ⟨rfl, rfl⟩)) (ag_cons (ag_r rfl rfl (Exec.field F26_2 rfl p128 rfl ⟨rfl, rfl⟩)) (ag_cons (ag_r rfl rfl (Exec.load_box ((hS162).f1) A22 rfl rfl rfl ⟨rfl, rfl⟩)) (ag_cons (ag_r rfl rfl (Exec.field F26_4 rfl p128 rfl ⟨rfl, rfl⟩)) (ag_cons (ag_r rfl rfl (Exec.load_box ((hS162).f1) A24 rfl rfl rfl ⟨rfl, rfl⟩)) ag_nil)))))))), ?_⟩
      refine DL_e rfl rfl (Exec.call rfl rfl Tryd.func47 rfl N47 (args_cons rfl args_nil) ((slices_Clone___int_int__sim q115 hS162 (a100.mono (PHeap.le.trans (PHeap.le.trans (PHeap.le.trans l100 l102) l110) l113))).mono ?_))
      rintro _ w122 ⟨v118, rfl, ⟨s118, _, l117, hS163, rfl⟩⟩
      refine ⟨_, rfl, ?_⟩
      refine ⟨(ag_cons (ag_r rfl rfl (Exec.field F26_0 rfl p128 rfl ⟨rfl, rfl⟩)) (ag_cons (ag_r rfl rfl (Exec.load_box ((hS163).f2) A3 rfl rfl rfl ⟨rfl, rfl⟩)) (ag_cons (ag_r rfl rfl (Exec.field F26_1 rfl p128 rfl ⟨rfl, rfl⟩)) (ag_cons (ag_r rfl rfl (Exec.load_box ((hS163).f2) A3 rfl rfl rfl ⟨rfl, rfl⟩)) (ag_cons (ag_r rfl rfl (Exec.field F26_4 rfl p128 rfl ⟨rfl, rfl⟩)) (ag_cons (ag_r rfl rfl (Exec.load_box ((hS163).f2) A24 rfl rfl rfl ⟨rfl, rfl⟩)) ag_nil)))))), ?_⟩
      refine DL_e rfl rfl (Exec.call rfl rfl Tryd.func52 rfl N52 (args_cons rfl args_nil) ((slices_Clone___bool_bool__sim q116 hS163 (a102.mono (PHeap.le.trans (PHeap.le.trans (PHeap.le.trans (PHeap.le.trans l100 l102) l110) l113) l117))).mono ?_))
      rintro _ w123 ⟨v119, rfl, ⟨s119, _, l118, hS164, rfl⟩⟩
      refine ⟨_, rfl, ?_⟩
      refine ⟨(ag_cons (ag_r rfl rfl (Exec.field F26_0 rfl p128 rfl ⟨rfl, rfl⟩)) (ag_cons (ag_r rfl rfl (Exec.load_box ((hS164).f3) A3 rfl rfl rfl ⟨rfl, rfl⟩)) (ag_cons (ag_r rfl rfl (Exec.field F26_1 rfl p128 rfl ⟨rfl, rfl⟩)) (ag_cons (ag_r rfl rfl (Exec.load_box ((hS164).f3) A3 rfl rfl rfl ⟨rfl, rfl⟩)) ag_nil)))), ?_⟩
      refine DL_q rfl rfl (Exec.build rfl (parts_cons (c := [Value.int .i64 (x100.States)]) (cells_of rfl rfl) (parts_cons (c := [Value.int .i64 (x100.Init)]) (cells_of rfl rfl) (parts_cons (c := [v118]) (cells_of rfl (cells_one ((hS164).f1).arr_one)) (parts_cons (c := [v119]) (cells_of rfl (cells_one (hS164).arr_one)) parts_nil)))) (v := Value.agg #[Value.int .i64 (x100.States), Value.int .i64 (x100.Init), v118, Value.slice none 0 0, v119]) (fun _ => by kernel_rfl) ⟨rfl, ?_⟩)
      refine DL_done ?_
      have hS165 := (hS164).f2
      refine WL_step rfl rfl (Exec.store_box (ds := [Value.int .i64 (x100.States), Value.int .i64 (x100.Init), v118, Value.slice none 0 0, v119]) (es := [Value.int .i64 (x100.States), Value.int .i64 (x100.Init), v118, Value.slice none 0 0, v119]) hS165 A26 rfl rfl rfl rfl (one_cons rfl (one_cons rfl (one_cons ((hS165).f2).arr_one (one_cons rfl (one_cons ((hS165).f1).arr_one one_nil))))) (Nat.le_of_ble_eq_true rfl) rfl ?_)
      intro w124 hS166
      refine WL_nil (at_normal ?_)
      have hS167 := (hS166).f1
      have hS168 := (hS167).f2
      have hS169 := (hS168).f2
      have hS170 := (hS169).f5
      have hS171 := (hS170).f5
      have hS172 := (hS171).f5
      exact ⟨s119, b109, v118, v119, (PHeap.le.trans l117 l118), hS172, p127, p128, p129, p130, rfl⟩
     ·intro f106 w125 hM103
      obtain ⟨s120, b106, v113, v114, l119, hS173, p133, p134, p135, p136, p137⟩ := hM103
      refine (at_normal ?_)
      refine W_seq ?_
      refine W_seq ?_
      refine W_region ?_
      refine WL_step rfl rfl (Exec.field F26_3 rfl p134 rfl ?_)
      refine WL_step rfl rfl (Exec.load_box (hS173) A23 rfl rfl rfl ?_)
      refine WL_step rfl rfl (Exec.len_rep S23 rfl rfl (a101.mono (PHeap.le.trans (PHeap.le.trans (PHeap.le.trans (PHeap.le.trans l100 l102) l110) l113) l119)) ?_)
      refine WL_step rfl rfl (Exec.move (v := Value.int .i64 (0)) rfl rfl ?_)
      refine WL_nil (at_normal ?_)
      obtain ⟨z101, hB102, hm⟩ := bind_some hm
      refine W_block (W_forS (fun k' s' f' w' => (fun (z101 : (List Edge)) => ∃ (s121 : PHeap) (v120 : Value), PHeap.le s120 s121 ∧ St w0 s121 (Res.box b101 26 [Value.int .i64 (0), Value.int .i64 (0), Value.slice none 0 0, Value.slice none 0 0, Value.slice none 0 0] :: Res.arr (encInt .i64) 3 v107 l105 :: Res.box b106 26 [Value.int .i64 (x100.States), Value.int .i64 (x100.Init), v113, v120, v114] :: Res.arr (encInt .i64) 3 v113 y105 :: Res.arr encEdge 53 v120 z101 :: Res.arr encBool 4 v114 y106 :: H) w' ∧ f' 1 = v103 ∧ f' 4 = Value.pointer (some ⟨b101, 0, none⟩) ∧ f' 8 = v107 ∧ f' 12 = Value.pointer (some ⟨b106, 0, none⟩) ∧ f' 84 = v101 ∧ f' 85 = Value.int .i64 ((x100.Edges.length : Int)) ∧ f' 86 = Value.int .i64 (k' : Int)) s') hB102 ?_ ?_ ?_)
      ·have hS174 := hS173.nilArr encEdge 53
       have hS175 := ((hS174).f1).drop
       have hS176 := (hS175).f5
       have hS177 := (hS176).f1
       have hS178 := (hS177).f5
       have hS179 := (hS178).f5
       have hS180 := (hS179).f5
       have hS181 := (hS180).f5
       exact ⟨s120, (Value.slice none 0 0), (PHeap.le_refl _), hS181, p133, p135, p136, p137, rfl, rfl, rfl⟩
      ·intro i101 z101 s122 f107 w126 hi101 hI103 hm102
       obtain ⟨s123, v120, l120, hS182, p138, p139, p140, p141, p142, p143, x109⟩ := hI103
       refine W_seq ?_
       refine W_region ?_
       refine WL_step rfl rfl (Exec.lss rfl x109 p143 ?_)
       refine WL_nil (at_normal ?_)
       refine W_seq ?_
       refine W_true (congrArg Value.bool (decide_eq_true (by omega))) ?_
       refine W_skip (at_normal ?_)
       refine W_seq ?_
       refine W_block ?_
       refine W_seq ?_
       refine W_region ?_
       obtain ⟨x110, q117, hm102⟩ := bind_some hm102
       refine WL_step rfl rfl (Exec.index_rep S23 rfl p142 x109 (a101.mono (PHeap.le.trans (PHeap.le.trans (PHeap.le.trans (PHeap.le.trans (PHeap.le.trans l100 l102) l110) l113) l119) l120)) q117 ?_)
       intro b110 o104 a108
       refine WL_step rfl rfl (Exec.load_at (E := encEdge) hS182 A53 rfl rfl rfl a108 ?_)
       intro v121 q118
       obtain rfl := encEdge_val.1 q118
       refine WL_step rfl rfl (Exec.alloc (cs := [Value.int .i64 (0), Value.int .i64 (0), Value.int .i64 (0)]) hS182 Z53 rfl rfl ?_)
       intro b111 w127 hS183
       refine WL_step rfl rfl (Exec.store_box (ds := [Value.int .i64 (x110.From), Value.int .i64 (x110.Label), Value.int .i64 (x110.To)]) (es := [Value.int .i64 (x110.From), Value.int .i64 (x110.Label), Value.int .i64 (x110.To)]) hS183 A53 rfl rfl rfl rfl (one_cons rfl (one_cons rfl (one_cons rfl one_nil))) (Nat.le_of_ble_eq_true rfl) rfl ?_)
       intro w128 hS184
       refine WL_nil (at_normal ?_)
       refine W_dl (n0 := 17) (.q 0 (.q 1 (.q 2 (.q 3 (.q 4 (.q 5 (.q 6 (.q 7 (.q 8 (.q 9 (.q 10 (.q 11 (.q 12 (.q 13 (.q 14 (.e 15 [0, 1] (.e 16 [] .done))))))))))))))))) hmix (by kernel_rfl) (by kernel_rfl) ?_
       have hS185 := hS184.drew
       refine DL_q rfl rfl (Exec.field F26_3 rfl p141 rfl ⟨rfl, ?_⟩)
       refine DL_q rfl rfl (Exec.load_box ((hS185).f3) A23 rfl rfl rfl ⟨rfl, ?_⟩)
       refine DL_q rfl rfl (Exec.field F53_0 rfl rfl rfl ⟨rfl, ?_⟩)
       refine DL_q rfl rfl (Exec.load_box (hS185) A3 rfl rfl rfl ⟨rfl, ?_⟩)
       refine DL_q rfl rfl (Exec.move (v := v107) rfl p140 ⟨rfl, ?_⟩)
       refine DL_q rfl rfl (Exec.move (v := v103) rfl p138 ⟨rfl, ?_⟩)
       refine DL_q rfl rfl (Exec.field F53_1 rfl rfl rfl ⟨rfl, ?_⟩)
       refine DL_q rfl rfl (Exec.load_box (hS185) A3 rfl rfl rfl ⟨rfl, ?_⟩)
       obtain ⟨x111, q119, hm102⟩ := bind_some hm102
       refine DL_q rfl rfl (Exec.index_repE S22 rfl rfl rfl (a103.mono (PHeap.le.trans (PHeap.le.trans (PHeap.le.trans (PHeap.le.trans (PHeap.le.trans l100 l102) l110) l113) l119) l120)) q119 ?_)
       intro b112 o105 a109 e112
       refine ⟨rfl, ?_⟩
       refine DL_q rfl rfl (Exec.load_at (E := (encInt .i64)) hS185 A3 rfl rfl rfl a109 ?_)
       intro v122 q120
       obtain rfl := encInt_val.1 q120
       refine ⟨rfl, ?_⟩
       obtain ⟨x112, q121, hm102⟩ := bind_some hm102
       obtain ⟨g102, c106, e113⟩ := ((hS185).f2).arr_at q121
       refine DL_q rfl rfl (Exec.index_slice S22 rfl e113 rfl (idx_some q121).1 (idx_some q121).2.1 ⟨rfl, ?_⟩)
       refine DL_q rfl rfl (Exec.load_arr (F := (encInt .i64)) ((hS185).f2) e113 A3 rfl rfl rfl q121 (Sub.refl _) ?_)
       intro v123 q122
       obtain rfl := encInt_val.1 q122
       refine ⟨rfl, ?_⟩
       refine DL_q rfl rfl (Exec.field F53_2 rfl rfl rfl ⟨rfl, ?_⟩)
       refine DL_q rfl rfl (Exec.load_box (hS185) A3 rfl rfl rfl ⟨rfl, ?_⟩)
       refine DL_q rfl rfl (Exec.build rfl (parts_cons (c := [Value.int .i64 (x110.From)]) (cells_of rfl rfl) (parts_cons (c := [Value.int .i64 (x112)]) (cells_of rfl rfl) (parts_cons (c := [Value.int .i64 (x110.To)]) (cells_of rfl rfl) parts_nil))) (v := Value.agg #[Value.int .i64 (x110.From), Value.int .i64 (x112), Value.int .i64 (x110.To)]) (fun _ => by kernel_rfl) ⟨rfl, ?_⟩)
       refine DL_e rfl rfl (Exec.buildSlice (Te := 53) (cs := [Value.int .i64 (x110.From), Value.int .i64 (x112), Value.int .i64 (x110.To)]) hS185 rfl (parts_cons (c := [Value.int .i64 (x110.From), Value.int .i64 (x112), Value.int .i64 (x110.To)]) (cells_of rfl rfl) parts_nil) (fun _ => by kernel_rfl) ?_)
       intro b113 w129 hS186
       refine ⟨(ag_cons (ag_r rfl rfl (Exec.field F26_3 rfl p141 rfl ⟨rfl, rfl⟩)) (ag_cons (ag_r rfl rfl (Exec.load_box ((hS186).f4) A23 rfl rfl rfl ⟨rfl, rfl⟩)) ag_nil)), ?_⟩
       obtain ⟨l121, q123, hm102⟩ := bind_some hm102
       have hS187 := (hS186).f6
       refine DL_e rfl rfl (Exec.append_box (E := encEdge) (ys := [(⟨x110.From, x112, x110.To⟩ : Edge)]) hS187 S23 Z53 rfl (by decide) rfl rfl rfl rfl ⟨[Value.int .i64 (x110.From), Value.int .i64 (x112), Value.int .i64 (x110.To)], [], rfl, ⟨[Value.int .i64 (x110.From)], [Value.int .i64 (x112), Value.int .i64 (x110.To)], rfl, rfl, ⟨[Value.int .i64 (x112)], [Value.int .i64 (x110.To)], rfl, rfl, rfl⟩⟩, rfl⟩ rfl q123 ?_)
       intro v124 w130 hS188
       refine ⟨ag_nil, ?_⟩
       refine DL_done ?_
       refine WL_step rfl rfl (Exec.field F26_3 rfl p141 rfl ?_)
       have hS189 := (hS188).f4
       refine WL_step rfl rfl (Exec.store_box (ds := [v124]) (es := [Value.int .i64 (x100.States), Value.int .i64 (x100.Init), v113, v124, v114]) hS189 A23 rfl rfl rfl (cells_one ((hS189).f1).arr_one) (one_cons ((hS189).f1).arr_one one_nil) (Nat.le_of_ble_eq_true rfl) rfl ?_)
       intro w131 hS190
       refine WL_nil (ib_normal (at_normal ?_))
       refine W_region ?_
       refine WL_step rfl rfl (Exec.add rfl x109 rfl ?_)
       refine WL_step rfl rfl (Exec.move (v := Value.int .i64 (IntKind.i64.wrap ((i101 : Int) + 1))) rfl rfl ?_)
       refine WL_nil (at_normal ?_)
       have e114 := Option.some.inj hm102
       subst s122
       have hS191 := ((hS190).f2).drop
       have hS192 := (hS191).f5
       have hS193 := (hS192).f2
       have hS194 := (hS193).f5
       have hS195 := (hS194).f3
       have hS196 := (hS195).f5
       have hS197 := (hS196).f5
       exact ⟨s123, v124, l120, hS197, p138, p139, p140, p141, p142, p143, (Eq.trans rfl (wrap_up hi101 (SliceRep.le (a101.mono (PHeap.le.trans (PHeap.le.trans (PHeap.le.trans (PHeap.le.trans l100 l102) l110) l113) l119)))))⟩
      ·intro f108 w132 hI104
       obtain ⟨s124, v120, l122, hS198, p144, p145, p146, p147, p148, p149, x113⟩ := hI104
       refine W_seq ?_
       refine W_region ?_
       refine WL_step rfl rfl (Exec.lss rfl x113 p149 ?_)
       refine WL_nil (at_normal ?_)
       refine W_seq ?_
       refine W_false (congrArg Value.bool (decide_eq_false (by omega))) ?_
       refine W_exit (at_exit (at_exit (ib_here (at_normal ?_))))
       refine W_seq ?_
       refine W_region ?_
       refine WL_step rfl rfl (Exec.field F26_3 rfl p147 rfl ?_)
       refine WL_step rfl rfl (Exec.load_box ((hS198).f2) A23 rfl rfl rfl ?_)
       obtain ⟨l123, q124, hm⟩ := bind_some hm
       have hS199 := (hS198).f4
       refine WL_step rfl rfl (Exec.call rfl rfl Tryd.func48 rfl N48 (args_cons rfl args_nil) ((shrink_order_o_sim q124 hS199 ).mono ?_))
       rintro _ w133 ⟨v125, rfl, ⟨s125, _, l124, hS200, rfl⟩⟩
       refine ⟨_, rfl, ?_⟩
       refine WL_step rfl rfl (Exec.field F26_3 rfl p147 rfl ?_)
       have hS201 := (hS200).f3
       refine WL_step rfl rfl (Exec.store_box (ds := [v125]) (es := [Value.int .i64 (x100.States), Value.int .i64 (x100.Init), v113, v125, v114]) hS201 A23 rfl rfl rfl (cells_one ((hS201).f1).arr_one) (one_cons ((hS201).f1).arr_one one_nil) (Nat.le_of_ble_eq_true rfl) rfl ?_)
       intro w134 hS202
       refine WL_nil (at_normal ?_)
       refine W_seq ?_
       refine W_region ?_
       refine WL_step rfl rfl (Exec.load_box_agg (ds := [Value.int .i64 (x100.States), Value.int .i64 (x100.Init), v113, v125, v114]) (hS202) A26 rfl p147 rfl ?_)
       have hS203 := (hS202).f2
       refine WL_step rfl rfl (Exec.store_box (ds := [Value.int .i64 (x100.States), Value.int .i64 (x100.Init), v113, v125, v114]) (es := [Value.int .i64 (x100.States), Value.int .i64 (x100.Init), v113, v125, v114]) hS203 A26 rfl p145 rfl rfl (one_cons rfl (one_cons rfl (one_cons ((hS203).f4).arr_one (one_cons ((hS203).f2).arr_one (one_cons ((hS203).f5).arr_one one_nil))))) (Nat.le_of_ble_eq_true rfl) rfl ?_)
       intro w135 hS204
       refine WL_step rfl rfl (Exec.assign (v := errV 34 (none)) rfl rfl ?_)
       refine WL_nil (at_normal ?_)
       refine W_ret ?_
       have e115 := Option.some.inj hm
       subst r
       refine ⟨_, retG2 rfl ⟨_, _, p145, cellRes (hS204) A26⟩ rfl, ?_⟩
       have hS205 := (hS204).f4
       obtain ⟨s126, l125, hS206, r100⟩ := hS205.freezeArr
       have hS207 := (hS206).f2
       obtain ⟨s127, l126, hS208, r101⟩ := hS207.freezeArr
       have hS209 := (hS208).f3
       obtain ⟨s128, l127, hS210, r102⟩ := hS209.freezeArr
       have hS211 := (hS210).drop
       have hS212 := (hS211).drop
       have hS213 := (hS212).drop
       exact ⟨s128, v113, v125, v114, (PHeap.le.trans (PHeap.le.trans (PHeap.le.trans (PHeap.le.trans (PHeap.le.trans (PHeap.le.trans (PHeap.le.trans (PHeap.le.trans (PHeap.le.trans l100 l102) l110) l113) l119) l122) l124) l125) l126) l127), hS213, (tup2 rfl rfl), (r100.mono (PHeap.le.trans l126 l127)), (r101.mono l127), r102⟩

theorem S86 : tySlice Tryd.prog 86 = some (23, 1, 24) := by kernel_rfl

theorem Z23 : tyZero Tryd.prog 23 = some (Value.slice none 0 0) := by kernel_rfl

theorem N53 : (Tryd.f53.name == "runtime.NumGoroutine") = false := by kernel_rfl

theorem transys_labelled_sim {w0 w : World} {s : PHeap} {H : List Res} {x100 : System} {v100 : Value} {v101 : Value} {v102 : Value} {r : (List (List Edge))} (hm : transys_labelled_p x100 = some r) (hS : St w0 s (H) w) (a100 : SliceRep (encInt .i64) s v100 x100.Costs) (a101 : SliceRep encEdge s v101 x100.Edges) (a102 : SliceRep encBool s v102 x100.Goals) :
  Calls Tryd.prog 53 #[Value.agg #[Value.int .i64 (x100.States), Value.int .i64 (x100.Init), v100, v101, v102]] w fun e w' => ∃ v, e = .returned v ∧ ((fun (y100 : (List (List Edge))) => ∃ (s100 : PHeap) (v103 : Value), PHeap.le s s100 ∧ St w0 s100 (H) w' ∧ v = v103 ∧ SliceRep (encSlice encEdge) s100 v103 y100) r) := by
 unfold transys_labelled_p at hm
 refine calls_of_W Tryd.func53 rfl rfl ?_
 refine W_seq ?_
 refine W_region ?_
 refine WL_step rfl rfl (Exec.box (cs := [Value.int .i64 (x100.States), Value.int .i64 (x100.Init), v100, v101, v102]) hS rfl rfl rfl ?_)
 intro b100 w100 hS100
 refine WL_step rfl rfl (Exec.assign (v := Value.slice none 0 0) rfl rfl ?_)
 refine WL_nil (at_normal ?_)
 refine W_seq ?_
 refine W_region ?_
 refine WL_step rfl rfl (Exec.field F26_2 rfl rfl rfl ?_)
 refine WL_step rfl rfl (Exec.load_box (hS100) A22 rfl rfl rfl ?_)
 refine WL_step rfl rfl (Exec.len_rep S22 rfl rfl a100 ?_)
 obtain ⟨l100, q100, hm⟩ := bind_some hm
 refine WL_step rfl rfl (Exec.make_grid (F := encEdge) (T2 := 53) hS100 S86 Z23 rfl rfl rfl q100 ?_)
 intro v104 hs100 w101 hS101
 refine WL_step rfl rfl (Exec.assign (v := v104) rfl rfl ?_)
 refine WL_nil (at_normal ?_)
 refine W_seq ?_
 refine W_seq ?_
 refine W_region ?_
 refine WL_step rfl rfl (Exec.field F26_3 rfl rfl rfl ?_)
 refine WL_step rfl rfl (Exec.load_box ((hS101).f2) A23 rfl rfl rfl ?_)
 refine WL_step rfl rfl (Exec.len_rep S23 rfl rfl a101 ?_)
 refine WL_step rfl rfl (Exec.move (v := Value.int .i64 (0)) rfl rfl ?_)
 refine WL_nil (at_normal ?_)
 obtain ⟨l101, hB100, hm⟩ := bind_some hm
 refine W_block (W_forS (fun k' s' f' w' => (fun (l101 : (List (List Edge))) => ∃ (s101 : PHeap) (hs101 : List Value), PHeap.le s s101 ∧ St w0 s101 (Res.arr encRaw 23 v104 hs101 :: Res.rows encEdge 53 hs101 l101 :: H) w' ∧ f' 3 = v104 ∧ f' 11 = v101 ∧ f' 12 = Value.int .i64 ((x100.Edges.length : Int)) ∧ f' 13 = Value.int .i64 (k' : Int)) s') hB100 ?_ ?_ ?_)
 ·have hS102 := ((hS101).f2).drop
  exact ⟨s, hs100, (PHeap.le_refl _), hS102, rfl, rfl, rfl, rfl⟩
 ·intro i100 l101 s102 f100 w102 hi100 hI100 hm100
  obtain ⟨s103, hs101, l102, hS103, p100, p101, p102, x101⟩ := hI100
  refine W_seq ?_
  refine W_region ?_
  refine WL_step rfl rfl (Exec.lss rfl x101 p102 ?_)
  refine WL_nil (at_normal ?_)
  refine W_seq ?_
  refine W_true (congrArg Value.bool (decide_eq_true (by omega))) ?_
  refine W_skip (at_normal ?_)
  refine W_seq ?_
  refine W_block ?_
  refine W_seq ?_
  refine W_region ?_
  obtain ⟨x102, q101, hm100⟩ := bind_some hm100
  refine WL_step rfl rfl (Exec.index_rep S23 rfl p101 x101 (a101.mono l102) q101 ?_)
  intro b101 o100 a103
  refine WL_step rfl rfl (Exec.load_at (E := encEdge) hS103 A53 rfl rfl rfl a103 ?_)
  intro v105 q102
  obtain rfl := encEdge_val.1 q102
  refine WL_step rfl rfl (Exec.alloc (cs := [Value.int .i64 (0), Value.int .i64 (0), Value.int .i64 (0)]) hS103 Z53 rfl rfl ?_)
  intro b102 w103 hS104
  refine WL_step rfl rfl (Exec.store_box (ds := [Value.int .i64 (x102.From), Value.int .i64 (x102.Label), Value.int .i64 (x102.To)]) (es := [Value.int .i64 (x102.From), Value.int .i64 (x102.Label), Value.int .i64 (x102.To)]) hS104 A53 rfl rfl rfl rfl (one_cons rfl (one_cons rfl (one_cons rfl one_nil))) (Nat.le_of_ble_eq_true rfl) rfl ?_)
  intro w104 hS105
  refine WL_nil (at_normal ?_)
  refine W_dl (n0 := 11) (.q 0 (.q 1 (.q 2 (.q 3 (.q 4 (.q 5 (.q 6 (.q 7 (.q 8 (.e 9 [0, 1, 2, 3, 4, 5, 6, 7] (.e 10 [0, 1, 2] .done))))))))))) hmix (by kernel_rfl) (by kernel_rfl) ?_
  have hS106 := hS105.drew
  refine DL_q rfl rfl (Exec.move (v := v104) rfl p100 ⟨rfl, ?_⟩)
  refine DL_q rfl rfl (Exec.field F53_1 rfl rfl rfl ⟨rfl, ?_⟩)
  refine DL_q rfl rfl (Exec.load_box (hS106) A3 rfl rfl rfl ⟨rfl, ?_⟩)
  refine DL_q rfl rfl (Exec.move (v := v104) rfl p100 ⟨rfl, ?_⟩)
  refine DL_q rfl rfl (Exec.field F53_1 rfl rfl rfl ⟨rfl, ?_⟩)
  refine DL_q rfl rfl (Exec.load_box (hS106) A3 rfl rfl rfl ⟨rfl, ?_⟩)
  obtain ⟨row100, q103, hm100⟩ := bind_some hm100
  obtain ⟨h100, e100, e101, _⟩ := ((((hS106).f2).f2).f1).rows_at q103
  obtain ⟨g100, c100, e102⟩ := (((hS106).f2).f2).arr_at e100
  refine DL_q rfl rfl (Exec.index_slice S86 rfl e102 rfl (idx_some e100).1 (idx_some e100).2.1 ⟨rfl, ?_⟩)
  refine DL_q rfl rfl (Exec.load_arr (F := encRaw) (((hS106).f2).f2) e102 A23 rfl rfl rfl e100 (Sub.refl _) ?_)
  intro v106 q104
  replace q104 := (encRaw_val.1 q104).1
  subst v106
  refine ⟨rfl, ?_⟩
  refine DL_q rfl rfl (Exec.load_box_agg (ds := [Value.int .i64 (x102.From), Value.int .i64 (x102.Label), Value.int .i64 (x102.To)]) (hS106) A53 rfl rfl rfl ⟨rfl, ?_⟩)
  refine DL_e rfl rfl (Exec.buildSlice (Te := 53) (cs := [Value.int .i64 (x102.From), Value.int .i64 (x102.Label), Value.int .i64 (x102.To)]) hS106 rfl (parts_cons (c := [Value.int .i64 (x102.From), Value.int .i64 (x102.Label), Value.int .i64 (x102.To)]) (cells_of rfl rfl) parts_nil) (fun _ => by kernel_rfl) ?_)
  intro b103 w105 hS107
  refine ⟨(ag_cons (ag_r rfl rfl (Exec.move (v := v104) rfl p100 ⟨rfl, rfl⟩)) (ag_cons (ag_r rfl rfl (Exec.field F53_1 rfl rfl rfl ⟨rfl, rfl⟩)) (ag_cons (ag_r rfl rfl (Exec.load_box ((hS107).f1) A3 rfl rfl rfl ⟨rfl, rfl⟩)) (ag_cons (ag_r rfl rfl (Exec.move (v := v104) rfl p100 ⟨rfl, rfl⟩)) (ag_cons (ag_r rfl rfl (Exec.field F53_1 rfl rfl rfl ⟨rfl, rfl⟩)) (ag_cons (ag_r rfl rfl (Exec.load_box ((hS107).f1) A3 rfl rfl rfl ⟨rfl, rfl⟩)) (ag_cons (ag_r rfl rfl (Exec.index_slice S86 rfl e102 rfl (idx_some e100).1 (idx_some e100).2.1 ⟨rfl, rfl⟩)) (ag_cons (ag_r rfl rfl (Exec.load_arr (F := encRaw) (((hS107).f3).f3) e102 A23 rfl rfl rfl e100 (Sub.refl _) (fun _ q => ⟨rfl, (encRaw_val.1 q).1⟩))) ag_nil)))))))), ?_⟩
  have hS108 := ((((hS107).f3).f3).f1).rows_split e101 (idx_some q103).2.2
  obtain ⟨l103, q105, hm100⟩ := bind_some hm100
  have hS109 := (hS108).f3
  have hS110 := (hS109).f1
  refine DL_e rfl rfl (Exec.append_box (E := encEdge) (ys := [x102]) hS110 S23 Z53 rfl (by decide) rfl rfl rfl rfl ⟨[Value.int .i64 (x102.From), Value.int .i64 (x102.Label), Value.int .i64 (x102.To)], [], rfl, ⟨[Value.int .i64 (x102.From)], [Value.int .i64 (x102.Label), Value.int .i64 (x102.To)], rfl, rfl, ⟨[Value.int .i64 (x102.Label)], [Value.int .i64 (x102.To)], rfl, rfl, rfl⟩⟩, rfl⟩ rfl q105 ?_)
  intro v107 w106 hS111
  refine ⟨(ag_cons (ag_r rfl rfl (Exec.move (v := v104) rfl p100 ⟨rfl, rfl⟩)) (ag_cons (ag_r rfl rfl (Exec.field F53_1 rfl rfl rfl ⟨rfl, rfl⟩)) (ag_cons (ag_r rfl rfl (Exec.load_box ((hS111).f3) A3 rfl rfl rfl ⟨rfl, rfl⟩)) ag_nil))), ?_⟩
  refine DL_done ?_
  refine WL_step rfl rfl (Exec.index_slice S86 rfl e102 rfl (idx_some e100).1 (idx_some e100).2.1 ?_)
  obtain ⟨l104, q106, hm100⟩ := bind_some hm100
  have hS112 := ((hS111).f2).f2
  have hS113 := (hS112).f2
  refine WL_step rfl rfl (Exec.store_row hS113 e101 e102 A23 rfl rfl rfl rfl q106 ?_)
  intro hs102 w107 hS114
  refine WL_nil (ib_normal (at_normal ?_))
  refine W_region ?_
  refine WL_step rfl rfl (Exec.add rfl x101 rfl ?_)
  refine WL_step rfl rfl (Exec.move (v := Value.int .i64 (IntKind.i64.wrap ((i100 : Int) + 1))) rfl rfl ?_)
  refine WL_nil (at_normal ?_)
  have e103 := Option.some.inj hm100
  subst s102
  have hS115 := ((hS114).f2).drop
  exact ⟨s103, hs102, l102, hS115, p100, p101, p102, (Eq.trans rfl (wrap_up hi100 (SliceRep.le a101)))⟩
 ·intro f101 w108 hI101
  obtain ⟨s104, hs101, l105, hS116, p103, p104, p105, x103⟩ := hI101
  refine W_seq ?_
  refine W_region ?_
  refine WL_step rfl rfl (Exec.lss rfl x103 p105 ?_)
  refine WL_nil (at_normal ?_)
  refine W_seq ?_
  refine W_false (congrArg Value.bool (decide_eq_false (by omega))) ?_
  refine W_exit (at_exit (at_exit (ib_here (at_normal ?_))))
  refine W_seq ?_
  refine W_region ?_
  refine WL_step rfl rfl (Exec.move (v := v104) rfl p103 ?_)
  refine WL_step rfl rfl (Exec.assign (v := v104) rfl rfl ?_)
  refine WL_nil (at_normal ?_)
  refine W_ret ?_
  have e104 := Option.some.inj hm
  subst r
  refine ⟨_, ret1 rfl, ?_⟩
  obtain ⟨s105, l106, hS117, r100⟩ := hS116.freezeGrid
  exact ⟨s105, v104, (PHeap.le.trans l105 l106), hS117, rfl, r100⟩

end Go.Pw
