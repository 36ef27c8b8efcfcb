/-
  The walks (printed by my generator).
-/
import Derived.Test.YtagooehmocpcjaaDoorSt3
import Derived.Test.YtagooehmocpcjaaDoorStX
set_option maxRecDepth 100000
set_option maxHeartbeats 4000000
set_option linter.unusedVariables false
namespace Go.Pw
open Go.Proofs
theorem IS53 : intStruct Tryd.prog 53 3 = true := by kernel_rfl

theorem N64 : (Tryd.f64.name == "runtime.NumGoroutine") = false := by kernel_rfl

theorem api_Edge__o_sim {w0 w : World} {s : PHeap} {H : List Res} {s_100 : (List Edge)} {v100 : Value} {r : Nat × (List Edge)} (hm : api_Edge__o_p s_100 = some r) (hS : St w0 s (Res.arr encEdge 53 v100 s_100 :: H) w)  :
  Calls Tryd.prog 64 #[v100] w fun e w' => ∃ v, e = .returned v ∧ ((un2 fun (y100 : Nat) (l100 : (List Edge)) => ∃ (s100 : PHeap) (v101 : Value), PHeap.le s s100 ∧ St w0 s100 (Res.arr encEdge 53 v100 l100 :: H) w' ∧ v = v101 ∧ SubOf 3 v100 v101 0 y100) r) := by
 unfold api_Edge__o_p at hm
 refine calls_of_W Tryd.func64 rfl rfl ?_
 refine W_seq ?_
 refine W_region ?_
 refine WL_step rfl rfl (Exec.assign (v := Value.slice none 0 0) rfl rfl ?_)
 refine WL_nil (at_normal ?_)
 refine W_seq ?_
 refine W_seq ?_
 refine W_region ?_
 refine WL_step rfl rfl (Exec.move (v := v100) rfl rfl ?_)
 refine WL_step rfl rfl (Exec.len_arr (hS) S23 rfl rfl ?_)
 refine WL_step rfl rfl (Exec.lss rfl rfl rfl ?_)
 refine WL_nil (at_normal ?_)
 rcases ite_some hm with ⟨hc100, hm⟩ | ⟨hc100, hm⟩
 ·refine W_cond_t rfl hc100 ?_
  refine W_seq ?_
  refine W_region ?_
  refine WL_step rfl rfl (Exec.move (v := v100) rfl rfl ?_)
  refine WL_step rfl rfl (Exec.assign (v := v100) rfl rfl ?_)
  refine WL_nil (at_normal ?_)
  refine W_ret (at_ret ?_)
  have e100 := Option.some.inj hm
  subst r
  refine ⟨_, ret1 rfl, ?_⟩
  exact ⟨s, v100, (PHeap.le_refl _), hS, rfl, (Or.inl ⟨rfl, rfl, (hS).arr_shape⟩)⟩
 ·refine W_cond_f rfl hc100 ?_
  replace hc100 := not_true hc100
  refine W_skip (at_normal ?_)
  refine W_seq ?_
  refine W_seq ?_
  refine W_region ?_
  refine WL_step rfl rfl (Exec.assign (v := Value.int .i64 (1)) rfl rfl ?_)
  refine WL_nil (at_normal ?_)
  obtain ⟨c100, hB100, hr100, hn100, hb100⟩ := ctl_some hm
  refine W_mid (M := fun f' w' => ∃ s', (c100 = .next s' ∨ c100 = .brk s') ∧ (fun (k100 : Int) => ∃ (s101 : PHeap) , PHeap.le s s101 ∧ St w0 s101 (Res.arr encEdge 53 v100 s_100 :: H) w' ∧ f' 0 = v100 ∧ f' 3 = Value.int .i64 (k100)) s') ?_ ?_
  ·refine W_block (W_while (fun s' f' w' => (fun (k101 : Int) => ∃ (s102 : PHeap) , PHeap.le s s102 ∧ St w0 s102 (Res.arr encEdge 53 v100 s_100 :: H) w' ∧ f' 0 = v100 ∧ f' 3 = Value.int .i64 (k101)) s') hB100 ?_ ?_)
   ·exact ⟨s, (PHeap.le_refl _), hS, rfl, rfl⟩
   ·intro k101 c101 f100 w100 hI100 hm100 hres100
    obtain ⟨s103, l101, hS100, p100, p101⟩ := hI100
    refine W_seq ?_
    refine W_seq ?_
    refine W_region ?_
    refine WL_step rfl rfl (Exec.move (v := Value.int .i64 (k101)) rfl p101 ?_)
    refine WL_step rfl rfl (Exec.move (v := v100) rfl p100 ?_)
    refine WL_step rfl rfl (Exec.len_arr (hS100) S23 rfl rfl ?_)
    refine WL_step rfl rfl (Exec.lss rfl rfl rfl ?_)
    refine WL_nil (at_normal ?_)
    rcases ite_some hm100 with ⟨hc101, hm100⟩ | ⟨hc101, hm100⟩
    ·refine W_cond_t rfl hc101 ?_
     refine W_skip (at_normal ?_)
     refine W_seq ?_
     refine W_block ?_
     refine W_seq ?_
     refine W_dl (n0 := 10) (.q 0 (.q 1 (.q 2 (.q 3 (.q 4 (.q 5 (.q 6 (.q 7 (.q 8 (.q 9 .done)))))))))) hmix (by kernel_rfl) (by kernel_rfl) ?_
     have hS101 := hS100.drew
     refine DL_q rfl rfl (Exec.move (v := v100) rfl p100 ⟨rfl, ?_⟩)
     refine DL_q rfl rfl (Exec.move (v := Value.int .i64 (k101)) rfl p101 ⟨rfl, ?_⟩)
     obtain ⟨x100, q100, hm100⟩ := bind_some hm100
     obtain ⟨g100, c102, e101⟩ := (hS101).arr_at q100
     refine DL_q rfl rfl (Exec.index_slice S23 rfl e101 rfl (idx_some q100).1 (idx_some q100).2.1 ⟨rfl, ?_⟩)
     refine DL_q rfl rfl (Exec.load_arr (F := encEdge) (hS101) e101 A53 rfl rfl rfl q100 (Sub.refl _) ?_)
     intro v102 q101
     obtain rfl := encEdge_val.1 q101
     refine ⟨rfl, ?_⟩
     refine DL_q rfl rfl (Exec.move (v := v100) rfl p100 ⟨rfl, ?_⟩)
     refine DL_q rfl rfl (Exec.move (v := Value.int .i64 (k101)) rfl p101 ⟨rfl, ?_⟩)
     refine DL_q rfl rfl (Exec.sub rfl rfl rfl ⟨rfl, ?_⟩)
     obtain ⟨x101, q102, hm100⟩ := bind_some hm100
     obtain ⟨g101, c103, e102⟩ := (hS101).arr_at q102
     refine DL_q rfl rfl (Exec.index_slice S23 rfl e102 rfl (idx_some q102).1 (idx_some q102).2.1 ⟨rfl, ?_⟩)
     refine DL_q rfl rfl (Exec.load_arr (F := encEdge) (hS101) e102 A53 rfl rfl rfl q102 (Sub.refl _) ?_)
     intro v103 q103
     obtain rfl := encEdge_val.1 q103
     refine ⟨rfl, ?_⟩
     refine DL_q rfl rfl (Exec.ints_eql (xs := [x100.From, x100.Label, x100.To]) (ys := [x101.From, x101.Label, x101.To]) IS53 rfl rfl rfl rfl rfl rfl rfl ⟨rfl, ?_⟩)
     refine DL_done ?_
     refine WL_nil (at_normal ?_)
     rcases ite_some hm100 with ⟨hc102, hm100⟩ | ⟨hc102, hm100⟩
     ·refine W_cond_t rfl hc102 ?_
      refine W_seq ?_
      refine W_region ?_
      refine WL_step rfl rfl (Exec.move (v := v100) rfl p100 ?_)
      refine WL_step rfl rfl (Exec.move (v := Value.int .i64 (k101)) rfl p101 ?_)
      obtain ⟨n100, q104, hm100⟩ := bind_some hm100
      refine WL_step rfl rfl (Exec.sub_from (hS101) S23 rfl rfl rfl q104 ?_)
      intro v104 h100
      refine WL_step rfl rfl (Exec.assign (v := v104) rfl rfl ?_)
      refine WL_nil (at_normal ?_)
      refine W_seq ?_
      refine W_seq ?_
      refine W_region ?_
      refine WL_step rfl rfl (Exec.assign (v := Value.int .i64 (1)) rfl rfl ?_)
      refine WL_nil (at_normal ?_)
      obtain ⟨c104, hB101, hr101, hn101, hb101⟩ := ctl_some hm100
      refine W_mid (M := fun f' w' => ∃ s', (c104 = .next s' ∨ c104 = .brk s') ∧ (un3 fun (k102 : Int) (k103 : Int) (l102 : (List Edge)) => ∃ (s104 : PHeap) , PHeap.le s103 s104 ∧ St w0 s104 (Res.arr encEdge 53 v100 l102 :: H) w' ∧ f' 0 = v100 ∧ f' 3 = Value.int .i64 (k102) ∧ f' 4 = v104 ∧ f' 5 = Value.int .i64 (k103)) s') ?_ ?_
      ·refine W_block (W_while (fun s' f' w' => (un3 fun (k104 : Int) (k105 : Int) (l103 : (List Edge)) => ∃ (s105 : PHeap) , PHeap.le s103 s105 ∧ St w0 s105 (Res.arr encEdge 53 v100 l103 :: H) w' ∧ f' 0 = v100 ∧ f' 3 = Value.int .i64 (k104) ∧ f' 4 = v104 ∧ f' 5 = Value.int .i64 (k105)) s') hB101 ?_ ?_)
       ·exact ⟨s103, (PHeap.le_refl _), hS101, p100, p101, rfl, rfl⟩
       ·intro t100 c105 f101 w101 hI101 hm101 hres101
        obtain ⟨k104, k105, l103⟩ := t100
        replace hm101 := un3_eq hm101
        obtain ⟨s106, l104, hS102, p102, p103, p104, p105⟩ := hI101
        refine W_seq ?_
        refine W_seq ?_
        refine W_region ?_
        refine WL_step rfl rfl (Exec.move (v := Value.int .i64 (k105)) rfl p105 ?_)
        refine WL_step rfl rfl (Exec.move (v := v104) rfl p104 ?_)
        refine WL_step rfl rfl (Exec.len_sub S23 h100 rfl rfl ?_)
        refine WL_step rfl rfl (Exec.lss rfl rfl rfl ?_)
        refine WL_nil (at_normal ?_)
        rcases ite_some hm101 with ⟨hc103, hm101⟩ | ⟨hc103, hm101⟩
        ·refine W_cond_t rfl hc103 ?_
         refine W_skip (at_normal ?_)
         refine W_seq ?_
         refine W_block ?_
         refine W_seq ?_
         refine W_dl (n0 := 10) (.q 0 (.q 1 (.q 2 (.q 3 (.q 4 (.q 5 (.q 6 (.q 7 (.q 8 (.q 9 .done)))))))))) hmix (by kernel_rfl) (by kernel_rfl) ?_
         have hS103 := hS102.drew
         refine DL_q rfl rfl (Exec.move (v := v104) rfl p104 ⟨rfl, ?_⟩)
         refine DL_q rfl rfl (Exec.move (v := Value.int .i64 (k105)) rfl p105 ⟨rfl, ?_⟩)
         obtain ⟨x102, q105, hm101⟩ := bind_some hm101
         obtain ⟨g102, c106, e103⟩ := (hS103).arr_at (idxV_some q105).2.2
         refine DL_q rfl rfl (Exec.index_sub S23 (view_some q104).1 h100 e103 rfl rfl rfl (idxV_some q105).1 (idxV_some q105).2.1 ⟨rfl, ?_⟩)
         refine DL_q rfl rfl (Exec.load_arr (F := encEdge) (hS103) e103 A53 rfl rfl rfl (idxV_some q105).2.2 (Sub.refl _) ?_)
         intro v105 q106
         obtain rfl := encEdge_val.1 q106
         refine ⟨rfl, ?_⟩
         refine DL_q rfl rfl (Exec.move (v := v104) rfl p104 ⟨rfl, ?_⟩)
         refine DL_q rfl rfl (Exec.move (v := Value.int .i64 (k105)) rfl p105 ⟨rfl, ?_⟩)
         refine DL_q rfl rfl (Exec.sub rfl rfl rfl ⟨rfl, ?_⟩)
         obtain ⟨x103, q107, hm101⟩ := bind_some hm101
         obtain ⟨g103, c107, e104⟩ := (hS103).arr_at (idxV_some q107).2.2
         refine DL_q rfl rfl (Exec.index_sub S23 (view_some q104).1 h100 e104 rfl rfl rfl (idxV_some q107).1 (idxV_some q107).2.1 ⟨rfl, ?_⟩)
         refine DL_q rfl rfl (Exec.load_arr (F := encEdge) (hS103) e104 A53 rfl rfl rfl (idxV_some q107).2.2 (Sub.refl _) ?_)
         intro v106 q108
         obtain rfl := encEdge_val.1 q108
         refine ⟨rfl, ?_⟩
         refine DL_q rfl rfl (Exec.ints_neq (xs := [x102.From, x102.Label, x102.To]) (ys := [x103.From, x103.Label, x103.To]) IS53 rfl rfl rfl rfl rfl rfl rfl ⟨rfl, ?_⟩)
         refine DL_done ?_
         refine WL_nil (at_normal ?_)
         obtain ⟨t101, ht100, hm101⟩ := bind_some hm101
         refine W_mid (M := fun f' w' => (un2 fun (k106 : Int) (l105 : (List Edge)) => ∃ (s107 : PHeap) , PHeap.le s106 s107 ∧ St w0 s107 (Res.arr encEdge 53 v100 l105 :: H) w' ∧ f' 0 = v100 ∧ f' 3 = Value.int .i64 (k106) ∧ f' 4 = v104 ∧ f' 5 = Value.int .i64 (k105)) t101) ?_ ?_
         ·rcases ite_some ht100 with ⟨hc104, ht100⟩ | ⟨hc104, ht100⟩
          ·refine W_cond_t rfl hc104 ?_
           refine W_seq ?_
           refine W_region ?_
           refine WL_step rfl rfl (Exec.move (v := v100) rfl p102 ?_)
           refine WL_step rfl rfl (Exec.move (v := Value.int .i64 (k104)) rfl p103 ?_)
           refine WL_step rfl rfl (Exec.move (v := v104) rfl p104 ?_)
           refine WL_step rfl rfl (Exec.move (v := Value.int .i64 (k105)) rfl p105 ?_)
           obtain ⟨x104, q109, ht100⟩ := bind_some ht100
           obtain ⟨g104, c108, e105⟩ := (hS103).arr_at (idxV_some q109).2.2
           refine WL_step rfl rfl (Exec.index_sub S23 (view_some q104).1 h100 e105 rfl rfl rfl (idxV_some q109).1 (idxV_some q109).2.1 ?_)
           refine WL_step rfl rfl (Exec.load_arr (F := encEdge) (hS103) e105 A53 rfl rfl rfl (idxV_some q109).2.2 (Sub.refl _) ?_)
           intro v107 q110
           obtain rfl := encEdge_val.1 q110
           obtain ⟨x105, q111, ht100⟩ := bind_some ht100
           obtain ⟨g105, c109, e106⟩ := (hS103).arr_at q111
           refine WL_step rfl rfl (Exec.index_slice S23 rfl e106 rfl (idx_some q111).1 (idx_some q111).2.1 ?_)
           obtain ⟨l106, q112, ht100⟩ := bind_some ht100
           refine WL_step rfl rfl (Exec.store_arr hS103 e106 A53 rfl rfl rfl rfl (encEdge_val.2 rfl) q112 ?_)
           intro w102 hS104
           refine WL_nil (at_normal ?_)
           refine W_region ?_
           refine WL_step rfl rfl (Exec.move (v := Value.int .i64 (k104)) rfl p103 ?_)
           refine WL_step rfl rfl (Exec.add rfl rfl rfl ?_)
           refine WL_step rfl rfl (Exec.assign (v := Value.int .i64 (IntKind.i64.wrap (k104 + 1))) rfl rfl ?_)
           refine WL_nil (at_normal ?_)
           have e107 := Option.some.inj ht100
           subst t101
           exact ⟨s106, (PHeap.le_refl _), hS104, p102, rfl, p104, p105⟩
          ·refine W_cond_f rfl hc104 ?_
           replace hc104 := not_true hc104
           refine W_skip (at_normal ?_)
           have e108 := Option.some.inj ht100
           subst t101
           exact ⟨s106, (PHeap.le_refl _), hS103, p102, p103, p104, p105⟩
         ·intro f102 w103 hM100
          obtain ⟨k106, l105⟩ := t101
          replace hm101 := un2_eq hm101
          obtain ⟨s108, l107, hS105, p106, p107, p108, p109⟩ := hM100
          refine (ib_normal (at_normal ?_))
          refine W_region ?_
          refine WL_step rfl rfl (Exec.move (v := Value.int .i64 (k105)) rfl p109 ?_)
          refine WL_step rfl rfl (Exec.add rfl rfl rfl ?_)
          refine WL_step rfl rfl (Exec.assign (v := Value.int .i64 (IntKind.i64.wrap (k105 + 1))) rfl rfl ?_)
          refine WL_nil (at_normal ?_)
          have e109 := Option.some.inj hm101
          subst c105
          refine ⟨_, rfl, ?_⟩; exact ⟨s108, (PHeap.le.trans l104 l107), hS105, p106, p107, p108, rfl⟩
        ·refine W_cond_f rfl hc103 ?_
         replace hc103 := not_true hc103
         refine W_exit (at_exit (at_exit (ib_here (at_normal ?_))))
         have e110 := Option.some.inj hm101
         subst c105
         refine ⟨_, .inr (hres101 (by intro _ h; cases h)), ?_⟩; exact ⟨s106, l104, hS102, p102, p103, p104, p105⟩
      ·rintro f103 w104 ⟨t102, hc105, hM101⟩
       have hm100 := hc105.elim (hn101 _) (hb101 _)
       clear hc105
       obtain ⟨k102, k103, l102⟩ := t102
       replace hm100 := un3_eq hm100
       obtain ⟨s109, l108, hS106, p110, p111, p112, p113⟩ := hM101
       refine (at_normal ?_)
       refine W_seq ?_
       refine W_region ?_
       refine WL_step rfl rfl (Exec.move (v := v100) rfl p110 ?_)
       refine WL_step rfl rfl (Exec.move (v := Value.int .i64 (k102)) rfl p111 ?_)
       obtain ⟨n101, q113, hm100⟩ := bind_some hm100
       refine WL_step rfl rfl (Exec.sub_from (hS106) S23 rfl rfl rfl q113 ?_)
       intro v108 h101
       refine WL_step rfl rfl (Exec.clear_sub (E := encEdge) (y := (⟨0, 0, 0⟩ : Edge)) hS106 h101 (view_some q113).2.2.2.2.2 S23 Z53 ⟨[Value.int .i64 (0)], [Value.int .i64 (0), Value.int .i64 (0)], rfl, rfl, ⟨[Value.int .i64 (0)], [Value.int .i64 (0)], rfl, rfl, rfl⟩⟩ rfl rfl ?_)
       intro w105 hS107
       refine WL_nil (at_normal ?_)
       refine W_seq ?_
       refine W_region ?_
       refine WL_step rfl rfl (Exec.move (v := v100) rfl p110 ?_)
       refine WL_step rfl rfl (Exec.move (v := Value.int .i64 (k102)) rfl p111 ?_)
       obtain ⟨n102, q114, hm100⟩ := bind_some hm100
       refine WL_step rfl rfl (Exec.sub_to (hS107) S23 rfl rfl rfl q114 ?_)
       intro v109 h102
       refine WL_step rfl rfl (Exec.assign (v := v109) rfl rfl ?_)
       refine WL_nil (at_normal ?_)
       refine W_ret (ib_ret (at_ret (at_ret (ib_ret (at_ret (at_ret ?_))))))
       have e111 := Option.some.inj hm100
       subst c101
       have hq100 := hr100 _ (hres100 (by intro _ h; cases h))
       have e112 := Option.some.inj hq100
       subst r
       refine ⟨_, ret1 rfl, ?_⟩
       exact ⟨s109, v109, (PHeap.le.trans l101 l108), hS107, rfl, h102⟩
     ·refine W_cond_f rfl hc102 ?_
      replace hc102 := not_true hc102
      refine W_skip (ib_normal (at_normal ?_))
      refine W_region ?_
      refine WL_step rfl rfl (Exec.move (v := Value.int .i64 (k101)) rfl p101 ?_)
      refine WL_step rfl rfl (Exec.add rfl rfl rfl ?_)
      refine WL_step rfl rfl (Exec.assign (v := Value.int .i64 (IntKind.i64.wrap (k101 + 1))) rfl rfl ?_)
      refine WL_nil (at_normal ?_)
      have e113 := Option.some.inj hm100
      subst c101
      refine ⟨_, rfl, ?_⟩; exact ⟨s103, l101, hS101, p100, rfl⟩
    ·refine W_cond_f rfl hc101 ?_
     replace hc101 := not_true hc101
     refine W_exit (at_exit (at_exit (ib_here (at_normal ?_))))
     have e114 := Option.some.inj hm100
     subst c101
     refine ⟨_, .inr (hres100 (by intro _ h; cases h)), ?_⟩; exact ⟨s103, l101, hS100, p100, p101⟩
  ·rintro f104 w106 ⟨k100, hc106, hM102⟩
   have hm := hc106.elim (hn100 _) (hb100 _)
   clear hc106
   obtain ⟨s110, l109, hS108, p114, p115⟩ := hM102
   refine (at_normal ?_)
   refine W_seq ?_
   refine W_region ?_
   refine WL_step rfl rfl (Exec.move (v := v100) rfl p114 ?_)
   refine WL_step rfl rfl (Exec.assign (v := v100) rfl rfl ?_)
   refine WL_nil (at_normal ?_)
   refine W_ret ?_
   have e115 := Option.some.inj hm
   subst r
   refine ⟨_, ret1 rfl, ?_⟩
   exact ⟨s110, v100, l109, hS108, rfl, (Or.inl ⟨rfl, rfl, (hS108).arr_shape⟩)⟩

theorem N48 : (Tryd.f48.name == "runtime.NumGoroutine") = false := by kernel_rfl

theorem shrink_order_o_sim {w0 w : World} {s : PHeap} {H : List Res} {l100 : (List Edge)} {v100 : Value} {r : (List Edge)} (hm : shrink_order_o_p l100 = some r) (hS : St w0 s (Res.arr encEdge 53 v100 l100 :: H) w)  :
  Calls Tryd.prog 48 #[v100] w fun e w' => ∃ v, e = .returned v ∧ ((fun (l101 : (List Edge)) => ∃ (s100 : PHeap) (v101 : Value), PHeap.le s s100 ∧ St w0 s100 (Res.arr encEdge 53 v101 l101 :: H) w' ∧ v = v101) r) := by
 unfold shrink_order_o_p at hm
 refine calls_of_W Tryd.func48 rfl rfl ?_
 refine W_seq ?_
 refine W_region ?_
 refine WL_step rfl rfl (Exec.assign (v := Value.slice none 0 0) rfl rfl ?_)
 refine WL_nil (at_normal ?_)
 refine W_seq ?_
 refine W_region ?_
 refine WL_step rfl rfl (Exec.move (v := v100) rfl rfl ?_)
 obtain ⟨l102, q100, hm⟩ := bind_some hm
 refine WL_step rfl rfl (Exec.call rfl rfl Tryd.func54 rfl N54 (args_cons rfl (args_cons rfl args_nil)) ((sortEdges_sim q100 hS ).mono ?_))
 rintro _ w100 ⟨_, rfl, ⟨s101, l103, hS100, rfl⟩⟩
 refine ⟨_, rfl, ?_⟩
 refine WL_nil (at_normal ?_)
 refine W_seq ?_
 refine W_region ?_
 refine WL_step rfl rfl (Exec.move (v := v100) rfl rfl ?_)
 obtain ⟨t100, q101, hm⟩ := bind_some hm
 obtain ⟨y100, l104⟩ := t100
 replace hm := un2_eq hm
 refine WL_step rfl rfl (Exec.call rfl rfl Tryd.func64 rfl N64 (args_cons rfl args_nil) ((api_Edge__o_sim q101 hS100 ).mono ?_))
 rintro _ w101 ⟨v102, rfl, ⟨s102, _, l105, hS101, rfl, r100⟩⟩
 refine ⟨_, rfl, ?_⟩
 obtain ⟨u100, q102, hm⟩ := bind_some hm
 have hS102 := (hS101).arr_head r100 (by simpa using must_some q102)
 refine WL_step rfl rfl (Exec.assign (v := v102) rfl rfl ?_)
 refine WL_nil (at_normal ?_)
 refine W_ret ?_
 have e100 := Option.some.inj hm
 subst r
 refine ⟨_, ret1 rfl, ?_⟩
 exact ⟨s102, v102, (PHeap.le.trans l103 l105), hS102, rfl⟩

theorem N24 : (Tryd.f24.name == "runtime.NumGoroutine") = false := by kernel_rfl

theorem shrink_Quotient_o_sim {w0 w : World} {s : PHeap} {H : List Res} {x100 : System} {class100 : (List Int)} {v100 : Value} {v101 : Value} {v102 : Value} {v103 : Value} {r : (Option Int) × System} (hm : shrink_Quotient_o_p x100 class100 = some r) (hS : St w0 s (Res.arr (encInt .i64) 3 v103 class100 :: H) w) (a100 : SliceRep (encInt .i64) s v100 x100.Costs) (a101 : SliceRep encEdge s v101 x100.Edges) (a102 : SliceRep encBool s v102 x100.Goals) :
  Calls Tryd.prog 24 #[Value.agg #[Value.int .i64 (x100.States), Value.int .i64 (x100.Init), v100, v101, v102], v103] w fun e w' => ∃ v, e = .returned v ∧ ((un2 fun (y100 : (Option Int)) (y101 : System) => ∃ (s100 : PHeap) (v104 : Value) (v105 : Value) (v106 : Value), PHeap.le s s100 ∧ St w0 s100 (Res.arr (encInt .i64) 3 v103 class100 :: H) w' ∧ v = Value.tuple #[Value.agg #[Value.int .i64 (y101.States), Value.int .i64 (y101.Init), v104, v105, v106], errV 34 (y100)] ∧ SliceRep (encInt .i64) s100 v104 y101.Costs ∧ SliceRep encEdge s100 v105 y101.Edges ∧ SliceRep encBool s100 v106 y101.Goals) r) := by
 unfold shrink_Quotient_o_p at hm
 refine calls_of_W Tryd.func24 rfl rfl ?_
 refine W_seq ?_
 refine W_region ?_
 refine WL_step rfl rfl (Exec.box (cs := [Value.int .i64 (x100.States), Value.int .i64 (x100.Init), v100, v101, v102]) hS rfl rfl rfl ?_)
 intro b100 w100 hS100
 refine WL_step rfl rfl (Exec.alloc (cs := [Value.int .i64 (0), Value.int .i64 (0), Value.slice none 0 0, Value.slice none 0 0, Value.slice none 0 0]) hS100 Z26 rfl rfl ?_)
 intro b101 w101 hS101
 refine WL_step rfl rfl (Exec.assign (v := errV 34 (none)) rfl rfl ?_)
 refine WL_nil (at_normal ?_)
 refine W_seq ?_
 refine W_region ?_
 refine WL_step rfl rfl (Exec.move (v := v103) rfl rfl ?_)
 refine WL_step rfl rfl (Exec.field F26_0 rfl rfl rfl ?_)
 refine WL_step rfl rfl (Exec.load_box ((hS101).f1) A3 rfl rfl rfl ?_)
 obtain ⟨t100, q100, hm⟩ := bind_some hm
 obtain ⟨y102, y103⟩ := t100
 replace hm := un2_eq hm
 have hS102 := (hS101).f2
 refine WL_step rfl rfl (Exec.call rfl rfl Tryd.func46 rfl N46 (args_cons rfl (args_cons rfl args_nil)) ((shrink_classes_o_sim q100 hS102 ).mono ?_))
 rintro _ w102 ⟨_, rfl, ⟨s101, l100, hS103, rfl⟩⟩
 refine ⟨_, rfl, ?_⟩
 refine WL_step rfl rfl (Exec.move (v := Value.tuple #[Value.int .i64 (y102), Value.bool (y103)]) rfl rfl ?_)
 refine WL_step rfl rfl (Exec.extract (v := Value.int .i64 (y102)) rfl rfl rfl ?_)
 refine WL_step rfl rfl (Exec.extract (v := Value.bool (y103)) rfl rfl rfl ?_)
 refine WL_step rfl rfl (Exec.assign (v := Value.int .i64 (y102)) rfl rfl ?_)
 refine WL_step rfl rfl (Exec.assign (v := Value.bool (y103)) rfl rfl ?_)
 refine WL_nil (at_normal ?_)
 refine W_seq ?_
 refine W_seq ?_
 obtain ⟨z100, ht100, hm⟩ := bind_some hm
 refine W_mid (M := fun f' w' => (fun (z100 : Bool) => ∃ (s102 : PHeap) , PHeap.le s101 s102 ∧ St w0 s102 (Res.arr (encInt .i64) 3 v103 class100 :: Res.box b100 26 [Value.int .i64 (x100.States), Value.int .i64 (x100.Init), v100, v101, v102] :: Res.box b101 26 [Value.int .i64 (0), Value.int .i64 (0), Value.slice none 0 0, Value.slice none 0 0, Value.slice none 0 0] :: H) w' ∧ f' 1 = v103 ∧ f' 2 = Value.pointer (some ⟨b100, 0, none⟩) ∧ f' 4 = Value.pointer (some ⟨b101, 0, none⟩) ∧ f' 6 = Value.int .i64 (y102) ∧ f' 26 = Value.bool (z100)) z100) ?_ ?_
 ·refine W_region ?_
  refine WL_step rfl rfl (Exec.load_box_agg (ds := [Value.int .i64 (x100.States), Value.int .i64 (x100.Init), v100, v101, v102]) ((hS103).f2) A26 rfl rfl rfl ?_)
  obtain ⟨y104, q101, ht100⟩ := bind_some ht100
  refine WL_step rfl rfl (Exec.call rfl rfl Tryd.func22 rfl N22 (args_cons rfl args_nil) ((transys_Valid_sim q101 hS103 (a100.mono l100) (a101.mono l100) (a102.mono l100)).mono ?_))
  rintro _ w103 ⟨_, rfl, ⟨s103, l101, hS104, rfl⟩⟩
  refine ⟨_, rfl, ?_⟩
  refine WL_step rfl rfl (Exec.not rfl rfl ?_)
  refine WL_step rfl rfl (Exec.move (v := Value.bool (!y104)) rfl rfl ?_)
  rcases ite_some ht100 with ⟨hc100, ht100⟩ | ⟨hc100, ht100⟩
  ·refine WL_pass rfl (yield_of rfl (congrArg Value.bool hc100)) rfl rfl ?_
   refine WL_pass rfl (yield_of rfl (congrArg Value.bool hc100)) rfl rfl ?_
   refine WL_step rfl rfl (Exec.pick_t (v := Value.bool (true)) rfl (congrArg Value.bool hc100) rfl ?_)
   refine WL_nil (at_normal ?_)
   have e100 := Option.some.inj ht100
   subst z100
   have hS105 := (hS104).f1
   have hS106 := (hS105).f2
   have hS107 := (hS106).f2
   exact ⟨s103, l101, hS107, rfl, rfl, rfl, rfl, rfl⟩
  ·replace hc100 := not_true hc100
   refine WL_run rfl (yield_of rfl (congrArg Value.bool hc100)) rfl (Exec.move (v := Value.bool (y103)) rfl rfl ?_)
   refine WL_run rfl (yield_of rfl (congrArg Value.bool hc100)) rfl (Exec.not rfl rfl ?_)
   refine WL_step rfl rfl (Exec.pick_f (v := Value.bool (!y103)) rfl (congrArg Value.bool hc100) rfl ?_)
   refine WL_nil (at_normal ?_)
   have e101 := Option.some.inj ht100
   subst z100
   have hS108 := (hS104).f1
   have hS109 := (hS108).f2
   have hS110 := (hS109).f2
   exact ⟨s103, l101, hS110, rfl, rfl, rfl, rfl, rfl⟩
 ·intro f100 w104 hM100
  obtain ⟨s104, l102, hS111, p100, p101, p102, p103, p104⟩ := hM100
  refine (at_normal ?_)
  rcases ite_some hm with ⟨hc101, hm⟩ | ⟨hc101, hm⟩
  ·refine W_cond_t p104 hc101 ?_
   refine W_seq ?_
   refine W_region ?_
   refine WL_step rfl rfl (Exec.build rfl parts_nil (v := Value.agg #[Value.int .i64 (0), Value.int .i64 (0), Value.slice none 0 0, Value.slice none 0 0, Value.slice none 0 0]) (fun _ => by kernel_rfl) ?_)
   refine WL_step rfl rfl (Exec.makeInterface C34 rfl rfl ?_)
   have hS112 := (hS111).f2
   refine WL_step rfl rfl (Exec.store_box (ds := [Value.int .i64 (0), Value.int .i64 (0), Value.slice none 0 0, Value.slice none 0 0, Value.slice none 0 0]) (es := [Value.int .i64 (0), Value.int .i64 (0), Value.slice none 0 0, Value.slice none 0 0, Value.slice none 0 0]) hS112 A26 rfl p102 rfl rfl (one_cons rfl (one_cons rfl (one_cons rfl (one_cons rfl (one_cons rfl one_nil))))) (Nat.le_of_ble_eq_true rfl) rfl ?_)
   intro w105 hS113
   refine WL_step rfl rfl (Exec.assign (v := errV 34 (some 2)) rfl rfl ?_)
   refine WL_nil (at_normal ?_)
   refine W_ret (at_ret ?_)
   have e102 := Option.some.inj hm
   subst r
   refine ⟨_, retG2 rfl ⟨_, _, p102, cellRes (hS113) A26⟩ rfl, ?_⟩
   have hS114 := (hS113).drop
   have hS115 := ((hS114).f1).drop
   exact ⟨s104, (Value.slice none 0 0), (Value.slice none 0 0), (Value.slice none 0 0), (PHeap.le.trans l100 l102), hS115, (tup2 rfl rfl), (SliceRep.nil _ _), (SliceRep.nil _ _), (SliceRep.nil _ _)⟩
  ·refine W_cond_f p104 hc101 ?_
   replace hc101 := not_true hc101
   refine W_skip (at_normal ?_)
   refine W_seq ?_
   obtain ⟨x101, q102, hm⟩ := bind_some hm
   obtain ⟨y105, q103, hm⟩ := bind_some hm
   obtain ⟨l103, q104, hm⟩ := bind_some hm
   refine W_mid (M := fun f' w' => ∃ (s105 : PHeap) (b102 : Nat) (v107 : Value) (v108 : Value), PHeap.le s104 s105 ∧ St w0 s105 (Res.arr (encInt .i64) 3 v103 class100 :: Res.box b100 26 [Value.int .i64 (x100.States), Value.int .i64 (x100.Init), v100, v101, v102] :: Res.box b101 26 [Value.int .i64 (0), Value.int .i64 (0), Value.slice none 0 0, Value.slice none 0 0, Value.slice none 0 0] :: Res.box b102 26 [Value.int .i64 (y102), Value.int .i64 (x101), v107, Value.slice none 0 0, v108] :: Res.arr (encInt .i64) 3 v107 y105 :: Res.arr encBool 4 v108 l103 :: H) w' ∧ f' 1 = v103 ∧ f' 2 = Value.pointer (some ⟨b100, 0, none⟩) ∧ f' 4 = Value.pointer (some ⟨b101, 0, none⟩) ∧ f' 8 = Value.pointer (some ⟨b102, 0, none⟩)) ?_ ?_
   ·refine W_dl (n0 := 13) (.q 0 (.q 1 (.q 2 (.q 3 (.q 4 (.q 5 (.q 6 (.q 7 (.q 9 (.alt (.e 8 [0, 1, 2, 3, 4, 5, 9] (.alt (.e 10 [0, 1, 2, 3, 4, 5] (.q 11 (.e 12 [0, 1, 2, 3, 4, 5, 11] .done))) (.e 12 [0, 1, 2, 3, 4, 5, 9] (.e 10 [0, 1, 2, 3, 4, 5] (.q 11 .done))))) (.alt (.e 10 [0, 1, 2, 3, 4, 5, 6, 7] (.alt (.e 8 [0, 1, 2, 3, 4, 5] (.q 11 (.e 12 [0, 1, 2, 3, 4, 5, 11] .done))) (.e 12 [0, 1, 2, 3, 4, 5, 6, 7] (.e 8 [0, 1, 2, 3, 4, 5] (.q 11 .done))))) (.e 12 [0, 1, 2, 3, 4, 5, 6, 7, 9] (.alt (.e 8 [0, 1, 2, 3, 4, 5, 9] (.e 10 [0, 1, 2, 3, 4, 5] (.q 11 .done))) (.e 10 [0, 1, 2, 3, 4, 5, 6, 7] (.e 8 [0, 1, 2, 3, 4, 5] (.q 11 .done)))))))))))))))) hmix (by kernel_rfl) (by kernel_rfl) ?_
    have hS116 := hS111.drew
    refine DL_q rfl rfl (Exec.move (v := Value.int .i64 (y102)) rfl p103 ⟨rfl, ?_⟩)
    refine DL_q rfl rfl (Exec.move (v := v103) rfl p100 ⟨rfl, ?_⟩)
    refine DL_q rfl rfl (Exec.field F26_1 rfl p101 rfl ⟨rfl, ?_⟩)
    refine DL_q rfl rfl (Exec.load_box ((hS116).f1) A3 rfl rfl rfl ⟨rfl, ?_⟩)
    obtain ⟨g100, c100, e103⟩ := (hS116).arr_at q102
    refine DL_q rfl rfl (Exec.index_slice S22 rfl e103 rfl (idx_some q102).1 (idx_some q102).2.1 ⟨rfl, ?_⟩)
    refine DL_q rfl rfl (Exec.load_arr (F := (encInt .i64)) (hS116) e103 A3 rfl rfl rfl q102 (Sub.refl _) ?_)
    intro v109 q105
    obtain rfl := encInt_val.1 q105
    refine ⟨rfl, ?_⟩
    refine DL_q rfl rfl (Exec.field F26_2 rfl p101 rfl ⟨rfl, ?_⟩)
    refine DL_q rfl rfl (Exec.load_box ((hS116).f1) A22 rfl rfl rfl ⟨rfl, ?_⟩)
    refine DL_q rfl rfl (Exec.move (v := Value.int .i64 (y102)) rfl p103 ⟨rfl, ?_⟩)
    refine DL_alt ?_ ?_
    ·refine DL_e rfl rfl (Exec.call rfl rfl Tryd.func47 rfl N47 (args_cons rfl args_nil) ((slices_Clone___int_int__sim q103 hS116 (a100.mono (PHeap.le.trans l100 l102))).mono ?_))
     rintro _ w106 ⟨v110, rfl, ⟨s106, _, l104, hS117, rfl⟩⟩
     refine ⟨_, rfl, ?_⟩
     refine ⟨(ag_cons (ag_r rfl rfl (Exec.move (v := Value.int .i64 (y102)) rfl p103 ⟨rfl, rfl⟩)) (ag_cons (ag_r rfl rfl (Exec.move (v := v103) rfl p100 ⟨rfl, rfl⟩)) (ag_cons (ag_r rfl rfl (Exec.field F26_1 rfl p101 rfl ⟨rfl, rfl⟩)) (ag_cons (ag_r rfl rfl (Exec.load_box ((hS117).f2) A3 rfl rfl rfl ⟨rfl, rfl⟩)) (ag_cons (ag_r rfl rfl (Exec.index_slice S22 rfl e103 rfl (idx_some q102).1 (idx_some q102).2.1 ⟨rfl, rfl⟩)) (ag_cons (ag_r rfl rfl (Exec.load_arr (F := (encInt .i64)) ((hS117).f1) e103 A3 rfl rfl rfl q102 (Sub.refl _) (fun _ q => ⟨rfl, encInt_val.1 q⟩))) (ag_cons (ag_r rfl rfl (Exec.move (v := Value.int .i64 (y102)) rfl p103 ⟨rfl, rfl⟩)) ag_nil))))))), ?_⟩
     refine DL_alt ?_ ?_
     ·refine DL_e rfl rfl (Exec.make (E := encBool) hS117 S24 Z4 rfl rfl rfl rfl q104 ?_)
      intro v111 w107 hS118
      refine ⟨(ag_cons (ag_r rfl rfl (Exec.move (v := Value.int .i64 (y102)) rfl p103 ⟨rfl, rfl⟩)) (ag_cons (ag_r rfl rfl (Exec.move (v := v103) rfl p100 ⟨rfl, rfl⟩)) (ag_cons (ag_r rfl rfl (Exec.field F26_1 rfl p101 rfl ⟨rfl, rfl⟩)) (ag_cons (ag_r rfl rfl (Exec.load_box ((hS118).f3) A3 rfl rfl rfl ⟨rfl, rfl⟩)) (ag_cons (ag_r rfl rfl (Exec.index_slice S22 rfl e103 rfl (idx_some q102).1 (idx_some q102).2.1 ⟨rfl, rfl⟩)) (ag_cons (ag_r rfl rfl (Exec.load_arr (F := (encInt .i64)) ((hS118).f2) e103 A3 rfl rfl rfl q102 (Sub.refl _) (fun _ q => ⟨rfl, encInt_val.1 q⟩))) ag_nil)))))), ?_⟩
      refine DL_q rfl rfl (Exec.build rfl (parts_cons (c := [Value.int .i64 (y102)]) (cells_of rfl rfl) (parts_cons (c := [Value.int .i64 (x101)]) (cells_of rfl rfl) (parts_cons (c := [v110]) (cells_of rfl (cells_one ((hS118).f1).arr_one)) (parts_cons (c := [v111]) (cells_of rfl (cells_one (hS118).arr_one)) parts_nil)))) (v := Value.agg #[Value.int .i64 (y102), Value.int .i64 (x101), v110, Value.slice none 0 0, v111]) (fun _ => by kernel_rfl) ⟨rfl, ?_⟩)
      refine DL_e rfl rfl (Exec.alloc (cs := [Value.int .i64 (0), Value.int .i64 (0), Value.slice none 0 0, Value.slice none 0 0, Value.slice none 0 0]) hS118 Z26 rfl rfl ?_)
      intro b103 w108 hS119
      refine ⟨(ag_cons (ag_r rfl rfl (Exec.move (v := Value.int .i64 (y102)) rfl p103 ⟨rfl, rfl⟩)) (ag_cons (ag_r rfl rfl (Exec.move (v := v103) rfl p100 ⟨rfl, rfl⟩)) (ag_cons (ag_r rfl rfl (Exec.field F26_1 rfl p101 rfl ⟨rfl, rfl⟩)) (ag_cons (ag_r rfl rfl (Exec.load_box ((hS119).f4) A3 rfl rfl rfl ⟨rfl, rfl⟩)) (ag_cons (ag_r rfl rfl (Exec.index_slice S22 rfl e103 rfl (idx_some q102).1 (idx_some q102).2.1 ⟨rfl, rfl⟩)) (ag_cons (ag_r rfl rfl (Exec.load_arr (F := (encInt .i64)) ((hS119).f3) e103 A3 rfl rfl rfl q102 (Sub.refl _) (fun _ q => ⟨rfl, encInt_val.1 q⟩))) (ag_cons (ag_r rfl rfl (Exec.build rfl (parts_cons (c := [Value.int .i64 (y102)]) (cells_of rfl rfl) (parts_cons (c := [Value.int .i64 (x101)]) (cells_of rfl rfl) (parts_cons (c := [v110]) (cells_of rfl (cells_one ((hS119).f2).arr_one)) (parts_cons (c := [v111]) (cells_of rfl (cells_one ((hS119).f1).arr_one)) parts_nil)))) (v := Value.agg #[Value.int .i64 (y102), Value.int .i64 (x101), v110, Value.slice none 0 0, v111]) (fun _ => by kernel_rfl) ⟨rfl, rfl⟩)) ag_nil))))))), ?_⟩
      refine DL_done ?_
      refine WL_step rfl rfl (Exec.store_box (ds := [Value.int .i64 (y102), Value.int .i64 (x101), v110, Value.slice none 0 0, v111]) (es := [Value.int .i64 (y102), Value.int .i64 (x101), v110, Value.slice none 0 0, v111]) hS119 A26 rfl rfl rfl rfl (one_cons rfl (one_cons rfl (one_cons ((hS119).f2).arr_one (one_cons rfl (one_cons ((hS119).f1).arr_one one_nil))))) (Nat.le_of_ble_eq_true rfl) rfl ?_)
      intro w109 hS120
      refine WL_nil (at_normal ?_)
      have hS121 := (hS120).f1
      have hS122 := (hS121).f2
      have hS123 := (hS122).f2
      have hS124 := (hS123).f5
      have hS125 := (hS124).f5
      have hS126 := (hS125).f5
      exact ⟨s106, b103, v110, v111, l104, hS126, p100, p101, p102, rfl⟩
     refine DL_e rfl rfl (Exec.alloc (cs := [Value.int .i64 (0), Value.int .i64 (0), Value.slice none 0 0, Value.slice none 0 0, Value.slice none 0 0]) hS117 Z26 rfl rfl ?_)
     intro b104 w110 hS127
     refine ⟨(ag_cons (ag_r rfl rfl (Exec.move (v := Value.int .i64 (y102)) rfl p103 ⟨rfl, rfl⟩)) (ag_cons (ag_r rfl rfl (Exec.move (v := v103) rfl p100 ⟨rfl, rfl⟩)) (ag_cons (ag_r rfl rfl (Exec.field F26_1 rfl p101 rfl ⟨rfl, rfl⟩)) (ag_cons (ag_r rfl rfl (Exec.load_box ((hS127).f3) A3 rfl rfl rfl ⟨rfl, rfl⟩)) (ag_cons (ag_r rfl rfl (Exec.index_slice S22 rfl e103 rfl (idx_some q102).1 (idx_some q102).2.1 ⟨rfl, rfl⟩)) (ag_cons (ag_r rfl rfl (Exec.load_arr (F := (encInt .i64)) ((hS127).f2) e103 A3 rfl rfl rfl q102 (Sub.refl _) (fun _ q => ⟨rfl, encInt_val.1 q⟩))) (ag_cons (ag_r rfl rfl (Exec.move (v := Value.int .i64 (y102)) rfl p103 ⟨rfl, rfl⟩)) ag_nil))))))), ?_⟩
     refine DL_e rfl rfl (Exec.make (E := encBool) hS127 S24 Z4 rfl rfl rfl rfl q104 ?_)
     intro v112 w111 hS128
     refine ⟨(ag_cons (ag_r rfl rfl (Exec.move (v := Value.int .i64 (y102)) rfl p103 ⟨rfl, rfl⟩)) (ag_cons (ag_r rfl rfl (Exec.move (v := v103) rfl p100 ⟨rfl, rfl⟩)) (ag_cons (ag_r rfl rfl (Exec.field F26_1 rfl p101 rfl ⟨rfl, rfl⟩)) (ag_cons (ag_r rfl rfl (Exec.load_box ((hS128).f4) A3 rfl rfl rfl ⟨rfl, rfl⟩)) (ag_cons (ag_r rfl rfl (Exec.index_slice S22 rfl e103 rfl (idx_some q102).1 (idx_some q102).2.1 ⟨rfl, rfl⟩)) (ag_cons (ag_r rfl rfl (Exec.load_arr (F := (encInt .i64)) ((hS128).f3) e103 A3 rfl rfl rfl q102 (Sub.refl _) (fun _ q => ⟨rfl, encInt_val.1 q⟩))) ag_nil)))))), ?_⟩
     refine DL_q rfl rfl (Exec.build rfl (parts_cons (c := [Value.int .i64 (y102)]) (cells_of rfl rfl) (parts_cons (c := [Value.int .i64 (x101)]) (cells_of rfl rfl) (parts_cons (c := [v110]) (cells_of rfl (cells_one ((hS128).f2).arr_one)) (parts_cons (c := [v112]) (cells_of rfl (cells_one (hS128).arr_one)) parts_nil)))) (v := Value.agg #[Value.int .i64 (y102), Value.int .i64 (x101), v110, Value.slice none 0 0, v112]) (fun _ => by kernel_rfl) ⟨rfl, ?_⟩)
     refine DL_done ?_
     have hS129 := (hS128).f1
     refine WL_step rfl rfl (Exec.store_box (ds := [Value.int .i64 (y102), Value.int .i64 (x101), v110, Value.slice none 0 0, v112]) (es := [Value.int .i64 (y102), Value.int .i64 (x101), v110, Value.slice none 0 0, v112]) hS129 A26 rfl rfl rfl rfl (one_cons rfl (one_cons rfl (one_cons ((hS129).f2).arr_one (one_cons rfl (one_cons ((hS129).f1).arr_one one_nil))))) (Nat.le_of_ble_eq_true rfl) rfl ?_)
     intro w112 hS130
     refine WL_nil (at_normal ?_)
     have hS131 := (hS130).f1
     have hS132 := (hS131).f2
     have hS133 := (hS132).f2
     have hS134 := (hS133).f5
     have hS135 := (hS134).f5
     have hS136 := (hS135).f5
     exact ⟨s106, b104, v110, v112, l104, hS136, p100, p101, p102, rfl⟩
    refine DL_alt ?_ ?_
    ·refine DL_e rfl rfl (Exec.make (E := encBool) hS116 S24 Z4 rfl rfl rfl rfl q104 ?_)
     intro v113 w113 hS137
     refine ⟨(ag_cons (ag_r rfl rfl (Exec.move (v := Value.int .i64 (y102)) rfl p103 ⟨rfl, rfl⟩)) (ag_cons (ag_r rfl rfl (Exec.move (v := v103) rfl p100 ⟨rfl, rfl⟩)) (ag_cons (ag_r rfl rfl (Exec.field F26_1 rfl p101 rfl ⟨rfl, rfl⟩)) (ag_cons (ag_r rfl rfl (Exec.load_box ((hS137).f2) A3 rfl rfl rfl ⟨rfl, rfl⟩)) (ag_cons (ag_r rfl rfl (Exec.index_slice S22 rfl e103 rfl (idx_some q102).1 (idx_some q102).2.1 ⟨rfl, rfl⟩)) (ag_cons (ag_r rfl rfl (Exec.load_arr (F := (encInt .i64)) ((hS137).f1) e103 A3 rfl rfl rfl q102 (Sub.refl _) (fun _ q => ⟨rfl, encInt_val.1 q⟩))) (ag_cons (ag_r rfl rfl (Exec.field F26_2 rfl p101 rfl ⟨rfl, rfl⟩)) (ag_cons (ag_r rfl rfl (Exec.load_box ((hS137).f2) A22 rfl rfl rfl ⟨rfl, rfl⟩)) ag_nil)))))))), ?_⟩
     refine DL_alt ?_ ?_
     ·refine DL_e rfl rfl (Exec.call rfl rfl Tryd.func47 rfl N47 (args_cons rfl args_nil) ((slices_Clone___int_int__sim q103 hS137 (a100.mono (PHeap.le.trans l100 l102))).mono ?_))
      rintro _ w114 ⟨v114, rfl, ⟨s107, _, l105, hS138, rfl⟩⟩
      refine ⟨_, rfl, ?_⟩
      refine ⟨(ag_cons (ag_r rfl rfl (Exec.move (v := Value.int .i64 (y102)) rfl p103 ⟨rfl, rfl⟩)) (ag_cons (ag_r rfl rfl (Exec.move (v := v103) rfl p100 ⟨rfl, rfl⟩)) (ag_cons (ag_r rfl rfl (Exec.field F26_1 rfl p101 rfl ⟨rfl, rfl⟩)) (ag_cons (ag_r rfl rfl (Exec.load_box ((hS138).f3) A3 rfl rfl rfl ⟨rfl, rfl⟩)) (ag_cons (ag_r rfl rfl (Exec.index_slice S22 rfl e103 rfl (idx_some q102).1 (idx_some q102).2.1 ⟨rfl, rfl⟩)) (ag_cons (ag_r rfl rfl (Exec.load_arr (F := (encInt .i64)) ((hS138).f2) e103 A3 rfl rfl rfl q102 (Sub.refl _) (fun _ q => ⟨rfl, encInt_val.1 q⟩))) ag_nil)))))), ?_⟩
      refine DL_q rfl rfl (Exec.build rfl (parts_cons (c := [Value.int .i64 (y102)]) (cells_of rfl rfl) (parts_cons (c := [Value.int .i64 (x101)]) (cells_of rfl rfl) (parts_cons (c := [v114]) (cells_of rfl (cells_one (hS138).arr_one)) (parts_cons (c := [v113]) (cells_of rfl (cells_one ((hS138).f1).arr_one)) parts_nil)))) (v := Value.agg #[Value.int .i64 (y102), Value.int .i64 (x101), v114, Value.slice none 0 0, v113]) (fun _ => by kernel_rfl) ⟨rfl, ?_⟩)
      refine DL_e rfl rfl (Exec.alloc (cs := [Value.int .i64 (0), Value.int .i64 (0), Value.slice none 0 0, Value.slice none 0 0, Value.slice none 0 0]) hS138 Z26 rfl rfl ?_)
      intro b105 w115 hS139
      refine ⟨(ag_cons (ag_r rfl rfl (Exec.move (v := Value.int .i64 (y102)) rfl p103 ⟨rfl, rfl⟩)) (ag_cons (ag_r rfl rfl (Exec.move (v := v103) rfl p100 ⟨rfl, rfl⟩)) (ag_cons (ag_r rfl rfl (Exec.field F26_1 rfl p101 rfl ⟨rfl, rfl⟩)) (ag_cons (ag_r rfl rfl (Exec.load_box ((hS139).f4) A3 rfl rfl rfl ⟨rfl, rfl⟩)) (ag_cons (ag_r rfl rfl (Exec.index_slice S22 rfl e103 rfl (idx_some q102).1 (idx_some q102).2.1 ⟨rfl, rfl⟩)) (ag_cons (ag_r rfl rfl (Exec.load_arr (F := (encInt .i64)) ((hS139).f3) e103 A3 rfl rfl rfl q102 (Sub.refl _) (fun _ q => ⟨rfl, encInt_val.1 q⟩))) (ag_cons (ag_r rfl rfl (Exec.build rfl (parts_cons (c := [Value.int .i64 (y102)]) (cells_of rfl rfl) (parts_cons (c := [Value.int .i64 (x101)]) (cells_of rfl rfl) (parts_cons (c := [v114]) (cells_of rfl (cells_one ((hS139).f1).arr_one)) (parts_cons (c := [v113]) (cells_of rfl (cells_one ((hS139).f2).arr_one)) parts_nil)))) (v := Value.agg #[Value.int .i64 (y102), Value.int .i64 (x101), v114, Value.slice none 0 0, v113]) (fun _ => by kernel_rfl) ⟨rfl, rfl⟩)) ag_nil))))))), ?_⟩
      refine DL_done ?_
      refine WL_step rfl rfl (Exec.store_box (ds := [Value.int .i64 (y102), Value.int .i64 (x101), v114, Value.slice none 0 0, v113]) (es := [Value.int .i64 (y102), Value.int .i64 (x101), v114, Value.slice none 0 0, v113]) hS139 A26 rfl rfl rfl rfl (one_cons rfl (one_cons rfl (one_cons ((hS139).f1).arr_one (one_cons rfl (one_cons ((hS139).f2).arr_one one_nil))))) (Nat.le_of_ble_eq_true rfl) rfl ?_)
      intro w116 hS140
      refine WL_nil (at_normal ?_)
      have hS141 := (hS140).f2
      have hS142 := (hS141).f2
      have hS143 := (hS142).f2
      have hS144 := (hS143).f5
      have hS145 := (hS144).f5
      have hS146 := (hS145).f5
      exact ⟨s107, b105, v114, v113, l105, hS146, p100, p101, p102, rfl⟩
     refine DL_e rfl rfl (Exec.alloc (cs := [Value.int .i64 (0), Value.int .i64 (0), Value.slice none 0 0, Value.slice none 0 0, Value.slice none 0 0]) hS137 Z26 rfl rfl ?_)
     intro b106 w117 hS147
     refine ⟨(ag_cons (ag_r rfl rfl (Exec.move (v := Value.int .i64 (y102)) rfl p103 ⟨rfl, rfl⟩)) (ag_cons (ag_r rfl rfl (Exec.move (v := v103) rfl p100 ⟨rfl, rfl⟩)) (ag_cons (ag_r rfl rfl (Exec.field F26_1 rfl p101 rfl ⟨rfl, rfl⟩)) (ag_cons (ag_r rfl rfl (Exec.load_box ((hS147).f3) A3 rfl rfl rfl ⟨rfl, rfl⟩)) (ag_cons (ag_r rfl rfl (Exec.index_slice S22 rfl e103 rfl (idx_some q102).1 (idx_some q102).2.1 ⟨rfl, rfl⟩)) (ag_cons (ag_r rfl rfl (Exec.load_arr (F := (encInt .i64)) ((hS147).f2) e103 A3 rfl rfl rfl q102 (Sub.refl _) (fun _ q => ⟨rfl, encInt_val.1 q⟩))) (ag_cons (ag_r rfl rfl (Exec.field F26_2 rfl p101 rfl ⟨rfl, rfl⟩)) (ag_cons (ag_r rfl rfl (Exec.load_box ((hS147).f3) A22 rfl rfl rfl ⟨rfl, rfl⟩)) ag_nil)))))))), ?_⟩
     refine DL_e rfl rfl (Exec.call rfl rfl Tryd.func47 rfl N47 (args_cons rfl args_nil) ((slices_Clone___int_int__sim q103 hS147 (a100.mono (PHeap.le.trans l100 l102))).mono ?_))
     rintro _ w118 ⟨v115, rfl, ⟨s108, _, l106, hS148, rfl⟩⟩
     refine ⟨_, rfl, ?_⟩
     refine ⟨(ag_cons (ag_r rfl rfl (Exec.move (v := Value.int .i64 (y102)) rfl p103 ⟨rfl, rfl⟩)) (ag_cons (ag_r rfl rfl (Exec.move (v := v103) rfl p100 ⟨rfl, rfl⟩)) (ag_cons (ag_r rfl rfl (Exec.field F26_1 rfl p101 rfl ⟨rfl, rfl⟩)) (ag_cons (ag_r rfl rfl (Exec.load_box ((hS148).f4) A3 rfl rfl rfl ⟨rfl, rfl⟩)) (ag_cons (ag_r rfl rfl (Exec.index_slice S22 rfl e103 rfl (idx_some q102).1 (idx_some q102).2.1 ⟨rfl, rfl⟩)) (ag_cons (ag_r rfl rfl (Exec.load_arr (F := (encInt .i64)) ((hS148).f3) e103 A3 rfl rfl rfl q102 (Sub.refl _) (fun _ q => ⟨rfl, encInt_val.1 q⟩))) ag_nil)))))), ?_⟩
     refine DL_q rfl rfl (Exec.build rfl (parts_cons (c := [Value.int .i64 (y102)]) (cells_of rfl rfl) (parts_cons (c := [Value.int .i64 (x101)]) (cells_of rfl rfl) (parts_cons (c := [v115]) (cells_of rfl (cells_one (hS148).arr_one)) (parts_cons (c := [v113]) (cells_of rfl (cells_one ((hS148).f2).arr_one)) parts_nil)))) (v := Value.agg #[Value.int .i64 (y102), Value.int .i64 (x101), v115, Value.slice none 0 0, v113]) (fun _ => by kernel_rfl) ⟨rfl, ?_⟩)
     refine DL_done ?_
     have hS149 := (hS148).f1
     refine WL_step rfl rfl (Exec.store_box (ds := [Value.int .i64 (y102), Value.int .i64 (x101), v115, Value.slice none 0 0, v113]) (es := [Value.int .i64 (y102), Value.int .i64 (x101), v115, Value.slice none 0 0, v113]) hS149 A26 rfl rfl rfl rfl (one_cons rfl (one_cons rfl (one_cons ((hS149).f1).arr_one (one_cons rfl (one_cons ((hS149).f2).arr_one one_nil))))) (Nat.le_of_ble_eq_true rfl) rfl ?_)
     intro w119 hS150
     refine WL_nil (at_normal ?_)
     have hS151 := (hS150).f2
     have hS152 := (hS151).f2
     have hS153 := (hS152).f2
     have hS154 := (hS153).f5
     have hS155 := (hS154).f5
     have hS156 := (hS155).f5
     exact ⟨s108, b106, v115, v113, l106, hS156, p100, p101, p102, rfl⟩
    refine DL_e rfl rfl (Exec.alloc (cs := [Value.int .i64 (0), Value.int .i64 (0), Value.slice none 0 0, Value.slice none 0 0, Value.slice none 0 0]) hS116 Z26 rfl rfl ?_)
    intro b107 w120 hS157
    refine ⟨(ag_cons (ag_r rfl rfl (Exec.move (v := Value.int .i64 (y102)) rfl p103 ⟨rfl, rfl⟩)) (ag_cons (ag_r rfl rfl (Exec.move (v := v103) rfl p100 ⟨rfl, rfl⟩)) (ag_cons (ag_r rfl rfl (Exec.field F26_1 rfl p101 rfl ⟨rfl, rfl⟩)) (ag_cons (ag_r rfl rfl (Exec.load_box ((hS157).f2) A3 rfl rfl rfl ⟨rfl, rfl⟩)) (ag_cons (ag_r rfl rfl (Exec.index_slice S22 rfl e103 rfl (idx_some q102).1 (idx_some q102).2.1 ⟨rfl, rfl⟩)) (ag_cons (ag_r rfl rfl (Exec.load_arr (F := (encInt .i64)) ((hS157).f1) e103 A3 rfl rfl rfl q102 (Sub.refl _) (fun _ q => ⟨rfl, encInt_val.1 q⟩))) (ag_cons (ag_r rfl rfl (Exec.field F26_2 rfl p101 rfl ⟨rfl, rfl⟩)) (ag_cons (ag_r rfl rfl (Exec.load_box ((hS157).f2) A22 rfl rfl rfl ⟨rfl, rfl⟩)) (ag_cons (ag_r rfl rfl (Exec.move (v := Value.int .i64 (y102)) rfl p103 ⟨rfl, rfl⟩)) ag_nil))))))))), ?_⟩
    refine DL_alt ?_ ?_
    ·refine DL_e rfl rfl (Exec.call rfl rfl Tryd.func47 rfl N47 (args_cons rfl args_nil) ((slices_Clone___int_int__sim q103 hS157 (a100.mono (PHeap.le.trans l100 l102))).mono ?_))
     rintro _ w121 ⟨v116, rfl, ⟨s109, _, l107, hS158, rfl⟩⟩
     refine ⟨_, rfl, ?_⟩
     refine ⟨(ag_cons (ag_r rfl rfl (Exec.move (v := Value.int .i64 (y102)) rfl p103 ⟨rfl, rfl⟩)) (ag_cons (ag_r rfl rfl (Exec.move (v := v103) rfl p100 ⟨rfl, rfl⟩)) (ag_cons (ag_r rfl rfl (Exec.field F26_1 rfl p101 rfl ⟨rfl, rfl⟩)) (ag_cons (ag_r rfl rfl (Exec.load_box ((hS158).f3) A3 rfl rfl rfl ⟨rfl, rfl⟩)) (ag_cons (ag_r rfl rfl (Exec.index_slice S22 rfl e103 rfl (idx_some q102).1 (idx_some q102).2.1 ⟨rfl, rfl⟩)) (ag_cons (ag_r rfl rfl (Exec.load_arr (F := (encInt .i64)) ((hS158).f2) e103 A3 rfl rfl rfl q102 (Sub.refl _) (fun _ q => ⟨rfl, encInt_val.1 q⟩))) (ag_cons (ag_r rfl rfl (Exec.move (v := Value.int .i64 (y102)) rfl p103 ⟨rfl, rfl⟩)) ag_nil))))))), ?_⟩
     refine DL_e rfl rfl (Exec.make (E := encBool) hS158 S24 Z4 rfl rfl rfl rfl q104 ?_)
     intro v117 w122 hS159
     refine ⟨(ag_cons (ag_r rfl rfl (Exec.move (v := Value.int .i64 (y102)) rfl p103 ⟨rfl, rfl⟩)) (ag_cons (ag_r rfl rfl (Exec.move (v := v103) rfl p100 ⟨rfl, rfl⟩)) (ag_cons (ag_r rfl rfl (Exec.field F26_1 rfl p101 rfl ⟨rfl, rfl⟩)) (ag_cons (ag_r rfl rfl (Exec.load_box ((hS159).f4) A3 rfl rfl rfl ⟨rfl, rfl⟩)) (ag_cons (ag_r rfl rfl (Exec.index_slice S22 rfl e103 rfl (idx_some q102).1 (idx_some q102).2.1 ⟨rfl, rfl⟩)) (ag_cons (ag_r rfl rfl (Exec.load_arr (F := (encInt .i64)) ((hS159).f3) e103 A3 rfl rfl rfl q102 (Sub.refl _) (fun _ q => ⟨rfl, encInt_val.1 q⟩))) ag_nil)))))), ?_⟩
     refine DL_q rfl rfl (Exec.build rfl (parts_cons (c := [Value.int .i64 (y102)]) (cells_of rfl rfl) (parts_cons (c := [Value.int .i64 (x101)]) (cells_of rfl rfl) (parts_cons (c := [v116]) (cells_of rfl (cells_one ((hS159).f1).arr_one)) (parts_cons (c := [v117]) (cells_of rfl (cells_one (hS159).arr_one)) parts_nil)))) (v := Value.agg #[Value.int .i64 (y102), Value.int .i64 (x101), v116, Value.slice none 0 0, v117]) (fun _ => by kernel_rfl) ⟨rfl, ?_⟩)
     refine DL_done ?_
     have hS160 := (hS159).f2
     refine WL_step rfl rfl (Exec.store_box (ds := [Value.int .i64 (y102), Value.int .i64 (x101), v116, Value.slice none 0 0, v117]) (es := [Value.int .i64 (y102), Value.int .i64 (x101), v116, Value.slice none 0 0, v117]) hS160 A26 rfl rfl rfl rfl (one_cons rfl (one_cons rfl (one_cons ((hS160).f2).arr_one (one_cons rfl (one_cons ((hS160).f1).arr_one one_nil))))) (Nat.le_of_ble_eq_true rfl) rfl ?_)
     intro w123 hS161
     refine WL_nil (at_normal ?_)
     have hS162 := (hS161).f1
     have hS163 := (hS162).f2
     have hS164 := (hS163).f2
     have hS165 := (hS164).f5
     have hS166 := (hS165).f5
     have hS167 := (hS166).f5
     exact ⟨s109, b107, v116, v117, l107, hS167, p100, p101, p102, rfl⟩
    refine DL_e rfl rfl (Exec.make (E := encBool) hS157 S24 Z4 rfl rfl rfl rfl q104 ?_)
    intro v118 w124 hS168
    refine ⟨(ag_cons (ag_r rfl rfl (Exec.move (v := Value.int .i64 (y102)) rfl p103 ⟨rfl, rfl⟩)) (ag_cons (ag_r rfl rfl (Exec.move (v := v103) rfl p100 ⟨rfl, rfl⟩)) (ag_cons (ag_r rfl rfl (Exec.field F26_1 rfl p101 rfl ⟨rfl, rfl⟩)) (ag_cons (ag_r rfl rfl (Exec.load_box ((hS168).f3) A3 rfl rfl rfl ⟨rfl, rfl⟩)) (ag_cons (ag_r rfl rfl (Exec.index_slice S22 rfl e103 rfl (idx_some q102).1 (idx_some q102).2.1 ⟨rfl, rfl⟩)) (ag_cons (ag_r rfl rfl (Exec.load_arr (F := (encInt .i64)) ((hS168).f2) e103 A3 rfl rfl rfl q102 (Sub.refl _) (fun _ q => ⟨rfl, encInt_val.1 q⟩))) (ag_cons (ag_r rfl rfl (Exec.field F26_2 rfl p101 rfl ⟨rfl, rfl⟩)) (ag_cons (ag_r rfl rfl (Exec.load_box ((hS168).f3) A22 rfl rfl rfl ⟨rfl, rfl⟩)) ag_nil)))))))), ?_⟩
    refine DL_e rfl rfl (Exec.call rfl rfl Tryd.func47 rfl N47 (args_cons rfl args_nil) ((slices_Clone___int_int__sim q103 hS168 (a100.mono (PHeap.le.trans l100 l102))).mono ?_))
    rintro _ w125 ⟨v119, rfl, ⟨s110, _, l108, hS169, rfl⟩⟩
    refine ⟨_, rfl, ?_⟩
    refine ⟨(ag_cons (ag_r rfl rfl (Exec.move (v := Value.int .i64 (y102)) rfl p103 ⟨rfl, rfl⟩)) (ag_cons (ag_r rfl rfl (Exec.move (v := v103) rfl p100 ⟨rfl, rfl⟩)) (ag_cons (ag_r rfl rfl (Exec.field F26_1 rfl p101 rfl ⟨rfl, rfl⟩)) (ag_cons (ag_r rfl rfl (Exec.load_box ((hS169).f4) A3 rfl rfl rfl ⟨rfl, rfl⟩)) (ag_cons (ag_r rfl rfl (Exec.index_slice S22 rfl e103 rfl (idx_some q102).1 (idx_some q102).2.1 ⟨rfl, rfl⟩)) (ag_cons (ag_r rfl rfl (Exec.load_arr (F := (encInt .i64)) ((hS169).f3) e103 A3 rfl rfl rfl q102 (Sub.refl _) (fun _ q => ⟨rfl, encInt_val.1 q⟩))) ag_nil)))))), ?_⟩
    refine DL_q rfl rfl (Exec.build rfl (parts_cons (c := [Value.int .i64 (y102)]) (cells_of rfl rfl) (parts_cons (c := [Value.int .i64 (x101)]) (cells_of rfl rfl) (parts_cons (c := [v119]) (cells_of rfl (cells_one (hS169).arr_one)) (parts_cons (c := [v118]) (cells_of rfl (cells_one ((hS169).f1).arr_one)) parts_nil)))) (v := Value.agg #[Value.int .i64 (y102), Value.int .i64 (x101), v119, Value.slice none 0 0, v118]) (fun _ => by kernel_rfl) ⟨rfl, ?_⟩)
    refine DL_done ?_
    have hS170 := (hS169).f2
    refine WL_step rfl rfl (Exec.store_box (ds := [Value.int .i64 (y102), Value.int .i64 (x101), v119, Value.slice none 0 0, v118]) (es := [Value.int .i64 (y102), Value.int .i64 (x101), v119, Value.slice none 0 0, v118]) hS170 A26 rfl rfl rfl rfl (one_cons rfl (one_cons rfl (one_cons ((hS170).f1).arr_one (one_cons rfl (one_cons ((hS170).f2).arr_one one_nil))))) (Nat.le_of_ble_eq_true rfl) rfl ?_)
    intro w126 hS171
    refine WL_nil (at_normal ?_)
    have hS172 := (hS171).f2
    have hS173 := (hS172).f2
    have hS174 := (hS173).f2
    have hS175 := (hS174).f5
    have hS176 := (hS175).f5
    have hS177 := (hS176).f5
    exact ⟨s110, b107, v119, v118, l108, hS177, p100, p101, p102, rfl⟩
   ·intro f101 w127 hM101
    obtain ⟨s111, b102, v107, v108, l109, hS178, p105, p106, p107, p108⟩ := hM101
    refine (at_normal ?_)
    refine W_seq ?_
    refine W_seq ?_
    refine W_region ?_
    refine WL_step rfl rfl (Exec.field F26_4 rfl p106 rfl ?_)
    refine WL_step rfl rfl (Exec.load_box ((hS178).f1) A24 rfl rfl rfl ?_)
    refine WL_step rfl rfl (Exec.len_rep S24 rfl rfl (a102.mono (PHeap.le.trans (PHeap.le.trans l100 l102) l109)) ?_)
    refine WL_step rfl rfl (Exec.move (v := Value.int .i64 (0)) rfl rfl ?_)
    refine WL_nil (at_normal ?_)
    obtain ⟨l110, hB100, hm⟩ := bind_some hm
    refine W_block (W_forS (fun k' s' f' w' => (fun (l110 : (List Bool)) => ∃ (s112 : PHeap) , PHeap.le s111 s112 ∧ St w0 s112 (Res.arr (encInt .i64) 3 v103 class100 :: Res.box b100 26 [Value.int .i64 (x100.States), Value.int .i64 (x100.Init), v100, v101, v102] :: Res.box b101 26 [Value.int .i64 (0), Value.int .i64 (0), Value.slice none 0 0, Value.slice none 0 0, Value.slice none 0 0] :: Res.box b102 26 [Value.int .i64 (y102), Value.int .i64 (x101), v107, Value.slice none 0 0, v108] :: Res.arr (encInt .i64) 3 v107 y105 :: Res.arr encBool 4 v108 l110 :: H) w' ∧ f' 1 = v103 ∧ f' 2 = Value.pointer (some ⟨b100, 0, none⟩) ∧ f' 4 = Value.pointer (some ⟨b101, 0, none⟩) ∧ f' 8 = Value.pointer (some ⟨b102, 0, none⟩) ∧ f' 42 = v102 ∧ f' 43 = Value.int .i64 ((x100.Goals.length : Int)) ∧ f' 44 = Value.int .i64 (k' : Int)) s') hB100 ?_ ?_ ?_)
    ·have hS179 := (hS178).f5
     have hS180 := (hS179).f5
     have hS181 := (hS180).f5
     have hS182 := (hS181).f5
     have hS183 := (hS182).f5
     have hS184 := (hS183).f5
     exact ⟨s111, (PHeap.le_refl _), hS184, p105, p106, p107, p108, rfl, rfl, rfl⟩
    ·intro i100 l110 s113 f102 w128 hi100 hI100 hm100
     obtain ⟨s114, l111, hS185, p109, p110, p111, p112, p113, p114, x102⟩ := hI100
     refine W_seq ?_
     refine W_region ?_
     refine WL_step rfl rfl (Exec.lss rfl x102 p114 ?_)
     refine WL_nil (at_normal ?_)
     refine W_seq ?_
     refine W_true (congrArg Value.bool (decide_eq_true (by omega))) ?_
     refine W_skip (at_normal ?_)
     refine W_seq ?_
     refine W_block ?_
     refine W_seq ?_
     refine W_region ?_
     refine WL_step rfl rfl (Exec.move (v := Value.int .i64 ((i100 : Int))) rfl x102 ?_)
     obtain ⟨x103, q106, hm100⟩ := bind_some hm100
     refine WL_step rfl rfl (Exec.index_rep S24 rfl p113 x102 (a102.mono (PHeap.le.trans (PHeap.le.trans (PHeap.le.trans l100 l102) l109) l111)) q106 ?_)
     intro b108 o100 a103
     refine WL_step rfl rfl (Exec.load_at (E := encBool) hS185 A4 rfl rfl rfl a103 ?_)
     intro v120 q107
     obtain rfl := encBool_val.1 q107
     refine WL_step rfl rfl (Exec.assign (v := Value.int .i64 ((i100 : Int))) rfl rfl ?_)
     refine WL_step rfl rfl (Exec.assign (v := Value.bool (x103)) rfl rfl ?_)
     refine WL_nil (at_normal ?_)
     obtain ⟨l112, ht101, hm100⟩ := bind_some hm100
     refine W_mid (M := fun f' w' => (fun (l112 : (List Bool)) => ∃ (s115 : PHeap) , PHeap.le s114 s115 ∧ St w0 s115 (Res.arr (encInt .i64) 3 v103 class100 :: Res.box b100 26 [Value.int .i64 (x100.States), Value.int .i64 (x100.Init), v100, v101, v102] :: Res.box b101 26 [Value.int .i64 (0), Value.int .i64 (0), Value.slice none 0 0, Value.slice none 0 0, Value.slice none 0 0] :: Res.box b102 26 [Value.int .i64 (y102), Value.int .i64 (x101), v107, Value.slice none 0 0, v108] :: Res.arr (encInt .i64) 3 v107 y105 :: Res.arr encBool 4 v108 l112 :: H) w' ∧ f' 1 = v103 ∧ f' 2 = Value.pointer (some ⟨b100, 0, none⟩) ∧ f' 4 = Value.pointer (some ⟨b101, 0, none⟩) ∧ f' 8 = Value.pointer (some ⟨b102, 0, none⟩) ∧ f' 42 = v102 ∧ f' 43 = Value.int .i64 ((x100.Goals.length : Int)) ∧ f' 44 = Value.int .i64 ((i100 : Int))) l112) ?_ ?_
     ·refine W_dl (n0 := 17) (.q 0 (.q 1 (.q 2 (.q 3 (.q 4 (.q 5 (.q 6 (.q 7 (.q 8 (.q 9 (.q 10 (.q 11 (.q 12 (.q 13 (.q 14 (.q 15 (.q 16 .done))))))))))))))))) hmix (by kernel_rfl) (by kernel_rfl) ?_
      have hS186 := hS185.drew
      refine DL_q rfl rfl (Exec.field F26_4 rfl p112 rfl ⟨rfl, ?_⟩)
      refine DL_q rfl rfl (Exec.load_box ((hS186).f3) A24 rfl rfl rfl ⟨rfl, ?_⟩)
      refine DL_q rfl rfl (Exec.move (v := v103) rfl p109 ⟨rfl, ?_⟩)
      refine DL_q rfl rfl (Exec.move (v := Value.int .i64 ((i100 : Int))) rfl rfl ⟨rfl, ?_⟩)
      obtain ⟨x104, q108, ht101⟩ := bind_some ht101
      obtain ⟨g101, c101, e104⟩ := (hS186).arr_at q108
      refine DL_q rfl rfl (Exec.index_slice S22 rfl e104 rfl (idx_some q108).1 (idx_some q108).2.1 ⟨rfl, ?_⟩)
      refine DL_q rfl rfl (Exec.load_arr (F := (encInt .i64)) (hS186) e104 A3 rfl rfl rfl q108 (Sub.refl _) ?_)
      intro v121 q109
      obtain rfl := encInt_val.1 q109
      refine ⟨rfl, ?_⟩
      refine DL_q rfl rfl (Exec.field F26_4 rfl p112 rfl ⟨rfl, ?_⟩)
      refine DL_q rfl rfl (Exec.load_box ((hS186).f3) A24 rfl rfl rfl ⟨rfl, ?_⟩)
      refine DL_q rfl rfl (Exec.move (v := v103) rfl p109 ⟨rfl, ?_⟩)
      refine DL_q rfl rfl (Exec.move (v := Value.int .i64 ((i100 : Int))) rfl rfl ⟨rfl, ?_⟩)
      obtain ⟨g102, c102, e105⟩ := (hS186).arr_at q108
      refine DL_q rfl rfl (Exec.index_slice S22 rfl e105 rfl (idx_some q108).1 (idx_some q108).2.1 ⟨rfl, ?_⟩)
      refine DL_q rfl rfl (Exec.load_arr (F := (encInt .i64)) (hS186) e105 A3 rfl rfl rfl q108 (Sub.refl _) ?_)
      intro v122 q110
      obtain rfl := encInt_val.1 q110
      refine ⟨rfl, ?_⟩
      obtain ⟨x105, q111, ht101⟩ := bind_some ht101
      obtain ⟨g103, c103, e106⟩ := ((hS186).f5).arr_at q111
      refine DL_q rfl rfl (Exec.index_slice S24 rfl e106 rfl (idx_some q111).1 (idx_some q111).2.1 ⟨rfl, ?_⟩)
      refine DL_q rfl rfl (Exec.load_arr (F := encBool) ((hS186).f5) e106 A4 rfl rfl rfl q111 (Sub.refl _) ?_)
      intro v123 q112
      obtain rfl := encBool_val.1 q112
      refine ⟨rfl, ?_⟩
      refine DL_q rfl rfl (Exec.move (v := Value.bool (x105)) rfl rfl ⟨rfl, ?_⟩)
      rcases ite_some ht101 with ⟨hc102, ht101⟩ | ⟨hc102, ht101⟩
      ·refine DL_qp rfl rfl (yield_of rfl (congrArg Value.bool hc102)) rfl ?_
       refine DL_q rfl rfl (Exec.pick_t (v := Value.bool (true)) rfl (congrArg Value.bool hc102) rfl ⟨rfl, ?_⟩)
       refine DL_done ?_
       obtain ⟨g104, c104, e107⟩ := ((hS186).f5).arr_at q111
       refine WL_step rfl rfl (Exec.index_slice S24 rfl e107 rfl (idx_some q111).1 (idx_some q111).2.1 ?_)
       obtain ⟨l113, q113, ht101⟩ := bind_some ht101
       have hS187 := (hS186).f5
       refine WL_step rfl rfl (Exec.store_arr hS187 e107 A4 rfl rfl rfl rfl (encBool_val.2 rfl) q113 ?_)
       intro w129 hS188
       refine WL_nil (at_normal ?_)
       have e108 := Option.some.inj ht101
       subst l112
       have hS189 := (hS188).f5
       have hS190 := (hS189).f5
       have hS191 := (hS190).f5
       have hS192 := (hS191).f5
       have hS193 := (hS192).f5
       exact ⟨s114, (PHeap.le_refl _), hS193, p109, p110, p111, p112, p113, p114, x102⟩
      ·replace hc102 := not_true hc102
       refine DL_qg rfl rfl (yield_of rfl (congrArg Value.bool hc102)) (Exec.move (v := Value.bool (x103)) rfl rfl ⟨rfl, ?_⟩)
       refine DL_q rfl rfl (Exec.pick_f (v := Value.bool (x103)) rfl (congrArg Value.bool hc102) rfl ⟨rfl, ?_⟩)
       refine DL_done ?_
       obtain ⟨g105, c105, e109⟩ := ((hS186).f5).arr_at q111
       refine WL_step rfl rfl (Exec.index_slice S24 rfl e109 rfl (idx_some q111).1 (idx_some q111).2.1 ?_)
       obtain ⟨l114, q114, ht101⟩ := bind_some ht101
       have hS194 := (hS186).f5
       refine WL_step rfl rfl (Exec.store_arr hS194 e109 A4 rfl rfl rfl rfl (encBool_val.2 rfl) q114 ?_)
       intro w130 hS195
       refine WL_nil (at_normal ?_)
       have e110 := Option.some.inj ht101
       subst l112
       have hS196 := (hS195).f5
       have hS197 := (hS196).f5
       have hS198 := (hS197).f5
       have hS199 := (hS198).f5
       have hS200 := (hS199).f5
       exact ⟨s114, (PHeap.le_refl _), hS200, p109, p110, p111, p112, p113, p114, x102⟩
     ·intro f103 w131 hM102
      obtain ⟨s116, l115, hS201, p115, p116, p117, p118, p119, p120, p121⟩ := hM102
      refine (ib_normal (at_normal ?_))
      refine W_region ?_
      refine WL_step rfl rfl (Exec.add rfl p121 rfl ?_)
      refine WL_step rfl rfl (Exec.move (v := Value.int .i64 (IntKind.i64.wrap ((i100 : Int) + 1))) rfl rfl ?_)
      refine WL_nil (at_normal ?_)
      have e111 := Option.some.inj hm100
      subst s113
      have hS202 := (hS201).f5
      have hS203 := (hS202).f5
      have hS204 := (hS203).f5
      have hS205 := (hS204).f5
      have hS206 := (hS205).f5
      have hS207 := (hS206).f5
      exact ⟨s116, (PHeap.le.trans l111 l115), hS207, p115, p116, p117, p118, p119, p120, (Eq.trans rfl (wrap_up hi100 (SliceRep.le (a102.mono (PHeap.le.trans (PHeap.le.trans l100 l102) l109)))))⟩
    ·intro f104 w132 hI101
     obtain ⟨s117, l116, hS208, p122, p123, p124, p125, p126, p127, x106⟩ := hI101
     refine W_seq ?_
     refine W_region ?_
     refine WL_step rfl rfl (Exec.lss rfl x106 p127 ?_)
     refine WL_nil (at_normal ?_)
     refine W_seq ?_
     refine W_false (congrArg Value.bool (decide_eq_false (by omega))) ?_
     refine W_exit (at_exit (at_exit (ib_here (at_normal ?_))))
     refine W_seq ?_
     refine W_seq ?_
     refine W_region ?_
     refine WL_step rfl rfl (Exec.field F26_3 rfl p123 rfl ?_)
     refine WL_step rfl rfl (Exec.load_box ((hS208).f1) A23 rfl rfl rfl ?_)
     refine WL_step rfl rfl (Exec.len_rep S23 rfl rfl (a101.mono (PHeap.le.trans (PHeap.le.trans (PHeap.le.trans l100 l102) l109) l116)) ?_)
     refine WL_step rfl rfl (Exec.move (v := Value.int .i64 (0)) rfl rfl ?_)
     refine WL_nil (at_normal ?_)
     obtain ⟨z101, hB101, hm⟩ := bind_some hm
     refine W_block (W_forS (fun k' s' f' w' => (fun (z101 : (List Edge)) => ∃ (s118 : PHeap) (v124 : Value), PHeap.le s117 s118 ∧ St w0 s118 (Res.arr (encInt .i64) 3 v103 class100 :: Res.box b101 26 [Value.int .i64 (0), Value.int .i64 (0), Value.slice none 0 0, Value.slice none 0 0, Value.slice none 0 0] :: Res.box b102 26 [Value.int .i64 (y102), Value.int .i64 (x101), v107, v124, v108] :: Res.arr (encInt .i64) 3 v107 y105 :: Res.arr encEdge 53 v124 z101 :: Res.arr encBool 4 v108 l110 :: H) w' ∧ f' 1 = v103 ∧ f' 4 = Value.pointer (some ⟨b101, 0, none⟩) ∧ f' 8 = Value.pointer (some ⟨b102, 0, none⟩) ∧ f' 69 = v101 ∧ f' 70 = Value.int .i64 ((x100.Edges.length : Int)) ∧ f' 71 = Value.int .i64 (k' : Int)) s') hB101 ?_ ?_ ?_)
     ·have hS209 := hS208.nilArr encEdge 53
      have hS210 := ((hS209).f2).drop
      have hS211 := (hS210).f5
      have hS212 := (hS211).f1
      have hS213 := (hS212).f5
      have hS214 := (hS213).f5
      have hS215 := (hS214).f5
      have hS216 := (hS215).f5
      exact ⟨s117, (Value.slice none 0 0), (PHeap.le_refl _), hS216, p122, p124, p125, rfl, rfl, rfl⟩
     ·intro i101 z101 s119 f105 w133 hi101 hI102 hm101
      obtain ⟨s120, v124, l117, hS217, p128, p129, p130, p131, p132, x107⟩ := hI102
      refine W_seq ?_
      refine W_region ?_
      refine WL_step rfl rfl (Exec.lss rfl x107 p132 ?_)
      refine WL_nil (at_normal ?_)
      refine W_seq ?_
      refine W_true (congrArg Value.bool (decide_eq_true (by omega))) ?_
      refine W_skip (at_normal ?_)
      refine W_seq ?_
      refine W_block ?_
      refine W_seq ?_
      refine W_region ?_
      obtain ⟨x108, q115, hm101⟩ := bind_some hm101
      refine WL_step rfl rfl (Exec.index_rep S23 rfl p131 x107 (a101.mono (PHeap.le.trans (PHeap.le.trans (PHeap.le.trans (PHeap.le.trans l100 l102) l109) l116) l117)) q115 ?_)
      intro b109 o101 a104
      refine WL_step rfl rfl (Exec.load_at (E := encEdge) hS217 A53 rfl rfl rfl a104 ?_)
      intro v125 q116
      obtain rfl := encEdge_val.1 q116
      refine WL_step rfl rfl (Exec.alloc (cs := [Value.int .i64 (0), Value.int .i64 (0), Value.int .i64 (0)]) hS217 Z53 rfl rfl ?_)
      intro b110 w134 hS218
      refine WL_step rfl rfl (Exec.store_box (ds := [Value.int .i64 (x108.From), Value.int .i64 (x108.Label), Value.int .i64 (x108.To)]) (es := [Value.int .i64 (x108.From), Value.int .i64 (x108.Label), Value.int .i64 (x108.To)]) hS218 A53 rfl rfl rfl rfl (one_cons rfl (one_cons rfl (one_cons rfl one_nil))) (Nat.le_of_ble_eq_true rfl) rfl ?_)
      intro w135 hS219
      refine WL_nil (at_normal ?_)
      refine W_dl (n0 := 17) (.q 0 (.q 1 (.q 2 (.q 3 (.q 4 (.q 5 (.q 6 (.q 7 (.q 8 (.q 9 (.q 10 (.q 11 (.q 12 (.q 13 (.q 14 (.e 15 [0, 1] (.e 16 [] .done))))))))))))))))) hmix (by kernel_rfl) (by kernel_rfl) ?_
      have hS220 := hS219.drew
      refine DL_q rfl rfl (Exec.field F26_3 rfl p130 rfl ⟨rfl, ?_⟩)
      refine DL_q rfl rfl (Exec.load_box ((hS220).f3) A23 rfl rfl rfl ⟨rfl, ?_⟩)
      refine DL_q rfl rfl (Exec.move (v := v103) rfl p128 ⟨rfl, ?_⟩)
      refine DL_q rfl rfl (Exec.field F53_0 rfl rfl rfl ⟨rfl, ?_⟩)
      refine DL_q rfl rfl (Exec.load_box (hS220) A3 rfl rfl rfl ⟨rfl, ?_⟩)
      obtain ⟨x109, q117, hm101⟩ := bind_some hm101
      obtain ⟨g106, c106, e112⟩ := ((hS220).f1).arr_at q117
      refine DL_q rfl rfl (Exec.index_slice S22 rfl e112 rfl (idx_some q117).1 (idx_some q117).2.1 ⟨rfl, ?_⟩)
      refine DL_q rfl rfl (Exec.load_arr (F := (encInt .i64)) ((hS220).f1) e112 A3 rfl rfl rfl q117 (Sub.refl _) ?_)
      intro v126 q118
      obtain rfl := encInt_val.1 q118
      refine ⟨rfl, ?_⟩
      refine DL_q rfl rfl (Exec.field F53_1 rfl rfl rfl ⟨rfl, ?_⟩)
      refine DL_q rfl rfl (Exec.load_box (hS220) A3 rfl rfl rfl ⟨rfl, ?_⟩)
      refine DL_q rfl rfl (Exec.move (v := v103) rfl p128 ⟨rfl, ?_⟩)
      refine DL_q rfl rfl (Exec.field F53_2 rfl rfl rfl ⟨rfl, ?_⟩)
      refine DL_q rfl rfl (Exec.load_box (hS220) A3 rfl rfl rfl ⟨rfl, ?_⟩)
      obtain ⟨x110, q119, hm101⟩ := bind_some hm101
      obtain ⟨g107, c107, e113⟩ := ((hS220).f1).arr_at q119
      refine DL_q rfl rfl (Exec.index_slice S22 rfl e113 rfl (idx_some q119).1 (idx_some q119).2.1 ⟨rfl, ?_⟩)
      refine DL_q rfl rfl (Exec.load_arr (F := (encInt .i64)) ((hS220).f1) e113 A3 rfl rfl rfl q119 (Sub.refl _) ?_)
      intro v127 q120
      obtain rfl := encInt_val.1 q120
      refine ⟨rfl, ?_⟩
      refine DL_q rfl rfl (Exec.build rfl (parts_cons (c := [Value.int .i64 (x109)]) (cells_of rfl rfl) (parts_cons (c := [Value.int .i64 (x108.Label)]) (cells_of rfl rfl) (parts_cons (c := [Value.int .i64 (x110)]) (cells_of rfl rfl) parts_nil))) (v := Value.agg #[Value.int .i64 (x109), Value.int .i64 (x108.Label), Value.int .i64 (x110)]) (fun _ => by kernel_rfl) ⟨rfl, ?_⟩)
      refine DL_e rfl rfl (Exec.buildSlice (Te := 53) (cs := [Value.int .i64 (x109), Value.int .i64 (x108.Label), Value.int .i64 (x110)]) hS220 rfl (parts_cons (c := [Value.int .i64 (x109), Value.int .i64 (x108.Label), Value.int .i64 (x110)]) (cells_of rfl rfl) parts_nil) (fun _ => by kernel_rfl) ?_)
      intro b111 w136 hS221
      refine ⟨(ag_cons (ag_r rfl rfl (Exec.field F26_3 rfl p130 rfl ⟨rfl, rfl⟩)) (ag_cons (ag_r rfl rfl (Exec.load_box ((hS221).f4) A23 rfl rfl rfl ⟨rfl, rfl⟩)) ag_nil)), ?_⟩
      obtain ⟨l118, q121, hm101⟩ := bind_some hm101
      have hS222 := (hS221).f6
      refine DL_e rfl rfl (Exec.append_box (E := encEdge) (ys := [(⟨x109, x108.Label, x110⟩ : Edge)]) hS222 S23 Z53 rfl (by decide) rfl rfl rfl rfl ⟨[Value.int .i64 (x109), Value.int .i64 (x108.Label), Value.int .i64 (x110)], [], rfl, ⟨[Value.int .i64 (x109)], [Value.int .i64 (x108.Label), Value.int .i64 (x110)], rfl, rfl, ⟨[Value.int .i64 (x108.Label)], [Value.int .i64 (x110)], rfl, rfl, rfl⟩⟩, rfl⟩ rfl q121 ?_)
      intro v128 w137 hS223
      refine ⟨ag_nil, ?_⟩
      refine DL_done ?_
      refine WL_step rfl rfl (Exec.field F26_3 rfl p130 rfl ?_)
      have hS224 := (hS223).f4
      refine WL_step rfl rfl (Exec.store_box (ds := [v128]) (es := [Value.int .i64 (y102), Value.int .i64 (x101), v107, v128, v108]) hS224 A23 rfl rfl rfl (cells_one ((hS224).f1).arr_one) (one_cons ((hS224).f1).arr_one one_nil) (Nat.le_of_ble_eq_true rfl) rfl ?_)
      intro w138 hS225
      refine WL_nil (ib_normal (at_normal ?_))
      refine W_region ?_
      refine WL_step rfl rfl (Exec.add rfl x107 rfl ?_)
      refine WL_step rfl rfl (Exec.move (v := Value.int .i64 (IntKind.i64.wrap ((i101 : Int) + 1))) rfl rfl ?_)
      refine WL_nil (at_normal ?_)
      have e114 := Option.some.inj hm101
      subst s119
      have hS226 := ((hS225).f2).drop
      have hS227 := (hS226).f5
      have hS228 := (hS227).f2
      have hS229 := (hS228).f5
      have hS230 := (hS229).f3
      have hS231 := (hS230).f5
      have hS232 := (hS231).f5
      exact ⟨s120, v128, l117, hS232, p128, p129, p130, p131, p132, (Eq.trans rfl (wrap_up hi101 (SliceRep.le (a101.mono (PHeap.le.trans (PHeap.le.trans (PHeap.le.trans l100 l102) l109) l116)))))⟩
     ·intro f106 w139 hI103
      obtain ⟨s121, v124, l119, hS233, p133, p134, p135, p136, p137, x111⟩ := hI103
      refine W_seq ?_
      refine W_region ?_
      refine WL_step rfl rfl (Exec.lss rfl x111 p137 ?_)
      refine WL_nil (at_normal ?_)
      refine W_seq ?_
      refine W_false (congrArg Value.bool (decide_eq_false (by omega))) ?_
      refine W_exit (at_exit (at_exit (ib_here (at_normal ?_))))
      refine W_seq ?_
      refine W_region ?_
      refine WL_step rfl rfl (Exec.field F26_3 rfl p135 rfl ?_)
      refine WL_step rfl rfl (Exec.load_box ((hS233).f2) A23 rfl rfl rfl ?_)
      obtain ⟨l120, q122, hm⟩ := bind_some hm
      have hS234 := (hS233).f4
      refine WL_step rfl rfl (Exec.call rfl rfl Tryd.func48 rfl N48 (args_cons rfl args_nil) ((shrink_order_o_sim q122 hS234 ).mono ?_))
      rintro _ w140 ⟨v129, rfl, ⟨s122, _, l121, hS235, rfl⟩⟩
      refine ⟨_, rfl, ?_⟩
      refine WL_step rfl rfl (Exec.field F26_3 rfl p135 rfl ?_)
      have hS236 := (hS235).f3
      refine WL_step rfl rfl (Exec.store_box (ds := [v129]) (es := [Value.int .i64 (y102), Value.int .i64 (x101), v107, v129, v108]) hS236 A23 rfl rfl rfl (cells_one ((hS236).f1).arr_one) (one_cons ((hS236).f1).arr_one one_nil) (Nat.le_of_ble_eq_true rfl) rfl ?_)
      intro w141 hS237
      refine WL_nil (at_normal ?_)
      refine W_seq ?_
      refine W_region ?_
      refine WL_step rfl rfl (Exec.load_box_agg (ds := [Value.int .i64 (y102), Value.int .i64 (x101), v107, v129, v108]) (hS237) A26 rfl p135 rfl ?_)
      have hS238 := (hS237).f3
      refine WL_step rfl rfl (Exec.store_box (ds := [Value.int .i64 (y102), Value.int .i64 (x101), v107, v129, v108]) (es := [Value.int .i64 (y102), Value.int .i64 (x101), v107, v129, v108]) hS238 A26 rfl p134 rfl rfl (one_cons rfl (one_cons rfl (one_cons ((hS238).f4).arr_one (one_cons ((hS238).f2).arr_one (one_cons ((hS238).f5).arr_one one_nil))))) (Nat.le_of_ble_eq_true rfl) rfl ?_)
      intro w142 hS239
      refine WL_step rfl rfl (Exec.assign (v := errV 34 (none)) rfl rfl ?_)
      refine WL_nil (at_normal ?_)
      refine W_ret ?_
      have e115 := Option.some.inj hm
      subst r
      refine ⟨_, retG2 rfl ⟨_, _, p134, cellRes (hS239) A26⟩ rfl, ?_⟩
      have hS240 := (hS239).f4
      obtain ⟨s123, l122, hS241, r100⟩ := hS240.freezeArr
      have hS242 := (hS241).f2
      obtain ⟨s124, l123, hS243, r101⟩ := hS242.freezeArr
      have hS244 := (hS243).f3
      obtain ⟨s125, l124, hS245, r102⟩ := hS244.freezeArr
      have hS246 := (hS245).drop
      have hS247 := (hS246).drop
      exact ⟨s125, v107, v129, v108, (PHeap.le.trans (PHeap.le.trans (PHeap.le.trans (PHeap.le.trans (PHeap.le.trans (PHeap.le.trans (PHeap.le.trans (PHeap.le.trans l100 l102) l109) l116) l119) l121) l122) l123) l124), hS247, (tup2 rfl rfl), (r100.mono (PHeap.le.trans l123 l124)), (r101.mono l124), r102⟩

theorem N50 : (Tryd.f50.name == "runtime.NumGoroutine") = false := by kernel_rfl

theorem transys_goals_sim {w0 w : World} {s : PHeap} {H : List Res} {x100 : System} {v100 : Value} {v101 : Value} {v102 : Value} {r : (List Int)} (hm : transys_goals_p x100 = some r) (hS : St w0 s (H) w) (a100 : SliceRep (encInt .i64) s v100 x100.Costs) (a101 : SliceRep encEdge s v101 x100.Edges) (a102 : SliceRep encBool s v102 x100.Goals) :
  Calls Tryd.prog 50 #[Value.agg #[Value.int .i64 (x100.States), Value.int .i64 (x100.Init), v100, v101, v102]] w fun e w' => ∃ v, e = .returned v ∧ ((fun (y100 : (List Int)) => ∃ (s100 : PHeap) (v103 : Value), PHeap.le s s100 ∧ St w0 s100 (H) w' ∧ v = v103 ∧ SliceRep (encInt .i64) s100 v103 y100) r) := by
 unfold transys_goals_p at hm
 refine calls_of_W Tryd.func50 rfl rfl ?_
 refine W_seq ?_
 refine W_region ?_
 refine WL_step rfl rfl (Exec.box (cs := [Value.int .i64 (x100.States), Value.int .i64 (x100.Init), v100, v101, v102]) hS rfl rfl rfl ?_)
 intro b100 w100 hS100
 refine WL_step rfl rfl (Exec.assign (v := Value.slice none 0 0) rfl rfl ?_)
 refine WL_nil (at_normal ?_)
 refine W_seq ?_
 refine W_region ?_
 refine WL_step rfl rfl (Exec.assign (v := Value.slice none 0 0) rfl rfl ?_)
 refine WL_nil (at_normal ?_)
 refine W_seq ?_
 refine W_seq ?_
 refine W_region ?_
 refine WL_step rfl rfl (Exec.field F26_4 rfl rfl rfl ?_)
 refine WL_step rfl rfl (Exec.load_box (hS100) A24 rfl rfl rfl ?_)
 refine WL_step rfl rfl (Exec.len_rep S24 rfl rfl a102 ?_)
 refine WL_step rfl rfl (Exec.move (v := Value.int .i64 (0)) rfl rfl ?_)
 refine WL_nil (at_normal ?_)
 obtain ⟨out100, hB100, hm⟩ := bind_some hm
 refine W_block (W_forS (fun k' s' f' w' => (fun (out100 : (List Int)) => ∃ (s101 : PHeap) (v104 : Value), PHeap.le s s101 ∧ St w0 s101 (Res.arr (encInt .i64) 3 v104 out100 :: H) w' ∧ f' 3 = v104 ∧ f' 7 = v102 ∧ f' 8 = Value.int .i64 ((x100.Goals.length : Int)) ∧ f' 9 = Value.int .i64 (k' : Int)) s') hB100 ?_ ?_ ?_)
 ·have hS101 := hS100.nilArr (encInt .i64) 3
  have hS102 := ((hS101).f1).drop
  exact ⟨s, (Value.slice none 0 0), (PHeap.le_refl _), hS102, rfl, rfl, rfl, rfl⟩
 ·intro i100 out100 s102 f100 w101 hi100 hI100 hm100
  obtain ⟨s103, v104, l100, hS103, p100, p101, p102, x101⟩ := hI100
  refine W_seq ?_
  refine W_region ?_
  refine WL_step rfl rfl (Exec.lss rfl x101 p102 ?_)
  refine WL_nil (at_normal ?_)
  refine W_seq ?_
  refine W_true (congrArg Value.bool (decide_eq_true (by omega))) ?_
  refine W_skip (at_normal ?_)
  refine W_seq ?_
  refine W_block ?_
  refine W_seq ?_
  refine W_region ?_
  refine WL_step rfl rfl (Exec.move (v := Value.int .i64 ((i100 : Int))) rfl x101 ?_)
  obtain ⟨x102, q100, hm100⟩ := bind_some hm100
  refine WL_step rfl rfl (Exec.index_rep S24 rfl p101 x101 (a102.mono l100) q100 ?_)
  intro b101 o100 a103
  refine WL_step rfl rfl (Exec.load_at (E := encBool) hS103 A4 rfl rfl rfl a103 ?_)
  intro v105 q101
  obtain rfl := encBool_val.1 q101
  refine WL_step rfl rfl (Exec.assign (v := Value.int .i64 ((i100 : Int))) rfl rfl ?_)
  refine WL_step rfl rfl (Exec.assign (v := Value.bool (x102)) rfl rfl ?_)
  refine WL_nil (at_normal ?_)
  refine W_seq ?_
  refine W_region ?_
  refine WL_step rfl rfl (Exec.move (v := Value.bool (x102)) rfl rfl ?_)
  refine WL_nil (at_normal ?_)
  obtain ⟨l101, ht100, hm100⟩ := bind_some hm100
  refine W_mid (M := fun f' w' => (fun (l101 : (List Int)) => ∃ (s104 : PHeap) (v106 : Value), PHeap.le s103 s104 ∧ St w0 s104 (Res.arr (encInt .i64) 3 v106 l101 :: H) w' ∧ f' 3 = v106 ∧ f' 7 = v102 ∧ f' 8 = Value.int .i64 ((x100.Goals.length : Int)) ∧ f' 9 = Value.int .i64 ((i100 : Int))) l101) ?_ ?_
  ·rcases ite_some ht100 with ⟨hc100, ht100⟩ | ⟨hc100, ht100⟩
   ·refine W_cond_t rfl hc100 ?_
    refine W_region ?_
    refine WL_step rfl rfl (Exec.move (v := v104) rfl p100 ?_)
    refine WL_step rfl rfl (Exec.move (v := Value.int .i64 ((i100 : Int))) rfl rfl ?_)
    refine WL_step rfl rfl (Exec.buildSlice (Te := 3) (cs := [Value.int .i64 ((i100 : Int))]) hS103 rfl (parts_cons (c := [Value.int .i64 ((i100 : Int))]) (cells_of rfl rfl) parts_nil) (fun _ => by kernel_rfl) ?_)
    intro b102 w102 hS104
    obtain ⟨l102, q102, ht100⟩ := bind_some ht100
    have hS105 := (hS104).f1
    refine WL_step rfl rfl (Exec.append_box (E := (encInt .i64)) (ys := [(i100 : Int)]) hS105 S22 Z3 rfl (by decide) rfl rfl rfl rfl ⟨[Value.int .i64 ((i100 : Int))], [], rfl, rfl, rfl⟩ rfl q102 ?_)
    intro v107 w103 hS106
    refine WL_step rfl rfl (Exec.assign (v := v107) rfl rfl ?_)
    refine WL_nil (at_normal ?_)
    have e100 := Option.some.inj ht100
    subst l101
    exact ⟨s103, v107, (PHeap.le_refl _), hS106, rfl, p101, p102, x101⟩
   ·refine W_cond_f rfl hc100 ?_
    replace hc100 := not_true hc100
    refine W_skip (at_normal ?_)
    have e101 := Option.some.inj ht100
    subst l101
    exact ⟨s103, v104, (PHeap.le_refl _), hS103, p100, p101, p102, x101⟩
  ·intro f101 w104 hM100
   obtain ⟨s105, v106, l103, hS107, p103, p104, p105, p106⟩ := hM100
   refine (ib_normal (at_normal ?_))
   refine W_region ?_
   refine WL_step rfl rfl (Exec.add rfl p106 rfl ?_)
   refine WL_step rfl rfl (Exec.move (v := Value.int .i64 (IntKind.i64.wrap ((i100 : Int) + 1))) rfl rfl ?_)
   refine WL_nil (at_normal ?_)
   have e102 := Option.some.inj hm100
   subst s102
   exact ⟨s105, v106, (PHeap.le.trans l100 l103), hS107, p103, p104, p105, (Eq.trans rfl (wrap_up hi100 (SliceRep.le a102)))⟩
 ·intro f102 w105 hI101
  obtain ⟨s106, v104, l104, hS108, p107, p108, p109, x103⟩ := hI101
  refine W_seq ?_
  refine W_region ?_
  refine WL_step rfl rfl (Exec.lss rfl x103 p109 ?_)
  refine WL_nil (at_normal ?_)
  refine W_seq ?_
  refine W_false (congrArg Value.bool (decide_eq_false (by omega))) ?_
  refine W_exit (at_exit (at_exit (ib_here (at_normal ?_))))
  refine W_seq ?_
  refine W_region ?_
  refine WL_step rfl rfl (Exec.move (v := v104) rfl p107 ?_)
  refine WL_step rfl rfl (Exec.assign (v := v104) rfl rfl ?_)
  refine WL_nil (at_normal ?_)
  refine W_ret ?_
  have e103 := Option.some.inj hm
  subst r
  refine ⟨_, ret1 rfl, ?_⟩
  obtain ⟨s107, l105, hS109, r100⟩ := hS108.freezeArr
  exact ⟨s107, v104, (PHeap.le.trans l104 l105), hS109, rfl, r100⟩

theorem S99 : tySlice Tryd.prog 99 = some (102, 1, 24) := by kernel_rfl

theorem Z102 : tyZero Tryd.prog 102 = some (Value.slice none 0 0) := by kernel_rfl

theorem Z101 : tyZero Tryd.prog 101 = some (Value.agg #[Value.int .i64 (0), Value.int .i64 (0), Value.int .i64 (0)]) := by kernel_rfl

theorem A101 : tyAgg Tryd.prog 101 = some (true, 3) := by kernel_rfl

theorem F101_1 : tyField Tryd.prog 101 1 = some 1 := by kernel_rfl

theorem F101_0 : tyField Tryd.prog 101 0 = some 0 := by kernel_rfl

theorem A102 : tyAgg Tryd.prog 102 = some (false, 1) := by kernel_rfl

theorem S102 : tySlice Tryd.prog 102 = some (101, 3, 24) := by kernel_rfl

theorem F101_2 : tyField Tryd.prog 101 2 = some 2 := by kernel_rfl

theorem N49 : (Tryd.f49.name == "runtime.NumGoroutine") = false := by kernel_rfl

theorem transys_shortest_sim {w0 w : World} {s : PHeap} {H : List Res} {x100 : System} {from_100 : (List Int)} {back100 : Bool} {v100 : Value} {v101 : Value} {v102 : Value} {v103 : Value} {r : (List Int)} (hm : transys_shortest_p x100 from_100 back100 = some r) (hS : St w0 s (H) w) (a100 : SliceRep (encInt .i64) s v100 x100.Costs) (a101 : SliceRep encEdge s v101 x100.Edges) (a102 : SliceRep encBool s v102 x100.Goals) (a103 : SliceRep (encInt .i64) s v103 from_100) :
  Calls Tryd.prog 49 #[Value.agg #[Value.int .i64 (x100.States), Value.int .i64 (x100.Init), v100, v101, v102], v103, Value.bool (back100)] w fun e w' => ∃ v, e = .returned v ∧ ((fun (y100 : (List Int)) => ∃ (s100 : PHeap) (v104 : Value), PHeap.le s s100 ∧ St w0 s100 (H) w' ∧ v = v104 ∧ SliceRep (encInt .i64) s100 v104 y100) r) := by
 unfold transys_shortest_p at hm
 refine calls_of_W Tryd.func49 rfl rfl ?_
 refine W_seq ?_
 refine W_region ?_
 refine WL_step rfl rfl (Exec.box (cs := [Value.int .i64 (x100.States), Value.int .i64 (x100.Init), v100, v101, v102]) hS rfl rfl rfl ?_)
 intro b100 w100 hS100
 refine WL_step rfl rfl (Exec.assign (v := Value.slice none 0 0) rfl rfl ?_)
 refine WL_nil (at_normal ?_)
 refine W_seq ?_
 refine W_region ?_
 refine WL_step rfl rfl (Exec.field F26_0 rfl rfl rfl ?_)
 refine WL_step rfl rfl (Exec.load_box (hS100) A3 rfl rfl rfl ?_)
 obtain ⟨l100, q100, hm⟩ := bind_some hm
 refine WL_step rfl rfl (Exec.make_grid (F := encArc) (T2 := 101) hS100 S99 Z102 rfl rfl rfl q100 ?_)
 intro v105 hs100 w101 hS101
 refine WL_step rfl rfl (Exec.assign (v := v105) rfl rfl ?_)
 refine WL_nil (at_normal ?_)
 refine W_seq ?_
 refine W_seq ?_
 refine W_region ?_
 refine WL_step rfl rfl (Exec.field F26_3 rfl rfl rfl ?_)
 refine WL_step rfl rfl (Exec.load_box ((hS101).f2) A23 rfl rfl rfl ?_)
 refine WL_step rfl rfl (Exec.len_rep S23 rfl rfl a101 ?_)
 refine WL_step rfl rfl (Exec.move (v := Value.int .i64 (0)) rfl rfl ?_)
 refine WL_nil (at_normal ?_)
 obtain ⟨l101, hB100, hm⟩ := bind_some hm
 refine W_block (W_forS (fun k' s' f' w' => (fun (l101 : (List (List Arc))) => ∃ (s101 : PHeap) (hs101 : List Value), PHeap.le s s101 ∧ St w0 s101 (Res.box b100 26 [Value.int .i64 (x100.States), Value.int .i64 (x100.Init), v100, v101, v102] :: Res.arr encRaw 102 v105 hs101 :: Res.rows encArc 101 hs101 l101 :: H) w' ∧ f' 1 = v103 ∧ f' 2 = Value.bool (back100) ∧ f' 3 = Value.pointer (some ⟨b100, 0, none⟩) ∧ f' 7 = v105 ∧ f' 24 = v101 ∧ f' 25 = Value.int .i64 ((x100.Edges.length : Int)) ∧ f' 26 = Value.int .i64 (k' : Int)) s') hB100 ?_ ?_ ?_)
 ·have hS102 := (hS101).f2
  exact ⟨s, hs100, (PHeap.le_refl _), hS102, rfl, rfl, rfl, rfl, rfl, rfl, rfl⟩
 ·intro i100 l101 s102 f100 w102 hi100 hI100 hm100
  obtain ⟨s103, hs101, l102, hS103, p100, p101, p102, p103, p104, p105, x101⟩ := hI100
  refine W_seq ?_
  refine W_region ?_
  refine WL_step rfl rfl (Exec.lss rfl x101 p105 ?_)
  refine WL_nil (at_normal ?_)
  refine W_seq ?_
  refine W_true (congrArg Value.bool (decide_eq_true (by omega))) ?_
  refine W_skip (at_normal ?_)
  refine W_seq ?_
  refine W_block ?_
  refine W_seq ?_
  refine W_region ?_
  obtain ⟨x102, q101, hm100⟩ := bind_some hm100
  refine WL_step rfl rfl (Exec.index_rep S23 rfl p104 x101 (a101.mono l102) q101 ?_)
  intro b101 o100 a104
  refine WL_step rfl rfl (Exec.load_at (E := encEdge) hS103 A53 rfl rfl rfl a104 ?_)
  intro v106 q102
  obtain rfl := encEdge_val.1 q102
  refine WL_step rfl rfl (Exec.alloc (cs := [Value.int .i64 (0), Value.int .i64 (0), Value.int .i64 (0)]) hS103 Z53 rfl rfl ?_)
  intro b102 w103 hS104
  refine WL_step rfl rfl (Exec.store_box (ds := [Value.int .i64 (x102.From), Value.int .i64 (x102.Label), Value.int .i64 (x102.To)]) (es := [Value.int .i64 (x102.From), Value.int .i64 (x102.Label), Value.int .i64 (x102.To)]) hS104 A53 rfl rfl rfl rfl (one_cons rfl (one_cons rfl (one_cons rfl one_nil))) (Nat.le_of_ble_eq_true rfl) rfl ?_)
  intro w104 hS105
  refine WL_nil (at_normal ?_)
  refine W_seq ?_
  refine W_dl (n0 := 12) (.q 0 (.q 1 (.q 2 (.q 3 (.q 4 (.q 5 (.q 6 (.q 7 (.q 8 (.q 9 (.q 10 (.e 11 [0, 1, 2, 3, 4, 5, 6, 7, 8, 9, 10] .done)))))))))))) hmix (by kernel_rfl) (by kernel_rfl) ?_
  have hS106 := hS105.drew
  refine DL_q rfl rfl (Exec.field F53_0 rfl rfl rfl ⟨rfl, ?_⟩)
  refine DL_q rfl rfl (Exec.load_box (hS106) A3 rfl rfl rfl ⟨rfl, ?_⟩)
  refine DL_q rfl rfl (Exec.field F53_2 rfl rfl rfl ⟨rfl, ?_⟩)
  refine DL_q rfl rfl (Exec.load_box (hS106) A3 rfl rfl rfl ⟨rfl, ?_⟩)
  refine DL_q rfl rfl (Exec.field F26_2 rfl p102 rfl ⟨rfl, ?_⟩)
  refine DL_q rfl rfl (Exec.load_box ((hS106).f1) A22 rfl rfl rfl ⟨rfl, ?_⟩)
  refine DL_q rfl rfl (Exec.field F53_1 rfl rfl rfl ⟨rfl, ?_⟩)
  refine DL_q rfl rfl (Exec.load_box (hS106) A3 rfl rfl rfl ⟨rfl, ?_⟩)
  obtain ⟨x103, q103, hm100⟩ := bind_some hm100
  refine DL_q rfl rfl (Exec.index_repE S22 rfl rfl rfl (a100.mono l102) q103 ?_)
  intro b103 o101 a105 e100
  refine ⟨rfl, ?_⟩
  refine DL_q rfl rfl (Exec.load_at (E := (encInt .i64)) hS106 A3 rfl rfl rfl a105 ?_)
  intro v107 q104
  obtain rfl := encInt_val.1 q104
  refine ⟨rfl, ?_⟩
  refine DL_q rfl rfl (Exec.build rfl (parts_cons (c := [Value.int .i64 (x102.From)]) (cells_of rfl rfl) (parts_cons (c := [Value.int .i64 (x102.To)]) (cells_of rfl rfl) (parts_cons (c := [Value.int .i64 (x103)]) (cells_of rfl rfl) parts_nil))) (v := Value.agg #[Value.int .i64 (x102.From), Value.int .i64 (x102.To), Value.int .i64 (x103)]) (fun _ => by kernel_rfl) ⟨rfl, ?_⟩)
  refine DL_e rfl rfl (Exec.alloc (cs := [Value.int .i64 (0), Value.int .i64 (0), Value.int .i64 (0)]) hS106 Z101 rfl rfl ?_)
  intro b104 w105 hS107
  refine ⟨(ag_cons (ag_r rfl rfl (Exec.field F53_0 rfl rfl rfl ⟨rfl, rfl⟩)) (ag_cons (ag_r rfl rfl (Exec.load_box ((hS107).f1) A3 rfl rfl rfl ⟨rfl, rfl⟩)) (ag_cons (ag_r rfl rfl (Exec.field F53_2 rfl rfl rfl ⟨rfl, rfl⟩)) (ag_cons (ag_r rfl rfl (Exec.load_box ((hS107).f1) A3 rfl rfl rfl ⟨rfl, rfl⟩)) (ag_cons (ag_r rfl rfl (Exec.field F26_2 rfl p102 rfl ⟨rfl, rfl⟩)) (ag_cons (ag_r rfl rfl (Exec.load_box ((hS107).f2) A22 rfl rfl rfl ⟨rfl, rfl⟩)) (ag_cons (ag_r rfl rfl (Exec.field F53_1 rfl rfl rfl ⟨rfl, rfl⟩)) (ag_cons (ag_r rfl rfl (Exec.load_box ((hS107).f1) A3 rfl rfl rfl ⟨rfl, rfl⟩)) (ag_cons (ag_r rfl rfl (Exec.index_run rfl rfl rfl e100 ⟨rfl, rfl⟩)) (ag_cons (ag_r rfl rfl (Exec.load_at (E := (encInt .i64)) hS107 A3 rfl rfl rfl a105 (fun _ q => ⟨rfl, encInt_val.1 q⟩))) (ag_cons (ag_r rfl rfl (Exec.build rfl (parts_cons (c := [Value.int .i64 (x102.From)]) (cells_of rfl rfl) (parts_cons (c := [Value.int .i64 (x102.To)]) (cells_of rfl rfl) (parts_cons (c := [Value.int .i64 (x103)]) (cells_of rfl rfl) parts_nil))) (v := Value.agg #[Value.int .i64 (x102.From), Value.int .i64 (x102.To), Value.int .i64 (x103)]) (fun _ => by kernel_rfl) ⟨rfl, rfl⟩)) ag_nil))))))))))), ?_⟩
  refine DL_done ?_
  refine WL_step rfl rfl (Exec.store_box (ds := [Value.int .i64 (x102.From), Value.int .i64 (x102.To), Value.int .i64 (x103)]) (es := [Value.int .i64 (x102.From), Value.int .i64 (x102.To), Value.int .i64 (x103)]) hS107 A101 rfl rfl rfl rfl (one_cons rfl (one_cons rfl (one_cons rfl one_nil))) (Nat.le_of_ble_eq_true rfl) rfl ?_)
  intro w106 hS108
  refine WL_nil (at_normal ?_)
  refine W_seq ?_
  refine W_seq ?_
  refine W_region ?_
  refine WL_step rfl rfl (Exec.move (v := Value.bool (back100)) rfl p101 ?_)
  refine WL_nil (at_normal ?_)
  obtain ⟨t100, ht100, hm100⟩ := bind_some hm100
  refine W_mid (M := fun f' w' => (un2 fun (z100 : Int) (z101 : Int) => ∃ (s104 : PHeap) , PHeap.le s103 s104 ∧ St w0 s104 (Res.box b100 26 [Value.int .i64 (x100.States), Value.int .i64 (x100.Init), v100, v101, v102] :: Res.arr encRaw 102 v105 hs101 :: Res.rows encArc 101 hs101 l101 :: Res.box b104 101 [Value.int .i64 (z100), Value.int .i64 (z101), Value.int .i64 (x103)] :: H) w' ∧ f' 1 = v103 ∧ f' 2 = Value.bool (back100) ∧ f' 3 = Value.pointer (some ⟨b100, 0, none⟩) ∧ f' 7 = v105 ∧ f' 10 = Value.pointer (some ⟨b104, 0, none⟩) ∧ f' 24 = v101 ∧ f' 25 = Value.int .i64 ((x100.Edges.length : Int)) ∧ f' 26 = Value.int .i64 ((i100 : Int))) t100) ?_ ?_
  ·rcases ite_some ht100 with ⟨hc100, ht100⟩ | ⟨hc100, ht100⟩
   ·refine W_cond_t rfl hc100 ?_
    refine W_region ?_
    refine WL_step rfl rfl (Exec.field F101_1 rfl rfl rfl ?_)
    refine WL_step rfl rfl (Exec.load_box (hS108) A3 rfl rfl rfl ?_)
    refine WL_step rfl rfl (Exec.field F101_0 rfl rfl rfl ?_)
    refine WL_step rfl rfl (Exec.load_box (hS108) A3 rfl rfl rfl ?_)
    refine WL_step rfl rfl (Exec.field F101_0 rfl rfl rfl ?_)
    refine WL_step rfl rfl (Exec.store_box (ds := [Value.int .i64 (x102.To)]) (es := [Value.int .i64 (x102.To), Value.int .i64 (x102.To), Value.int .i64 (x103)]) hS108 A3 rfl rfl rfl rfl (one_cons rfl one_nil) (Nat.le_of_ble_eq_true rfl) rfl ?_)
    intro w107 hS109
    refine WL_step rfl rfl (Exec.field F101_1 rfl rfl rfl ?_)
    refine WL_step rfl rfl (Exec.store_box (ds := [Value.int .i64 (x102.From)]) (es := [Value.int .i64 (x102.To), Value.int .i64 (x102.From), Value.int .i64 (x103)]) hS109 A3 rfl rfl rfl rfl (one_cons rfl one_nil) (Nat.le_of_ble_eq_true rfl) rfl ?_)
    intro w108 hS110
    refine WL_nil (at_normal ?_)
    have e101 := Option.some.inj ht100
    subst t100
    have hS111 := ((hS110).f1).drop
    have hS112 := ((hS111).f3).f3
    have hS113 := (hS112).f3
    exact ⟨s103, (PHeap.le_refl _), hS113, p100, p101, p102, p103, rfl, p104, p105, x101⟩
   ·refine W_cond_f rfl hc100 ?_
    replace hc100 := not_true hc100
    refine W_skip (at_normal ?_)
    have e102 := Option.some.inj ht100
    subst t100
    have hS114 := ((hS108).f1).drop
    have hS115 := ((hS114).f3).f3
    have hS116 := (hS115).f3
    exact ⟨s103, (PHeap.le_refl _), hS116, p100, p101, p102, p103, rfl, p104, p105, x101⟩
  ·intro f101 w109 hM100
   obtain ⟨z100, z101⟩ := t100
   replace hm100 := un2_eq hm100
   obtain ⟨s105, l103, hS117, p106, p107, p108, p109, p110, p111, p112, p113⟩ := hM100
   refine (at_normal ?_)
   refine W_dl (n0 := 11) (.q 0 (.q 1 (.q 2 (.q 3 (.q 4 (.q 5 (.q 6 (.q 7 (.q 8 (.e 9 [0, 1, 2, 3, 4, 5, 6, 7] (.e 10 [0, 1, 2] .done))))))))))) hmix (by kernel_rfl) (by kernel_rfl) ?_
   have hS118 := hS117.drew
   refine DL_q rfl rfl (Exec.move (v := v105) rfl p109 ⟨rfl, ?_⟩)
   refine DL_q rfl rfl (Exec.field F101_0 rfl p110 rfl ⟨rfl, ?_⟩)
   refine DL_q rfl rfl (Exec.load_box ((hS118).f3) A3 rfl rfl rfl ⟨rfl, ?_⟩)
   refine DL_q rfl rfl (Exec.move (v := v105) rfl p109 ⟨rfl, ?_⟩)
   refine DL_q rfl rfl (Exec.field F101_0 rfl p110 rfl ⟨rfl, ?_⟩)
   refine DL_q rfl rfl (Exec.load_box ((hS118).f3) A3 rfl rfl rfl ⟨rfl, ?_⟩)
   obtain ⟨row100, q105, hm100⟩ := bind_some hm100
   obtain ⟨h100, e103, e104, _⟩ := ((((hS118).f2).f2).f1).rows_at q105
   obtain ⟨g100, c100, e105⟩ := (((hS118).f2).f2).arr_at e103
   refine DL_q rfl rfl (Exec.index_slice S99 rfl e105 rfl (idx_some e103).1 (idx_some e103).2.1 ⟨rfl, ?_⟩)
   refine DL_q rfl rfl (Exec.load_arr (F := encRaw) (((hS118).f2).f2) e105 A102 rfl rfl rfl e103 (Sub.refl _) ?_)
   intro v108 q106
   replace q106 := (encRaw_val.1 q106).1
   subst v108
   refine ⟨rfl, ?_⟩
   refine DL_q rfl rfl (Exec.load_box_agg (ds := [Value.int .i64 (z100), Value.int .i64 (z101), Value.int .i64 (x103)]) ((hS118).f3) A101 rfl p110 rfl ⟨rfl, ?_⟩)
   refine DL_e rfl rfl (Exec.buildSlice (Te := 101) (cs := [Value.int .i64 (z100), Value.int .i64 (z101), Value.int .i64 (x103)]) hS118 rfl (parts_cons (c := [Value.int .i64 (z100), Value.int .i64 (z101), Value.int .i64 (x103)]) (cells_of rfl rfl) parts_nil) (fun _ => by kernel_rfl) ?_)
   intro b105 w110 hS119
   refine ⟨(ag_cons (ag_r rfl rfl (Exec.move (v := v105) rfl p109 ⟨rfl, rfl⟩)) (ag_cons (ag_r rfl rfl (Exec.field F101_0 rfl p110 rfl ⟨rfl, rfl⟩)) (ag_cons (ag_r rfl rfl (Exec.load_box ((hS119).f4) A3 rfl rfl rfl ⟨rfl, rfl⟩)) (ag_cons (ag_r rfl rfl (Exec.move (v := v105) rfl p109 ⟨rfl, rfl⟩)) (ag_cons (ag_r rfl rfl (Exec.field F101_0 rfl p110 rfl ⟨rfl, rfl⟩)) (ag_cons (ag_r rfl rfl (Exec.load_box ((hS119).f4) A3 rfl rfl rfl ⟨rfl, rfl⟩)) (ag_cons (ag_r rfl rfl (Exec.index_slice S99 rfl e105 rfl (idx_some e103).1 (idx_some e103).2.1 ⟨rfl, rfl⟩)) (ag_cons (ag_r rfl rfl (Exec.load_arr (F := encRaw) (((hS119).f3).f3) e105 A102 rfl rfl rfl e103 (Sub.refl _) (fun _ q => ⟨rfl, (encRaw_val.1 q).1⟩))) ag_nil)))))))), ?_⟩
   have hS120 := ((((hS119).f3).f3).f1).rows_split e104 (idx_some q105).2.2
   obtain ⟨l104, q107, hm100⟩ := bind_some hm100
   have hS121 := (hS120).f3
   have hS122 := (hS121).f1
   refine DL_e rfl rfl (Exec.append_box (E := encArc) (ys := [(⟨z100, z101, x103⟩ : Arc)]) hS122 S102 Z101 rfl (by decide) rfl rfl rfl rfl ⟨[Value.int .i64 (z100), Value.int .i64 (z101), Value.int .i64 (x103)], [], rfl, ⟨[Value.int .i64 (z100)], [Value.int .i64 (z101), Value.int .i64 (x103)], rfl, rfl, ⟨[Value.int .i64 (z101)], [Value.int .i64 (x103)], rfl, rfl, rfl⟩⟩, rfl⟩ rfl q107 ?_)
   intro v109 w111 hS123
   refine ⟨(ag_cons (ag_r rfl rfl (Exec.move (v := v105) rfl p109 ⟨rfl, rfl⟩)) (ag_cons (ag_r rfl rfl (Exec.field F101_0 rfl p110 rfl ⟨rfl, rfl⟩)) (ag_cons (ag_r rfl rfl (Exec.load_box ((hS123).f4) A3 rfl rfl rfl ⟨rfl, rfl⟩)) ag_nil))), ?_⟩
   refine DL_done ?_
   refine WL_step rfl rfl (Exec.index_slice S99 rfl e105 rfl (idx_some e103).1 (idx_some e103).2.1 ?_)
   obtain ⟨l105, q108, hm100⟩ := bind_some hm100
   have hS124 := ((hS123).f2).f2
   have hS125 := (hS124).f2
   refine WL_step rfl rfl (Exec.store_row hS125 e104 e105 A102 rfl rfl rfl rfl q108 ?_)
   intro hs102 w112 hS126
   refine WL_nil (ib_normal (at_normal ?_))
   refine W_region ?_
   refine WL_step rfl rfl (Exec.add rfl p113 rfl ?_)
   refine WL_step rfl rfl (Exec.move (v := Value.int .i64 (IntKind.i64.wrap ((i100 : Int) + 1))) rfl rfl ?_)
   refine WL_nil (at_normal ?_)
   have e106 := Option.some.inj hm100
   subst s102
   have hS127 := ((hS126).f3).drop
   have hS128 := (hS127).f2
   exact ⟨s105, hs102, (PHeap.le.trans l102 l103), hS128, p106, p107, p108, p109, p111, p112, (Eq.trans rfl (wrap_up hi100 (SliceRep.le a101)))⟩
 ·intro f102 w113 hI101
  obtain ⟨s106, hs101, l106, hS129, p114, p115, p116, p117, p118, p119, x104⟩ := hI101
  refine W_seq ?_
  refine W_region ?_
  refine WL_step rfl rfl (Exec.lss rfl x104 p119 ?_)
  refine WL_nil (at_normal ?_)
  refine W_seq ?_
  refine W_false (congrArg Value.bool (decide_eq_false (by omega))) ?_
  refine W_exit (at_exit (at_exit (ib_here (at_normal ?_))))
  refine W_seq ?_
  refine W_region ?_
  refine WL_step rfl rfl (Exec.field F26_0 rfl p116 rfl ?_)
  refine WL_step rfl rfl (Exec.load_box (hS129) A3 rfl rfl rfl ?_)
  obtain ⟨l107, q109, hm⟩ := bind_some hm
  refine WL_step rfl rfl (Exec.make (E := (encInt .i64)) hS129 S22 Z3 rfl rfl rfl rfl q109 ?_)
  intro v110 w114 hS130
  refine WL_step rfl rfl (Exec.assign (v := v110) rfl rfl ?_)
  refine WL_nil (at_normal ?_)
  refine W_seq ?_
  refine W_seq ?_
  refine W_region ?_
  refine WL_step rfl rfl (Exec.move (v := v110) rfl rfl ?_)
  refine WL_step rfl rfl (Exec.len_arr (hS130) S22 rfl rfl ?_)
  refine WL_step rfl rfl (Exec.move (v := Value.int .i64 (0)) rfl rfl ?_)
  refine WL_nil (at_normal ?_)
  obtain ⟨l108, hB101, hm⟩ := bind_some hm
  refine W_block (W_forS (fun k' s' f' w' => (fun (l108 : (List Int)) => ∃ (s107 : PHeap) , PHeap.le s106 s107 ∧ St w0 s107 (Res.box b100 26 [Value.int .i64 (x100.States), Value.int .i64 (x100.Init), v100, v101, v102] :: Res.arr encRaw 102 v105 hs101 :: Res.rows encArc 101 hs101 l101 :: Res.arr (encInt .i64) 3 v110 l108 :: H) w' ∧ f' 1 = v103 ∧ f' 3 = Value.pointer (some ⟨b100, 0, none⟩) ∧ f' 7 = v105 ∧ f' 11 = v110 ∧ f' 65 = Value.int .i64 ((l107.length : Int)) ∧ f' 66 = Value.int .i64 (k' : Int)) s') hB101 ?_ ?_ ?_)
  ·have hS131 := ((hS130).f3).f3
   have hS132 := (hS131).f3
   exact ⟨s106, (PHeap.le_refl _), hS132, p114, p116, p117, rfl, rfl, rfl⟩
  ·intro i101 l108 s108 f103 w115 hi101 hI102 hm101
   obtain ⟨s109, l109, hS133, p120, p121, p122, p123, p124, x105⟩ := hI102
   refine W_seq ?_
   refine W_region ?_
   refine WL_step rfl rfl (Exec.lss rfl x105 p124 ?_)
   refine WL_nil (at_normal ?_)
   refine W_seq ?_
   refine W_true (congrArg Value.bool (decide_eq_true (by omega))) ?_
   refine W_skip (at_normal ?_)
   refine W_seq ?_
   refine W_block ?_
   refine W_seq ?_
   refine W_region ?_
   refine WL_step rfl rfl (Exec.move (v := Value.int .i64 ((i101 : Int))) rfl x105 ?_)
   refine WL_step rfl rfl (Exec.assign (v := Value.int .i64 ((i101 : Int))) rfl rfl ?_)
   refine WL_nil (at_normal ?_)
   refine W_region ?_
   refine WL_step rfl rfl (Exec.move (v := v110) rfl p123 ?_)
   refine WL_step rfl rfl (Exec.move (v := Value.int .i64 ((i101 : Int))) rfl rfl ?_)
   obtain ⟨x106, q110, hm101⟩ := bind_some hm101
   obtain ⟨g101, c101, e107⟩ := ((hS133).f3).arr_at q110
   refine WL_step rfl rfl (Exec.index_slice S22 rfl e107 rfl (idx_some q110).1 (idx_some q110).2.1 ?_)
   obtain ⟨l110, q111, hm101⟩ := bind_some hm101
   have hS134 := (hS133).f3
   refine WL_step rfl rfl (Exec.store_arr hS134 e107 A3 rfl rfl rfl rfl (encInt_val.2 rfl) q111 ?_)
   intro w116 hS135
   refine WL_nil (ib_normal (at_normal ?_))
   refine W_region ?_
   refine WL_step rfl rfl (Exec.add rfl x105 rfl ?_)
   refine WL_step rfl rfl (Exec.move (v := Value.int .i64 (IntKind.i64.wrap ((i101 : Int) + 1))) rfl rfl ?_)
   refine WL_nil (at_normal ?_)
   have e108 := Option.some.inj hm101
   subst s108
   have hS136 := ((hS135).f3).f3
   have hS137 := (hS136).f3
   exact ⟨s109, l109, hS137, p120, p121, p122, p123, p124, (Eq.trans rfl (wrap_up hi101 (hS130).arr_le))⟩
  ·intro f104 w117 hI103
   obtain ⟨s110, l111, hS138, p125, p126, p127, p128, p129, x107⟩ := hI103
   refine W_seq ?_
   refine W_region ?_
   refine WL_step rfl rfl (Exec.lss rfl x107 p129 ?_)
   refine WL_nil (at_normal ?_)
   refine W_seq ?_
   refine W_false (congrArg Value.bool (decide_eq_false (by omega))) ?_
   refine W_exit (at_exit (at_exit (ib_here (at_normal ?_))))
   refine W_seq ?_
   refine W_region ?_
   refine WL_step rfl rfl (Exec.field F26_0 rfl p126 rfl ?_)
   refine WL_step rfl rfl (Exec.load_box (hS138) A3 rfl rfl rfl ?_)
   obtain ⟨l112, q112, hm⟩ := bind_some hm
   refine WL_step rfl rfl (Exec.make (E := encBool) hS138 S24 Z4 rfl rfl rfl rfl q112 ?_)
   intro v111 w118 hS139
   refine WL_step rfl rfl (Exec.assign (v := v111) rfl rfl ?_)
   refine WL_nil (at_normal ?_)
   refine W_seq ?_
   refine W_region ?_
   refine WL_step rfl rfl (Exec.move (v := v103) rfl p125 ?_)
   obtain ⟨y101, q113, hm⟩ := bind_some hm
   refine WL_step rfl rfl (Exec.call rfl rfl Tryd.func47 rfl N47 (args_cons rfl args_nil) ((slices_Clone___int_int__sim q113 hS139 (a103.mono (PHeap.le.trans l106 l111))).mono ?_))
   rintro _ w119 ⟨v112, rfl, ⟨s111, _, l113, hS140, rfl⟩⟩
   refine ⟨_, rfl, ?_⟩
   have hS141 := (hS140).arr_que
   refine WL_step rfl rfl (Exec.assign (v := v112) rfl rfl ?_)
   refine WL_nil (at_normal ?_)
   refine W_seq ?_
   refine W_seq ?_
   refine W_region ?_
   refine WL_step rfl rfl (Exec.move (v := v103) rfl p125 ?_)
   refine WL_step rfl rfl (Exec.len_rep S22 rfl rfl (a103.mono (PHeap.le.trans (PHeap.le.trans l106 l111) l113)) ?_)
   refine WL_step rfl rfl (Exec.move (v := Value.int .i64 (0)) rfl rfl ?_)
   refine WL_nil (at_normal ?_)
   obtain ⟨t101, hB102, hm⟩ := bind_some hm
   refine W_block (W_forS (fun k' s' f' w' => (un2 fun (l114 : (List Int)) (l115 : (List Bool)) => ∃ (s112 : PHeap) , PHeap.le s111 s112 ∧ St w0 s112 (Res.arr encRaw 102 v105 hs101 :: Res.rows encArc 101 hs101 l101 :: Res.arr (encInt .i64) 3 v110 l114 :: Res.arr encBool 4 v111 l115 :: Res.que (encInt .i64) 3 v112 y101 :: H) w' ∧ f' 7 = v105 ∧ f' 11 = v110 ∧ f' 13 = v111 ∧ f' 14 = v112 ∧ f' 78 = v103 ∧ f' 79 = Value.int .i64 ((from_100.length : Int)) ∧ f' 80 = Value.int .i64 (k' : Int)) s') hB102 ?_ ?_ ?_)
   ·have hS142 := ((hS141).f2).drop
    have hS143 := (hS142).f1
    have hS144 := (hS143).f4
    have hS145 := ((hS144).f4).f4
    exact ⟨s111, (PHeap.le_refl _), hS145, p127, p128, rfl, rfl, rfl, rfl, rfl⟩
   ·intro i102 t102 s113 f105 w120 hi102 hI104 hm102
    obtain ⟨l114, l115⟩ := t102
    replace hm102 := un2_eq hm102
    obtain ⟨s114, l116, hS146, p130, p131, p132, p133, p134, p135, x108⟩ := hI104
    refine W_seq ?_
    refine W_region ?_
    refine WL_step rfl rfl (Exec.lss rfl x108 p135 ?_)
    refine WL_nil (at_normal ?_)
    refine W_seq ?_
    refine W_true (congrArg Value.bool (decide_eq_true (by omega))) ?_
    refine W_skip (at_normal ?_)
    refine W_seq ?_
    refine W_block ?_
    refine W_seq ?_
    refine W_region ?_
    obtain ⟨x109, q114, hm102⟩ := bind_some hm102
    refine WL_step rfl rfl (Exec.index_rep S22 rfl p134 x108 (a103.mono (PHeap.le.trans (PHeap.le.trans (PHeap.le.trans l106 l111) l113) l116)) q114 ?_)
    intro b106 o102 a106
    refine WL_step rfl rfl (Exec.load_at (E := (encInt .i64)) hS146 A3 rfl rfl rfl a106 ?_)
    intro v113 q115
    obtain rfl := encInt_val.1 q115
    refine WL_step rfl rfl (Exec.assign (v := Value.int .i64 (x109)) rfl rfl ?_)
    refine WL_nil (at_normal ?_)
    refine W_region ?_
    refine WL_step rfl rfl (Exec.move (v := v110) rfl p131 ?_)
    refine WL_step rfl rfl (Exec.move (v := Value.int .i64 (x109)) rfl rfl ?_)
    refine WL_step rfl rfl (Exec.move (v := v111) rfl p132 ?_)
    refine WL_step rfl rfl (Exec.move (v := Value.int .i64 (x109)) rfl rfl ?_)
    obtain ⟨x110, q116, hm102⟩ := bind_some hm102
    obtain ⟨g102, c102, e109⟩ := ((hS146).f2).arr_at q116
    refine WL_step rfl rfl (Exec.index_slice S22 rfl e109 rfl (idx_some q116).1 (idx_some q116).2.1 ?_)
    obtain ⟨l117, q117, hm102⟩ := bind_some hm102
    have hS147 := (hS146).f2
    refine WL_step rfl rfl (Exec.store_arr hS147 e109 A3 rfl rfl rfl rfl (encInt_val.2 rfl) q117 ?_)
    intro w121 hS148
    obtain ⟨x111, q118, hm102⟩ := bind_some hm102
    obtain ⟨g103, c103, e110⟩ := ((hS148).f3).arr_at q118
    refine WL_step rfl rfl (Exec.index_slice S24 rfl e110 rfl (idx_some q118).1 (idx_some q118).2.1 ?_)
    obtain ⟨l118, q119, hm102⟩ := bind_some hm102
    have hS149 := (hS148).f3
    refine WL_step rfl rfl (Exec.store_arr hS149 e110 A4 rfl rfl rfl rfl (encBool_val.2 rfl) q119 ?_)
    intro w122 hS150
    refine WL_nil (ib_normal (at_normal ?_))
    refine W_region ?_
    refine WL_step rfl rfl (Exec.add rfl x108 rfl ?_)
    refine WL_step rfl rfl (Exec.move (v := Value.int .i64 (IntKind.i64.wrap ((i102 : Int) + 1))) rfl rfl ?_)
    refine WL_nil (at_normal ?_)
    have e111 := Option.some.inj hm102
    subst s113
    have hS151 := (hS150).f4
    have hS152 := (hS151).f1
    have hS153 := (hS152).f2
    have hS154 := ((hS153).f4).f4
    exact ⟨s114, l116, hS154, p130, p131, p132, p133, p134, p135, (Eq.trans rfl (wrap_up hi102 (SliceRep.le (a103.mono (PHeap.le.trans (PHeap.le.trans l106 l111) l113)))))⟩
   ·intro f106 w123 hI105
    obtain ⟨l114, l115⟩ := t101
    replace hm := un2_eq hm
    obtain ⟨s115, l119, hS155, p136, p137, p138, p139, p140, p141, x112⟩ := hI105
    refine W_seq ?_
    refine W_region ?_
    refine WL_step rfl rfl (Exec.lss rfl x112 p141 ?_)
    refine WL_nil (at_normal ?_)
    refine W_seq ?_
    refine W_false (congrArg Value.bool (decide_eq_false (by omega))) ?_
    refine W_exit (at_exit (at_exit (ib_here (at_normal ?_))))
    refine W_seq ?_
    obtain ⟨c104, hB103, hr100, hn100, hb100⟩ := ctl_some hm
    refine W_mid (M := fun f' w' => ∃ s', (c104 = .next s' ∨ c104 = .brk s') ∧ (un3 fun (l120 : (List Int)) (l121 : (List Bool)) (l122 : (List Int)) => ∃ (s116 : PHeap) (v114 : Value), PHeap.le s115 s116 ∧ St w0 s116 (Res.arr encRaw 102 v105 hs101 :: Res.rows encArc 101 hs101 l101 :: Res.arr (encInt .i64) 3 v110 l120 :: Res.arr encBool 4 v111 l121 :: Res.que (encInt .i64) 3 v114 l122 :: H) w' ∧ f' 7 = v105 ∧ f' 11 = v110 ∧ f' 13 = v111 ∧ f' 14 = v114) s') ?_ ?_
    ·refine W_block (W_while (fun s' f' w' => (un3 fun (l123 : (List Int)) (l124 : (List Bool)) (l125 : (List Int)) => ∃ (s117 : PHeap) (v115 : Value), PHeap.le s115 s117 ∧ St w0 s117 (Res.arr encRaw 102 v105 hs101 :: Res.rows encArc 101 hs101 l101 :: Res.arr (encInt .i64) 3 v110 l123 :: Res.arr encBool 4 v111 l124 :: Res.que (encInt .i64) 3 v115 l125 :: H) w' ∧ f' 7 = v105 ∧ f' 11 = v110 ∧ f' 13 = v111 ∧ f' 14 = v115) s') hB103 ?_ ?_)
     ·have hS156 := (hS155).f4
      have hS157 := (hS156).f4
      have hS158 := (hS157).f4
      have hS159 := ((hS158).f4).f4
      exact ⟨s115, v112, (PHeap.le_refl _), hS159, p136, p137, p138, p139⟩
     ·intro t103 c105 f107 w124 hI106 hm103 hres100
      obtain ⟨l123, l124, l125⟩ := t103
      replace hm103 := un3_eq hm103
      obtain ⟨s118, v115, l126, hS160, p142, p143, p144, p145⟩ := hI106
      refine W_seq ?_
      refine W_seq ?_
      refine W_region ?_
      refine WL_step rfl rfl (Exec.move (v := v115) rfl p145 ?_)
      refine WL_step rfl rfl (Exec.len_que ((hS160).f4) S22 rfl rfl ?_)
      refine WL_step rfl rfl (Exec.gtr rfl rfl rfl ?_)
      refine WL_nil (at_normal ?_)
      rcases ite_some hm103 with ⟨hc101, hm103⟩ | ⟨hc101, hm103⟩
      ·refine W_cond_t rfl hc101 ?_
       refine W_skip (at_normal ?_)
       refine W_block ?_
       refine W_seq ?_
       refine W_region ?_
       refine WL_step rfl rfl (Exec.move (v := v115) rfl p145 ?_)
       obtain ⟨x113, q120, hm103⟩ := bind_some hm103
       refine WL_step rfl rfl (Exec.index_que ((hS160).f4) S22 rfl rfl rfl q120 ?_)
       intro b107 o103 a107
       refine WL_step rfl rfl (Exec.load_cur (E := (encInt .i64)) a107 A3 rfl rfl ?_)
       intro v116 q121
       obtain rfl := encInt_val.1 q121
       refine WL_step rfl rfl (Exec.assign (v := Value.int .i64 (x113)) rfl rfl ?_)
       refine WL_nil (at_normal ?_)
       refine W_seq ?_
       refine W_region ?_
       refine WL_step rfl rfl (Exec.move (v := v111) rfl p144 ?_)
       refine WL_step rfl rfl (Exec.move (v := Value.int .i64 (x113)) rfl rfl ?_)
       refine WL_step rfl rfl (Exec.move (v := v115) rfl p145 ?_)
       obtain ⟨c106, q122, hm103⟩ := bind_some hm103
       have hS161 := (hS160).f4
       refine WL_step rfl rfl (Exec.slice_que hS161 S22 rfl rfl rfl q122 ?_)
       intro v117 hS162
       refine WL_step rfl rfl (Exec.assign (v := v117) rfl rfl ?_)
       obtain ⟨x114, q123, hm103⟩ := bind_some hm103
       obtain ⟨g104, c107, e112⟩ := ((hS162).f4).arr_at q123
       refine WL_step rfl rfl (Exec.index_slice S24 rfl e112 rfl (idx_some q123).1 (idx_some q123).2.1 ?_)
       obtain ⟨l127, q124, hm103⟩ := bind_some hm103
       have hS163 := (hS162).f4
       refine WL_step rfl rfl (Exec.store_arr hS163 e112 A4 rfl rfl rfl rfl (encBool_val.2 rfl) q124 ?_)
       intro w125 hS164
       refine WL_nil (at_normal ?_)
       refine W_seq ?_
       refine W_region ?_
       refine WL_step rfl rfl (Exec.move (v := v105) rfl p142 ?_)
       refine WL_step rfl rfl (Exec.move (v := Value.int .i64 (x113)) rfl rfl ?_)
       obtain ⟨row101, q125, hm103⟩ := bind_some hm103
       obtain ⟨h101, e113, e114, _⟩ := ((((hS164).f3).f3).f1).rows_at q125
       obtain ⟨g105, c108, e115⟩ := (((hS164).f3).f3).arr_at e113
       refine WL_step rfl rfl (Exec.index_slice S99 rfl e115 rfl (idx_some e113).1 (idx_some e113).2.1 ?_)
       refine WL_step rfl rfl (Exec.load_arr (F := encRaw) (((hS164).f3).f3) e115 A102 rfl rfl rfl e113 (Sub.refl _) ?_)
       intro v118 q126
       replace q126 := (encRaw_val.1 q126).1
       subst v118
       refine WL_step rfl rfl (Exec.len_arr (((((hS164).f3).f3).f1).rows_split e114 (idx_some q125).2.2) S102 rfl rfl ?_)
       refine WL_step rfl rfl (Exec.move (v := Value.int .i64 (0)) rfl rfl ?_)
       refine WL_nil (at_normal ?_)
       obtain ⟨u100, q127, hm103⟩ := bind_some hm103
       obtain ⟨t104, hB104, hm103⟩ := bind_some hm103
       refine W_block (W_forS (fun k' s' f' w' => (un3 fun (l128 : (List Int)) (l129 : (List Bool)) (l130 : (List Int)) => ∃ (s119 : PHeap) (v119 : Value), PHeap.le s118 s119 ∧ St w0 s119 (Res.arr encRaw 102 v105 hs101 :: Res.rows encArc 101 hs101 l101 :: Res.arr (encInt .i64) 3 v110 l128 :: Res.arr encBool 4 v111 l129 :: Res.que (encInt .i64) 3 v119 l130 :: H) w' ∧ f' 7 = v105 ∧ f' 11 = v110 ∧ f' 13 = v111 ∧ f' 14 = v119 ∧ f' 17 = Value.int .i64 (x113) ∧ f' 105 = h101 ∧ f' 106 = Value.int .i64 ((row101.length : Int)) ∧ f' 107 = Value.int .i64 (k' : Int)) s') hB104 ?_ ?_ ?_)
       ·have hS165 := (hS164).f1
        have hS166 := (hS165).f1
        have hS167 := (hS166).f4
        have hS168 := ((hS167).f4).f4
        exact ⟨s118, v117, (PHeap.le_refl _), hS168, p142, p143, p144, rfl, rfl, rfl, rfl, rfl⟩
       ·intro i103 t105 s120 f108 w126 hi103 hI107 hm104
        obtain ⟨l128, l129, l130⟩ := t105
        replace hm104 := un3_eq hm104
        obtain ⟨s121, v119, l131, hS169, p146, p147, p148, p149, p150, p151, p152, x115⟩ := hI107
        refine W_seq ?_
        refine W_region ?_
        refine WL_step rfl rfl (Exec.lss rfl x115 p152 ?_)
        refine WL_nil (at_normal ?_)
        refine W_seq ?_
        refine W_true (congrArg Value.bool (decide_eq_true (by omega))) ?_
        refine W_skip (at_normal ?_)
        refine W_seq ?_
        refine W_block ?_
        refine W_seq ?_
        refine W_region ?_
        obtain ⟨x116, q128, hm104⟩ := bind_some hm104
        obtain ⟨g106, c109, e116⟩ := (((hS169).f1).rows_split e114 (idx_some q125).2.2).arr_at q128
        refine WL_step rfl rfl (Exec.index_slice S102 rfl (Eq.trans p151 e116) x115 (idx_some q128).1 (idx_some q128).2.1 ?_)
        refine WL_step rfl rfl (Exec.load_arr (F := encArc) (((hS169).f1).rows_split e114 (idx_some q125).2.2) e116 A101 rfl rfl rfl q128 (Sub.refl _) ?_)
        intro v120 q129
        obtain rfl := encArc_val.1 q129
        refine WL_step rfl rfl (Exec.alloc (cs := [Value.int .i64 (0), Value.int .i64 (0), Value.int .i64 (0)]) hS169 Z101 rfl rfl ?_)
        intro b108 w127 hS170
        refine WL_step rfl rfl (Exec.store_box (ds := [Value.int .i64 (x116.From), Value.int .i64 (x116.To), Value.int .i64 (x116.Weight)]) (es := [Value.int .i64 (x116.From), Value.int .i64 (x116.To), Value.int .i64 (x116.Weight)]) hS170 A101 rfl rfl rfl rfl (one_cons rfl (one_cons rfl (one_cons rfl one_nil))) (Nat.le_of_ble_eq_true rfl) rfl ?_)
        intro w128 hS171
        refine WL_nil (at_normal ?_)
        refine W_seq ?_
        refine W_seq ?_
        refine W_dl (n0 := 13) (.q 0 (.q 1 (.q 2 (.q 3 (.q 4 (.q 5 (.q 6 (.q 7 (.q 8 (.q 9 (.q 10 (.q 11 (.q 12 .done))))))))))))) hmix (by kernel_rfl) (by kernel_rfl) ?_
        have hS172 := hS171.drew
        refine DL_q rfl rfl (Exec.move (v := v110) rfl p147 ⟨rfl, ?_⟩)
        refine DL_q rfl rfl (Exec.move (v := Value.int .i64 (x113)) rfl p150 ⟨rfl, ?_⟩)
        obtain ⟨x117, q130, hm104⟩ := bind_some hm104
        obtain ⟨g107, c110, e117⟩ := ((hS172).f3).arr_at q130
        refine DL_q rfl rfl (Exec.index_slice S22 rfl e117 rfl (idx_some q130).1 (idx_some q130).2.1 ⟨rfl, ?_⟩)
        refine DL_q rfl rfl (Exec.load_arr (F := (encInt .i64)) ((hS172).f3) e117 A3 rfl rfl rfl q130 (Sub.refl _) ?_)
        intro v121 q131
        obtain rfl := encInt_val.1 q131
        refine ⟨rfl, ?_⟩
        refine DL_q rfl rfl (Exec.field F101_2 rfl rfl rfl ⟨rfl, ?_⟩)
        refine DL_q rfl rfl (Exec.load_box (hS172) A3 rfl rfl rfl ⟨rfl, ?_⟩)
        refine DL_q rfl rfl (Exec.add rfl rfl rfl ⟨rfl, ?_⟩)
        refine DL_q rfl rfl (Exec.move (v := v110) rfl p147 ⟨rfl, ?_⟩)
        refine DL_q rfl rfl (Exec.field F101_1 rfl rfl rfl ⟨rfl, ?_⟩)
        refine DL_q rfl rfl (Exec.load_box (hS172) A3 rfl rfl rfl ⟨rfl, ?_⟩)
        obtain ⟨x118, q132, hm104⟩ := bind_some hm104
        obtain ⟨g108, c111, e118⟩ := ((hS172).f3).arr_at q132
        refine DL_q rfl rfl (Exec.index_slice S22 rfl e118 rfl (idx_some q132).1 (idx_some q132).2.1 ⟨rfl, ?_⟩)
        refine DL_q rfl rfl (Exec.load_arr (F := (encInt .i64)) ((hS172).f3) e118 A3 rfl rfl rfl q132 (Sub.refl _) ?_)
        intro v122 q133
        obtain rfl := encInt_val.1 q133
        refine ⟨rfl, ?_⟩
        refine DL_q rfl rfl (Exec.geq rfl rfl rfl ⟨rfl, ?_⟩)
        refine DL_done ?_
        refine WL_nil (at_normal ?_)
        rcases ite_some hm104 with ⟨hc102, hm104⟩ | ⟨hc102, hm104⟩
        ·refine W_cond_t rfl hc102 ?_
         refine W_exit (at_exit (ib_here (at_normal ?_)))
         refine W_region ?_
         refine WL_step rfl rfl (Exec.add rfl x115 rfl ?_)
         refine WL_step rfl rfl (Exec.move (v := Value.int .i64 (IntKind.i64.wrap ((i103 : Int) + 1))) rfl rfl ?_)
         refine WL_nil (at_normal ?_)
         have e119 := Option.some.inj hm104
         subst s120
         have hS173 := (hS172).drop
         have hS174 := (hS173).f4
         have hS175 := (hS174).f4
         have hS176 := (hS175).f4
         have hS177 := ((hS176).f4).f4
         exact ⟨s121, v119, l131, hS177, p146, p147, p148, p149, p150, p151, p152, (Eq.trans rfl (wrap_up hi103 (by have h := must_some q127; simpa [maxLen] using h)))⟩
        ·refine W_cond_f rfl hc102 ?_
         replace hc102 := not_true hc102
         refine W_skip (at_normal ?_)
         refine W_seq ?_
         refine W_dl (n0 := 10) (.q 0 (.q 1 (.q 2 (.q 3 (.q 4 (.q 5 (.q 6 (.q 7 (.q 8 (.q 9 .done)))))))))) hmix (by kernel_rfl) (by kernel_rfl) ?_
         have hS178 := hS172.drew
         refine DL_q rfl rfl (Exec.move (v := v110) rfl p147 ⟨rfl, ?_⟩)
         refine DL_q rfl rfl (Exec.field F101_1 rfl rfl rfl ⟨rfl, ?_⟩)
         refine DL_q rfl rfl (Exec.load_box (hS178) A3 rfl rfl rfl ⟨rfl, ?_⟩)
         refine DL_q rfl rfl (Exec.move (v := v110) rfl p147 ⟨rfl, ?_⟩)
         refine DL_q rfl rfl (Exec.move (v := Value.int .i64 (x113)) rfl p150 ⟨rfl, ?_⟩)
         obtain ⟨g109, c112, e120⟩ := ((hS178).f3).arr_at q130
         refine DL_q rfl rfl (Exec.index_slice S22 rfl e120 rfl (idx_some q130).1 (idx_some q130).2.1 ⟨rfl, ?_⟩)
         refine DL_q rfl rfl (Exec.load_arr (F := (encInt .i64)) ((hS178).f3) e120 A3 rfl rfl rfl q130 (Sub.refl _) ?_)
         intro v123 q134
         obtain rfl := encInt_val.1 q134
         refine ⟨rfl, ?_⟩
         refine DL_q rfl rfl (Exec.field F101_2 rfl rfl rfl ⟨rfl, ?_⟩)
         refine DL_q rfl rfl (Exec.load_box (hS178) A3 rfl rfl rfl ⟨rfl, ?_⟩)
         refine DL_q rfl rfl (Exec.add rfl rfl rfl ⟨rfl, ?_⟩)
         refine DL_done ?_
         obtain ⟨g110, c113, e121⟩ := ((hS178).f3).arr_at q132
         refine WL_step rfl rfl (Exec.index_slice S22 rfl e121 rfl (idx_some q132).1 (idx_some q132).2.1 ?_)
         obtain ⟨l132, q135, hm104⟩ := bind_some hm104
         have hS179 := (hS178).f3
         refine WL_step rfl rfl (Exec.store_arr hS179 e121 A3 rfl rfl rfl rfl (encInt_val.2 rfl) q135 ?_)
         intro w129 hS180
         refine WL_nil (at_normal ?_)
         refine W_seq ?_
         refine W_region ?_
         refine WL_step rfl rfl (Exec.move (v := v111) rfl p148 ?_)
         refine WL_step rfl rfl (Exec.field F101_1 rfl rfl rfl ?_)
         refine WL_step rfl rfl (Exec.load_box ((hS180).f1) A3 rfl rfl rfl ?_)
         obtain ⟨x119, q136, hm104⟩ := bind_some hm104
         obtain ⟨g111, c114, e122⟩ := ((hS180).f4).arr_at q136
         refine WL_step rfl rfl (Exec.index_slice S24 rfl e122 rfl (idx_some q136).1 (idx_some q136).2.1 ?_)
         refine WL_step rfl rfl (Exec.load_arr (F := encBool) ((hS180).f4) e122 A4 rfl rfl rfl q136 (Sub.refl _) ?_)
         intro v124 q137
         obtain rfl := encBool_val.1 q137
         refine WL_step rfl rfl (Exec.not rfl rfl ?_)
         refine WL_nil (at_normal ?_)
         obtain ⟨t106, ht101, hm104⟩ := bind_some hm104
         refine W_mid (M := fun f' w' => (un2 fun (l133 : (List Bool)) (l134 : (List Int)) => ∃ (s122 : PHeap) (v125 : Value), PHeap.le s121 s122 ∧ St w0 s122 (Res.arr encRaw 102 v105 hs101 :: Res.rows encArc 101 hs101 l101 :: Res.arr (encInt .i64) 3 v110 l132 :: Res.arr encBool 4 v111 l133 :: Res.que (encInt .i64) 3 v125 l134 :: H) w' ∧ f' 7 = v105 ∧ f' 11 = v110 ∧ f' 13 = v111 ∧ f' 14 = v125 ∧ f' 17 = Value.int .i64 (x113) ∧ f' 105 = h101 ∧ f' 106 = Value.int .i64 ((row101.length : Int)) ∧ f' 107 = Value.int .i64 ((i103 : Int))) t106) ?_ ?_
         ·rcases ite_some ht101 with ⟨hc103, ht101⟩ | ⟨hc103, ht101⟩
          ·refine W_cond_t rfl hc103 ?_
           refine W_dl (n0 := 9) (.q 0 (.q 1 (.q 2 (.q 3 (.q 4 (.q 5 (.e 6 [0, 1, 2, 3] (.e 7 [0, 1, 2] (.e 8 [0, 1, 2] .done))))))))) hmix (by kernel_rfl) (by kernel_rfl) ?_
           have hS181 := hS180.drew
           refine DL_q rfl rfl (Exec.move (v := v111) rfl p148 ⟨rfl, ?_⟩)
           refine DL_q rfl rfl (Exec.field F101_1 rfl rfl rfl ⟨rfl, ?_⟩)
           refine DL_q rfl rfl (Exec.load_box ((hS181).f1) A3 rfl rfl rfl ⟨rfl, ?_⟩)
           refine DL_q rfl rfl (Exec.move (v := v119) rfl p149 ⟨rfl, ?_⟩)
           refine DL_q rfl rfl (Exec.field F101_1 rfl rfl rfl ⟨rfl, ?_⟩)
           refine DL_q rfl rfl (Exec.load_box ((hS181).f1) A3 rfl rfl rfl ⟨rfl, ?_⟩)
           refine DL_e rfl rfl (Exec.buildSlice (Te := 3) (cs := [Value.int .i64 (x116.To)]) hS181 rfl (parts_cons (c := [Value.int .i64 (x116.To)]) (cells_of rfl rfl) parts_nil) (fun _ => by kernel_rfl) ?_)
           intro b109 w130 hS182
           refine ⟨(ag_cons (ag_r rfl rfl (Exec.move (v := v111) rfl p148 ⟨rfl, rfl⟩)) (ag_cons (ag_r rfl rfl (Exec.field F101_1 rfl rfl rfl ⟨rfl, rfl⟩)) (ag_cons (ag_r rfl rfl (Exec.load_box ((hS182).f2) A3 rfl rfl rfl ⟨rfl, rfl⟩)) (ag_cons (ag_r rfl rfl (Exec.move (v := v119) rfl p149 ⟨rfl, rfl⟩)) ag_nil)))), ?_⟩
           obtain ⟨l135, q138, ht101⟩ := bind_some ht101
           have hS183 := (hS182).f6
           refine DL_e rfl rfl (Exec.append_que (E := (encInt .i64)) (ys := [x116.To]) hS183 S22 Z3 rfl (by decide) rfl rfl rfl rfl ⟨[Value.int .i64 (x116.To)], [], rfl, rfl, rfl⟩ rfl q138 ?_)
           intro v126 w131 hS184
           refine ⟨(ag_cons (ag_r rfl rfl (Exec.move (v := v111) rfl p148 ⟨rfl, rfl⟩)) (ag_cons (ag_r rfl rfl (Exec.field F101_1 rfl rfl rfl ⟨rfl, rfl⟩)) (ag_cons (ag_r rfl rfl (Exec.load_box ((hS184).f2) A3 rfl rfl rfl ⟨rfl, rfl⟩)) ag_nil))), ?_⟩
           refine DL_e rfl rfl (Exec.assign (v := v126) rfl rfl ?_)
           refine ⟨(ag_cons (ag_r rfl rfl (Exec.move (v := v111) rfl p148 ⟨rfl, rfl⟩)) (ag_cons (ag_r rfl rfl (Exec.field F101_1 rfl rfl rfl ⟨rfl, rfl⟩)) (ag_cons (ag_r rfl rfl (Exec.load_box ((hS184).f2) A3 rfl rfl rfl ⟨rfl, rfl⟩)) ag_nil))), ?_⟩
           refine DL_done ?_
           obtain ⟨g112, c115, e123⟩ := ((hS184).f5).arr_at q136
           refine WL_step rfl rfl (Exec.index_slice S24 rfl e123 rfl (idx_some q136).1 (idx_some q136).2.1 ?_)
           obtain ⟨l136, q139, ht101⟩ := bind_some ht101
           have hS185 := (hS184).f5
           refine WL_step rfl rfl (Exec.store_arr hS185 e123 A4 rfl rfl rfl rfl (encBool_val.2 rfl) q139 ?_)
           intro w132 hS186
           refine WL_nil (at_normal ?_)
           have e124 := Option.some.inj ht101
           subst t106
           have hS187 := ((hS186).f3).drop
           have hS188 := (hS187).f1
           have hS189 := (hS188).f1
           have hS190 := (hS189).f2
           have hS191 := ((hS190).f4).f4
           exact ⟨s121, v126, (PHeap.le_refl _), hS191, p146, p147, p148, rfl, p150, p151, p152, x115⟩
          ·refine W_cond_f rfl hc103 ?_
           replace hc103 := not_true hc103
           refine W_skip (at_normal ?_)
           have e125 := Option.some.inj ht101
           subst t106
           have hS192 := ((hS180).f1).drop
           have hS193 := (hS192).f4
           have hS194 := (hS193).f4
           have hS195 := (hS194).f2
           have hS196 := ((hS195).f4).f4
           exact ⟨s121, v119, (PHeap.le_refl _), hS196, p146, p147, p148, p149, p150, p151, p152, x115⟩
         ·intro f109 w133 hM101
          obtain ⟨l133, l134⟩ := t106
          replace hm104 := un2_eq hm104
          obtain ⟨s123, v125, l137, hS197, p153, p154, p155, p156, p157, p158, p159, p160⟩ := hM101
          refine (ib_normal (at_normal ?_))
          refine W_region ?_
          refine WL_step rfl rfl (Exec.add rfl p160 rfl ?_)
          refine WL_step rfl rfl (Exec.move (v := Value.int .i64 (IntKind.i64.wrap ((i103 : Int) + 1))) rfl rfl ?_)
          refine WL_nil (at_normal ?_)
          have e126 := Option.some.inj hm104
          subst s120
          have hS198 := (hS197).f4
          have hS199 := (hS198).f4
          have hS200 := (hS199).f4
          have hS201 := ((hS200).f4).f4
          exact ⟨s123, v125, (PHeap.le.trans l131 l137), hS201, p153, p154, p155, p156, p157, p158, p159, (Eq.trans rfl (wrap_up hi103 (by have h := must_some q127; simpa [maxLen] using h)))⟩
       ·intro f110 w134 hI108
        obtain ⟨l128, l129, l130⟩ := t104
        replace hm103 := un3_eq hm103
        obtain ⟨s124, v119, l138, hS202, p161, p162, p163, p164, p165, p166, p167, x120⟩ := hI108
        refine W_seq ?_
        refine W_region ?_
        refine WL_step rfl rfl (Exec.lss rfl x120 p167 ?_)
        refine WL_nil (at_normal ?_)
        refine W_seq ?_
        refine W_false (congrArg Value.bool (decide_eq_false (by omega))) ?_
        refine W_exit (at_exit (at_exit (ib_here (ib_normal (at_normal ?_)))))
        have e127 := Option.some.inj hm103
        subst c105
        have hS203 := (hS202).f4
        have hS204 := (hS203).f4
        have hS205 := (hS204).f4
        have hS206 := ((hS205).f4).f4
        refine ⟨_, rfl, ?_⟩; exact ⟨s124, v119, (PHeap.le.trans l126 l138), hS206, p161, p162, p163, p164⟩
      ·refine W_cond_f rfl hc101 ?_
       replace hc101 := not_true hc101
       refine W_exit (at_exit (at_exit (ib_here (at_normal ?_))))
       have e128 := Option.some.inj hm103
       subst c105
       have hS207 := (hS160).f4
       have hS208 := (hS207).f4
       have hS209 := (hS208).f4
       have hS210 := ((hS209).f4).f4
       refine ⟨_, .inr (hres100 (by intro _ h; cases h)), ?_⟩; exact ⟨s118, v115, l126, hS210, p142, p143, p144, p145⟩
    ·rintro f111 w135 ⟨t107, hc104, hM102⟩
     have hm := hc104.elim (hn100 _) (hb100 _)
     clear hc104
     obtain ⟨l120, l121, l122⟩ := t107
     replace hm := un3_eq hm
     obtain ⟨s125, v114, l139, hS211, p168, p169, p170, p171⟩ := hM102
     refine (at_normal ?_)
     refine W_seq ?_
     refine W_region ?_
     refine WL_step rfl rfl (Exec.move (v := v110) rfl p169 ?_)
     refine WL_step rfl rfl (Exec.assign (v := v110) rfl rfl ?_)
     refine WL_nil (at_normal ?_)
     refine W_ret ?_
     have e129 := Option.some.inj hm
     subst r
     refine ⟨_, ret1 rfl, ?_⟩
     have hS212 := (hS211).f2
     obtain ⟨s126, l140, hS213, r100⟩ := hS212.freezeArr
     have hS214 := ((hS213).drop).drop
     have hS215 := (hS214).drop
     have hS216 := (hS215).drop
     exact ⟨s126, v110, (PHeap.le.trans (PHeap.le.trans (PHeap.le.trans (PHeap.le.trans (PHeap.le.trans l106 l111) l113) l119) l139) l140), hS216, rfl, r100⟩

theorem N25 : (Tryd.f25.name == "runtime.NumGoroutine") = false := by kernel_rfl

theorem transys_Distances_sim {w0 w : World} {s : PHeap} {H : List Res} {x100 : System} {v100 : Value} {v101 : Value} {v102 : Value} {r : (List Int) × (Option Int)} (hm : transys_Distances_p x100 = some r) (hS : St w0 s (H) w) (a100 : SliceRep (encInt .i64) s v100 x100.Costs) (a101 : SliceRep encEdge s v101 x100.Edges) (a102 : SliceRep encBool s v102 x100.Goals) :
  Calls Tryd.prog 25 #[Value.agg #[Value.int .i64 (x100.States), Value.int .i64 (x100.Init), v100, v101, v102]] w fun e w' => ∃ v, e = .returned v ∧ ((un2 fun (y100 : (List Int)) (y101 : (Option Int)) => ∃ (s100 : PHeap) (v103 : Value), PHeap.le s s100 ∧ St w0 s100 (H) w' ∧ v = Value.tuple #[v103, errV 34 (y101)] ∧ SliceRep (encInt .i64) s100 v103 y100) r) := by
 unfold transys_Distances_p at hm
 refine calls_of_W Tryd.func25 rfl rfl ?_
 refine W_seq ?_
 refine W_region ?_
 refine WL_step rfl rfl (Exec.box (cs := [Value.int .i64 (x100.States), Value.int .i64 (x100.Init), v100, v101, v102]) hS rfl rfl rfl ?_)
 intro b100 w100 hS100
 refine WL_step rfl rfl (Exec.assign (v := Value.slice none 0 0) rfl rfl ?_)
 refine WL_step rfl rfl (Exec.assign (v := errV 34 (none)) rfl rfl ?_)
 refine WL_nil (at_normal ?_)
 refine W_seq ?_
 refine W_seq ?_
 refine W_region ?_
 refine WL_step rfl rfl (Exec.load_box_agg (ds := [Value.int .i64 (x100.States), Value.int .i64 (x100.Init), v100, v101, v102]) (hS100) A26 rfl rfl rfl ?_)
 obtain ⟨y102, q100, hm⟩ := bind_some hm
 refine WL_step rfl rfl (Exec.call rfl rfl Tryd.func22 rfl N22 (args_cons rfl args_nil) ((transys_Valid_sim q100 hS100 a100 a101 a102).mono ?_))
 rintro _ w101 ⟨_, rfl, ⟨s101, l100, hS101, rfl⟩⟩
 refine ⟨_, rfl, ?_⟩
 refine WL_step rfl rfl (Exec.not rfl rfl ?_)
 refine WL_nil (at_normal ?_)
 rcases ite_some hm with ⟨hc100, hm⟩ | ⟨hc100, hm⟩
 ·refine W_cond_t rfl hc100 ?_
  refine W_seq ?_
  refine W_region ?_
  refine WL_step rfl rfl (Exec.makeInterface C34 rfl rfl ?_)
  refine WL_step rfl rfl (Exec.assign (v := Value.slice none 0 0) rfl rfl ?_)
  refine WL_step rfl rfl (Exec.assign (v := errV 34 (some 2)) rfl rfl ?_)
  refine WL_nil (at_normal ?_)
  refine W_ret (at_ret ?_)
  have e100 := Option.some.inj hm
  subst r
  refine ⟨_, ret2 rfl, ?_⟩
  have hS102 := (hS101).drop
  exact ⟨s101, (Value.slice none 0 0), l100, hS102, (tup2 rfl rfl), (SliceRep.nil _ _)⟩
 ·refine W_cond_f rfl hc100 ?_
  replace hc100 := not_true hc100
  refine W_skip (at_normal ?_)
  refine W_seq ?_
  refine W_dl (n0 := 4) (.q 0 (.q 1 (.e 2 [0] (.e 3 [] .done)))) hmix (by kernel_rfl) (by kernel_rfl) ?_
  have hS103 := hS101.drew
  refine DL_q rfl rfl (Exec.load_box_agg (ds := [Value.int .i64 (x100.States), Value.int .i64 (x100.Init), v100, v101, v102]) (hS103) A26 rfl rfl rfl ⟨rfl, ?_⟩)
  refine DL_q rfl rfl (Exec.load_box_agg (ds := [Value.int .i64 (x100.States), Value.int .i64 (x100.Init), v100, v101, v102]) (hS103) A26 rfl rfl rfl ⟨rfl, ?_⟩)
  obtain ⟨y103, q101, hm⟩ := bind_some hm
  refine DL_e rfl rfl (Exec.call rfl rfl Tryd.func50 rfl N50 (args_cons rfl args_nil) ((transys_goals_sim q101 hS103 (a100.mono l100) (a101.mono l100) (a102.mono l100)).mono ?_))
  rintro _ w102 ⟨v104, rfl, ⟨s102, _, l101, hS104, rfl, r100⟩⟩
  refine ⟨_, rfl, ?_⟩
  refine ⟨(ag_cons (ag_r rfl rfl (Exec.load_box_agg (ds := [Value.int .i64 (x100.States), Value.int .i64 (x100.Init), v100, v101, v102]) (hS104) A26 rfl rfl rfl ⟨rfl, rfl⟩)) ag_nil), ?_⟩
  obtain ⟨y104, q102, hm⟩ := bind_some hm
  refine DL_e rfl rfl (Exec.call rfl rfl Tryd.func49 rfl N49 (args_cons rfl (args_cons rfl (args_cons rfl args_nil))) ((transys_shortest_sim q102 hS104 (a100.mono (PHeap.le.trans l100 l101)) (a101.mono (PHeap.le.trans l100 l101)) (a102.mono (PHeap.le.trans l100 l101)) r100).mono ?_))
  rintro _ w103 ⟨v105, rfl, ⟨s103, _, l102, hS105, rfl, r101⟩⟩
  refine ⟨_, rfl, ?_⟩
  refine ⟨ag_nil, ?_⟩
  refine DL_done ?_
  refine WL_step rfl rfl (Exec.assign (v := v105) rfl rfl ?_)
  refine WL_step rfl rfl (Exec.assign (v := errV 34 (none)) rfl rfl ?_)
  refine WL_nil (at_normal ?_)
  refine W_ret ?_
  have e101 := Option.some.inj hm
  subst r
  refine ⟨_, ret2 rfl, ?_⟩
  have hS106 := (hS105).drop
  exact ⟨s103, v105, (PHeap.le.trans (PHeap.le.trans l100 l101) l102), hS106, (tup2 rfl rfl), r101⟩

theorem N6 : (Tryd.f6.name == "runtime.NumGoroutine") = false := by kernel_rfl

theorem law45_ShrinkStable_sim {w0 w : World} {s : PHeap} {H : List Res} {x1 : System} {v2 : Value} {v4 : Value} {v6 : Value} {r : Bool} (hm : law45_ShrinkStable_p x1 = some r) (hS : St w0 s (H) w) (a3 : SliceRep (encInt .i64) s v2 x1.Costs) (a5 : SliceRep encEdge s v4 x1.Edges) (a7 : SliceRep encBool s v6 x1.Goals) :
  Calls Tryd.prog 6 #[Value.agg #[Value.int .i64 (x1.States), Value.int .i64 (x1.Init), v2, v4, v6]] w fun e w' => ∃ v, e = .returned v ∧ ((fun (y100 : Bool) => ∃ (s100 : PHeap) , PHeap.le s s100 ∧ St w0 s100 (H) w' ∧ v = Value.bool (y100)) r) := by
 unfold law45_ShrinkStable_p at hm
 refine calls_of_W Tryd.func6 rfl rfl ?_
 refine W_seq ?_
 refine W_region ?_
 refine WL_step rfl rfl (Exec.box (cs := [Value.int .i64 (x1.States), Value.int .i64 (x1.Init), v2, v4, v6]) hS rfl rfl rfl ?_)
 intro b100 w100 hS100
 refine WL_step rfl rfl (Exec.assign (v := Value.bool (false)) rfl rfl ?_)
 refine WL_nil (at_normal ?_)
 refine W_seq ?_
 refine W_seq ?_
 obtain ⟨z100, ht100, hm⟩ := bind_some hm
 refine W_mid (M := fun f' w' => (fun (z100 : Bool) => ∃ (s101 : PHeap) , PHeap.le s s101 ∧ St w0 s101 (Res.box b100 26 [Value.int .i64 (x1.States), Value.int .i64 (x1.Init), v2, v4, v6] :: H) w' ∧ f' 1 = Value.pointer (some ⟨b100, 0, none⟩) ∧ f' 28 = Value.bool (z100)) z100) ?_ ?_
 ·refine W_region ?_
  obtain ⟨y101, q100, ht100⟩ := bind_some ht100
  refine WL_step rfl rfl (Exec.call rfl rfl Tryd.func10 rfl N10 args_nil ((law45_awake_sim q100 hS100 ).mono ?_))
  rintro _ w101 ⟨_, rfl, ⟨s102, l100, hS101, rfl⟩⟩
  refine ⟨_, rfl, ?_⟩
  refine WL_step rfl rfl (Exec.not rfl rfl ?_)
  refine WL_step rfl rfl (Exec.move (v := Value.bool (!y101)) rfl rfl ?_)
  rcases ite_some ht100 with ⟨hc100, ht100⟩ | ⟨hc100, ht100⟩
  ·refine WL_pass rfl (yield_of rfl (congrArg Value.bool hc100)) rfl rfl ?_
   refine WL_pass rfl (yield_of rfl (congrArg Value.bool hc100)) rfl rfl ?_
   refine WL_step rfl rfl (Exec.pick_t (v := Value.bool (true)) rfl (congrArg Value.bool hc100) rfl ?_)
   refine WL_step rfl rfl (Exec.move (v := Value.bool (true)) rfl rfl ?_)
   refine WL_pass rfl (yield_of rfl rfl) rfl rfl ?_
   refine WL_pass rfl (yield_of rfl rfl) rfl rfl ?_
   refine WL_pass rfl (yield_of rfl rfl) rfl rfl ?_
   refine WL_step rfl rfl (Exec.pick_t (v := Value.bool (true)) rfl rfl rfl ?_)
   refine WL_nil (at_normal ?_)
   have e100 := Option.some.inj ht100
   subst z100
   exact ⟨s102, l100, hS101, rfl, rfl⟩
  ·replace hc100 := not_true hc100
   refine WL_run rfl (yield_of rfl (congrArg Value.bool hc100)) rfl (Exec.load_box_agg (ds := [Value.int .i64 (x1.States), Value.int .i64 (x1.Init), v2, v4, v6]) (hS101) A26 rfl rfl rfl ?_)
   obtain ⟨y102, q101, ht100⟩ := bind_some ht100
   refine WL_run rfl (yield_of rfl (congrArg Value.bool hc100)) rfl (Exec.call rfl rfl Tryd.func11 rfl N11 (args_cons rfl args_nil) ((law45_large_sim q101 hS101 (a3.mono l100) (a5.mono l100) (a7.mono l100)).mono ?_))
   rintro _ w102 ⟨_, rfl, ⟨s103, l101, hS102, rfl⟩⟩
   refine ⟨_, rfl, ?_⟩
   refine WL_step rfl rfl (Exec.pick_f (v := Value.bool (y102)) rfl (congrArg Value.bool hc100) rfl ?_)
   refine WL_step rfl rfl (Exec.move (v := Value.bool (y102)) rfl rfl ?_)
   rcases ite_some ht100 with ⟨hc101, ht100⟩ | ⟨hc101, ht100⟩
   ·refine WL_pass rfl (yield_of rfl (congrArg Value.bool hc101)) rfl rfl ?_
    refine WL_pass rfl (yield_of rfl (congrArg Value.bool hc101)) rfl rfl ?_
    refine WL_pass rfl (yield_of rfl (congrArg Value.bool hc101)) rfl rfl ?_
    refine WL_step rfl rfl (Exec.pick_t (v := Value.bool (true)) rfl (congrArg Value.bool hc101) rfl ?_)
    refine WL_nil (at_normal ?_)
    have e101 := Option.some.inj ht100
    subst z100
    exact ⟨s103, (PHeap.le.trans l100 l101), hS102, rfl, rfl⟩
   ·replace hc101 := not_true hc101
    refine WL_run rfl (yield_of rfl (congrArg Value.bool hc101)) rfl (Exec.load_box_agg (ds := [Value.int .i64 (x1.States), Value.int .i64 (x1.Init), v2, v4, v6]) (hS102) A26 rfl rfl rfl ?_)
    obtain ⟨y103, q102, ht100⟩ := bind_some ht100
    refine WL_run rfl (yield_of rfl (congrArg Value.bool hc101)) rfl (Exec.call rfl rfl Tryd.func22 rfl N22 (args_cons rfl args_nil) ((transys_Valid_sim q102 hS102 (a3.mono (PHeap.le.trans l100 l101)) (a5.mono (PHeap.le.trans l100 l101)) (a7.mono (PHeap.le.trans l100 l101))).mono ?_))
    rintro _ w103 ⟨_, rfl, ⟨s104, l102, hS103, rfl⟩⟩
    refine ⟨_, rfl, ?_⟩
    refine WL_run rfl (yield_of rfl (congrArg Value.bool hc101)) rfl (Exec.not rfl rfl ?_)
    refine WL_step rfl rfl (Exec.pick_f (v := Value.bool (!y103)) rfl (congrArg Value.bool hc101) rfl ?_)
    refine WL_nil (at_normal ?_)
    have e102 := Option.some.inj ht100
    subst z100
    exact ⟨s104, (PHeap.le.trans (PHeap.le.trans l100 l101) l102), hS103, rfl, rfl⟩
 ·intro f100 w104 hM100
  obtain ⟨s105, l103, hS104, p100, p101⟩ := hM100
  refine (at_normal ?_)
  rcases ite_some hm with ⟨hc102, hm⟩ | ⟨hc102, hm⟩
  ·refine W_cond_t p101 hc102 ?_
   refine W_seq ?_
   refine W_region ?_
   obtain ⟨y104, q103, hm⟩ := bind_some hm
   refine WL_step rfl rfl (Exec.call rfl rfl Tryd.func10 rfl N10 args_nil ((law45_awake_sim q103 hS104 ).mono ?_))
   rintro _ w105 ⟨_, rfl, ⟨s106, l104, hS105, rfl⟩⟩
   refine ⟨_, rfl, ?_⟩
   refine WL_step rfl rfl (Exec.assign (v := Value.bool (y104)) rfl rfl ?_)
   refine WL_nil (at_normal ?_)
   refine W_ret (at_ret ?_)
   have e103 := Option.some.inj hm
   subst r
   refine ⟨_, ret1 rfl, ?_⟩
   have hS106 := (hS105).drop
   exact ⟨s106, (PHeap.le.trans l103 l104), hS106, rfl⟩
  ·refine W_cond_f p101 hc102 ?_
   replace hc102 := not_true hc102
   refine W_skip (at_normal ?_)
   refine W_seq ?_
   refine W_region ?_
   refine WL_step rfl rfl (Exec.load_box_agg (ds := [Value.int .i64 (x1.States), Value.int .i64 (x1.Init), v2, v4, v6]) (hS104) A26 rfl p100 rfl ?_)
   obtain ⟨t100, q104, hm⟩ := bind_some hm
   obtain ⟨y105, y106⟩ := t100
   replace hm := un2_eq hm
   refine WL_step rfl rfl (Exec.call rfl rfl Tryd.func12 rfl N12 (args_cons rfl args_nil) ((shrink_Bisimulation_sim q104 hS104 (a3.mono l103) (a5.mono l103) (a7.mono l103)).mono ?_))
   rintro _ w106 ⟨_, rfl, ⟨s107, v100, l105, hS107, rfl⟩⟩
   refine ⟨_, rfl, ?_⟩
   refine WL_step rfl rfl (Exec.move (v := Value.tuple #[v100, errV 34 (y106)]) rfl rfl ?_)
   refine WL_step rfl rfl (Exec.extract (v := v100) rfl rfl rfl ?_)
   refine WL_step rfl rfl (Exec.extract (v := errV 34 (y106)) rfl rfl rfl ?_)
   refine WL_step rfl rfl (Exec.assign (v := v100) rfl rfl ?_)
   refine WL_step rfl rfl (Exec.assign (v := errV 34 (y106)) rfl rfl ?_)
   refine WL_nil (at_normal ?_)
   refine W_seq ?_
   refine W_seq ?_
   refine W_mid (M := fun f' w' => ∃ (s108 : PHeap) , PHeap.le s107 s108 ∧ St w0 s108 (Res.box b100 26 [Value.int .i64 (x1.States), Value.int .i64 (x1.Init), v2, v4, v6] :: Res.arr (encInt .i64) 3 v100 y105 :: H) w' ∧ f' 1 = Value.pointer (some ⟨b100, 0, none⟩) ∧ f' 3 = v100 ∧ f' 43 = Value.bool ((y106.isSome || !decide ((y105.length : Int) = x1.States)))) ?_ ?_
   ·refine W_region ?_
    refine WL_step rfl rfl (Exec.move (v := errV 34 (y106)) rfl rfl ?_)
    refine WL_step rfl rfl (Exec.err_neq_nil (T := 34) Tryd.underlying30 rfl rfl rfl ?_)
    refine WL_step rfl rfl (Exec.move (v := Value.bool (y106.isSome)) rfl rfl ?_)
    by_cases hc103 : y106.isSome = true
    ·refine WL_pass rfl (yield_of rfl (congrArg Value.bool hc103)) rfl rfl ?_
     refine WL_pass rfl (yield_of rfl (congrArg Value.bool hc103)) rfl rfl ?_
     refine WL_pass rfl (yield_of rfl (congrArg Value.bool hc103)) rfl rfl ?_
     refine WL_pass rfl (yield_of rfl (congrArg Value.bool hc103)) rfl rfl ?_
     refine WL_pass rfl (yield_of rfl (congrArg Value.bool hc103)) rfl rfl ?_
     refine WL_step rfl rfl (Exec.pick_t (v := Value.bool (true)) rfl (congrArg Value.bool hc103) rfl ?_)
     refine WL_nil (at_normal ?_)
     have hS108 := (hS107).f1
     exact ⟨s107, (PHeap.le_refl _), hS108, p100, rfl, (congrArg Value.bool (or_t hc103)).symm⟩
    ·replace hc103 := not_true hc103
     refine WL_run rfl (yield_of rfl (congrArg Value.bool hc103)) rfl (Exec.move (v := v100) rfl rfl ?_)
     refine WL_run rfl (yield_of rfl (congrArg Value.bool hc103)) rfl (Exec.len_arr (hS107) S22 rfl rfl ?_)
     refine WL_run rfl (yield_of rfl (congrArg Value.bool hc103)) rfl (Exec.field F26_0 rfl p100 rfl ?_)
     refine WL_run rfl (yield_of rfl (congrArg Value.bool hc103)) rfl (Exec.load_box ((hS107).f1) A3 rfl rfl rfl ?_)
     refine WL_run rfl (yield_of rfl (congrArg Value.bool hc103)) rfl (Exec.neq rfl rfl rfl ?_)
     refine WL_step rfl rfl (Exec.pick_f (v := Value.bool (!decide ((y105.length : Int) = x1.States))) rfl (congrArg Value.bool hc103) rfl ?_)
     refine WL_nil (at_normal ?_)
     have hS109 := (hS107).f1
     exact ⟨s107, (PHeap.le_refl _), hS109, p100, rfl, (congrArg Value.bool (or_f hc103)).symm⟩
   ·intro f101 w107 hM101
    obtain ⟨s109, l106, hS110, p102, p103, p104⟩ := hM101
    refine (at_normal ?_)
    rcases ite_some hm with ⟨hc104, hm⟩ | ⟨hc104, hm⟩
    ·refine W_cond_t p104 hc104 ?_
     refine W_seq ?_
     refine W_region ?_
     refine WL_step rfl rfl (Exec.assign (v := Value.bool (false)) rfl rfl ?_)
     refine WL_nil (at_normal ?_)
     refine W_ret (at_ret ?_)
     have e104 := Option.some.inj hm
     subst r
     refine ⟨_, ret1 rfl, ?_⟩
     have hS111 := (hS110).drop
     have hS112 := (hS111).drop
     exact ⟨s109, (PHeap.le.trans (PHeap.le.trans l103 l105) l106), hS112, rfl⟩
    ·refine W_cond_f p104 hc104 ?_
     replace hc104 := not_true hc104
     refine W_skip (at_normal ?_)
     refine W_seq ?_
     refine W_seq ?_
     refine W_region ?_
     refine WL_step rfl rfl (Exec.move (v := v100) rfl p103 ?_)
     refine WL_step rfl rfl (Exec.len_arr ((hS110).f1) S22 rfl rfl ?_)
     refine WL_step rfl rfl (Exec.move (v := Value.int .i64 (0)) rfl rfl ?_)
     refine WL_nil (at_normal ?_)
     obtain ⟨c100, hB100, hr100, hn100, hb100⟩ := ctl_some hm
     refine W_mid (M := fun f' w' => ∃ s', (c100 = .next s' ∨ c100 = .brk s') ∧ (fun (_ : Unit) => ∃ (s110 : PHeap) , PHeap.le s109 s110 ∧ St w0 s110 (Res.box b100 26 [Value.int .i64 (x1.States), Value.int .i64 (x1.Init), v2, v4, v6] :: Res.arr (encInt .i64) 3 v100 y105 :: H) w' ∧ f' 1 = Value.pointer (some ⟨b100, 0, none⟩) ∧ f' 3 = v100 ∧ f' 45 = Value.int .i64 ((y105.length : Int))) s') ?_ ?_
     ·refine W_block (W_forC (fun k' s' f' w' => (fun (_ : Unit) => ∃ (s111 : PHeap) , PHeap.le s109 s111 ∧ St w0 s111 (Res.box b100 26 [Value.int .i64 (x1.States), Value.int .i64 (x1.Init), v2, v4, v6] :: Res.arr (encInt .i64) 3 v100 y105 :: H) w' ∧ f' 1 = Value.pointer (some ⟨b100, 0, none⟩) ∧ f' 3 = v100 ∧ f' 45 = Value.int .i64 ((y105.length : Int)) ∧ f' 46 = Value.int .i64 (k' : Int)) s') hB100 ?_ ?_ ?_)
      ·have hS113 := (hS110).f1
       have hS114 := (hS113).f1
       exact ⟨s109, (PHeap.le_refl _), hS114, p102, p103, rfl, rfl⟩
      ·intro i100 t101 c101 f102 w108 hi100 hI100 hm100 hres100
       obtain ⟨s112, l107, hS115, p105, p106, p107, x100⟩ := hI100
       refine W_seq ?_
       refine W_region ?_
       refine WL_step rfl rfl (Exec.lss rfl x100 p107 ?_)
       refine WL_nil (at_normal ?_)
       refine W_seq ?_
       refine W_true (congrArg Value.bool (decide_eq_true (by omega))) ?_
       refine W_skip (at_normal ?_)
       refine W_seq ?_
       refine W_block ?_
       refine W_seq ?_
       refine W_region ?_
       refine WL_step rfl rfl (Exec.move (v := Value.int .i64 ((i100 : Int))) rfl x100 ?_)
       refine WL_step rfl rfl (Exec.assign (v := Value.int .i64 ((i100 : Int))) rfl rfl ?_)
       refine WL_nil (at_normal ?_)
       refine W_seq ?_
       refine W_region ?_
       refine WL_step rfl rfl (Exec.move (v := Value.int .i64 ((i100 : Int))) rfl rfl ?_)
       refine WL_step rfl rfl (Exec.move (v := Value.int .i64 (0)) rfl rfl ?_)
       refine WL_nil (at_normal ?_)
       obtain ⟨u100, q105, hm100⟩ := bind_some hm100
       obtain ⟨c102, hB101, hr101, hn101, hb101⟩ := ctl_some hm100
       refine W_mid (M := fun f' w' => ∃ s', (c102 = .next s' ∨ c102 = .brk s') ∧ (fun (_ : Unit) => ∃ (s113 : PHeap) , PHeap.le s112 s113 ∧ St w0 s113 (Res.box b100 26 [Value.int .i64 (x1.States), Value.int .i64 (x1.Init), v2, v4, v6] :: Res.arr (encInt .i64) 3 v100 y105 :: H) w' ∧ f' 1 = Value.pointer (some ⟨b100, 0, none⟩) ∧ f' 3 = v100 ∧ f' 5 = Value.int .i64 ((i100 : Int)) ∧ f' 45 = Value.int .i64 ((y105.length : Int)) ∧ f' 46 = Value.int .i64 ((i100 : Int)) ∧ f' 49 = Value.int .i64 ((i100 : Int))) s') ?_ ?_
       ·refine W_block (W_forC (fun k' s' f' w' => (fun (_ : Unit) => ∃ (s114 : PHeap) , PHeap.le s112 s114 ∧ St w0 s114 (Res.box b100 26 [Value.int .i64 (x1.States), Value.int .i64 (x1.Init), v2, v4, v6] :: Res.arr (encInt .i64) 3 v100 y105 :: H) w' ∧ f' 1 = Value.pointer (some ⟨b100, 0, none⟩) ∧ f' 3 = v100 ∧ f' 5 = Value.int .i64 ((i100 : Int)) ∧ f' 45 = Value.int .i64 ((y105.length : Int)) ∧ f' 46 = Value.int .i64 ((i100 : Int)) ∧ f' 49 = Value.int .i64 ((i100 : Int)) ∧ f' 50 = Value.int .i64 (k' : Int)) s') hB101 ?_ ?_ ?_)
        ·have hS116 := (hS115).f1
         have hS117 := (hS116).f1
         exact ⟨s112, (PHeap.le_refl _), hS117, p105, p106, rfl, p107, x100, rfl, rfl⟩
        ·intro i101 t102 c103 f103 w109 hi101 hI101 hm101 hres101
         obtain ⟨s115, l108, hS118, p108, p109, p110, p111, p112, p113, x101⟩ := hI101
         refine W_seq ?_
         refine W_region ?_
         refine WL_step rfl rfl (Exec.lss rfl x101 p113 ?_)
         refine WL_nil (at_normal ?_)
         refine W_seq ?_
         refine W_true (congrArg Value.bool (decide_eq_true (by omega))) ?_
         refine W_skip (at_normal ?_)
         refine W_seq ?_
         refine W_block ?_
         refine W_seq ?_
         refine W_region ?_
         refine WL_step rfl rfl (Exec.move (v := Value.int .i64 ((i101 : Int))) rfl x101 ?_)
         refine WL_step rfl rfl (Exec.assign (v := Value.int .i64 ((i101 : Int))) rfl rfl ?_)
         refine WL_nil (at_normal ?_)
         refine W_seq ?_
         obtain ⟨z101, ht101, hm101⟩ := bind_some hm101
         refine W_mid (M := fun f' w' => (fun (z101 : Bool) => ∃ (s116 : PHeap) , PHeap.le s115 s116 ∧ St w0 s116 (Res.box b100 26 [Value.int .i64 (x1.States), Value.int .i64 (x1.Init), v2, v4, v6] :: Res.arr (encInt .i64) 3 v100 y105 :: H) w' ∧ f' 1 = Value.pointer (some ⟨b100, 0, none⟩) ∧ f' 3 = v100 ∧ f' 5 = Value.int .i64 ((i100 : Int)) ∧ f' 45 = Value.int .i64 ((y105.length : Int)) ∧ f' 46 = Value.int .i64 ((i100 : Int)) ∧ f' 49 = Value.int .i64 ((i100 : Int)) ∧ f' 50 = Value.int .i64 ((i101 : Int)) ∧ f' 69 = Value.bool (z101)) z101) ?_ ?_
         ·refine W_dl (n0 := 17) (.q 0 (.q 1 (.q 2 (.q 3 (.q 4 (.q 5 (.q 6 (.q 7 (.q 8 (.q 9 (.q 10 (.q 11 (.q 12 (.q 13 (.e 14 [] (.q 15 (.q 16 .done))))))))))))))))) hmix (by kernel_rfl) (by kernel_rfl) ?_
          have hS119 := hS118.drew
          refine DL_q rfl rfl (Exec.move (v := v100) rfl p109 ⟨rfl, ?_⟩)
          refine DL_q rfl rfl (Exec.move (v := Value.int .i64 ((i100 : Int))) rfl p110 ⟨rfl, ?_⟩)
          obtain ⟨x102, q106, ht101⟩ := bind_some ht101
          obtain ⟨g100, c104, e105⟩ := ((hS119).f1).arr_at q106
          refine DL_q rfl rfl (Exec.index_slice S22 rfl e105 rfl (idx_some q106).1 (idx_some q106).2.1 ⟨rfl, ?_⟩)
          refine DL_q rfl rfl (Exec.load_arr (F := (encInt .i64)) ((hS119).f1) e105 A3 rfl rfl rfl q106 (Sub.refl _) ?_)
          intro v101 q107
          obtain rfl := encInt_val.1 q107
          refine ⟨rfl, ?_⟩
          refine DL_q rfl rfl (Exec.move (v := v100) rfl p109 ⟨rfl, ?_⟩)
          refine DL_q rfl rfl (Exec.move (v := Value.int .i64 ((i101 : Int))) rfl rfl ⟨rfl, ?_⟩)
          obtain ⟨x103, q108, ht101⟩ := bind_some ht101
          obtain ⟨g101, c105, e106⟩ := ((hS119).f1).arr_at q108
          refine DL_q rfl rfl (Exec.index_slice S22 rfl e106 rfl (idx_some q108).1 (idx_some q108).2.1 ⟨rfl, ?_⟩)
          refine DL_q rfl rfl (Exec.load_arr (F := (encInt .i64)) ((hS119).f1) e106 A3 rfl rfl rfl q108 (Sub.refl _) ?_)
          intro v102 q109
          obtain rfl := encInt_val.1 q109
          refine ⟨rfl, ?_⟩
          refine DL_q rfl rfl (Exec.eql rfl rfl rfl ⟨rfl, ?_⟩)
          refine DL_q rfl rfl (Exec.move (v := Value.bool (decide (x102 = x103))) rfl rfl ⟨rfl, ?_⟩)
          rcases ite_some ht101 with ⟨hc105, ht101⟩ | ⟨hc105, ht101⟩
          ·refine DL_qg rfl rfl (yield_of rfl (congrArg Value.bool hc105)) (Exec.load_box_agg (ds := [Value.int .i64 (x1.States), Value.int .i64 (x1.Init), v2, v4, v6]) (hS119) A26 rfl p108 rfl ⟨rfl, ?_⟩)
           refine DL_qg rfl rfl (yield_of rfl (congrArg Value.bool hc105)) (Exec.move (v := v100) rfl p109 ⟨rfl, ?_⟩)
           refine DL_qg rfl rfl (yield_of rfl (congrArg Value.bool hc105)) (Exec.move (v := Value.int .i64 ((i100 : Int))) rfl p110 ⟨rfl, ?_⟩)
           refine DL_qg rfl rfl (yield_of rfl (congrArg Value.bool hc105)) (Exec.move (v := Value.int .i64 ((i101 : Int))) rfl rfl ⟨rfl, ?_⟩)
           obtain ⟨y107, q110, ht101⟩ := bind_some ht101
           have hS120 := (hS119).f1
           refine DL_eg rfl rfl (yield_of rfl (congrArg Value.bool hc105)) (Exec.call rfl rfl Tryd.func23 rfl N23 (args_cons rfl (args_cons rfl (args_cons rfl (args_cons rfl args_nil)))) ((ref45_Agree_o_sim q110 hS120 (a3.mono (PHeap.le.trans (PHeap.le.trans (PHeap.le.trans (PHeap.le.trans l103 l105) l106) l107) l108)) (a5.mono (PHeap.le.trans (PHeap.le.trans (PHeap.le.trans (PHeap.le.trans l103 l105) l106) l107) l108)) (a7.mono (PHeap.le.trans (PHeap.le.trans (PHeap.le.trans (PHeap.le.trans l103 l105) l106) l107) l108))).mono ?_))
           rintro _ w110 ⟨_, rfl, ⟨s117, l109, hS121, rfl⟩⟩
           refine ⟨_, rfl, ?_⟩
           refine ⟨ag_nil, ?_⟩
           refine DL_qg rfl rfl (yield_of rfl (congrArg Value.bool hc105)) (Exec.not rfl rfl ⟨rfl, ?_⟩)
           refine DL_q rfl rfl (Exec.pick_t (v := Value.bool (!y107)) rfl (congrArg Value.bool hc105) rfl ⟨rfl, ?_⟩)
           refine DL_done ?_
           refine WL_nil (at_normal ?_)
           have e107 := Option.some.inj ht101
           subst z101
           have hS122 := (hS121).f1
           exact ⟨s117, l109, hS122, p108, p109, p110, p111, p112, p113, x101, rfl⟩
          ·replace hc105 := not_true hc105
           refine DL_qp rfl rfl (yield_of rfl (congrArg Value.bool hc105)) rfl ?_
           refine DL_qp rfl rfl (yield_of rfl (congrArg Value.bool hc105)) rfl ?_
           refine DL_qp rfl rfl (yield_of rfl (congrArg Value.bool hc105)) rfl ?_
           refine DL_qp rfl rfl (yield_of rfl (congrArg Value.bool hc105)) rfl ?_
           refine DL_ep rfl rfl (yield_of rfl (congrArg Value.bool hc105)) rfl ?_
           refine DL_qp rfl rfl (yield_of rfl (congrArg Value.bool hc105)) rfl ?_
           refine DL_q rfl rfl (Exec.pick_f (v := Value.bool (false)) rfl (congrArg Value.bool hc105) rfl ⟨rfl, ?_⟩)
           refine DL_done ?_
           refine WL_nil (at_normal ?_)
           have e108 := Option.some.inj ht101
           subst z101
           have hS123 := (hS119).f1
           have hS124 := (hS123).f1
           exact ⟨s115, (PHeap.le_refl _), hS124, p108, p109, p110, p111, p112, p113, x101, rfl⟩
         ·intro f104 w111 hM102
          obtain ⟨s118, l110, hS125, p114, p115, p116, p117, p118, p119, p120, p121⟩ := hM102
          refine (at_normal ?_)
          rcases ite_some hm101 with ⟨hc106, hm101⟩ | ⟨hc106, hm101⟩
          ·refine W_cond_t p121 hc106 ?_
           refine W_seq ?_
           refine W_region ?_
           refine WL_step rfl rfl (Exec.assign (v := Value.bool (false)) rfl rfl ?_)
           refine WL_nil (at_normal ?_)
           refine W_ret (ib_ret (at_ret (at_ret (ib_ret (at_ret (ib_ret (at_ret (at_ret (ib_ret (at_ret (at_ret ?_)))))))))))
           have e109 := Option.some.inj hm101
           subst c103
           have hq100 := hr101 _ (hres101 (by intro _ h; cases h))
           have e110 := Option.some.inj hq100
           subst c101
           have hq101 := hr100 _ (hres100 (by intro _ h; cases h))
           have e111 := Option.some.inj hq101
           subst r
           refine ⟨_, ret1 rfl, ?_⟩
           have hS126 := (hS125).drop
           have hS127 := (hS126).drop
           exact ⟨s118, (PHeap.le.trans (PHeap.le.trans (PHeap.le.trans (PHeap.le.trans (PHeap.le.trans l103 l105) l106) l107) l108) l110), hS127, rfl⟩
          ·refine W_cond_f p121 hc106 ?_
           replace hc106 := not_true hc106
           refine W_skip (ib_normal (at_normal ?_))
           refine W_region ?_
           refine WL_step rfl rfl (Exec.add rfl p120 rfl ?_)
           refine WL_step rfl rfl (Exec.move (v := Value.int .i64 (IntKind.i64.wrap ((i101 : Int) + 1))) rfl rfl ?_)
           refine WL_nil (at_normal ?_)
           have e112 := Option.some.inj hm101
           subst c103
           have hS128 := (hS125).f1
           have hS129 := (hS128).f1
           refine ⟨_, rfl, ?_⟩; exact ⟨s118, (PHeap.le.trans l108 l110), hS129, p114, p115, p116, p117, p118, p119, (Eq.trans rfl (wrap_up hi101 (by have h := must_some q105; simp at h; simp only [maxLen]; omega)))⟩
        ·intro t103 f105 w112 hI102 hres102
         obtain ⟨s119, l111, hS130, p122, p123, p124, p125, p126, p127, x104⟩ := hI102
         refine W_seq ?_
         refine W_region ?_
         refine WL_step rfl rfl (Exec.lss rfl x104 p127 ?_)
         refine WL_nil (at_normal ?_)
         refine W_seq ?_
         refine W_false (congrArg Value.bool (decide_eq_false (by omega))) ?_
         refine W_exit (at_exit (at_exit (ib_here (at_normal ?_))))
         have hS131 := (hS130).f1
         have hS132 := (hS131).f1
         refine ⟨_, .inl hres102, ?_⟩; exact ⟨s119, l111, hS132, p122, p123, p124, p125, p126, p127⟩
       ·rintro f106 w113 ⟨t104, hc107, hM103⟩
        have hm100 := hc107.elim (hn101 _) (hb101 _)
        clear hc107
        obtain ⟨s120, l112, hS133, p128, p129, p130, p131, p132, p133⟩ := hM103
        refine (ib_normal (at_normal ?_))
        refine W_region ?_
        refine WL_step rfl rfl (Exec.add rfl p132 rfl ?_)
        refine WL_step rfl rfl (Exec.move (v := Value.int .i64 (IntKind.i64.wrap ((i100 : Int) + 1))) rfl rfl ?_)
        refine WL_nil (at_normal ?_)
        have e113 := Option.some.inj hm100
        subst c101
        have hS134 := (hS133).f1
        have hS135 := (hS134).f1
        refine ⟨_, rfl, ?_⟩; exact ⟨s120, (PHeap.le.trans l107 l112), hS135, p128, p129, p131, (Eq.trans rfl (wrap_up hi100 ((hS110).f1).arr_le))⟩
      ·intro t105 f107 w114 hI103 hres103
       obtain ⟨s121, l113, hS136, p134, p135, p136, x105⟩ := hI103
       refine W_seq ?_
       refine W_region ?_
       refine WL_step rfl rfl (Exec.lss rfl x105 p136 ?_)
       refine WL_nil (at_normal ?_)
       refine W_seq ?_
       refine W_false (congrArg Value.bool (decide_eq_false (by omega))) ?_
       refine W_exit (at_exit (at_exit (ib_here (at_normal ?_))))
       have hS137 := (hS136).f1
       have hS138 := (hS137).f1
       refine ⟨_, .inl hres103, ?_⟩; exact ⟨s121, l113, hS138, p134, p135, p136⟩
     ·rintro f108 w115 ⟨t106, hc108, hM104⟩
      have hm := hc108.elim (hn100 _) (hb100 _)
      clear hc108
      obtain ⟨s122, l114, hS139, p137, p138, p139⟩ := hM104
      refine (at_normal ?_)
      refine W_seq ?_
      refine W_region ?_
      refine WL_step rfl rfl (Exec.load_box_agg (ds := [Value.int .i64 (x1.States), Value.int .i64 (x1.Init), v2, v4, v6]) (hS139) A26 rfl p137 rfl ?_)
      refine WL_step rfl rfl (Exec.move (v := v100) rfl p138 ?_)
      obtain ⟨t107, q111, hm⟩ := bind_some hm
      obtain ⟨y108, y109⟩ := t107
      replace hm := un2_eq hm
      have hS140 := (hS139).f1
      refine WL_step rfl rfl (Exec.call rfl rfl Tryd.func24 rfl N24 (args_cons rfl (args_cons rfl args_nil)) ((shrink_Quotient_o_sim q111 hS140 (a3.mono (PHeap.le.trans (PHeap.le.trans (PHeap.le.trans l103 l105) l106) l114)) (a5.mono (PHeap.le.trans (PHeap.le.trans (PHeap.le.trans l103 l105) l106) l114)) (a7.mono (PHeap.le.trans (PHeap.le.trans (PHeap.le.trans l103 l105) l106) l114))).mono ?_))
      rintro _ w116 ⟨_, rfl, ⟨s123, v103, v104, v105, l115, hS141, rfl, r100, r101, r102⟩⟩
      refine ⟨_, rfl, ?_⟩
      refine WL_step rfl rfl (Exec.move (v := Value.tuple #[Value.agg #[Value.int .i64 (y109.States), Value.int .i64 (y109.Init), v103, v104, v105], errV 34 (y108)]) rfl rfl ?_)
      refine WL_step rfl rfl (Exec.extract (v := Value.agg #[Value.int .i64 (y109.States), Value.int .i64 (y109.Init), v103, v104, v105]) rfl rfl rfl ?_)
      refine WL_step rfl rfl (Exec.extract (v := errV 34 (y108)) rfl rfl rfl ?_)
      refine WL_step rfl rfl (Exec.alloc (cs := [Value.int .i64 (0), Value.int .i64 (0), Value.slice none 0 0, Value.slice none 0 0, Value.slice none 0 0]) hS141 Z26 rfl rfl ?_)
      intro b101 w117 hS142
      refine WL_step rfl rfl (Exec.store_box (ds := [Value.int .i64 (y109.States), Value.int .i64 (y109.Init), v103, v104, v105]) (es := [Value.int .i64 (y109.States), Value.int .i64 (y109.Init), v103, v104, v105]) hS142 A26 rfl rfl rfl rfl (one_cons rfl (one_cons rfl (one_cons (r100).one (one_cons (r101).one (one_cons (r102).one one_nil))))) (Nat.le_of_ble_eq_true rfl) rfl ?_)
      intro w118 hS143
      refine WL_step rfl rfl (Exec.assign (v := errV 34 (y108)) rfl rfl ?_)
      refine WL_nil (at_normal ?_)
      refine W_seq ?_
      refine W_seq ?_
      refine W_region ?_
      refine WL_step rfl rfl (Exec.move (v := errV 34 (y108)) rfl rfl ?_)
      refine WL_step rfl rfl (Exec.err_neq_nil (T := 34) Tryd.underlying30 rfl rfl rfl ?_)
      refine WL_nil (at_normal ?_)
      rcases ite_some hm with ⟨hc109, hm⟩ | ⟨hc109, hm⟩
      ·refine W_cond_t rfl hc109 ?_
       refine W_seq ?_
       refine W_region ?_
       refine WL_step rfl rfl (Exec.assign (v := Value.bool (false)) rfl rfl ?_)
       refine WL_nil (at_normal ?_)
       refine W_ret (at_ret ?_)
       have e114 := Option.some.inj hm
       subst r
       refine ⟨_, ret1 rfl, ?_⟩
       have hS144 := (hS143).drop
       have hS145 := (hS144).drop
       have hS146 := (hS145).drop
       exact ⟨s123, (PHeap.le.trans (PHeap.le.trans (PHeap.le.trans (PHeap.le.trans l103 l105) l106) l114) l115), hS146, rfl⟩
      ·refine W_cond_f rfl hc109 ?_
       replace hc109 := not_true hc109
       refine W_skip (at_normal ?_)
       refine W_seq ?_
       refine W_region ?_
       refine WL_step rfl rfl (Exec.load_box_agg (ds := [Value.int .i64 (x1.States), Value.int .i64 (x1.Init), v2, v4, v6]) ((hS143).f2) A26 rfl p137 rfl ?_)
       obtain ⟨t108, q112, hm⟩ := bind_some hm
       obtain ⟨y110, y111⟩ := t108
       replace hm := un2_eq hm
       refine WL_step rfl rfl (Exec.call rfl rfl Tryd.func25 rfl N25 (args_cons rfl args_nil) ((transys_Distances_sim q112 hS143 (a3.mono (PHeap.le.trans (PHeap.le.trans (PHeap.le.trans (PHeap.le.trans l103 l105) l106) l114) l115)) (a5.mono (PHeap.le.trans (PHeap.le.trans (PHeap.le.trans (PHeap.le.trans l103 l105) l106) l114) l115)) (a7.mono (PHeap.le.trans (PHeap.le.trans (PHeap.le.trans (PHeap.le.trans l103 l105) l106) l114) l115))).mono ?_))
       rintro _ w119 ⟨_, rfl, ⟨s124, v106, l116, hS147, rfl, r103⟩⟩
       refine ⟨_, rfl, ?_⟩
       refine WL_step rfl rfl (Exec.move (v := Value.tuple #[v106, errV 34 (y111)]) rfl rfl ?_)
       refine WL_step rfl rfl (Exec.extract (v := v106) rfl rfl rfl ?_)
       refine WL_step rfl rfl (Exec.extract (v := errV 34 (y111)) rfl rfl rfl ?_)
       refine WL_step rfl rfl (Exec.assign (v := v106) rfl rfl ?_)
       refine WL_step rfl rfl (Exec.assign (v := errV 34 (y111)) rfl rfl ?_)
       refine WL_nil (at_normal ?_)
       refine W_seq ?_
       refine W_region ?_
       refine WL_step rfl rfl (Exec.load_box_agg (ds := [Value.int .i64 (y109.States), Value.int .i64 (y109.Init), v103, v104, v105]) (hS147) A26 rfl rfl rfl ?_)
       obtain ⟨t109, q113, hm⟩ := bind_some hm
       obtain ⟨y112, y113⟩ := t109
       replace hm := un2_eq hm
       refine WL_step rfl rfl (Exec.call rfl rfl Tryd.func25 rfl N25 (args_cons rfl args_nil) ((transys_Distances_sim q113 hS147 (r100.mono l116) (r101.mono l116) (r102.mono l116)).mono ?_))
       rintro _ w120 ⟨_, rfl, ⟨s125, v107, l117, hS148, rfl, r104⟩⟩
       refine ⟨_, rfl, ?_⟩
       refine WL_step rfl rfl (Exec.move (v := Value.tuple #[v107, errV 34 (y113)]) rfl rfl ?_)
       refine WL_step rfl rfl (Exec.extract (v := v107) rfl rfl rfl ?_)
       refine WL_step rfl rfl (Exec.extract (v := errV 34 (y113)) rfl rfl rfl ?_)
       refine WL_step rfl rfl (Exec.assign (v := v107) rfl rfl ?_)
       refine WL_step rfl rfl (Exec.assign (v := errV 34 (y113)) rfl rfl ?_)
       refine WL_nil (at_normal ?_)
       refine W_seq ?_
       refine W_region ?_
       refine WL_step rfl rfl (Exec.load_box_agg (ds := [Value.int .i64 (y109.States), Value.int .i64 (y109.Init), v103, v104, v105]) (hS148) A26 rfl rfl rfl ?_)
       obtain ⟨t110, q114, hm⟩ := bind_some hm
       obtain ⟨y114, y115⟩ := t110
       replace hm := un2_eq hm
       refine WL_step rfl rfl (Exec.call rfl rfl Tryd.func12 rfl N12 (args_cons rfl args_nil) ((shrink_Bisimulation_sim q114 hS148 (r100.mono (PHeap.le.trans l116 l117)) (r101.mono (PHeap.le.trans l116 l117)) (r102.mono (PHeap.le.trans l116 l117))).mono ?_))
       rintro _ w121 ⟨_, rfl, ⟨s126, v108, l118, hS149, rfl⟩⟩
       refine ⟨_, rfl, ?_⟩
       refine WL_step rfl rfl (Exec.move (v := Value.tuple #[v108, errV 34 (y115)]) rfl rfl ?_)
       refine WL_step rfl rfl (Exec.extract (v := v108) rfl rfl rfl ?_)
       refine WL_step rfl rfl (Exec.extract (v := errV 34 (y115)) rfl rfl rfl ?_)
       refine WL_step rfl rfl (Exec.assign (v := v108) rfl rfl ?_)
       refine WL_step rfl rfl (Exec.assign (v := errV 34 (y115)) rfl rfl ?_)
       refine WL_nil (at_normal ?_)
       refine W_seq ?_
       refine W_seq ?_
       refine W_mid (M := fun f' w' => ∃ (s127 : PHeap) , PHeap.le s126 s127 ∧ St w0 s127 (Res.arr (encInt .i64) 3 v100 y105 :: Res.arr (encInt .i64) 3 v108 y114 :: H) w' ∧ f' 3 = v100 ∧ f' 8 = v106 ∧ f' 10 = v107 ∧ f' 12 = v108 ∧ f' 104 = Value.bool ((y111.isSome || (y113.isSome || y115.isSome)))) ?_ ?_
       ·refine W_region ?_
        refine WL_step rfl rfl (Exec.move (v := errV 34 (y111)) rfl rfl ?_)
        refine WL_step rfl rfl (Exec.err_neq_nil (T := 34) Tryd.underlying30 rfl rfl rfl ?_)
        refine WL_step rfl rfl (Exec.move (v := Value.bool (y111.isSome)) rfl rfl ?_)
        by_cases hc110 : y111.isSome = true
        ·refine WL_pass rfl (yield_of rfl (congrArg Value.bool hc110)) rfl rfl ?_
         refine WL_pass rfl (yield_of rfl (congrArg Value.bool hc110)) rfl rfl ?_
         refine WL_step rfl rfl (Exec.pick_t (v := Value.bool (true)) rfl (congrArg Value.bool hc110) rfl ?_)
         refine WL_step rfl rfl (Exec.move (v := Value.bool (true)) rfl rfl ?_)
         refine WL_pass rfl (yield_of rfl rfl) rfl rfl ?_
         refine WL_pass rfl (yield_of rfl rfl) rfl rfl ?_
         refine WL_step rfl rfl (Exec.pick_t (v := Value.bool (true)) rfl rfl rfl ?_)
         refine WL_nil (at_normal ?_)
         have hS150 := ((hS149).f1).drop
         have hS151 := ((hS150).f2).drop
         have hS152 := (hS151).f1
         exact ⟨s126, (PHeap.le_refl _), hS152, p138, rfl, rfl, rfl, (congrArg Value.bool (or_t hc110)).symm⟩
        ·replace hc110 := not_true hc110
         refine WL_run rfl (yield_of rfl (congrArg Value.bool hc110)) rfl (Exec.move (v := errV 34 (y113)) rfl rfl ?_)
         refine WL_run rfl (yield_of rfl (congrArg Value.bool hc110)) rfl (Exec.err_neq_nil (T := 34) Tryd.underlying30 rfl rfl rfl ?_)
         refine WL_step rfl rfl (Exec.pick_f (v := Value.bool (y113.isSome)) rfl (congrArg Value.bool hc110) rfl ?_)
         refine WL_step rfl rfl (Exec.move (v := Value.bool (y113.isSome)) rfl rfl ?_)
         by_cases hc111 : y113.isSome = true
         ·refine WL_pass rfl (yield_of rfl (congrArg Value.bool hc111)) rfl rfl ?_
          refine WL_pass rfl (yield_of rfl (congrArg Value.bool hc111)) rfl rfl ?_
          refine WL_step rfl rfl (Exec.pick_t (v := Value.bool (true)) rfl (congrArg Value.bool hc111) rfl ?_)
          refine WL_nil (at_normal ?_)
          have hS153 := ((hS149).f1).drop
          have hS154 := ((hS153).f2).drop
          have hS155 := (hS154).f1
          exact ⟨s126, (PHeap.le_refl _), hS155, p138, rfl, rfl, rfl, (congrArg Value.bool (Eq.trans (or_f hc110) (or_t hc111))).symm⟩
         ·replace hc111 := not_true hc111
          refine WL_run rfl (yield_of rfl (congrArg Value.bool hc111)) rfl (Exec.move (v := errV 34 (y115)) rfl rfl ?_)
          refine WL_run rfl (yield_of rfl (congrArg Value.bool hc111)) rfl (Exec.err_neq_nil (T := 34) Tryd.underlying30 rfl rfl rfl ?_)
          refine WL_step rfl rfl (Exec.pick_f (v := Value.bool (y115.isSome)) rfl (congrArg Value.bool hc111) rfl ?_)
          refine WL_nil (at_normal ?_)
          have hS156 := ((hS149).f1).drop
          have hS157 := ((hS156).f2).drop
          have hS158 := (hS157).f1
          exact ⟨s126, (PHeap.le_refl _), hS158, p138, rfl, rfl, rfl, (congrArg Value.bool (Eq.trans (or_f hc110) (or_f hc111))).symm⟩
       ·intro f109 w122 hM105
        obtain ⟨s128, l119, hS159, p140, p141, p142, p143, p144⟩ := hM105
        refine (at_normal ?_)
        rcases ite_some hm with ⟨hc112, hm⟩ | ⟨hc112, hm⟩
        ·refine W_cond_t p144 hc112 ?_
         refine W_seq ?_
         refine W_region ?_
         refine WL_step rfl rfl (Exec.assign (v := Value.bool (false)) rfl rfl ?_)
         refine WL_nil (at_normal ?_)
         refine W_ret (at_ret ?_)
         have e115 := Option.some.inj hm
         subst r
         refine ⟨_, ret1 rfl, ?_⟩
         have hS160 := (hS159).drop
         have hS161 := (hS160).drop
         exact ⟨s128, (PHeap.le.trans (PHeap.le.trans (PHeap.le.trans (PHeap.le.trans (PHeap.le.trans (PHeap.le.trans (PHeap.le.trans (PHeap.le.trans l103 l105) l106) l114) l115) l116) l117) l118) l119), hS161, rfl⟩
        ·refine W_cond_f p144 hc112 ?_
         replace hc112 := not_true hc112
         refine W_skip (at_normal ?_)
         refine W_seq ?_
         refine W_seq ?_
         refine W_region ?_
         refine WL_step rfl rfl (Exec.move (v := v100) rfl p140 ?_)
         refine WL_step rfl rfl (Exec.len_arr (hS159) S22 rfl rfl ?_)
         refine WL_step rfl rfl (Exec.move (v := Value.int .i64 (0)) rfl rfl ?_)
         refine WL_nil (at_normal ?_)
         obtain ⟨c106, hB102, hr102, hn102, hb102⟩ := ctl_some hm
         refine W_mid (M := fun f' w' => ∃ s', (c106 = .next s' ∨ c106 = .brk s') ∧ (fun (_ : Unit) => ∃ (s129 : PHeap) , PHeap.le s128 s129 ∧ St w0 s129 (Res.arr (encInt .i64) 3 v108 y114 :: Res.arr (encInt .i64) 3 v100 y105 :: H) w' ∧ f' 8 = v106 ∧ f' 10 = v107 ∧ f' 12 = v108 ∧ f' 105 = v100 ∧ f' 106 = Value.int .i64 ((y105.length : Int))) s') ?_ ?_
         ·refine W_block (W_forC (fun k' s' f' w' => (fun (_ : Unit) => ∃ (s130 : PHeap) , PHeap.le s128 s130 ∧ St w0 s130 (Res.arr (encInt .i64) 3 v108 y114 :: Res.arr (encInt .i64) 3 v100 y105 :: H) w' ∧ f' 8 = v106 ∧ f' 10 = v107 ∧ f' 12 = v108 ∧ f' 105 = v100 ∧ f' 106 = Value.int .i64 ((y105.length : Int)) ∧ f' 107 = Value.int .i64 (k' : Int)) s') hB102 ?_ ?_ ?_)
          ·have hS162 := (hS159).f1
           exact ⟨s128, (PHeap.le_refl _), hS162, p141, p142, p143, rfl, rfl, rfl⟩
          ·intro i102 t111 c107 f110 w123 hi102 hI104 hm102 hres104
           obtain ⟨s131, l120, hS163, p145, p146, p147, p148, p149, x106⟩ := hI104
           refine W_seq ?_
           refine W_region ?_
           refine WL_step rfl rfl (Exec.lss rfl x106 p149 ?_)
           refine WL_nil (at_normal ?_)
           refine W_seq ?_
           refine W_true (congrArg Value.bool (decide_eq_true (by omega))) ?_
           refine W_skip (at_normal ?_)
           refine W_seq ?_
           refine W_block ?_
           refine W_seq ?_
           refine W_region ?_
           refine WL_step rfl rfl (Exec.move (v := Value.int .i64 ((i102 : Int))) rfl x106 ?_)
           obtain ⟨x107, q115, hm102⟩ := bind_some hm102
           obtain ⟨g102, c108, e116⟩ := ((hS163).f1).arr_at q115
           refine WL_step rfl rfl (Exec.index_slice S22 rfl (Eq.trans p148 e116) x106 (idx_some q115).1 (idx_some q115).2.1 ?_)
           refine WL_step rfl rfl (Exec.load_arr (F := (encInt .i64)) ((hS163).f1) e116 A3 rfl rfl rfl q115 (Sub.refl _) ?_)
           intro v109 q116
           obtain rfl := encInt_val.1 q116
           refine WL_step rfl rfl (Exec.assign (v := Value.int .i64 ((i102 : Int))) rfl rfl ?_)
           refine WL_step rfl rfl (Exec.assign (v := Value.int .i64 (x107)) rfl rfl ?_)
           refine WL_nil (at_normal ?_)
           refine W_seq ?_
           obtain ⟨z102, ht102, hm102⟩ := bind_some hm102
           refine W_mid (M := fun f' w' => (fun (z102 : Bool) => ∃ (s132 : PHeap) , PHeap.le s131 s132 ∧ St w0 s132 (Res.arr (encInt .i64) 3 v108 y114 :: Res.arr (encInt .i64) 3 v100 y105 :: H) w' ∧ f' 8 = v106 ∧ f' 10 = v107 ∧ f' 12 = v108 ∧ f' 105 = v100 ∧ f' 106 = Value.int .i64 ((y105.length : Int)) ∧ f' 107 = Value.int .i64 ((i102 : Int)) ∧ f' 130 = Value.bool (z102)) z102) ?_ ?_
           ·refine W_dl (n0 := 19) (.q 0 (.q 1 (.q 2 (.q 3 (.q 4 (.q 5 (.q 6 (.q 7 (.q 8 (.q 9 (.q 10 (.q 11 (.q 12 (.q 13 (.q 14 (.q 15 (.q 16 (.q 17 (.q 18 .done))))))))))))))))))) hmix (by kernel_rfl) (by kernel_rfl) ?_
            have hS164 := hS163.drew
            refine DL_q rfl rfl (Exec.move (v := Value.int .i64 (x107)) rfl rfl ⟨rfl, ?_⟩)
            refine DL_q rfl rfl (Exec.lss rfl rfl rfl ⟨rfl, ?_⟩)
            refine DL_q rfl rfl (Exec.move (v := Value.bool (decide (x107 < 0))) rfl rfl ⟨rfl, ?_⟩)
            rcases ite_some ht102 with ⟨hc113, ht102⟩ | ⟨hc113, ht102⟩
            ·refine DL_qp rfl rfl (yield_of rfl (congrArg Value.bool hc113)) rfl ?_
             refine DL_qp rfl rfl (yield_of rfl (congrArg Value.bool hc113)) rfl ?_
             refine DL_qp rfl rfl (yield_of rfl (congrArg Value.bool hc113)) rfl ?_
             refine DL_qp rfl rfl (yield_of rfl (congrArg Value.bool hc113)) rfl ?_
             refine DL_q rfl rfl (Exec.pick_t (v := Value.bool (true)) rfl (congrArg Value.bool hc113) rfl ⟨rfl, ?_⟩)
             refine DL_q rfl rfl (Exec.move (v := Value.bool (true)) rfl rfl ⟨rfl, ?_⟩)
             refine DL_qp rfl rfl (yield_of rfl rfl) rfl ?_
             refine DL_qp rfl rfl (yield_of rfl rfl) rfl ?_
             refine DL_qp rfl rfl (yield_of rfl rfl) rfl ?_
             refine DL_qp rfl rfl (yield_of rfl rfl) rfl ?_
             refine DL_qp rfl rfl (yield_of rfl rfl) rfl ?_
             refine DL_qp rfl rfl (yield_of rfl rfl) rfl ?_
             refine DL_qp rfl rfl (yield_of rfl rfl) rfl ?_
             refine DL_qp rfl rfl (yield_of rfl rfl) rfl ?_
             refine DL_qp rfl rfl (yield_of rfl rfl) rfl ?_
             refine DL_q rfl rfl (Exec.pick_t (v := Value.bool (true)) rfl rfl rfl ⟨rfl, ?_⟩)
             refine DL_done ?_
             refine WL_nil (at_normal ?_)
             have e117 := Option.some.inj ht102
             subst z102
             have hS165 := (hS164).f1
             have hS166 := (hS165).f1
             exact ⟨s131, (PHeap.le_refl _), hS166, p145, p146, p147, p148, p149, x106, rfl⟩
            ·replace hc113 := not_true hc113
             refine DL_qg rfl rfl (yield_of rfl (congrArg Value.bool hc113)) (Exec.move (v := Value.int .i64 (x107)) rfl rfl ⟨rfl, ?_⟩)
             refine DL_qg rfl rfl (yield_of rfl (congrArg Value.bool hc113)) (Exec.move (v := v107) rfl p146 ⟨rfl, ?_⟩)
             refine DL_qg rfl rfl (yield_of rfl (congrArg Value.bool hc113)) (Exec.len_rep S22 rfl rfl (r104.mono (PHeap.le.trans (PHeap.le.trans l118 l119) l120)) ⟨rfl, ?_⟩)
             refine DL_qg rfl rfl (yield_of rfl (congrArg Value.bool hc113)) (Exec.geq rfl rfl rfl ⟨rfl, ?_⟩)
             refine DL_q rfl rfl (Exec.pick_f (v := Value.bool (decide ((y112.length : Int) ≤ x107))) rfl (congrArg Value.bool hc113) rfl ⟨rfl, ?_⟩)
             refine DL_q rfl rfl (Exec.move (v := Value.bool (decide ((y112.length : Int) ≤ x107))) rfl rfl ⟨rfl, ?_⟩)
             rcases ite_some ht102 with ⟨hc114, ht102⟩ | ⟨hc114, ht102⟩
             ·refine DL_qp rfl rfl (yield_of rfl (congrArg Value.bool hc114)) rfl ?_
              refine DL_qp rfl rfl (yield_of rfl (congrArg Value.bool hc114)) rfl ?_
              refine DL_qp rfl rfl (yield_of rfl (congrArg Value.bool hc114)) rfl ?_
              refine DL_qp rfl rfl (yield_of rfl (congrArg Value.bool hc114)) rfl ?_
              refine DL_qp rfl rfl (yield_of rfl (congrArg Value.bool hc114)) rfl ?_
              refine DL_qp rfl rfl (yield_of rfl (congrArg Value.bool hc114)) rfl ?_
              refine DL_qp rfl rfl (yield_of rfl (congrArg Value.bool hc114)) rfl ?_
              refine DL_qp rfl rfl (yield_of rfl (congrArg Value.bool hc114)) rfl ?_
              refine DL_qp rfl rfl (yield_of rfl (congrArg Value.bool hc114)) rfl ?_
              refine DL_q rfl rfl (Exec.pick_t (v := Value.bool (true)) rfl (congrArg Value.bool hc114) rfl ⟨rfl, ?_⟩)
              refine DL_done ?_
              refine WL_nil (at_normal ?_)
              have e118 := Option.some.inj ht102
              subst z102
              have hS167 := (hS164).f1
              have hS168 := (hS167).f1
              exact ⟨s131, (PHeap.le_refl _), hS168, p145, p146, p147, p148, p149, x106, rfl⟩
             ·replace hc114 := not_true hc114
              refine DL_qg rfl rfl (yield_of rfl (congrArg Value.bool hc114)) (Exec.move (v := v106) rfl p145 ⟨rfl, ?_⟩)
              refine DL_qg rfl rfl (yield_of rfl (congrArg Value.bool hc114)) (Exec.move (v := Value.int .i64 ((i102 : Int))) rfl rfl ⟨rfl, ?_⟩)
              obtain ⟨x108, q117, ht102⟩ := bind_some ht102
              refine DL_qg rfl rfl (yield_of rfl (congrArg Value.bool hc114)) (Exec.index_repE S22 rfl rfl rfl (r103.mono (PHeap.le.trans (PHeap.le.trans (PHeap.le.trans l117 l118) l119) l120)) q117 ?_)
              intro b102 o100 a100 e119
              refine ⟨rfl, ?_⟩
              refine DL_qg rfl rfl (yield_of rfl (congrArg Value.bool hc114)) (Exec.load_at (E := (encInt .i64)) hS164 A3 rfl rfl rfl a100 ?_)
              intro v110 q118
              obtain rfl := encInt_val.1 q118
              refine ⟨rfl, ?_⟩
              refine DL_qg rfl rfl (yield_of rfl (congrArg Value.bool hc114)) (Exec.move (v := v107) rfl p146 ⟨rfl, ?_⟩)
              refine DL_qg rfl rfl (yield_of rfl (congrArg Value.bool hc114)) (Exec.move (v := Value.int .i64 (x107)) rfl rfl ⟨rfl, ?_⟩)
              obtain ⟨x109, q119, ht102⟩ := bind_some ht102
              refine DL_qg rfl rfl (yield_of rfl (congrArg Value.bool hc114)) (Exec.index_repE S22 rfl rfl rfl (r104.mono (PHeap.le.trans (PHeap.le.trans l118 l119) l120)) q119 ?_)
              intro b103 o101 a101 e120
              refine ⟨rfl, ?_⟩
              refine DL_qg rfl rfl (yield_of rfl (congrArg Value.bool hc114)) (Exec.load_at (E := (encInt .i64)) hS164 A3 rfl rfl rfl a101 ?_)
              intro v111 q120
              obtain rfl := encInt_val.1 q120
              refine ⟨rfl, ?_⟩
              refine DL_qg rfl rfl (yield_of rfl (congrArg Value.bool hc114)) (Exec.neq rfl rfl rfl ⟨rfl, ?_⟩)
              refine DL_q rfl rfl (Exec.pick_f (v := Value.bool (!decide (x108 = x109))) rfl (congrArg Value.bool hc114) rfl ⟨rfl, ?_⟩)
              refine DL_done ?_
              refine WL_nil (at_normal ?_)
              have e121 := Option.some.inj ht102
              subst z102
              have hS169 := (hS164).f1
              have hS170 := (hS169).f1
              exact ⟨s131, (PHeap.le_refl _), hS170, p145, p146, p147, p148, p149, x106, rfl⟩
           ·intro f111 w124 hM106
            obtain ⟨s133, l121, hS171, p150, p151, p152, p153, p154, p155, p156⟩ := hM106
            refine (at_normal ?_)
            rcases ite_some hm102 with ⟨hc115, hm102⟩ | ⟨hc115, hm102⟩
            ·refine W_cond_t p156 hc115 ?_
             refine W_seq ?_
             refine W_region ?_
             refine WL_step rfl rfl (Exec.assign (v := Value.bool (false)) rfl rfl ?_)
             refine WL_nil (at_normal ?_)
             refine W_ret (ib_ret (at_ret (at_ret (ib_ret (at_ret (at_ret ?_))))))
             have e122 := Option.some.inj hm102
             subst c107
             have hq102 := hr102 _ (hres104 (by intro _ h; cases h))
             have e123 := Option.some.inj hq102
             subst r
             refine ⟨_, ret1 rfl, ?_⟩
             have hS172 := (hS171).drop
             have hS173 := (hS172).drop
             exact ⟨s133, (PHeap.le.trans (PHeap.le.trans (PHeap.le.trans (PHeap.le.trans (PHeap.le.trans (PHeap.le.trans (PHeap.le.trans (PHeap.le.trans (PHeap.le.trans (PHeap.le.trans l103 l105) l106) l114) l115) l116) l117) l118) l119) l120) l121), hS173, rfl⟩
            ·refine W_cond_f p156 hc115 ?_
             replace hc115 := not_true hc115
             refine W_skip (ib_normal (at_normal ?_))
             refine W_region ?_
             refine WL_step rfl rfl (Exec.add rfl p155 rfl ?_)
             refine WL_step rfl rfl (Exec.move (v := Value.int .i64 (IntKind.i64.wrap ((i102 : Int) + 1))) rfl rfl ?_)
             refine WL_nil (at_normal ?_)
             have e124 := Option.some.inj hm102
             subst c107
             have hS174 := (hS171).f1
             have hS175 := (hS174).f1
             refine ⟨_, rfl, ?_⟩; exact ⟨s133, (PHeap.le.trans l120 l121), hS175, p150, p151, p152, p153, p154, (Eq.trans rfl (wrap_up hi102 (hS159).arr_le))⟩
          ·intro t112 f112 w125 hI105 hres105
           obtain ⟨s134, l122, hS176, p157, p158, p159, p160, p161, x110⟩ := hI105
           refine W_seq ?_
           refine W_region ?_
           refine WL_step rfl rfl (Exec.lss rfl x110 p161 ?_)
           refine WL_nil (at_normal ?_)
           refine W_seq ?_
           refine W_false (congrArg Value.bool (decide_eq_false (by omega))) ?_
           refine W_exit (at_exit (at_exit (ib_here (at_normal ?_))))
           have hS177 := (hS176).f1
           have hS178 := (hS177).f1
           refine ⟨_, .inl hres105, ?_⟩; exact ⟨s134, l122, hS178, p157, p158, p159, p160, p161⟩
         ·rintro f113 w126 ⟨t113, hc116, hM107⟩
          have hm := hc116.elim (hn102 _) (hb102 _)
          clear hc116
          obtain ⟨s135, l123, hS179, p162, p163, p164, p165, p166⟩ := hM107
          refine (at_normal ?_)
          refine W_seq ?_
          refine W_seq ?_
          refine W_region ?_
          refine WL_step rfl rfl (Exec.move (v := v108) rfl p164 ?_)
          refine WL_step rfl rfl (Exec.len_arr (hS179) S22 rfl rfl ?_)
          refine WL_step rfl rfl (Exec.move (v := Value.int .i64 (0)) rfl rfl ?_)
          refine WL_nil (at_normal ?_)
          obtain ⟨c109, hB103, hr103, hn103, hb103⟩ := ctl_some hm
          refine W_mid (M := fun f' w' => ∃ s', (c109 = .next s' ∨ c109 = .brk s') ∧ (fun (_ : Unit) => ∃ (s136 : PHeap) , PHeap.le s135 s136 ∧ St w0 s136 (Res.arr (encInt .i64) 3 v108 y114 :: H) w' ∧ f' 132 = v108 ∧ f' 133 = Value.int .i64 ((y114.length : Int))) s') ?_ ?_
          ·refine W_block (W_forC (fun k' s' f' w' => (fun (_ : Unit) => ∃ (s137 : PHeap) , PHeap.le s135 s137 ∧ St w0 s137 (Res.arr (encInt .i64) 3 v108 y114 :: H) w' ∧ f' 132 = v108 ∧ f' 133 = Value.int .i64 ((y114.length : Int)) ∧ f' 134 = Value.int .i64 (k' : Int)) s') hB103 ?_ ?_ ?_)
           ·have hS180 := ((hS179).f1).drop
            exact ⟨s135, (PHeap.le_refl _), hS180, rfl, rfl, rfl⟩
           ·intro i103 t114 c110 f114 w127 hi103 hI106 hm103 hres106
            obtain ⟨s138, l124, hS181, p167, p168, x111⟩ := hI106
            refine W_seq ?_
            refine W_region ?_
            refine WL_step rfl rfl (Exec.lss rfl x111 p168 ?_)
            refine WL_nil (at_normal ?_)
            refine W_seq ?_
            refine W_true (congrArg Value.bool (decide_eq_true (by omega))) ?_
            refine W_skip (at_normal ?_)
            refine W_seq ?_
            refine W_block ?_
            refine W_seq ?_
            refine W_region ?_
            refine WL_step rfl rfl (Exec.move (v := Value.int .i64 ((i103 : Int))) rfl x111 ?_)
            obtain ⟨x112, q121, hm103⟩ := bind_some hm103
            obtain ⟨g103, c111, e125⟩ := (hS181).arr_at q121
            refine WL_step rfl rfl (Exec.index_slice S22 rfl (Eq.trans p167 e125) x111 (idx_some q121).1 (idx_some q121).2.1 ?_)
            refine WL_step rfl rfl (Exec.load_arr (F := (encInt .i64)) (hS181) e125 A3 rfl rfl rfl q121 (Sub.refl _) ?_)
            intro v112 q122
            obtain rfl := encInt_val.1 q122
            refine WL_step rfl rfl (Exec.assign (v := Value.int .i64 ((i103 : Int))) rfl rfl ?_)
            refine WL_step rfl rfl (Exec.assign (v := Value.int .i64 (x112)) rfl rfl ?_)
            refine WL_nil (at_normal ?_)
            refine W_seq ?_
            refine W_region ?_
            refine WL_step rfl rfl (Exec.move (v := Value.int .i64 (x112)) rfl rfl ?_)
            refine WL_step rfl rfl (Exec.move (v := Value.int .i64 ((i103 : Int))) rfl rfl ?_)
            refine WL_step rfl rfl (Exec.neq rfl rfl rfl ?_)
            refine WL_nil (at_normal ?_)
            rcases ite_some hm103 with ⟨hc117, hm103⟩ | ⟨hc117, hm103⟩
            ·refine W_cond_t rfl hc117 ?_
             refine W_seq ?_
             refine W_region ?_
             refine WL_step rfl rfl (Exec.assign (v := Value.bool (false)) rfl rfl ?_)
             refine WL_nil (at_normal ?_)
             refine W_ret (ib_ret (at_ret (at_ret (ib_ret (at_ret (at_ret ?_))))))
             have e126 := Option.some.inj hm103
             subst c110
             have hq103 := hr103 _ (hres106 (by intro _ h; cases h))
             have e127 := Option.some.inj hq103
             subst r
             refine ⟨_, ret1 rfl, ?_⟩
             have hS182 := (hS181).drop
             exact ⟨s138, (PHeap.le.trans (PHeap.le.trans (PHeap.le.trans (PHeap.le.trans (PHeap.le.trans (PHeap.le.trans (PHeap.le.trans (PHeap.le.trans (PHeap.le.trans (PHeap.le.trans l103 l105) l106) l114) l115) l116) l117) l118) l119) l123) l124), hS182, rfl⟩
            ·refine W_cond_f rfl hc117 ?_
             replace hc117 := not_true hc117
             refine W_skip (ib_normal (at_normal ?_))
             refine W_region ?_
             refine WL_step rfl rfl (Exec.add rfl x111 rfl ?_)
             refine WL_step rfl rfl (Exec.move (v := Value.int .i64 (IntKind.i64.wrap ((i103 : Int) + 1))) rfl rfl ?_)
             refine WL_nil (at_normal ?_)
             have e128 := Option.some.inj hm103
             subst c110
             refine ⟨_, rfl, ?_⟩; exact ⟨s138, l124, hS181, p167, p168, (Eq.trans rfl (wrap_up hi103 (hS179).arr_le))⟩
           ·intro t115 f115 w128 hI107 hres107
            obtain ⟨s139, l125, hS183, p169, p170, x113⟩ := hI107
            refine W_seq ?_
            refine W_region ?_
            refine WL_step rfl rfl (Exec.lss rfl x113 p170 ?_)
            refine WL_nil (at_normal ?_)
            refine W_seq ?_
            refine W_false (congrArg Value.bool (decide_eq_false (by omega))) ?_
            refine W_exit (at_exit (at_exit (ib_here (at_normal ?_))))
            refine ⟨_, .inl hres107, ?_⟩; exact ⟨s139, l125, hS183, p169, p170⟩
          ·rintro f116 w129 ⟨t116, hc118, hM108⟩
           have hm := hc118.elim (hn103 _) (hb103 _)
           clear hc118
           obtain ⟨s140, l126, hS184, p171, p172⟩ := hM108
           refine (at_normal ?_)
           refine W_seq ?_
           refine W_region ?_
           refine WL_step rfl rfl (Exec.assign (v := Value.bool (true)) rfl rfl ?_)
           refine WL_nil (at_normal ?_)
           refine W_ret ?_
           have e129 := Option.some.inj hm
           subst r
           refine ⟨_, ret1 rfl, ?_⟩
           have hS185 := (hS184).drop
           exact ⟨s140, (PHeap.le.trans (PHeap.le.trans (PHeap.le.trans (PHeap.le.trans (PHeap.le.trans (PHeap.le.trans (PHeap.le.trans (PHeap.le.trans (PHeap.le.trans (PHeap.le.trans l103 l105) l106) l114) l115) l116) l117) l118) l119) l123) l126), hS185, rfl⟩

end Go.Pw
