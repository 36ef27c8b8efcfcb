/-
  The walks (printed by my generator).
-/
import Derived.Test.YthbgcahoknmmmaaGreatL29
import Derived.Test.YthbgcahoknmmmaaGreatL27
import Derived.Test.YthbgcahoknmmmaaGreatRz0
import Derived.Test.YthbgcahoknmmmaaGreatRzSo
set_option maxRecDepth 100000
set_option maxHeartbeats 4000000
set_option linter.unusedVariables false
namespace Go.Pw
open Go.Proofs
theorem temporal_happenings_sim {w0 w : World} {s : PHeap} {H : List Res} {aj : Temporal} {aq : (List Launch)} {j : Value} {l : Value} {m : Value} {n : Value} {ak : Value} {r : (List (Int × (List temporal_happening))) × (List Int)} (hm : temporal_happenings_p aj aq = some r) (hS : St w0 s (H) w) (aa : SliceRep (encInt .i64) s j aj.Vars) (ab : SliceRep (encInt .i64) s l aj.Init) (ac : SliceRep encFact s m aj.Goal) (ad : SliceRep encJob s n aj.Jobs) (av : SliceRep encLaunch s ak aq) :
  Calls Tryz.prog 39 #[Value.agg #[j, l, m, n], ak] w fun e w' => ∃ v, e = .returned v ∧ ((un2 fun (cb : (List (Int × (List temporal_happening)))) (cc : (List Int)) => ∃ (a5 : PHeap) (aS : Value) (a9 : Nat), PHeap.le s a5 ∧ St w0 a5 (Res.fmap Tryz.prog 3 enctemporal_happening a9 cb :: H) w' ∧ v = Value.tuple #[Value.map (some a9), aS] ∧ SliceRep (encInt .i64) a5 aS cc) r) := by
 unfold temporal_happenings_p at hm
 refine calls_of_W Tryz.func39 rfl rfl (Zc (Zd (Za rfl rfl (Exec.box (cs := [j, l, m, n]) hS rfl rfl rfl ?_))))
 intro am c9 ba
 refine Za rfl rfl (Zo (v := Value.map none) rfl rfl (Za rfl rfl (Zo (v := Value.slice none 0 0) rfl rfl (Zb (Ze (Zc (Zd (Za rfl rfl (Exec.make_hmap (k := 3) (E := enctemporal_happening) (Te := 127) ba rfl ?_)))))))))
 intro b cA bb
 refine Za rfl rfl (Zo (v := Value.map (some b)) rfl rfl (Zb (Ze (Zc (Zc (Zd (Za rfl rfl (Zm (v := ak) rfl rfl (Za rfl rfl (Zr S27 rfl rfl av (Za rfl rfl (Zm (v := Vi (0)) rfl rfl (Zb (Ze ?_))))))))))))))
 obtain ⟨ap, aV, hm⟩ := Zg hm
 refine W_block (W_forS (fun k' s' f' w' => (fun (ap : (List (Int × (List temporal_happening)))) => ∃ (aN : PHeap) (z : VMap), PHeap.le s aN ∧ St w0 aN (Res.box am 26 [j, l, m, n] :: Res.hmap Tryz.prog 3 enctemporal_happening 127 b z ap :: H) w' ∧ f' 2 = Value.pointer (some ⟨am, 0, none⟩) ∧ f' 6 = Value.map (some b) ∧ f' 12 = ak ∧ f' 13 = Vi ((aq.length : Int)) ∧ f' 14 = Vi (k' : Int)) s') aV ?_ ?_ ?_)
 ·have bc := (bb).f1
  exact ⟨s, ([] : VMap), (Zv _), bc, rfl, rfl, rfl, rfl, rfl⟩
 ·intro aI ap bO co cB b0 aW i
  obtain ⟨bP, z, h, aA, p, g, ar, au, al⟩ := aW
  refine Zc (Zd (Za rfl rfl (Zq rfl al au (Zb (Ze (Zc (W_true (Zx (decide_eq_true (by omega))) (W_skip (Ze (Zc (W_block (Zc (Zd ?_)))))))))))))
  obtain ⟨a, bH, i⟩ := Zg i
  refine Za rfl rfl (Exec.index_rep S27 rfl ar al (av.mono h) bH ?_)
  intro cd cy aU
  refine Za rfl rfl (Zw (E := encLaunch) aA A64 rfl rfl rfl aU ?_)
  intro c7 bI
  obtain rfl := encLaunch_val.1 bI
  refine Za rfl rfl (Exec.alloc (cs := [Vi (0), Vi (0)]) aA Z64 rfl rfl ?_)
  intro ce cC bd
  refine Za rfl rfl (Exec.store_box (ds := [Vi (a.At), Vi (a.Job)]) (es := [Vi (a.At), Vi (a.Job)]) bd A64 rfl rfl rfl rfl (Zj rfl (Zj rfl one_nil)) (Nat.le_of_ble_eq_true rfl) rfl ?_)
  intro cD ae
  refine Zb (Ze (Zc (W_dl (n0 := 12) (qs 0 10 (.e 10 [0, 1, 2, 3, 4, 5, 6] (.e 11 [0, 1, 2] .done))) hmix (by kernel_rfl) (by kernel_rfl) (DL_q rfl rfl (Zm (v := Value.map (some b)) rfl g ⟨rfl, ?_⟩)))))
  refine DL_q rfl rfl (Zp F64_0 rfl rfl rfl ⟨rfl, ?_⟩)
  refine DL_q rfl rfl (Zn (ae.drew) A3 rfl rfl rfl ⟨rfl, ?_⟩)
  refine DL_q rfl rfl (Zm (v := Value.map (some b)) rfl g ⟨rfl, ?_⟩)
  refine DL_q rfl rfl (Zp F64_0 rfl rfl rfl ⟨rfl, ?_⟩)
  refine DL_q rfl rfl (Zn (ae.drew) A3 rfl rfl rfl ⟨rfl, ?_⟩)
  obtain ⟨c1, a2, i⟩ := Zg i
  refine DL_q rfl rfl (Exec.hmap_look ((ae.drew).f2) ⟨Tryz.underlying95, Tryz.underlying3⟩ Z100 rfl rfl rfl a2 ⟨rfl, ?_⟩)
  refine DL_q rfl rfl (Zp F64_1 rfl rfl rfl ⟨rfl, ?_⟩)
  refine DL_q rfl rfl (Zn (ae.drew) A3 rfl rfl rfl ⟨rfl, ?_⟩)
  refine DL_q rfl rfl (Exec.build rfl (parts_cons (c := [Vi (a.Job)]) (cells_of rfl rfl) (parts_cons (c := [Value.bool (false)]) (cells_of rfl rfl) parts_nil)) (v := Value.agg #[Vi (a.Job), Value.bool (false)]) (fun _ => by kernel_rfl) ⟨rfl, ?_⟩)
  refine DL_e rfl rfl (Exec.buildSlice (Te := 127) (cs := [Vi (a.Job), Value.bool (false)]) ae.drew rfl (parts_cons (c := [Vi (a.Job), Value.bool (false)]) (cells_of rfl rfl) parts_nil) (fun _ => by kernel_rfl) ?_)
  intro cf cE an
  refine ⟨(ag_cons (ag_r rfl rfl (Zm (v := Value.map (some b)) rfl g ⟨rfl, rfl⟩)) (ag_cons (ag_r rfl rfl (Zp F64_0 rfl rfl rfl ⟨rfl, rfl⟩)) (ag_cons (ag_r rfl rfl (Zn ((an).f1) A3 rfl rfl rfl ⟨rfl, rfl⟩)) (ag_cons (ag_r rfl rfl (Zm (v := Value.map (some b)) rfl g ⟨rfl, rfl⟩)) (ag_cons (ag_r rfl rfl (Zp F64_0 rfl rfl rfl ⟨rfl, rfl⟩)) (ag_cons (ag_r rfl rfl (Zn ((an).f1) A3 rfl rfl rfl ⟨rfl, rfl⟩)) (ag_cons (ag_r rfl rfl (Exec.hmap_look ((an).f3) ⟨Tryz.underlying95, Tryz.underlying3⟩ Z100 rfl rfl rfl a2 ⟨rfl, rfl⟩)) ag_nil))))))), ?_⟩
  obtain ⟨ct, bJ, i⟩ := Zg i
  refine DL_e rfl rfl (Exec.hmap_append (ys := [(⟨a.Job, false⟩ : temporal_happening)]) (an).f3 a2 S100 Z127 rfl (by decide) rfl rfl rfl rfl ⟨[Vi (a.Job), Value.bool (false)], [], rfl, ⟨[Vi (a.Job)], [Value.bool (false)], rfl, rfl, rfl⟩, rfl⟩ rfl bJ ?_)
  intro a6 cF aB
  refine ⟨(ag_cons (ag_r rfl rfl (Zm (v := Value.map (some b)) rfl g ⟨rfl, rfl⟩)) (ag_cons (ag_r rfl rfl (Zp F64_0 rfl rfl rfl ⟨rfl, rfl⟩)) (ag_cons (ag_r rfl rfl (Zn ((aB).f1) A3 rfl rfl rfl ⟨rfl, rfl⟩)) ag_nil))), ?_⟩
  refine DL_done ?_
  obtain ⟨cx, bK, i⟩ := Zg i
  refine Za rfl rfl (Exec.hmap_put aB ⟨Tryz.underlying95, Tryz.underlying3⟩ rfl rfl rfl rfl bK ?_)
  intro cG be
  refine Zb (Ze ?_)
  obtain ⟨a8, ai, i⟩ := Zg i
  obtain ⟨c2, y, i⟩ := Zg i
  obtain ⟨cu, a3, i⟩ := Zg i
  obtain ⟨bA, a4, i⟩ := Zg i
  refine W_mid (M := fun f' w' => ∃ (aO : PHeap) (a7 : VMap), PHeap.le bP aO ∧ St w0 aO (Res.box am 26 [j, l, m, n] :: Res.hmap Tryz.prog 3 enctemporal_happening 127 b a7 bA :: H) w' ∧ f' 2 = Value.pointer (some ⟨am, 0, none⟩) ∧ f' 6 = Value.map (some b) ∧ f' 12 = ak ∧ f' 13 = Vi ((aq.length : Int)) ∧ f' 14 = Vi ((aI : Int))) ?_ ?_
  ·refine W_dl (n0 := 14) (qs 0 3 (qs 4 3 (qs 9 3 (.alt (.e 3 [0, 4, 5, 6, 9, 10, 11] (.alt (.e 7 [0, 4, 9, 10, 11] (.q 8 (.e 12 [0, 4, 8] (.e 13 [0] .done)))) (.e 12 [0, 4, 5, 6] (.e 7 [0, 4] (.q 8 (.e 13 [0] .done)))))) (.e 12 [0, 1, 2, 4, 5, 6] (.e 3 [0, 4, 5, 6] (.e 7 [0, 4] (.q 8 (.e 13 [0] .done))))))))) hmix (by kernel_rfl) (by kernel_rfl) ?_
   have x := be.drew
   refine DL_q rfl rfl (Zm (v := Value.map (some b)) rfl g ⟨rfl, ?_⟩)
   refine DL_q rfl rfl (Exec.load_box_agg (ds := [j, l, m, n]) ((x).f2) A26 rfl p rfl ⟨rfl, ?_⟩)
   refine DL_q rfl rfl (Exec.load_box_agg (ds := [Vi (a.At), Vi (a.Job)]) ((x).f1) A64 rfl rfl rfl ⟨rfl, ?_⟩)
   refine DL_q rfl rfl (Zm (v := Value.map (some b)) rfl g ⟨rfl, ?_⟩)
   refine DL_q rfl rfl (Exec.load_box_agg (ds := [j, l, m, n]) ((x).f2) A26 rfl p rfl ⟨rfl, ?_⟩)
   refine DL_q rfl rfl (Exec.load_box_agg (ds := [Vi (a.At), Vi (a.Job)]) ((x).f1) A64 rfl rfl rfl ⟨rfl, ?_⟩)
   refine DL_q rfl rfl (Zp F64_1 rfl rfl rfl ⟨rfl, ?_⟩)
   refine DL_q rfl rfl (Zn ((x).f1) A3 rfl rfl rfl ⟨rfl, ?_⟩)
   refine DL_q rfl rfl (Exec.build rfl (parts_cons (c := [Vi (a.Job)]) (cells_of rfl rfl) (parts_cons (c := [Value.bool (true)]) (cells_of rfl rfl) parts_nil)) (v := Value.agg #[Vi (a.Job), Value.bool (true)]) (fun _ => by kernel_rfl) ⟨rfl, ?_⟩)
   refine DL_alt ?_ ?_
   ·refine DL_e rfl rfl (Tc rfl rfl rfl (Zi rfl (Zi rfl args_nil)) (temporal_end_sim ai x (aa.mono h) (ab.mono h) (ac.mono h) (ad.mono h)).r ?_)
    rintro _ cH ⟨c3, o, af, rfl⟩
    refine ⟨(ag_cons (ag_r rfl rfl (Zm (v := Value.map (some b)) rfl g ⟨rfl, rfl⟩)) (ag_cons (ag_r rfl rfl (Zm (v := Value.map (some b)) rfl g ⟨rfl, rfl⟩)) (ag_cons (ag_r rfl rfl (Exec.load_box_agg (ds := [j, l, m, n]) ((af).f2) A26 rfl p rfl ⟨rfl, rfl⟩)) (ag_cons (ag_r rfl rfl (Exec.load_box_agg (ds := [Vi (a.At), Vi (a.Job)]) ((af).f1) A64 rfl rfl rfl ⟨rfl, rfl⟩)) (ag_cons (ag_r rfl rfl (Zp F64_1 rfl rfl rfl ⟨rfl, rfl⟩)) (ag_cons (ag_r rfl rfl (Zn ((af).f1) A3 rfl rfl rfl ⟨rfl, rfl⟩)) (ag_cons (ag_r rfl rfl (Exec.build rfl (parts_cons (c := [Vi (a.Job)]) (cells_of rfl rfl) (parts_cons (c := [Value.bool (true)]) (cells_of rfl rfl) parts_nil)) (v := Value.agg #[Vi (a.Job), Value.bool (true)]) (fun _ => by kernel_rfl) ⟨rfl, rfl⟩)) ag_nil))))))), ?_⟩
    refine DL_alt ?_ ?_
    ·refine DL_e rfl rfl (Tc rfl rfl rfl (Zi rfl (Zi rfl args_nil)) (temporal_end_sim ai af (aa.mono (Zt h o)) (ab.mono (Zt h o)) (ac.mono (Zt h o)) (ad.mono (Zt h o))).r ?_)
     rintro _ cI ⟨bQ, b2, aw, rfl⟩
     refine ⟨(ag_cons (ag_r rfl rfl (Zm (v := Value.map (some b)) rfl g ⟨rfl, rfl⟩)) (ag_cons (ag_r rfl rfl (Zm (v := Value.map (some b)) rfl g ⟨rfl, rfl⟩)) (ag_cons (ag_r rfl rfl (Zp F64_1 rfl rfl rfl ⟨rfl, rfl⟩)) (ag_cons (ag_r rfl rfl (Zn ((aw).f1) A3 rfl rfl rfl ⟨rfl, rfl⟩)) (ag_cons (ag_r rfl rfl (Exec.build rfl (parts_cons (c := [Vi (a.Job)]) (cells_of rfl rfl) (parts_cons (c := [Value.bool (true)]) (cells_of rfl rfl) parts_nil)) (v := Value.agg #[Vi (a.Job), Value.bool (true)]) (fun _ => by kernel_rfl) ⟨rfl, rfl⟩)) ag_nil))))), ?_⟩
     refine DL_q rfl rfl (Exec.hmap_look (aw) ⟨Tryz.underlying95, Tryz.underlying3⟩ Z100 rfl rfl rfl y ⟨rfl, ?_⟩)
     refine DL_e rfl rfl (Exec.buildSlice (Te := 127) (cs := [Vi (a.Job), Value.bool (true)]) aw rfl (parts_cons (c := [Vi (a.Job), Value.bool (true)]) (cells_of rfl rfl) parts_nil) (fun _ => by kernel_rfl) ?_)
     intro cg cJ aC
     refine ⟨(ag_cons (ag_r rfl rfl (Zm (v := Value.map (some b)) rfl g ⟨rfl, rfl⟩)) (ag_cons (ag_r rfl rfl (Zm (v := Value.map (some b)) rfl g ⟨rfl, rfl⟩)) (ag_cons (ag_r rfl rfl (Exec.hmap_look ((aC).f1) ⟨Tryz.underlying95, Tryz.underlying3⟩ Z100 rfl rfl rfl y ⟨rfl, rfl⟩)) ag_nil))), ?_⟩
     refine DL_e rfl rfl (Exec.hmap_append (ys := [(⟨a.Job, true⟩ : temporal_happening)]) (aC).f1 y S100 Z127 rfl (by decide) rfl rfl rfl rfl ⟨[Vi (a.Job), Value.bool (true)], [], rfl, ⟨[Vi (a.Job)], [Value.bool (true)], rfl, rfl, rfl⟩, rfl⟩ rfl a3 ?_)
     intro bX cK bf
     refine ⟨(ag_cons (ag_r rfl rfl (Zm (v := Value.map (some b)) rfl g ⟨rfl, rfl⟩)) ag_nil), ?_⟩
     refine DL_done (Za rfl rfl (Exec.hmap_put bf ⟨Tryz.underlying95, Tryz.underlying3⟩ rfl rfl rfl rfl a4 ?_))
     intro cL bg
     refine Zb (Ze ?_)
     exact ⟨bQ, (aput (aput z a.At a6) a8 bX), (Zt o b2), (((bg).f1).drop).f1, p, g, ar, au, al⟩
    refine DL_e rfl rfl (Exec.buildSlice (Te := 127) (cs := [Vi (a.Job), Value.bool (true)]) af rfl (parts_cons (c := [Vi (a.Job), Value.bool (true)]) (cells_of rfl rfl) parts_nil) (fun _ => by kernel_rfl) ?_)
    intro ch cM ax
    refine ⟨(ag_cons (ag_r rfl rfl (Zm (v := Value.map (some b)) rfl g ⟨rfl, rfl⟩)) (ag_cons (ag_r rfl rfl (Zm (v := Value.map (some b)) rfl g ⟨rfl, rfl⟩)) (ag_cons (ag_r rfl rfl (Exec.load_box_agg (ds := [j, l, m, n]) ((ax).f3) A26 rfl p rfl ⟨rfl, rfl⟩)) (ag_cons (ag_r rfl rfl (Exec.load_box_agg (ds := [Vi (a.At), Vi (a.Job)]) ((ax).f2) A64 rfl rfl rfl ⟨rfl, rfl⟩)) ag_nil)))), ?_⟩
    refine DL_e rfl rfl (Tc rfl rfl rfl (Zi rfl (Zi rfl args_nil)) (temporal_end_sim ai ax (aa.mono (Zt h o)) (ab.mono (Zt h o)) (ac.mono (Zt h o)) (ad.mono (Zt h o))).r ?_)
    rintro _ cN ⟨bR, b3, aD, rfl⟩
    refine ⟨(ag_cons (ag_r rfl rfl (Zm (v := Value.map (some b)) rfl g ⟨rfl, rfl⟩)) (ag_cons (ag_r rfl rfl (Zm (v := Value.map (some b)) rfl g ⟨rfl, rfl⟩)) ag_nil)), ?_⟩
    refine DL_q rfl rfl (Exec.hmap_look ((aD).f1) ⟨Tryz.underlying95, Tryz.underlying3⟩ Z100 rfl rfl rfl y ⟨rfl, ?_⟩)
    refine DL_e rfl rfl (Exec.hmap_append (ys := [(⟨a.Job, true⟩ : temporal_happening)]) (aD).f1 y S100 Z127 rfl (by decide) rfl rfl rfl rfl ⟨[Vi (a.Job), Value.bool (true)], [], rfl, ⟨[Vi (a.Job)], [Value.bool (true)], rfl, rfl, rfl⟩, rfl⟩ rfl a3 ?_)
    intro bY cO bh
    refine ⟨(ag_cons (ag_r rfl rfl (Zm (v := Value.map (some b)) rfl g ⟨rfl, rfl⟩)) ag_nil), ?_⟩
    refine DL_done (Za rfl rfl (Exec.hmap_put bh ⟨Tryz.underlying95, Tryz.underlying3⟩ rfl rfl rfl rfl a4 ?_))
    intro cP bi
    refine Zb (Ze ?_)
    exact ⟨bR, (aput (aput z a.At a6) a8 bY), (Zt o b3), (((bi).f1).drop).f1, p, g, ar, au, al⟩
   refine DL_e rfl rfl (Exec.buildSlice (Te := 127) (cs := [Vi (a.Job), Value.bool (true)]) x rfl (parts_cons (c := [Vi (a.Job), Value.bool (true)]) (cells_of rfl rfl) parts_nil) (fun _ => by kernel_rfl) ?_)
   intro ci cQ ag
   refine ⟨(ag_cons (ag_r rfl rfl (Zm (v := Value.map (some b)) rfl g ⟨rfl, rfl⟩)) (ag_cons (ag_r rfl rfl (Exec.load_box_agg (ds := [j, l, m, n]) ((ag).f3) A26 rfl p rfl ⟨rfl, rfl⟩)) (ag_cons (ag_r rfl rfl (Exec.load_box_agg (ds := [Vi (a.At), Vi (a.Job)]) ((ag).f2) A64 rfl rfl rfl ⟨rfl, rfl⟩)) (ag_cons (ag_r rfl rfl (Zm (v := Value.map (some b)) rfl g ⟨rfl, rfl⟩)) (ag_cons (ag_r rfl rfl (Exec.load_box_agg (ds := [j, l, m, n]) ((ag).f3) A26 rfl p rfl ⟨rfl, rfl⟩)) (ag_cons (ag_r rfl rfl (Exec.load_box_agg (ds := [Vi (a.At), Vi (a.Job)]) ((ag).f2) A64 rfl rfl rfl ⟨rfl, rfl⟩)) ag_nil)))))), ?_⟩
   refine DL_e rfl rfl (Tc rfl rfl rfl (Zi rfl (Zi rfl args_nil)) (temporal_end_sim ai ag (aa.mono h) (ab.mono h) (ac.mono h) (ad.mono h)).r ?_)
   rintro _ cR ⟨c4, ah, ay, rfl⟩
   refine ⟨(ag_cons (ag_r rfl rfl (Zm (v := Value.map (some b)) rfl g ⟨rfl, rfl⟩)) (ag_cons (ag_r rfl rfl (Zm (v := Value.map (some b)) rfl g ⟨rfl, rfl⟩)) (ag_cons (ag_r rfl rfl (Exec.load_box_agg (ds := [j, l, m, n]) ((ay).f3) A26 rfl p rfl ⟨rfl, rfl⟩)) (ag_cons (ag_r rfl rfl (Exec.load_box_agg (ds := [Vi (a.At), Vi (a.Job)]) ((ay).f2) A64 rfl rfl rfl ⟨rfl, rfl⟩)) ag_nil)))), ?_⟩
   refine DL_e rfl rfl (Tc rfl rfl rfl (Zi rfl (Zi rfl args_nil)) (temporal_end_sim ai ay (aa.mono (Zt h ah)) (ab.mono (Zt h ah)) (ac.mono (Zt h ah)) (ad.mono (Zt h ah))).r ?_)
   rintro _ cS ⟨bS, b4, aE, rfl⟩
   refine ⟨(ag_cons (ag_r rfl rfl (Zm (v := Value.map (some b)) rfl g ⟨rfl, rfl⟩)) (ag_cons (ag_r rfl rfl (Zm (v := Value.map (some b)) rfl g ⟨rfl, rfl⟩)) ag_nil)), ?_⟩
   refine DL_q rfl rfl (Exec.hmap_look ((aE).f1) ⟨Tryz.underlying95, Tryz.underlying3⟩ Z100 rfl rfl rfl y ⟨rfl, ?_⟩)
   refine DL_e rfl rfl (Exec.hmap_append (ys := [(⟨a.Job, true⟩ : temporal_happening)]) (aE).f1 y S100 Z127 rfl (by decide) rfl rfl rfl rfl ⟨[Vi (a.Job), Value.bool (true)], [], rfl, ⟨[Vi (a.Job)], [Value.bool (true)], rfl, rfl, rfl⟩, rfl⟩ rfl a3 ?_)
   intro bZ cT bj
   refine ⟨(ag_cons (ag_r rfl rfl (Zm (v := Value.map (some b)) rfl g ⟨rfl, rfl⟩)) ag_nil), ?_⟩
   refine DL_done (Za rfl rfl (Exec.hmap_put bj ⟨Tryz.underlying95, Tryz.underlying3⟩ rfl rfl rfl rfl a4 ?_))
   intro cU bk
   refine Zb (Ze ?_)
   exact ⟨bS, (aput (aput z a.At a6) a8 bZ), (Zt ah b4), (((bk).f1).drop).f1, p, g, ar, au, al⟩
  intro cp cV aZ
  obtain ⟨bT, a7, b5, bl, bB, bC, bD, bE, bF⟩ := aZ
  refine (ib_normal (Ze (Zd (Za rfl rfl (Exec.add rfl bF rfl (Za rfl rfl (Zm (v := Vi (IntKind.i64.wrap ((aI : Int) + 1))) rfl rfl (Zb (Ze ?_)))))))))
  have cl := Zu i
  subst bO
  exact ⟨bT, a7, (Zt h b5), ((bl).f1).f1, bB, bC, bD, bE, (Eq.trans rfl (wrap_up b0 (SliceRep.le av)))⟩
 intro cq cW aX
 obtain ⟨aP, z, b6, bm, cz, aK, c0, bG, ca⟩ := aX
 refine Zc (Zd (Za rfl rfl (Zq rfl ca bG (Zb (Ze (Zc (W_false (Zx (decide_eq_false (by omega))) (W_exit (at_exit (at_exit (ib_here (Ze (Zc (Zd (Za rfl rfl (Zo (v := Value.slice none 0 0) rfl rfl (Zb (Ze (Zc (Zc (Zd (Za rfl rfl (Zm (v := Value.map (some b)) rfl aK (Za rfl rfl (Exec.hmap_range (bm).f1 ⟨Tryz.underlying95, Tryz.underlying3⟩ rfl rfl ?_)))))))))))))))))))))))))
 intro aM cX aF
 refine Zb (Ze (W_block (W_rangeK (aF).hrange_nodup (fun d' s' f' w' => (fun (aR : (List Int)) => ∃ (aQ : PHeap) (u : Value), PHeap.le aP aQ ∧ St w0 aQ (Res.hrange Tryz.prog 3 enctemporal_happening 127 b aM z ap d' :: Res.arr (encInt .i64) 3 u aR :: H) w' ∧ f' 6 = Value.map (some b) ∧ f' 9 = u ∧ f' 46 = Value.pointer (some ⟨aM, 0, none⟩)) s') hm ?_ ?_)))
 ·have bn := aF.nilArr (encInt .i64) 3
  exact ⟨aP, (Value.slice none 0 0), (Zv _), (((bn).f2).drop).f1, aK, rfl, rfl⟩
 intro ck aR cr cY aY bx b1
 obtain ⟨bU, u, aJ, bo, aL, a0, a1⟩ := aY
 refine Zc (Zd (Za rfl rfl (Exec.hrange_next bo ⟨Tryz.underlying95, Tryz.underlying3⟩ rfl a1 ?_ ?_)))
 ·intro bw bp
  have az := bx bw
  refine Za rfl rfl (Exec.extract (v := Value.bool (false)) rfl rfl rfl (Zb (Ze (Zc (W_false rfl (W_exit (at_exit (at_exit (ib_here (Ze (Zc (Zd (Za rfl rfl (Zm (v := u) rfl a0 ?_))))))))))))))
  obtain ⟨cv, bL, az⟩ := Zg az
  refine Za rfl rfl (Tc rfl rfl rfl (Zi rfl args_nil) (sortInts_sim bL (bp).f1 ).r ?_)
  rintro _ cZ ⟨c5, b7, bq, rfl⟩
  refine Zb (Ze (Zc (Zd (Za rfl rfl (Zm (v := Value.map (some b)) rfl aL (Za rfl rfl (Zm (v := u) rfl a0 (Za rfl rfl (Zo (v := Value.map (some b)) rfl rfl (Za rfl rfl (Zo (v := u) rfl rfl (Zb (Ze (W_ret ?_))))))))))))))
  have cm := Zu az
  subst r
  refine ⟨_, ret2 rfl, ?_⟩
  obtain ⟨c6, b8, br⟩ := St.freezeHmap (bq).f1
  obtain ⟨bV, b9, bs, bN⟩ := (br).f1.freezeArr
  exact ⟨bV, u, b, (Zt (Zt (Zt (Zt b6 aJ) b7) b8) b9), bs, (tup2 rfl rfl), bN⟩
 intro t c8 da aG aH bt bz
 obtain ⟨bW, ao⟩ := b1 t aG aH
 have hm6531k := ao
 refine Za rfl rfl (Exec.extract (v := Value.bool (true)) rfl rfl rfl (Zb (Ze (Zc (W_true rfl (W_skip (Ze (W_block (Zc (Zd (Za rfl rfl (Exec.entry rfl a1 bz (Za rfl rfl (Exec.extract (v := Vi (t)) rfl rfl rfl (Za rfl rfl (Zo (v := Vi (t)) rfl rfl (Zb (Ze (Zd (Za rfl rfl (Zm (v := u) rfl a0 (Za rfl rfl (Zm (v := Vi (t)) rfl rfl (Za rfl rfl (Exec.buildSlice (Te := 3) (cs := [Vi (t)]) bt rfl (parts_cons (c := [Vi (t)]) (cells_of rfl rfl) parts_nil) (fun _ => by kernel_rfl) ?_)))))))))))))))))))))))))
 intro cj db bu
 obtain ⟨cw, bM, ao⟩ := Zg ao
 refine Za rfl rfl (Exec.append_box (E := (encInt .i64)) (ys := [t]) (bu).f2 S22 Z3 rfl (by decide) rfl rfl rfl rfl ⟨[Vi (t)], [], rfl, rfl, rfl⟩ rfl bM ?_)
 intro aT dc bv
 refine Za rfl rfl (Zo (v := aT) rfl rfl (Zb (ib_normal (Ze ?_))))
 have cn := Zu ao
 subst bW
 exact ⟨t, _, aG, aH, hm6531k, ⟨bU, aT, aJ, (bv).f1, aL, rfl, a1⟩⟩
theorem temporal_overlaps_sim {w0 w : World} {s : PHeap} {H : List Res} {ap : Temporal} {m : (List Launch)} {g : Int} {u : Value} {x : Value} {y : Value} {z : Value} {a : Value} {r : Bool} (hm : temporal_overlaps_p ap m g = some r) (hS : St w0 s (H) w) (aQ : SliceRep (encInt .i64) s u ap.Vars) (aR : SliceRep (encInt .i64) s x ap.Init) (aS : SliceRep encFact s y ap.Goal) (aT : SliceRep encJob s z ap.Jobs) (aa : SliceRep encLaunch s a m) :
  Calls Tryz.prog 71 #[Value.agg #[u, x, y, z], a, Vi (g)] w fun e w' => ∃ v, e = .returned v ∧ ((fun (cn : Bool) => ∃ (aJ : PHeap) , PHeap.le s aJ ∧ St w0 aJ (H) w' ∧ v = Value.bool (cn)) r) := by
 unfold temporal_overlaps_p at hm
 refine calls_of_W Tryz.func71 rfl rfl (Zc (Zd (Za rfl rfl (Exec.box (cs := [u, x, y, z]) hS rfl rfl rfl ?_))))
 intro i cU bf
 refine Za rfl rfl (Zo (v := Value.bool (false)) rfl rfl (Zb (Ze (Zc (Zc (Zd (Za rfl rfl (Zm (v := a) rfl rfl (Za rfl rfl (Zr S27 rfl rfl aa (Za rfl rfl (Zm (v := Vi (0)) rfl rfl (Zb (Ze ?_))))))))))))))
 obtain ⟨a5, aW, bv, br, bo⟩ := ctl_some hm
 refine W_mid (M := fun f' w' => ∃ s', (a5 = .next s' ∨ a5 = .brk s') ∧ (fun (_ : Unit) => ∃ (aK : PHeap) , PHeap.le s aK ∧ St w0 aK (Res.box i 26 [u, x, y, z] :: H) w' ∧ f' 1 = a ∧ f' 2 = Vi (g) ∧ f' 3 = Value.pointer (some ⟨i, 0, none⟩) ∧ f' 11 = a ∧ f' 12 = Vi ((m.length : Int))) s') ?_ ?_
 ·refine W_block (W_forC (fun k' s' f' w' => (fun (_ : Unit) => ∃ (aL : PHeap) , PHeap.le s aL ∧ St w0 aL (Res.box i 26 [u, x, y, z] :: H) w' ∧ f' 1 = a ∧ f' 2 = Vi (g) ∧ f' 3 = Value.pointer (some ⟨i, 0, none⟩) ∧ f' 11 = a ∧ f' 12 = Vi ((m.length : Int)) ∧ f' 13 = Vi (k' : Int)) s') aW ?_ ?_ ?_)
  ·exact ⟨s, (Zv _), bf, rfl, rfl, rfl, rfl, rfl, rfl⟩
  ·intro c cM az c4 cV aD aY q bx
   obtain ⟨ax, d, a8, a1, a2, aF, a3, a4, aq⟩ := aY
   refine Zc (Zd (Za rfl rfl (Zq rfl aq a4 (Zb (Ze (Zc (W_true (Zx (decide_eq_true (by omega))) (W_skip (Ze (Zc (W_block (Zc (Zd (Za rfl rfl (Zm (v := Vi ((c : Int))) rfl aq ?_)))))))))))))))
   obtain ⟨n, cb, q⟩ := Zg q
   refine Za rfl rfl (Exec.index_rep S27 rfl a3 aq (aa.mono d) cb ?_)
   intro cp cB aU
   refine Za rfl rfl (Zw (E := encLaunch) a8 A64 rfl rfl rfl aU ?_)
   intro cS cc
   obtain rfl := encLaunch_val.1 cc
   refine Za rfl rfl (Exec.alloc (cs := [Vi (0), Vi (0)]) a8 Z64 rfl rfl ?_)
   intro ae cW bg
   refine Za rfl rfl (Zo (v := Vi ((c : Int))) rfl rfl (Za rfl rfl (Exec.store_box (ds := [Vi (n.At), Vi (n.Job)]) (es := [Vi (n.At), Vi (n.Job)]) bg A64 rfl rfl rfl rfl (Zj rfl (Zj rfl one_nil)) (Nat.le_of_ble_eq_true rfl) rfl ?_)))
   intro cX a0
   refine Zb (Ze (Zc (Zc (Zd (Za rfl rfl (Zp F64_0 rfl rfl rfl (Za rfl rfl (Zn (a0) A3 rfl rfl rfl (Za rfl rfl (Zm (v := Vi (g)) rfl a2 (Za rfl rfl (Exec.neq rfl rfl rfl (Zb (Ze ?_))))))))))))))
   rcases ite_some q with ⟨ai, q⟩ | ⟨ai, q⟩
   ·refine W_cond_t rfl ai (W_exit (at_exit (ib_here (Ze (Zd (Za rfl rfl (Exec.add rfl aq rfl (Za rfl rfl (Zm (v := Vi (IntKind.i64.wrap ((c : Int) + 1))) rfl rfl (Zb (Ze ?_)))))))))))
    have ct := Zu q
    subst az
    refine ⟨_, rfl, ?_⟩; exact ⟨ax, d, (a0).drop, a1, a2, aF, a3, a4, (Eq.trans rfl (wrap_up aD (SliceRep.le aa)))⟩
   refine W_cond_f rfl ai ?_
   replace ai := Zk ai
   refine W_skip (Ze (Zc (Zd (Za rfl rfl (Zm (v := a) rfl a1 (Za rfl rfl (Zr S27 rfl rfl (aa.mono d) (Za rfl rfl (Zm (v := Vi (0)) rfl rfl (Zb (Ze ?_)))))))))))
   obtain ⟨a6, aX, bw, bs, bp⟩ := ctl_some q
   refine W_mid (M := fun f' w' => ∃ s', (a6 = .next s' ∨ a6 = .brk s') ∧ (fun (_ : Unit) => ∃ (aM : PHeap) , PHeap.le ax aM ∧ St w0 aM (Res.box i 26 [u, x, y, z] :: Res.box ae 64 [Vi (n.At), Vi (n.Job)] :: H) w' ∧ f' 1 = a ∧ f' 2 = Vi (g) ∧ f' 3 = Value.pointer (some ⟨i, 0, none⟩) ∧ f' 7 = Vi ((c : Int)) ∧ f' 8 = Value.pointer (some ⟨ae, 0, none⟩) ∧ f' 11 = a ∧ f' 12 = Vi ((m.length : Int)) ∧ f' 13 = Vi ((c : Int)) ∧ f' 22 = a ∧ f' 23 = Vi ((m.length : Int))) s') ?_ ?_
   ·refine W_block (W_forC (fun k' s' f' w' => (fun (_ : Unit) => ∃ (aN : PHeap) , PHeap.le ax aN ∧ St w0 aN (Res.box i 26 [u, x, y, z] :: Res.box ae 64 [Vi (n.At), Vi (n.Job)] :: H) w' ∧ f' 1 = a ∧ f' 2 = Vi (g) ∧ f' 3 = Value.pointer (some ⟨i, 0, none⟩) ∧ f' 7 = Vi ((c : Int)) ∧ f' 8 = Value.pointer (some ⟨ae, 0, none⟩) ∧ f' 11 = a ∧ f' 12 = Vi ((m.length : Int)) ∧ f' 13 = Vi ((c : Int)) ∧ f' 22 = a ∧ f' 23 = Vi ((m.length : Int)) ∧ f' 24 = Vi (k' : Int)) s') aX ?_ ?_ ?_)
    ·have bh := (a0).f1
     exact ⟨ax, (Zv _), bh, a1, a2, aF, rfl, rfl, a3, a4, aq, rfl, rfl, rfl⟩
    ·intro af cN a7 c5 cY bq aZ t bz
     obtain ⟨ay, ab, a9, ar, ag, ak, al, am, au, av, aw, an, ao, ac⟩ := aZ
     refine Zc (Zd (Za rfl rfl (Zq rfl ac ao (Zb (Ze (Zc (W_true (Zx (decide_eq_true (by omega))) (W_skip (Ze (Zc (W_block (Zc (Zd (Za rfl rfl (Zm (v := Vi ((af : Int))) rfl ac ?_)))))))))))))))
     obtain ⟨ah, cd, t⟩ := Zg t
     refine Za rfl rfl (Exec.index_rep S27 rfl an ac (aa.mono (Zt d ab)) cd ?_)
     intro cq cC aV
     refine Za rfl rfl (Zw (E := encLaunch) a9 A64 rfl rfl rfl aV ?_)
     intro cT ce
     obtain rfl := encLaunch_val.1 ce
     refine Za rfl rfl (Exec.alloc (cs := [Vi (0), Vi (0)]) a9 Z64 rfl rfl ?_)
     intro cr cZ bi
     refine Za rfl rfl (Zo (v := Vi ((af : Int))) rfl rfl (Za rfl rfl (Exec.store_box (ds := [Vi (ah.At), Vi (ah.Job)]) (es := [Vi (ah.At), Vi (ah.Job)]) bi A64 rfl rfl rfl rfl (Zj rfl (Zj rfl one_nil)) (Nat.le_of_ble_eq_true rfl) rfl ?_)))
     intro da o
     refine Zb (Ze (Zc ?_))
     obtain ⟨ad, b, t⟩ := Zg t
     refine W_mid (M := fun f' w' => (fun (ad : Bool) => ∃ (aO : PHeap) , PHeap.le ay aO ∧ St w0 aO (Res.box i 26 [u, x, y, z] :: Res.box ae 64 [Vi (n.At), Vi (n.Job)] :: H) w' ∧ f' 1 = a ∧ f' 2 = Vi (g) ∧ f' 3 = Value.pointer (some ⟨i, 0, none⟩) ∧ f' 7 = Vi ((c : Int)) ∧ f' 8 = Value.pointer (some ⟨ae, 0, none⟩) ∧ f' 11 = a ∧ f' 12 = Vi ((m.length : Int)) ∧ f' 13 = Vi ((c : Int)) ∧ f' 22 = a ∧ f' 23 = Vi ((m.length : Int)) ∧ f' 24 = Vi ((af : Int)) ∧ f' 51 = Value.bool (ad)) ad) ?_ ?_
     ·refine Zd (Za rfl rfl (Zm (v := Vi ((c : Int))) rfl al (Za rfl rfl (Zm (v := Vi ((af : Int))) rfl rfl (Za rfl rfl (Exec.neq rfl rfl rfl (Za rfl rfl (Zm (v := Value.bool (!decide ((c : Int) = (af : Int)))) rfl rfl ?_))))))))
      rcases ite_some b with ⟨j, b⟩ | ⟨j, b⟩
      ·refine WL_run rfl (Zf rfl (Zx j)) rfl (Zp F64_1 rfl am rfl (WL_run rfl (Zf rfl (Zx j)) rfl (Zn ((o).f2) A3 rfl rfl rfl (WL_run rfl (Zf rfl (Zx j)) rfl (Zp F64_1 rfl rfl rfl (WL_run rfl (Zf rfl (Zx j)) rfl (Zn (o) A3 rfl rfl rfl (WL_run rfl (Zf rfl (Zx j)) rfl (Exec.eql rfl rfl rfl ?_)))))))))
       refine WL_passes 2 (by rw [j]; rfl) ?_
       rcases ite_some b with ⟨p, b⟩ | ⟨p, b⟩
       ·refine WL_run rfl (Zf rfl (Zx p)) rfl (Zp F64_0 rfl rfl rfl (WL_run rfl (Zf rfl (Zx p)) rfl (Zn (o) A3 rfl rfl rfl (WL_run rfl (Zf rfl (Zx p)) rfl (Zm (v := Vi (g)) rfl ag (WL_run rfl (Zf rfl (Zx p)) rfl (Exec.leq rfl rfl rfl ?_)))))))
        refine WL_passes 2 (by rw [p]; rfl) ?_
        rcases ite_some b with ⟨l, b⟩ | ⟨l, b⟩
        ·refine WL_run rfl (Zf rfl (Zx l)) rfl (Zm (v := Vi (g)) rfl ag (WL_run rfl (Zf rfl (Zx l)) rfl (Exec.load_box_agg (ds := [u, x, y, z]) ((o).f1) A26 rfl ak rfl (WL_run rfl (Zf rfl (Zx l)) rfl (Exec.load_box_agg (ds := [Vi (ah.At), Vi (ah.Job)]) (o) A64 rfl rfl rfl ?_)))))
         obtain ⟨co, cf, b⟩ := Zg b
         refine WL_run rfl (Zf rfl (Zx l)) rfl (Tc rfl rfl rfl (Zi rfl (Zi rfl args_nil)) (temporal_end_sim cf o (aQ.mono (Zt d ab)) (aR.mono (Zt d ab)) (aS.mono (Zt d ab)) (aT.mono (Zt d ab))).r ?_)
         rintro _ db ⟨cg, b2, bj, rfl⟩
         refine WL_run rfl (Zf rfl (Zx l)) rfl (Exec.leq rfl rfl rfl (Za rfl rfl (Zs (v := Value.bool (decide (g ≤ co))) rfl (Zx l) rfl (Zb (Ze ?_)))))
         have cu := Zu b
         subst ad
         exact ⟨cg, b2, (((bj).drop).f1).f1, ar, ag, ak, al, am, au, av, aw, an, ao, ac, rfl⟩
        replace l := Zk l
        refine WL_passes 6 (by rw [l]; rfl) ?_
        refine Zb (Ze ?_)
        have cv := Zu b
        subst ad
        exact ⟨ay, (Zv _), (((o).drop).f1).f1, ar, ag, ak, al, am, au, av, aw, an, ao, ac, rfl⟩
       replace p := Zk p
       refine WL_passes 12 (by rw [p]; rfl) ?_
       refine Zb (Ze ?_)
       have cw := Zu b
       subst ad
       exact ⟨ay, (Zv _), (((o).drop).f1).f1, ar, ag, ak, al, am, au, av, aw, an, ao, ac, rfl⟩
      replace j := Zk j
      refine WL_passes 19 (by rw [j]; rfl) ?_
      refine Zb (Ze ?_)
      have cx := Zu b
      subst ad
      exact ⟨ay, (Zv _), (((o).drop).f1).f1, ar, ag, ak, al, am, au, av, aw, an, ao, ac, rfl⟩
     intro c6 dc bc
     obtain ⟨aP, aE, aA, b7, b8, b9, bA, bB, bC, bD, bE, bF, bG, bH, aG⟩ := bc
     refine (Ze ?_)
     rcases ite_some t with ⟨aj, t⟩ | ⟨aj, t⟩
     ·refine W_cond_t aG aj (Zc (Zd (Za rfl rfl (Zo (v := Value.bool (true)) rfl rfl (Zb (Ze (W_ret (ib_ret (at_ret (at_ret (ib_ret (at_ret (ib_ret (at_ret (at_ret (ib_ret (at_ret (at_ret ?_))))))))))))))))))
      have cy := Zu t
      subst a7
      have bt := bw _ (bz (by intro _ h; cases h))
      have cz := Zu bt
      subst az
      have bu := bv _ (bx (by intro _ h; cases h))
      have c0 := Zu bu
      subst r
      refine ⟨_, ret1 rfl, ?_⟩
      exact ⟨aP, (Zt (Zt d ab) aE), ((aA).drop).drop, rfl⟩
     refine W_cond_f aG aj ?_
     replace aj := Zk aj
     refine W_skip (ib_normal (Ze (Zd (Za rfl rfl (Exec.add rfl bH rfl (Za rfl rfl (Zm (v := Vi (IntKind.i64.wrap ((af : Int) + 1))) rfl rfl (Zb (Ze ?_)))))))))
     have c1 := Zu t
     subst a7
     refine ⟨_, rfl, ?_⟩; exact ⟨aP, (Zt ab aE), ((aA).f1).f1, b7, b8, b9, bA, bB, bC, bD, bE, bF, bG, (Eq.trans rfl (wrap_up bq (SliceRep.le (aa.mono d))))⟩
    intro cO c7 dd ba b0
    obtain ⟨ch, b3, bk, bI, bJ, bK, bL, bM, bN, bO, bP, bQ, aH, cl⟩ := ba
    refine Zc (Zd (Za rfl rfl (Zq rfl cl aH (Zb (Ze (Zc (W_false (Zx (decide_eq_false (by omega))) (W_exit (at_exit (at_exit (ib_here (Ze ?_))))))))))))
    refine ⟨_, .inl b0, ?_⟩; exact ⟨ch, b3, ((bk).f1).f1, bI, bJ, bK, bL, bM, bN, bO, bP, bQ, aH⟩
   rintro c8 de ⟨cP, aB, bd⟩
   have q := aB.elim (bs _) (bp _)
   clear aB
   obtain ⟨ci, b4, bl, bR, bS, bT, cD, cE, bU, bV, bW, cF, cG⟩ := bd
   refine (ib_normal (Ze (Zd (Za rfl rfl (Exec.add rfl bW rfl (Za rfl rfl (Zm (v := Vi (IntKind.i64.wrap ((c : Int) + 1))) rfl rfl (Zb (Ze ?_)))))))))
   have c2 := Zu q
   subst az
   refine ⟨_, rfl, ?_⟩; exact ⟨ci, (Zt d b4), ((bl).f1).drop, bR, bS, bT, bU, bV, (Eq.trans rfl (wrap_up aD (SliceRep.le aa)))⟩
  intro cQ c9 df bb b1
  obtain ⟨cj, b5, bm, bX, bY, bZ, ca, aI, cm⟩ := bb
  refine Zc (Zd (Za rfl rfl (Zq rfl cm aI (Zb (Ze (Zc (W_false (Zx (decide_eq_false (by omega))) (W_exit (at_exit (at_exit (ib_here (Ze ?_))))))))))))
  refine ⟨_, .inl b1, ?_⟩; exact ⟨cj, b5, bm, bX, bY, bZ, ca, aI⟩
 rintro cA dg ⟨cR, aC, be⟩
 have hm := aC.elim (br _) (bo _)
 clear aC
 obtain ⟨ck, b6, bn, cH, cI, cJ, cK, cL⟩ := be
 refine (Ze (Zc (Zd (Za rfl rfl (Zo (v := Value.bool (false)) rfl rfl (Zb (Ze (W_ret ?_))))))))
 have c3 := Zu hm
 subst r
 refine ⟨_, ret1 rfl, ?_⟩
 exact ⟨ck, b6, (bn).drop, rfl⟩
theorem A127 : tyAgg Tryz.prog 127 = some (true, 2) := by kernel_rfl
theorem F127_1 : tyField Tryz.prog 127 1 = some 1 := by kernel_rfl
theorem A4 : tyAgg Tryz.prog 4 = some (false, 1) := by kernel_rfl
theorem F127_0 : tyField Tryz.prog 127 0 = some 0 := by kernel_rfl
theorem temporal_writes_sim {w0 w : World} {s : PHeap} {H : List Res} {d : Temporal} {b : temporal_happening} {g : Value} {h : Value} {i : Value} {j : Value} {r : (List Fact)} (hm : temporal_writes_p d b = some r) (hS : St w0 s (H) w) (ae : SliceRep (encInt .i64) s g d.Vars) (af : SliceRep (encInt .i64) s h d.Init) (ag : SliceRep encFact s i d.Goal) (k : SliceRep encJob s j d.Jobs) :
  Calls Tryz.prog 84 #[Value.agg #[g, h, i, j], Value.agg #[Vi (b.job), Value.bool (b.end_)]] w fun e w' => ∃ v, e = .returned v ∧ ((fun (ad : (List Fact)) => ∃ (f : PHeap) (l : Value), PHeap.le s f ∧ St w0 f (H) w' ∧ v = l ∧ SliceRep encFact f l ad) r) := by
 unfold temporal_writes_p at hm
 refine calls_of_W Tryz.func84 rfl rfl (Zc (Zd (Za rfl rfl (Exec.box (cs := [g, h, i, j]) hS rfl rfl rfl ?_))))
 intro ah ap q
 refine Za rfl rfl (Exec.box (cs := [Vi (b.job), Value.bool (b.end_)]) q rfl rfl rfl ?_)
 intro ai aq a
 refine Za rfl rfl (Zo (v := Value.slice none 0 0) rfl rfl (Zb (Ze (Zc (Zc (Zd (Za rfl rfl (Zp F127_1 rfl rfl rfl (Za rfl rfl (Zn (a) A4 rfl rfl rfl (Zb (Ze ?_))))))))))))
 rcases ite_some hm with ⟨c, hm⟩ | ⟨c, hm⟩
 ·refine W_cond_t rfl c (Zc (Zd (Za rfl rfl (Zp F26_3 rfl rfl rfl (Za rfl rfl (Zn ((a).f1) A24 rfl rfl rfl (Za rfl rfl (Zp F127_0 rfl rfl rfl (Za rfl rfl (Zn (a) A3 rfl rfl rfl ?_))))))))))
  obtain ⟨ab, t, hm⟩ := Zg hm
  refine Za rfl rfl (Exec.index_rep S24 rfl rfl rfl k t ?_)
  intro aj an o
  refine Za rfl rfl (Zp F59_6 rfl rfl rfl (Za rfl rfl (Zw (E := (encSlice encFact)) a A23 rfl rfl rfl (o.sub (Sub.iso (Sub.snd (Sub.snd (Sub.snd (Sub.snd (Sub.snd (Sub.snd (Sub.refl _) rfl) rfl) rfl) rfl) rfl) rfl)) rfl) ?_)))
  intro m u
  have z : SliceRep _ _ _ (ab.AtEnd) := encSlice_val.1 u
  refine Za rfl rfl (Zo (v := m) rfl rfl (Zb (Ze (W_ret (at_ret ?_)))))
  have al := Zu hm
  subst r
  refine ⟨_, ret1 rfl, ?_⟩
  exact ⟨s, m, (Zv _), ((a).drop).drop, rfl, z⟩
 refine W_cond_f rfl c ?_
 replace c := Zk c
 refine W_skip (Ze (Zc (Zd (Za rfl rfl (Zp F26_3 rfl rfl rfl (Za rfl rfl (Zn ((a).f1) A24 rfl rfl rfl (Za rfl rfl (Zp F127_0 rfl rfl rfl (Za rfl rfl (Zn (a) A3 rfl rfl rfl ?_)))))))))))
 obtain ⟨ac, x, hm⟩ := Zg hm
 refine Za rfl rfl (Exec.index_rep S24 rfl rfl rfl k x ?_)
 intro ak ao p
 refine Za rfl rfl (Zp F59_5 rfl rfl rfl (Za rfl rfl (Zw (E := (encSlice encFact)) a A23 rfl rfl rfl (p.sub (Sub.iso (Sub.snd (Sub.snd (Sub.snd (Sub.snd (Sub.snd (Sub.fst (Sub.refl _)) rfl) rfl) rfl) rfl) rfl)) rfl) ?_)))
 intro n y
 have aa : SliceRep _ _ _ (ac.AtStart) := encSlice_val.1 y
 refine Za rfl rfl (Zo (v := n) rfl rfl (Zb (Ze (W_ret ?_))))
 have am := Zu hm
 subst r
 refine ⟨_, ret1 rfl, ?_⟩
 exact ⟨s, n, (Zv _), ((a).drop).drop, rfl, aa⟩
theorem N107 : (Tryz.f107.name == "runtime.NumGoroutine") = false := by kernel_rfl
theorem temporal_meet_c1_c1_sim {w0 w : World} {s : PHeap} {H : List Res} {a : Fact} {b : Fact} {d f : Nat} {r : Bool} (hm : temporal_meet_c1_c1_p a b = some r) (hS : St w0 s (H) w) (h : At s d f encFact b) :
  Calls Tryz.prog 107 #[Value.agg #[Vi (a.Var), Vi (a.Val)], Value.pointer (some ⟨d, f, none⟩)] w fun e w' => ∃ v, e = .returned v ∧ ((fun (k : Bool) => ∃ (g : PHeap) , PHeap.le s g ∧ St w0 g (H) w' ∧ v = Value.bool (k)) r) := by
 unfold temporal_meet_c1_c1_p at hm
 refine calls_of_W Tryz.func107 rfl rfl (Zc (Zd (Za rfl rfl (Exec.box (cs := [Vi (a.Var), Vi (a.Val)]) hS rfl rfl rfl ?_))))
 intro l n c
 refine Za rfl rfl (Zo (v := Value.bool (false)) rfl rfl (Zb (Ze (Zc (Zd (Za rfl rfl (Zp F75_0 rfl rfl rfl (Za rfl rfl (Zw (E := (encInt .i64)) c A3 rfl rfl rfl (h.sub (Sub.iso (Sub.fst (Sub.refl _))) rfl) ?_)))))))))
 intro j i
 obtain rfl : j = Vi (b.Var) := encInt_val.1 i
 refine Za rfl rfl (Zp F75_0 rfl rfl rfl (Za rfl rfl (Zn (c) A3 rfl rfl rfl (Za rfl rfl (Exec.eql rfl rfl rfl (Za rfl rfl (Zo (v := Value.bool (decide (b.Var = a.Var))) rfl rfl (Zb (Ze (W_ret ?_))))))))))
 have m := Zu hm
 subst r
 refine ⟨_, ret1 rfl, ?_⟩
 exact ⟨s, (Zv _), (c).drop, rfl⟩
theorem slices_IndexFunc_apiFact_meet_c1_c1_sim {w0 w : World} {s : PHeap} {H : List Res} {l : (List Fact)} {n : Fact} {c : Value} {d i : Nat} {r : Int} (hm : slices_IndexFunc_apiFact_meet_c1_c1_p l n = some r) (hS : St w0 s (H) w) (m : SliceRep encFact s c l) (ah : At s d i encFact n) :
  Calls Tryz.prog 117 #[c, Value.func (.func 107) #[] #[Value.pointer (some ⟨d, i, none⟩)]] w fun e w' => ∃ v, e = .returned v ∧ ((fun (a8 : Int) => ∃ (ad : PHeap) , PHeap.le s ad ∧ St w0 ad (H) w' ∧ v = Vi (a8)) r) := by
 unfold slices_IndexFunc_apiFact_meet_c1_c1_p at hm
 refine calls_of_W Tryz.func117 rfl rfl (Zc (Zd (Za rfl rfl (Zo (v := Vi (0)) rfl rfl (Zb (Ze (Zc (Zc (Zd (Za rfl rfl (Zm (v := c) rfl rfl (Za rfl rfl (Zr S23 rfl rfl m (Za rfl rfl (Zm (v := Vi (0)) rfl rfl (Zb (Ze ?_)))))))))))))))))
 obtain ⟨p, aj, av, ar, ap⟩ := ctl_some hm
 refine W_mid (M := fun f' w' => ∃ s', (p = .next s' ∨ p = .brk s') ∧ (fun (_ : Unit) => ∃ (ae : PHeap) , PHeap.le s ae ∧ St w0 ae (H) w' ∧ f' 0 = c ∧ f' 1 = Value.func (.func 107) #[] #[Value.pointer (some ⟨d, i, none⟩)] ∧ f' 7 = Vi ((l.length : Int))) s') ?_ ?_
 ·refine W_block (W_forC (fun k' s' f' w' => (fun (_ : Unit) => ∃ (af : PHeap) , PHeap.le s af ∧ St w0 af (H) w' ∧ f' 0 = c ∧ f' 1 = Value.func (.func 107) #[] #[Value.pointer (some ⟨d, i, none⟩)] ∧ f' 7 = Vi ((l.length : Int)) ∧ f' 8 = Vi (k' : Int)) s') aj ?_ ?_ ?_)
  ·exact ⟨s, (Zv _), hS, rfl, rfl, rfl, rfl⟩
  ·intro b aM q aE aQ aq ak a aw
   obtain ⟨aL, j, t, z, aa, ab, o⟩ := ak
   refine Zc (Zd (Za rfl rfl (Zq rfl o ab (Zb (Ze (Zc (W_true (Zx (decide_eq_true (by omega))) (W_skip (Ze (Zc (W_block (Zc (Zd (Za rfl rfl (Zm (v := Vi ((b : Int))) rfl o (Za rfl rfl (Zo (v := Vi ((b : Int))) rfl rfl (Zb (Ze (Zc (Zd (Za rfl rfl (Zm (v := Value.func (.func 107) #[] #[Value.pointer (some ⟨d, i, none⟩)]) rfl aa (Za rfl rfl (Zm (v := c) rfl z (Za rfl rfl (Zm (v := Vi ((b : Int))) rfl rfl ?_)))))))))))))))))))))))))))
   obtain ⟨a6, a2, a⟩ := Zg a
   refine Za rfl rfl (Exec.index_rep S23 rfl rfl rfl (m.mono j) a2 ?_)
   intro a9 aH ai
   refine Za rfl rfl (Zw (E := encFact) t A75 rfl rfl rfl ai ?_)
   intro aP a3
   obtain rfl := encFact_val.1 a3
   refine Za rfl rfl (Exec.callc rfl rfl Tryz.func107 rfl N107 (Zi rfl args_nil) rfl ((temporal_meet_c1_c1_sim (temporal_meet_c1_c1_tot a6 n) t (ah.mono j)).mono ?_))
   rintro _ aR ⟨_, rfl, ⟨ag, y, u, rfl⟩⟩
   refine ⟨_, rfl, ?_⟩
   refine Zb (Ze ?_)
   rcases ite_some a with ⟨g, a⟩ | ⟨g, a⟩
   ·refine W_cond_t rfl g (Zc (Zd (Za rfl rfl (Zm (v := Vi ((b : Int))) rfl rfl (Za rfl rfl (Zo (v := Vi ((b : Int))) rfl rfl (Zb (Ze (W_ret (ib_ret (at_ret (at_ret (ib_ret (at_ret (at_ret ?_)))))))))))))))
    have aA := Zu a
    subst q
    have au := av _ (aw (by intro _ h; cases h))
    have aB := Zu au
    subst r
    refine ⟨_, ret1 rfl, ?_⟩
    exact ⟨ag, (Zt j y), u, rfl⟩
   refine W_cond_f rfl g ?_
   replace g := Zk g
   refine W_skip (ib_normal (Ze (Zd (Za rfl rfl (Exec.add rfl o rfl (Za rfl rfl (Zm (v := Vi (IntKind.i64.wrap ((b : Int) + 1))) rfl rfl (Zb (Ze ?_)))))))))
   have aC := Zu a
   subst q
   refine ⟨_, rfl, ?_⟩; exact ⟨ag, (Zt j y), u, z, aa, ab, (Eq.trans rfl (wrap_up aq (SliceRep.le m)))⟩
  intro aN aF aS al ax
  obtain ⟨a4, ay, an, a0, a1, ac, a7⟩ := al
  refine Zc (Zd (Za rfl rfl (Zq rfl a7 ac (Zb (Ze (Zc (W_false (Zx (decide_eq_false (by omega))) (W_exit (at_exit (at_exit (ib_here (Ze ?_))))))))))))
  refine ⟨_, .inl ax, ?_⟩; exact ⟨a4, ay, an, a0, a1, ac⟩
 rintro aG aT ⟨aO, x, am⟩
 have hm := x.elim (ar _) (ap _)
 clear x
 obtain ⟨a5, az, ao, aI, aJ, aK⟩ := am
 refine (Ze (Zc (Zd (Za rfl rfl (Zo (v := Vi ((-1))) rfl rfl (Zb (Ze (W_ret ?_))))))))
 have aD := Zu hm
 subst r
 refine ⟨_, ret1 rfl, ?_⟩
 exact ⟨a5, az, ao, rfl⟩
theorem slices_ContainsFunc_apiFact_meet_c1_c1_sim {w0 w : World} {s : PHeap} {H : List Res} {g : (List Fact)} {d : Fact} {c : Value} {a b : Nat} {r : Bool} (hm : slices_ContainsFunc_apiFact_meet_c1_c1_p g d = some r) (hS : St w0 s (H) w) (h : SliceRep encFact s c g) (i : At s a b encFact d) :
  Calls Tryz.prog 105 #[c, Value.func (.func 107) #[] #[Value.pointer (some ⟨a, b, none⟩)]] w fun e w' => ∃ v, e = .returned v ∧ ((fun (n : Bool) => ∃ (f : PHeap) , PHeap.le s f ∧ St w0 f (H) w' ∧ v = Value.bool (n)) r) := by
 unfold slices_ContainsFunc_apiFact_meet_c1_c1_p at hm
 refine calls_of_W Tryz.func105 rfl rfl (Zc (Zd (Za rfl rfl (Zo (v := Value.bool (false)) rfl rfl (Zb (Ze (Zc (Zd (Za rfl rfl (Zm (v := c) rfl rfl (Za rfl rfl (Zm (v := Value.func (.func 107) #[] #[Value.pointer (some ⟨a, b, none⟩)]) rfl rfl ?_))))))))))))
 obtain ⟨o, l, hm⟩ := Zg hm
 refine Za rfl rfl (Tc rfl rfl rfl (Zi rfl (Zi rfl args_nil)) (slices_IndexFunc_apiFact_meet_c1_c1_sim l hS h i).r ?_)
 rintro _ q ⟨m, k, j, rfl⟩
 refine Za rfl rfl (Exec.geq rfl rfl rfl (Za rfl rfl (Zo (v := Value.bool (decide (0 ≤ o))) rfl rfl (Zb (Ze (W_ret ?_))))))
 have p := Zu hm
 subst r
 refine ⟨_, ret1 rfl, ?_⟩
 exact ⟨m, k, j, rfl⟩
theorem N106 : (Tryz.f106.name == "runtime.NumGoroutine") = false := by kernel_rfl
theorem temporal_meet_c1_sim {w0 w : World} {s : PHeap} {H : List Res} {a : Fact} {c : (List Fact)} {b g : Nat} {r : Bool} (hm : temporal_meet_c1_p a c = some r) (hS : St w0 s (H) w) (i : At s b g (encSlice encFact) c) :
  Calls Tryz.prog 106 #[Value.agg #[Vi (a.Var), Vi (a.Val)], Value.pointer (some ⟨b, g, none⟩)] w fun e w' => ∃ v, e = .returned v ∧ ((fun (t : Bool) => ∃ (h : PHeap) , PHeap.le s h ∧ St w0 h (H) w' ∧ v = Value.bool (t)) r) := by
 unfold temporal_meet_c1_p at hm
 refine calls_of_W Tryz.func106 rfl rfl (Zc (Zd (Za rfl rfl (Exec.box (cs := [Vi (a.Var), Vi (a.Val)]) hS rfl rfl rfl ?_))))
 intro x ac d
 refine Za rfl rfl (Zo (v := Value.bool (false)) rfl rfl (Zb (Ze (Zc (Zd (Za rfl rfl (Zw (E := (encSlice encFact)) d A23 rfl rfl rfl i ?_)))))))
 intro ab m
 have o := encSlice_val.1 m
 obtain ⟨aa, f, j, p⟩ := St.freezeVar (E := encFact) (y := a) d ⟨[Vi (a.Var)], [Vi (a.Val)], rfl, rfl, rfl⟩
 refine Za rfl rfl (Exec.makeFunc rfl (Zi rfl args_nil) ?_)
 obtain ⟨u, n, hm⟩ := Zg hm
 refine Za rfl rfl (Tc rfl rfl rfl (Zi rfl (Zi rfl args_nil)) (slices_ContainsFunc_apiFact_meet_c1_c1_sim n j (o.mono f) p).r ?_)
 rintro _ ad ⟨q, l, k, rfl⟩
 refine Za rfl rfl (Zo (v := Value.bool (u)) rfl rfl (Zb (Ze (W_ret ?_))))
 have z := Zu hm
 subst r
 refine ⟨_, ret1 rfl, ?_⟩
 exact ⟨q, (Zt f l), k, rfl⟩
theorem slices_IndexFunc_apiFact_meet_c1_sim {w0 w : World} {s : PHeap} {H : List Res} {l : (List Fact)} {o : (List Fact)} {c : Value} {d i : Nat} {r : Int} (hm : slices_IndexFunc_apiFact_meet_c1_p l o = some r) (hS : St w0 s (H) w) (m : SliceRep encFact s c l) (ah : At s d i (encSlice encFact) o) :
  Calls Tryz.prog 117 #[c, Value.func (.func 106) #[] #[Value.pointer (some ⟨d, i, none⟩)]] w fun e w' => ∃ v, e = .returned v ∧ ((fun (a8 : Int) => ∃ (ad : PHeap) , PHeap.le s ad ∧ St w0 ad (H) w' ∧ v = Vi (a8)) r) := by
 unfold slices_IndexFunc_apiFact_meet_c1_p at hm
 refine calls_of_W Tryz.func117 rfl rfl (Zc (Zd (Za rfl rfl (Zo (v := Vi (0)) rfl rfl (Zb (Ze (Zc (Zc (Zd (Za rfl rfl (Zm (v := c) rfl rfl (Za rfl rfl (Zr S23 rfl rfl m (Za rfl rfl (Zm (v := Vi (0)) rfl rfl (Zb (Ze ?_)))))))))))))))))
 obtain ⟨p, aj, av, ar, ap⟩ := ctl_some hm
 refine W_mid (M := fun f' w' => ∃ s', (p = .next s' ∨ p = .brk s') ∧ (fun (_ : Unit) => ∃ (ae : PHeap) , PHeap.le s ae ∧ St w0 ae (H) w' ∧ f' 0 = c ∧ f' 1 = Value.func (.func 106) #[] #[Value.pointer (some ⟨d, i, none⟩)] ∧ f' 7 = Vi ((l.length : Int))) s') ?_ ?_
 ·refine W_block (W_forC (fun k' s' f' w' => (fun (_ : Unit) => ∃ (af : PHeap) , PHeap.le s af ∧ St w0 af (H) w' ∧ f' 0 = c ∧ f' 1 = Value.func (.func 106) #[] #[Value.pointer (some ⟨d, i, none⟩)] ∧ f' 7 = Vi ((l.length : Int)) ∧ f' 8 = Vi (k' : Int)) s') aj ?_ ?_ ?_)
  ·exact ⟨s, (Zv _), hS, rfl, rfl, rfl, rfl⟩
  ·intro b aM q aE aQ aq ak a aw
   obtain ⟨aL, j, t, z, aa, ab, n⟩ := ak
   refine Zc (Zd (Za rfl rfl (Zq rfl n ab (Zb (Ze (Zc (W_true (Zx (decide_eq_true (by omega))) (W_skip (Ze (Zc (W_block (Zc (Zd (Za rfl rfl (Zm (v := Vi ((b : Int))) rfl n (Za rfl rfl (Zo (v := Vi ((b : Int))) rfl rfl (Zb (Ze (Zc (Zd (Za rfl rfl (Zm (v := Value.func (.func 106) #[] #[Value.pointer (some ⟨d, i, none⟩)]) rfl aa (Za rfl rfl (Zm (v := c) rfl z (Za rfl rfl (Zm (v := Vi ((b : Int))) rfl rfl ?_)))))))))))))))))))))))))))
   obtain ⟨aU, a2, a⟩ := Zg a
   refine Za rfl rfl (Exec.index_rep S23 rfl rfl rfl (m.mono j) a2 ?_)
   intro a9 aH ai
   refine Za rfl rfl (Zw (E := encFact) t A75 rfl rfl rfl ai ?_)
   intro aP a3
   obtain rfl := encFact_val.1 a3
   obtain ⟨aV, a4, a⟩ := Zg a
   refine Za rfl rfl (Exec.callc rfl rfl Tryz.func106 rfl N106 (Zi rfl args_nil) rfl ((temporal_meet_c1_sim a4 t (ah.mono j)).mono ?_))
   rintro _ aR ⟨_, rfl, ⟨ag, y, u, rfl⟩⟩
   refine ⟨_, rfl, ?_⟩
   refine Zb (Ze ?_)
   rcases ite_some a with ⟨g, a⟩ | ⟨g, a⟩
   ·refine W_cond_t rfl g (Zc (Zd (Za rfl rfl (Zm (v := Vi ((b : Int))) rfl rfl (Za rfl rfl (Zo (v := Vi ((b : Int))) rfl rfl (Zb (Ze (W_ret (ib_ret (at_ret (at_ret (ib_ret (at_ret (at_ret ?_)))))))))))))))
    have aA := Zu a
    subst q
    have au := av _ (aw (by intro _ h; cases h))
    have aB := Zu au
    subst r
    refine ⟨_, ret1 rfl, ?_⟩
    exact ⟨ag, (Zt j y), u, rfl⟩
   refine W_cond_f rfl g ?_
   replace g := Zk g
   refine W_skip (ib_normal (Ze (Zd (Za rfl rfl (Exec.add rfl n rfl (Za rfl rfl (Zm (v := Vi (IntKind.i64.wrap ((b : Int) + 1))) rfl rfl (Zb (Ze ?_)))))))))
   have aC := Zu a
   subst q
   refine ⟨_, rfl, ?_⟩; exact ⟨ag, (Zt j y), u, z, aa, ab, (Eq.trans rfl (wrap_up aq (SliceRep.le m)))⟩
  intro aN aF aS al ax
  obtain ⟨a5, ay, an, a0, a1, ac, a7⟩ := al
  refine Zc (Zd (Za rfl rfl (Zq rfl a7 ac (Zb (Ze (Zc (W_false (Zx (decide_eq_false (by omega))) (W_exit (at_exit (at_exit (ib_here (Ze ?_))))))))))))
  refine ⟨_, .inl ax, ?_⟩; exact ⟨a5, ay, an, a0, a1, ac⟩
 rintro aG aT ⟨aO, x, am⟩
 have hm := x.elim (ar _) (ap _)
 clear x
 obtain ⟨a6, az, ao, aI, aJ, aK⟩ := am
 refine (Ze (Zc (Zd (Za rfl rfl (Zo (v := Vi ((-1))) rfl rfl (Zb (Ze (W_ret ?_))))))))
 have aD := Zu hm
 subst r
 refine ⟨_, ret1 rfl, ?_⟩
 exact ⟨a6, az, ao, rfl⟩
theorem slices_ContainsFunc_apiFact_meet_c1_sim {w0 w : World} {s : PHeap} {H : List Res} {g : (List Fact)} {d : (List Fact)} {c : Value} {a b : Nat} {r : Bool} (hm : slices_ContainsFunc_apiFact_meet_c1_p g d = some r) (hS : St w0 s (H) w) (h : SliceRep encFact s c g) (i : At s a b (encSlice encFact) d) :
  Calls Tryz.prog 105 #[c, Value.func (.func 106) #[] #[Value.pointer (some ⟨a, b, none⟩)]] w fun e w' => ∃ v, e = .returned v ∧ ((fun (n : Bool) => ∃ (f : PHeap) , PHeap.le s f ∧ St w0 f (H) w' ∧ v = Value.bool (n)) r) := by
 unfold slices_ContainsFunc_apiFact_meet_c1_p at hm
 refine calls_of_W Tryz.func105 rfl rfl (Zc (Zd (Za rfl rfl (Zo (v := Value.bool (false)) rfl rfl (Zb (Ze (Zc (Zd (Za rfl rfl (Zm (v := c) rfl rfl (Za rfl rfl (Zm (v := Value.func (.func 106) #[] #[Value.pointer (some ⟨a, b, none⟩)]) rfl rfl ?_))))))))))))
 obtain ⟨o, l, hm⟩ := Zg hm
 refine Za rfl rfl (Tc rfl rfl rfl (Zi rfl (Zi rfl args_nil)) (slices_IndexFunc_apiFact_meet_c1_sim l hS h i).r ?_)
 rintro _ q ⟨m, k, j, rfl⟩
 refine Za rfl rfl (Exec.geq rfl rfl rfl (Za rfl rfl (Zo (v := Value.bool (decide (0 ≤ o))) rfl rfl (Zb (Ze (W_ret ?_))))))
 have p := Zu hm
 subst r
 refine ⟨_, ret1 rfl, ?_⟩
 exact ⟨m, k, j, rfl⟩
theorem temporal_meet_sim {w0 w : World} {s : PHeap} {H : List Res} {d : (List Fact)} {a : (List Fact)} {b : Value} {c : Value} {r : Bool} (hm : temporal_meet_p d a = some r) (hS : St w0 s (H) w) (i : SliceRep encFact s b d) (f : SliceRep encFact s c a) :
  Calls Tryz.prog 83 #[b, c] w fun e w' => ∃ v, e = .returned v ∧ ((fun (q : Bool) => ∃ (h : PHeap) , PHeap.le s h ∧ St w0 h (H) w' ∧ v = Value.bool (q)) r) := by
 unfold temporal_meet_p at hm
 refine calls_of_W Tryz.func83 rfl rfl (Zc (Zd (Za rfl rfl (Exec.box (cs := [c]) hS rfl rfl (cells_one (f).one) ?_))))
 intro u aa j
 refine Za rfl rfl (Zo (v := Value.bool (false)) rfl rfl (Zb (Ze (Zc (Zd (Za rfl rfl (Zm (v := b) rfl rfl ?_)))))))
 obtain ⟨z, g, k, o⟩ := St.freezeVar (E := (encSlice encFact)) (y := a) j ⟨_, rfl, f⟩
 refine Za rfl rfl (Exec.makeFunc rfl (Zi rfl args_nil) ?_)
 obtain ⟨t, n, hm⟩ := Zg hm
 refine Za rfl rfl (Tc rfl rfl rfl (Zi rfl (Zi rfl args_nil)) (slices_ContainsFunc_apiFact_meet_c1_sim n k (i.mono g) o).r ?_)
 rintro _ ab ⟨p, m, l, rfl⟩
 refine Za rfl rfl (Zo (v := Value.bool (t)) rfl rfl (Zb (Ze (W_ret ?_))))
 have x := Zu hm
 subst r
 refine ⟨_, ret1 rfl, ?_⟩
 exact ⟨p, (Zt g m), l, rfl⟩
theorem temporal_reads_sim {w0 w : World} {s : PHeap} {H : List Res} {d : Temporal} {b : temporal_happening} {g : Value} {h : Value} {i : Value} {j : Value} {r : (List Fact)} (hm : temporal_reads_p d b = some r) (hS : St w0 s (H) w) (ae : SliceRep (encInt .i64) s g d.Vars) (af : SliceRep (encInt .i64) s h d.Init) (ag : SliceRep encFact s i d.Goal) (k : SliceRep encJob s j d.Jobs) :
  Calls Tryz.prog 73 #[Value.agg #[g, h, i, j], Value.agg #[Vi (b.job), Value.bool (b.end_)]] w fun e w' => ∃ v, e = .returned v ∧ ((fun (ad : (List Fact)) => ∃ (f : PHeap) (l : Value), PHeap.le s f ∧ St w0 f (H) w' ∧ v = l ∧ SliceRep encFact f l ad) r) := by
 unfold temporal_reads_p at hm
 refine calls_of_W Tryz.func73 rfl rfl (Zc (Zd (Za rfl rfl (Exec.box (cs := [g, h, i, j]) hS rfl rfl rfl ?_))))
 intro ah ap q
 refine Za rfl rfl (Exec.box (cs := [Vi (b.job), Value.bool (b.end_)]) q rfl rfl rfl ?_)
 intro ai aq a
 refine Za rfl rfl (Zo (v := Value.slice none 0 0) rfl rfl (Zb (Ze (Zc (Zc (Zd (Za rfl rfl (Zp F127_1 rfl rfl rfl (Za rfl rfl (Zn (a) A4 rfl rfl rfl (Zb (Ze ?_))))))))))))
 rcases ite_some hm with ⟨c, hm⟩ | ⟨c, hm⟩
 ·refine W_cond_t rfl c (Zc (Zd (Za rfl rfl (Zp F26_3 rfl rfl rfl (Za rfl rfl (Zn ((a).f1) A24 rfl rfl rfl (Za rfl rfl (Zp F127_0 rfl rfl rfl (Za rfl rfl (Zn (a) A3 rfl rfl rfl ?_))))))))))
  obtain ⟨ab, t, hm⟩ := Zg hm
  refine Za rfl rfl (Exec.index_rep S24 rfl rfl rfl k t ?_)
  intro aj an o
  refine Za rfl rfl (Zp F59_4 rfl rfl rfl (Za rfl rfl (Zw (E := (encSlice encFact)) a A23 rfl rfl rfl (o.sub (Sub.iso (Sub.snd (Sub.snd (Sub.snd (Sub.snd (Sub.fst (Sub.refl _)) rfl) rfl) rfl) rfl)) rfl) ?_)))
  intro m u
  have z : SliceRep _ _ _ (ab.End) := encSlice_val.1 u
  refine Za rfl rfl (Zo (v := m) rfl rfl (Zb (Ze (W_ret (at_ret ?_)))))
  have al := Zu hm
  subst r
  refine ⟨_, ret1 rfl, ?_⟩
  exact ⟨s, m, (Zv _), ((a).drop).drop, rfl, z⟩
 refine W_cond_f rfl c ?_
 replace c := Zk c
 refine W_skip (Ze (Zc (Zd (Za rfl rfl (Zp F26_3 rfl rfl rfl (Za rfl rfl (Zn ((a).f1) A24 rfl rfl rfl (Za rfl rfl (Zp F127_0 rfl rfl rfl (Za rfl rfl (Zn (a) A3 rfl rfl rfl ?_)))))))))))
 obtain ⟨ac, x, hm⟩ := Zg hm
 refine Za rfl rfl (Exec.index_rep S24 rfl rfl rfl k x ?_)
 intro ak ao p
 refine Za rfl rfl (Zp F59_2 rfl rfl rfl (Za rfl rfl (Zw (E := (encSlice encFact)) a A23 rfl rfl rfl (p.sub (Sub.iso (Sub.snd (Sub.snd (Sub.fst (Sub.refl _)) rfl) rfl)) rfl) ?_)))
 intro n y
 have aa : SliceRep _ _ _ (ac.Start) := encSlice_val.1 y
 refine Za rfl rfl (Zo (v := n) rfl rfl (Zb (Ze (W_ret ?_))))
 have am := Zu hm
 subst r
 refine ⟨_, ret1 rfl, ?_⟩
 exact ⟨s, n, (Zv _), ((a).drop).drop, rfl, aa⟩
theorem temporal_interfere_sim {w0 w : World} {s : PHeap} {H : List Res} {af : Temporal} {o : temporal_happening} {g : temporal_happening} {k : Value} {l : Value} {m : Value} {n : Value} {r : Bool} (hm : temporal_interfere_p af o g = some r) (hS : St w0 s (H) w) (u : SliceRep (encInt .i64) s k af.Vars) (x : SliceRep (encInt .i64) s l af.Init) (y : SliceRep encFact s m af.Goal) (z : SliceRep encJob s n af.Jobs) :
  Calls Tryz.prog 72 #[Value.agg #[k, l, m, n], Value.agg #[Vi (o.job), Value.bool (o.end_)], Value.agg #[Vi (g.job), Value.bool (g.end_)]] w fun e w' => ∃ v, e = .returned v ∧ ((fun (aH : Bool) => ∃ (am : PHeap) , PHeap.le s am ∧ St w0 am (H) w' ∧ v = Value.bool (aH)) r) := by
 unfold temporal_interfere_p at hm
 refine calls_of_W Tryz.func72 rfl rfl (Zc (Zd (Za rfl rfl (Exec.box (cs := [k, l, m, n]) hS rfl rfl rfl ?_))))
 intro aJ bd aq
 refine Za rfl rfl (Exec.box (cs := [Vi (o.job), Value.bool (o.end_)]) aq rfl rfl rfl ?_)
 intro aK be ar
 refine Za rfl rfl (Exec.box (cs := [Vi (g.job), Value.bool (g.end_)]) ar rfl rfl rfl ?_)
 intro aL bf ad
 refine Za rfl rfl (Zo (v := Value.bool (false)) rfl rfl (Zb (Ze (Zc ?_))))
 obtain ⟨ac, a, hm⟩ := Zg hm
 refine W_mid (M := fun f' w' => (fun (ac : Bool) => ∃ (an : PHeap) , PHeap.le s an ∧ St w0 an (H) w' ∧ f' 6 = Value.bool (ac)) ac) ?_ ?_
 ·refine W_dl (n0 := 25) (.q 0 (.q 1 (.q 3 (.q 4 (.e 2 [3, 4] (.e 5 [] (.e 6 [] (qs 7 3 (.q 11 (.q 12 (.e 10 [11, 12] (.e 13 [] (.e 14 [] (qs 15 4 (.q 20 (.q 21 (.e 19 [20, 21] (.e 22 [] (.e 23 [] (.q 24 .done)))))))))))))))))))) hmix (by kernel_rfl) (by kernel_rfl) (DL_q rfl rfl (Exec.load_box_agg (ds := [k, l, m, n]) ((ad.drew).f2) A26 rfl rfl rfl ⟨rfl, ?_⟩))
  refine DL_q rfl rfl (Exec.load_box_agg (ds := [Vi (o.job), Value.bool (o.end_)]) ((ad.drew).f1) A127 rfl rfl rfl ⟨rfl, ?_⟩)
  refine DL_q rfl rfl (Exec.load_box_agg (ds := [k, l, m, n]) ((ad.drew).f2) A26 rfl rfl rfl ⟨rfl, ?_⟩)
  refine DL_q rfl rfl (Exec.load_box_agg (ds := [Vi (g.job), Value.bool (g.end_)]) (ad.drew) A127 rfl rfl rfl ⟨rfl, ?_⟩)
  obtain ⟨bq, ak, a⟩ := Zg a
  refine DL_e rfl rfl (Tc rfl rfl rfl (Zi rfl (Zi rfl args_nil)) (temporal_writes_sim ak ad.drew u x y z).r ?_)
  rintro aX bg ⟨aR, _, b, ag, rfl, a7⟩
  refine ⟨(ag_cons (ag_r rfl rfl (Exec.load_box_agg (ds := [k, l, m, n]) ((ag).f2) A26 rfl rfl rfl ⟨rfl, rfl⟩)) (ag_cons (ag_r rfl rfl (Exec.load_box_agg (ds := [Vi (g.job), Value.bool (g.end_)]) (ag) A127 rfl rfl rfl ⟨rfl, rfl⟩)) ag_nil)), ?_⟩
  obtain ⟨br, al, a⟩ := Zg a
  refine DL_e rfl rfl (Tc rfl rfl rfl (Zi rfl (Zi rfl args_nil)) (temporal_writes_sim al ag (u.mono b) (x.mono b) (y.mono b) (z.mono b)).r ?_)
  rintro aY bh ⟨aS, _, c, au, rfl, a8⟩
  refine ⟨ag_nil, ?_⟩
  obtain ⟨aI, a2, a⟩ := Zg a
  refine DL_e rfl rfl (Tc rfl rfl rfl (Zi rfl (Zi rfl args_nil)) (temporal_meet_sim a2 au (a7.mono c) a8).r ?_)
  rintro _ bi ⟨aD, d, aa, rfl⟩
  refine ⟨ag_nil, ?_⟩
  refine DL_q rfl rfl (Zm (v := Value.bool (aI)) rfl rfl ⟨rfl, ?_⟩)
  rcases ite_some a with ⟨h, a⟩ | ⟨h, a⟩
  ·refine DL_passes 17 (by rw [h]; rfl) ?_
   refine DL_done (Za rfl rfl (Zo (v := Value.bool (true)) rfl rfl (Zb (Ze ?_))))
   have aM := Zu a
   subst ac
   exact ⟨aD, (Zt (Zt b c) d), (((aa).drop).drop).drop, rfl⟩
  replace h := Zk h
  refine DL_qg rfl rfl (Zf rfl (Zx h)) (Exec.load_box_agg (ds := [k, l, m, n]) ((aa).f2) A26 rfl rfl rfl ⟨rfl, ?_⟩)
  refine DL_qg rfl rfl (Zf rfl (Zx h)) (Exec.load_box_agg (ds := [Vi (o.job), Value.bool (o.end_)]) ((aa).f1) A127 rfl rfl rfl ⟨rfl, ?_⟩)
  refine DL_qg rfl rfl (Zf rfl (Zx h)) (Exec.load_box_agg (ds := [k, l, m, n]) ((aa).f2) A26 rfl rfl rfl ⟨rfl, ?_⟩)
  refine DL_qg rfl rfl (Zf rfl (Zx h)) (Exec.load_box_agg (ds := [Vi (g.job), Value.bool (g.end_)]) (aa) A127 rfl rfl rfl ⟨rfl, ?_⟩)
  refine DL_eg rfl rfl (Zf rfl (Zx h)) (Tc rfl rfl rfl (Zi rfl (Zi rfl args_nil)) (temporal_writes_sim ak aa (u.mono (Zt (Zt b c) d)) (x.mono (Zt (Zt b c) d)) (y.mono (Zt (Zt b c) d)) (z.mono (Zt (Zt b c) d))).r ?_)
  rintro aZ bj ⟨aT, _, j, ah, rfl, a9⟩
  refine ⟨(ag_cons (ag_g rfl rfl (Zf rfl (Zx h)) (Exec.load_box_agg (ds := [k, l, m, n]) ((ah).f2) A26 rfl rfl rfl ⟨rfl, rfl⟩)) (ag_cons (ag_g rfl rfl (Zf rfl (Zx h)) (Exec.load_box_agg (ds := [Vi (g.job), Value.bool (g.end_)]) (ah) A127 rfl rfl rfl ⟨rfl, rfl⟩)) ag_nil)), ?_⟩
  obtain ⟨bs, a3, a⟩ := Zg a
  refine DL_eg rfl rfl (Zf rfl (Zx h)) (Tc rfl rfl rfl (Zi rfl (Zi rfl args_nil)) (temporal_reads_sim a3 ah (u.mono (Zt (Zt (Zt b c) d) j)) (x.mono (Zt (Zt (Zt b c) d) j)) (y.mono (Zt (Zt (Zt b c) d) j)) (z.mono (Zt (Zt (Zt b c) d) j))).r ?_)
  rintro ba bk ⟨aU, _, p, av, rfl, aA⟩
  refine ⟨ag_nil, ?_⟩
  obtain ⟨bt, a4, a⟩ := Zg a
  refine DL_eg rfl rfl (Zf rfl (Zx h)) (Tc rfl rfl rfl (Zi rfl (Zi rfl args_nil)) (temporal_meet_sim a4 av (a9.mono p) aA).r ?_)
  rintro _ bl ⟨aE, t, ab, rfl⟩
  refine ⟨ag_nil, ?_⟩
  refine DL_passes 2 (by rw [h]; rfl) ?_
  rcases ite_some a with ⟨i, a⟩ | ⟨i, a⟩
  ·refine DL_passes 8 (by rw [i]; rfl) ?_
   refine DL_done (Za rfl rfl (Zo (v := Value.bool (true)) rfl rfl (Zb (Ze ?_))))
   have aN := Zu a
   subst ac
   exact ⟨aE, (Zt (Zt (Zt (Zt (Zt b c) d) j) p) t), (((ab).drop).drop).drop, rfl⟩
  replace i := Zk i
  refine DL_qg rfl rfl (Zf rfl (Zx i)) (Exec.load_box_agg (ds := [k, l, m, n]) ((ab).f2) A26 rfl rfl rfl ⟨rfl, ?_⟩)
  refine DL_qg rfl rfl (Zf rfl (Zx i)) (Exec.load_box_agg (ds := [Vi (o.job), Value.bool (o.end_)]) ((ab).f1) A127 rfl rfl rfl ⟨rfl, ?_⟩)
  refine DL_qg rfl rfl (Zf rfl (Zx i)) (Exec.load_box_agg (ds := [k, l, m, n]) ((ab).f2) A26 rfl rfl rfl ⟨rfl, ?_⟩)
  refine DL_qg rfl rfl (Zf rfl (Zx i)) (Exec.load_box_agg (ds := [Vi (g.job), Value.bool (g.end_)]) (ab) A127 rfl rfl rfl ⟨rfl, ?_⟩)
  obtain ⟨bu, a5, a⟩ := Zg a
  refine DL_eg rfl rfl (Zf rfl (Zx i)) (Tc rfl rfl rfl (Zi rfl (Zi rfl args_nil)) (temporal_reads_sim a5 ab (u.mono (Zt (Zt (Zt (Zt (Zt b c) d) j) p) t)) (x.mono (Zt (Zt (Zt (Zt (Zt b c) d) j) p) t)) (y.mono (Zt (Zt (Zt (Zt (Zt b c) d) j) p) t)) (z.mono (Zt (Zt (Zt (Zt (Zt b c) d) j) p) t))).r ?_)
  rintro bb bm ⟨aV, _, ae, ai, rfl, aB⟩
  refine ⟨(ag_cons (ag_g rfl rfl (Zf rfl (Zx i)) (Exec.load_box_agg (ds := [k, l, m, n]) ((ai).f2) A26 rfl rfl rfl ⟨rfl, rfl⟩)) (ag_cons (ag_g rfl rfl (Zf rfl (Zx i)) (Exec.load_box_agg (ds := [Vi (g.job), Value.bool (g.end_)]) (ai) A127 rfl rfl rfl ⟨rfl, rfl⟩)) ag_nil)), ?_⟩
  refine DL_eg rfl rfl (Zf rfl (Zx i)) (Tc rfl rfl rfl (Zi rfl (Zi rfl args_nil)) (temporal_writes_sim al ai (u.mono (Zt (Zt (Zt (Zt (Zt (Zt b c) d) j) p) t) ae)) (x.mono (Zt (Zt (Zt (Zt (Zt (Zt b c) d) j) p) t) ae)) (y.mono (Zt (Zt (Zt (Zt (Zt (Zt b c) d) j) p) t) ae)) (z.mono (Zt (Zt (Zt (Zt (Zt (Zt b c) d) j) p) t) ae))).r ?_)
  rintro bc bn ⟨aW, _, aj, aw, rfl, aC⟩
  refine ⟨ag_nil, ?_⟩
  obtain ⟨ao, a6, a⟩ := Zg a
  refine DL_eg rfl rfl (Zf rfl (Zx i)) (Tc rfl rfl rfl (Zi rfl (Zi rfl args_nil)) (temporal_meet_sim a6 aw (aB.mono aj) aC).r ?_)
  rintro _ bo ⟨aF, az, ax, rfl⟩
  refine ⟨ag_nil, ?_⟩
  refine DL_q rfl rfl (Exec.pick_f (v := Value.bool (ao)) rfl (Zx i) rfl ⟨rfl, ?_⟩)
  refine DL_done (Za rfl rfl (Zo (v := Value.bool (ao)) rfl rfl (Zb (Ze ?_))))
  have aO := Zu a
  subst ac
  exact ⟨aF, (Zt (Zt (Zt (Zt (Zt (Zt (Zt (Zt b c) d) j) p) t) ae) aj) az), (((ax).drop).drop).drop, rfl⟩
 intro aQ bp ap
 obtain ⟨aG, a0, ay, a1⟩ := ap
 refine (Ze (W_ret ?_))
 have aP := Zu hm
 subst r
 refine ⟨_, ret1 rfl, ?_⟩
 exact ⟨aG, a0, ay, a1⟩
theorem task_Holds_sim {w0 w : World} {s : PHeap} {H : List Res} {n : (List Fact)} {z : (List Int)} {l : Value} {j : Value} {r : Bool} (hm : task_Holds_p n z = some r) (hS : St w0 s (H) w) (aa : SliceRep encFact s l n) (ab : SliceRep (encInt .i64) s j z) :
  Calls Tryz.prog 41 #[l, j] w fun e w' => ∃ v, e = .returned v ∧ ((fun (aQ : Bool) => ∃ (al : PHeap) , PHeap.le s al ∧ St w0 al (H) w' ∧ v = Value.bool (aQ)) r) := by
 unfold task_Holds_p at hm
 refine calls_of_W Tryz.func41 rfl rfl (Zc (Zd (Za rfl rfl (Zo (v := Value.bool (false)) rfl rfl (Zb (Ze (Zc (Zc (Zd (Za rfl rfl (Zm (v := l) rfl rfl (Za rfl rfl (Zr S23 rfl rfl aa (Za rfl rfl (Zm (v := Vi (0)) rfl rfl (Zb (Ze ?_)))))))))))))))))
 obtain ⟨ac, au, a7, a5, a3⟩ := ctl_some hm
 refine W_mid (M := fun f' w' => ∃ s', (ac = .next s' ∨ ac = .brk s') ∧ (fun (_ : Unit) => ∃ (am : PHeap) , PHeap.le s am ∧ St w0 am (H) w' ∧ f' 1 = j ∧ f' 7 = l ∧ f' 8 = Vi ((n.length : Int))) s') ?_ ?_
 ·refine W_block (W_forC (fun k' s' f' w' => (fun (_ : Unit) => ∃ (an : PHeap) , PHeap.le s an ∧ St w0 an (H) w' ∧ f' 1 = j ∧ f' 7 = l ∧ f' 8 = Vi ((n.length : Int)) ∧ f' 9 = Vi (k' : Int)) s') au ?_ ?_ ?_)
  ·exact ⟨s, (Zv _), hS, rfl, rfl, rfl, rfl⟩
  ·intro ah bl ad bc bq a4 av d a8
   obtain ⟨y, p, ae, q, u, x, t⟩ := av
   refine Zc (Zd (Za rfl rfl (Zq rfl t x (Zb (Ze (Zc (W_true (Zx (decide_eq_true (by omega))) (W_skip (Ze (Zc (W_block (Zc (Zd ?_)))))))))))))
   obtain ⟨i, aI, d⟩ := Zg d
   refine Za rfl rfl (Exec.index_rep S23 rfl u t (aa.mono p) aI ?_)
   intro aR bg aq
   refine Za rfl rfl (Zw (E := encFact) ae A75 rfl rfl rfl aq ?_)
   intro bo aJ
   obtain rfl := encFact_val.1 aJ
   refine Za rfl rfl (Exec.alloc (cs := [Vi (0), Vi (0)]) ae Z75 rfl rfl ?_)
   intro aS br az
   refine Za rfl rfl (Exec.store_box (ds := [Vi (i.Var), Vi (i.Val)]) (es := [Vi (i.Var), Vi (i.Val)]) az A75 rfl rfl rfl rfl (Zj rfl (Zj rfl one_nil)) (Nat.le_of_ble_eq_true rfl) rfl ?_)
   intro bs a0
   refine Zb (Ze (Zc ?_))
   obtain ⟨m, b, d⟩ := Zg d
   refine W_mid (M := fun f' w' => (fun (m : Bool) => ∃ (ao : PHeap) , PHeap.le y ao ∧ St w0 ao (H) w' ∧ f' 1 = j ∧ f' 7 = l ∧ f' 8 = Vi ((n.length : Int)) ∧ f' 9 = Vi ((ah : Int)) ∧ f' 32 = Value.bool (m)) m) ?_ ?_
   ·refine W_dl (n0 := 20) (qs 0 20 .done) hmix (by kernel_rfl) (by kernel_rfl) ?_
    have g := a0.drew
    refine DL_q rfl rfl (Zp F75_0 rfl rfl rfl ⟨rfl, ?_⟩)
    refine DL_q rfl rfl (Zn (g) A3 rfl rfl rfl ⟨rfl, ?_⟩)
    refine DL_q rfl rfl (Zq rfl rfl rfl ⟨rfl, ?_⟩)
    refine DL_q rfl rfl (Zm (v := Value.bool (decide (i.Var < 0))) rfl rfl ⟨rfl, ?_⟩)
    rcases ite_some b with ⟨c, b⟩ | ⟨c, b⟩
    ·refine DL_passes 16 (by rw [c]; rfl) ?_
     refine DL_done (Zb (Ze ?_))
     have aU := Zu b
     subst m
     exact ⟨y, (Zv _), (g).drop, q, u, x, t, rfl⟩
    replace c := Zk c
    refine DL_qg rfl rfl (Zf rfl (Zx c)) (Zp F75_0 rfl rfl rfl ⟨rfl, ?_⟩)
    refine DL_qg rfl rfl (Zf rfl (Zx c)) (Zn (g) A3 rfl rfl rfl ⟨rfl, ?_⟩)
    refine DL_qg rfl rfl (Zf rfl (Zx c)) (Zm (v := j) rfl q ⟨rfl, ?_⟩)
    refine DL_qg rfl rfl (Zf rfl (Zx c)) (Zr S22 rfl rfl (ab.mono p) ⟨rfl, ?_⟩)
    refine DL_qg rfl rfl (Zf rfl (Zx c)) (Exec.geq rfl rfl rfl ⟨rfl, ?_⟩)
    refine DL_q rfl rfl (Exec.pick_f (v := Value.bool (decide ((z.length : Int) ≤ i.Var))) rfl (Zx c) rfl ⟨rfl, ?_⟩)
    refine DL_q rfl rfl (Zm (v := Value.bool (decide ((z.length : Int) ≤ i.Var))) rfl rfl ⟨rfl, ?_⟩)
    rcases ite_some b with ⟨a, b⟩ | ⟨a, b⟩
    ·refine DL_passes 9 (by rw [a]; rfl) ?_
     refine DL_done (Zb (Ze ?_))
     have aV := Zu b
     subst m
     exact ⟨y, (Zv _), (g).drop, q, u, x, t, rfl⟩
    replace a := Zk a
    refine DL_qg rfl rfl (Zf rfl (Zx a)) (Zm (v := j) rfl q ⟨rfl, ?_⟩)
    refine DL_qg rfl rfl (Zf rfl (Zx a)) (Zp F75_0 rfl rfl rfl ⟨rfl, ?_⟩)
    refine DL_qg rfl rfl (Zf rfl (Zx a)) (Zn (g) A3 rfl rfl rfl ⟨rfl, ?_⟩)
    obtain ⟨aO, aK, b⟩ := Zg b
    refine DL_qg rfl rfl (Zf rfl (Zx a)) (Exec.index_repE S22 rfl rfl rfl (ab.mono p) aK ?_)
    intro aT bh ar aW
    refine ⟨rfl, ?_⟩
    refine DL_qg rfl rfl (Zf rfl (Zx a)) (Zw (E := (encInt .i64)) g A3 rfl rfl rfl ar ?_)
    intro bp aL
    obtain rfl := encInt_val.1 aL
    refine ⟨rfl, ?_⟩
    refine DL_qg rfl rfl (Zf rfl (Zx a)) (Zp F75_1 rfl rfl rfl ⟨rfl, ?_⟩)
    refine DL_qg rfl rfl (Zf rfl (Zx a)) (Zn (g) A3 rfl rfl rfl ⟨rfl, ?_⟩)
    refine DL_qg rfl rfl (Zf rfl (Zx a)) (Exec.neq rfl rfl rfl ⟨rfl, ?_⟩)
    refine DL_q rfl rfl (Exec.pick_f (v := Value.bool (!decide (aO = i.Val))) rfl (Zx a) rfl ⟨rfl, ?_⟩)
    refine DL_done (Zb (Ze ?_))
    have aX := Zu b
    subst m
    exact ⟨y, (Zv _), (g).drop, q, u, x, t, rfl⟩
   intro bd bt ax
   obtain ⟨ap, ai, af, aC, aD, aE, aF, aj⟩ := ax
   refine (Ze ?_)
   rcases ite_some d with ⟨o, d⟩ | ⟨o, d⟩
   ·refine W_cond_t aj o (Zc (Zd (Za rfl rfl (Zo (v := Value.bool (false)) rfl rfl (Zb (Ze (W_ret (ib_ret (at_ret (at_ret (ib_ret (at_ret (at_ret ?_)))))))))))))
    have aY := Zu d
    subst ad
    have a6 := a7 _ (a8 (by intro _ h; cases h))
    have aZ := Zu a6
    subst r
    refine ⟨_, ret1 rfl, ?_⟩
    exact ⟨ap, (Zt p ai), af, rfl⟩
   refine W_cond_f aj o ?_
   replace o := Zk o
   refine W_skip (ib_normal (Ze (Zd (Za rfl rfl (Exec.add rfl aF rfl (Za rfl rfl (Zm (v := Vi (IntKind.i64.wrap ((ah : Int) + 1))) rfl rfl (Zb (Ze ?_)))))))))
   have ba := Zu d
   subst ad
   refine ⟨_, rfl, ?_⟩; exact ⟨ap, (Zt p ai), af, aC, aD, aE, (Eq.trans rfl (wrap_up a4 (SliceRep.le aa)))⟩
  intro bm be bu aw a9
  obtain ⟨aM, aA, a1, aG, aH, ak, aP⟩ := aw
  refine Zc (Zd (Za rfl rfl (Zq rfl aP ak (Zb (Ze (Zc (W_false (Zx (decide_eq_false (by omega))) (W_exit (at_exit (at_exit (ib_here (Ze ?_))))))))))))
  refine ⟨_, .inl a9, ?_⟩; exact ⟨aM, aA, a1, aG, aH, ak⟩
 rintro bf bv ⟨bn, ag, ay⟩
 have hm := ag.elim (a5 _) (a3 _)
 clear ag
 obtain ⟨aN, aB, a2, bi, bj, bk⟩ := ay
 refine (Ze (Zc (Zd (Za rfl rfl (Zo (v := Value.bool (true)) rfl rfl (Zb (Ze (W_ret ?_))))))))
 have bb := Zu hm
 subst r
 refine ⟨_, ret1 rfl, ?_⟩
 exact ⟨aN, aB, a2, rfl⟩
theorem slices_Clone_int_sim {w0 w : World} {s : PHeap} {H : List Res} {b : (List Int)} {c : Value} {r : (List Int)} (hm : slices_Clone_int_p b = some r) (hS : St w0 s (H) w) (d : SliceRep (encInt .i64) s c b) :
  Calls Tryz.prog 18 #[c] w fun e w' => ∃ v, e = .returned v ∧ ((fun (u : (List Int)) => ∃ (g : PHeap) (h : Value), PHeap.le s g ∧ St w0 g (Res.arr (encInt .i64) 3 h u :: H) w' ∧ v = h) r) := by
 unfold slices_Clone_int_p at hm
 refine calls_of_W Tryz.func18 rfl rfl (Zc (Zd (Za rfl rfl (Zo (v := Value.slice none 0 0) rfl rfl (Zb (Ze (Zc (Zc (Zd (Za rfl rfl (Zm (v := c) rfl rfl ?_)))))))))))
 obtain ⟨j, ab, y, k, p⟩ := (d).nilShape
 refine Za rfl rfl (Exec.slice_eql_nil Tryz.underlying22 rfl k rfl (Zb (Ze ?_)))
 by_cases a : j.isNone = true
 ·have q := p a
  replace hm := (show (some []) = ((app 8 [] b).bind fun f => some f) from by simp [q, app]).trans hm
  refine W_true ((Zx a)) (Zc (Zd (Za rfl rfl (Zo (v := Value.slice none 0 0) rfl rfl (Zb (Ze (W_ret (at_ret ?_))))))))
  have z := Zu hm
  subst r
  refine ⟨_, ret1 rfl, ?_⟩
  have l := hS.nilArr (encInt .i64) 3
  exact ⟨s, (Value.slice none 0 0), (Zv _), l, rfl⟩
 replace a := Zk a
 refine W_false ((Zx a)) (W_skip (Ze (Zc (Zd (Za rfl rfl (Exec.buildSlice (Te := 3) (cs := []) hS rfl parts_nil (fun _ => by kernel_rfl) ?_))))))
 intro x ac m
 refine Za rfl rfl (Zm (v := c) rfl rfl ?_)
 have n := St.boxArr (E := (encInt .i64)) (xs := []) m rfl (by simp [maxLen])
 obtain ⟨f, t, hm⟩ := Zg hm
 refine Za rfl rfl (Exec.append_rep (E := (encInt .i64)) (ys := b) n S22 Z3 rfl (by decide) rfl rfl rfl d t ?_)
 intro i ad o
 refine Za rfl rfl (Zo (v := i) rfl rfl (Zb (Ze (W_ret ?_))))
 have aa := Zu hm
 subst r
 refine ⟨_, ret1 rfl, ?_⟩
 exact ⟨s, i, (Zv _), o, rfl⟩
theorem S91 : tySlice Tryz.prog 91 = some (4, 1, 1) := by kernel_rfl
theorem temporal_after_sim {w0 w : World} {s : PHeap} {H : List Res} {p : Temporal} {bu : (List Int)} {ag : (List temporal_happening)} {q : Value} {t : Value} {u : Value} {x : Value} {a7 : Value} {l : Value} {r : (List Int)} (hm : temporal_after_p p bu ag = some r) (hS : St w0 s (H) w) (bw : SliceRep (encInt .i64) s q p.Vars) (bx : SliceRep (encInt .i64) s t p.Init) (bz : SliceRep encFact s u p.Goal) (ap : SliceRep encJob s x p.Jobs) (b0 : SliceRep (encInt .i64) s a7 bu) (ah : SliceRep enctemporal_happening s l ag) :
  Calls Tryz.prog 74 #[Value.agg #[q, t, u, x], a7, l] w fun e w' => ∃ v, e = .returned v ∧ ((fun (d3 : (List Int)) => ∃ (a5 : PHeap) (bv : Value), PHeap.le s a5 ∧ St w0 a5 (H) w' ∧ v = bv ∧ SliceRep (encInt .i64) a5 bv d3) r) := by
 unfold temporal_after_p at hm
 refine calls_of_W Tryz.func74 rfl rfl (Zc (Zd (Za rfl rfl (Exec.box (cs := [q, t, u, x]) hS rfl rfl rfl ?_))))
 intro m eg bH
 refine Za rfl rfl (Zo (v := Value.slice none 0 0) rfl rfl (Zb (Ze (Zc (Zd (Za rfl rfl (Zm (v := a7) rfl rfl ?_)))))))
 obtain ⟨e1, dd, hm⟩ := Zg hm
 refine Za rfl rfl (Tc rfl rfl rfl (Zi rfl args_nil) (slices_Clone_int_sim dd bH b0).r ?_)
 rintro a eh ⟨eb, _, i, bI, rfl⟩
 refine Za rfl rfl (Zo (v := a) rfl rfl (Zb (Ze (Zc (Zc (Zd (Za rfl rfl (Exec.buildSlice (Te := 4) (cs := [Value.bool (true), Value.bool (false)]) bI rfl (parts_cons (c := [Value.bool (true)]) (cells_of rfl rfl) (parts_cons (c := [Value.bool (false)]) (cells_of rfl rfl) parts_nil)) (fun _ => by kernel_rfl) ?_))))))))
 intro ac ei bJ
 have bK := St.boxArr (E := encBool) (xs := [true, false]) bJ ⟨[Value.bool (true)], [Value.bool (false)], rfl, rfl, ⟨[Value.bool (false)], [], rfl, rfl, rfl⟩⟩ (by simp [maxLen])
 obtain ⟨bk, j, bL, a3⟩ := bK.freezeArr
 refine Za rfl rfl (Zr S91 rfl rfl a3 (Za rfl rfl (Zm (v := Vi (0)) rfl rfl (Zb (Ze ?_)))))
 obtain ⟨au, b4, hm⟩ := Zg hm
 refine W_block (W_forS (fun k' s' f' w' => (fun (au : (List Int)) => ∃ (bl : PHeap) , PHeap.le bk bl ∧ St w0 bl (Res.box m 26 [q, t, u, x] :: Res.arr (encInt .i64) 3 a au :: H) w' ∧ f' 2 = l ∧ f' 3 = Value.pointer (some ⟨m, 0, none⟩) ∧ f' 7 = a ∧ f' 17 = Value.slice (some ⟨ac, 0, none⟩) 2 2 ∧ f' 18 = Vi (([true, false].length : Int)) ∧ f' 19 = Vi (k' : Int)) s') b4 ?_ ?_ ?_)
 ·have bM := (bL).f1
  exact ⟨bk, (Zv _), bM, rfl, rfl, rfl, rfl, rfl, rfl⟩
 ·intro af au dn dG ej ca b8 ae
  obtain ⟨bm, g, aq, ck, aH, cl, aI, aJ, a8⟩ := b8
  refine Zc (Zd (Za rfl rfl (Zq rfl a8 aJ (Zb (Ze (Zc (W_true (Zx (decide_eq_true (by omega))) (W_skip (Ze (Zc (W_block (Zc (Zd ?_)))))))))))))
  obtain ⟨y, de, ae⟩ := Zg ae
  refine Za rfl rfl (Exec.index_rep S91 rfl aI a8 (a3.mono g) de ?_)
  intro d5 dR b1
  refine Za rfl rfl (Zw (E := encBool) aq A4 rfl rfl rfl b1 ?_)
  intro ed df
  obtain rfl := encBool_val.1 df
  refine Za rfl rfl (Zo (v := Value.bool (y)) rfl rfl (Zb (Ze (Zc (Zd (Za rfl rfl (Zp F26_3 rfl aH rfl (Za rfl rfl (Zn (aq) A24 rfl rfl rfl (Za rfl rfl (Zr S24 rfl rfl (ap.mono (Zt (Zt i j) g)) (Za rfl rfl (Zm (v := Vi (0)) rfl rfl (Zb (Ze ?_)))))))))))))))
  obtain ⟨av, b5, ae⟩ := Zg ae
  refine W_block (W_forS (fun k' s' f' w' => (fun (av : (List Int)) => ∃ (bn : PHeap) , PHeap.le bm bn ∧ St w0 bn (Res.box m 26 [q, t, u, x] :: Res.arr (encInt .i64) 3 a av :: H) w' ∧ f' 2 = l ∧ f' 3 = Value.pointer (some ⟨m, 0, none⟩) ∧ f' 7 = a ∧ f' 9 = Value.bool (y) ∧ f' 17 = Value.slice (some ⟨ac, 0, none⟩) 2 2 ∧ f' 18 = Vi (([true, false].length : Int)) ∧ f' 19 = Vi ((af : Int)) ∧ f' 25 = Vi ((p.Jobs.length : Int)) ∧ f' 26 = Vi (k' : Int)) s') b5 ?_ ?_ ?_)
  ·have bN := (aq).f1
   exact ⟨bm, (Zv _), (bN).f1, ck, aH, cl, rfl, aI, aJ, a8, rfl, rfl⟩
  ·intro b av dp dH ek cb b9 ar
   obtain ⟨bo, o, bO, aK, cm, cn, co, cp, cq, cr, aL, a9⟩ := b9
   refine Zc (Zd (Za rfl rfl (Zq rfl a9 aL (Zb (Ze (Zc (W_true (Zx (decide_eq_true (by omega))) (W_skip (Ze (Zc (W_block (Zc (Zd (Za rfl rfl (Zm (v := Vi ((b : Int))) rfl a9 (Za rfl rfl (Zo (v := Vi ((b : Int))) rfl rfl (Zb (Ze (Zc (Zd (Za rfl rfl (Zm (v := l) rfl aK (Za rfl rfl (Zr S100 rfl rfl (ah.mono (Zt (Zt (Zt i j) g) o)) (Za rfl rfl (Zm (v := Vi (0)) rfl rfl (Zb (Ze ?_)))))))))))))))))))))))))))))
   obtain ⟨am, b6, ar⟩ := Zg ar
   refine W_block (W_forS (fun k' s' f' w' => (fun (am : (List Int)) => ∃ (bp : PHeap) , PHeap.le bo bp ∧ St w0 bp (Res.box m 26 [q, t, u, x] :: Res.arr (encInt .i64) 3 a am :: H) w' ∧ f' 2 = l ∧ f' 3 = Value.pointer (some ⟨m, 0, none⟩) ∧ f' 7 = a ∧ f' 9 = Value.bool (y) ∧ f' 10 = Vi ((b : Int)) ∧ f' 17 = Value.slice (some ⟨ac, 0, none⟩) 2 2 ∧ f' 18 = Vi (([true, false].length : Int)) ∧ f' 19 = Vi ((af : Int)) ∧ f' 25 = Vi ((p.Jobs.length : Int)) ∧ f' 26 = Vi ((b : Int)) ∧ f' 29 = l ∧ f' 30 = Vi ((ag.length : Int)) ∧ f' 31 = Vi (k' : Int)) s') b6 ?_ ?_ ?_)
   ·have bP := (bO).f1
    exact ⟨bo, (Zv _), (bP).f1, aK, cm, cn, co, rfl, cp, cq, cr, aL, a9, rfl, rfl, rfl⟩
   ·intro al am bq dI el aF bA h
    obtain ⟨a6, aa, aD, aM, aN, aO, ax, ay, aP, aQ, aR, aS, aT, az, a0, an⟩ := bA
    refine Zc (Zd (Za rfl rfl (Zq rfl an a0 (Zb (Ze (Zc (W_true (Zx (decide_eq_true (by omega))) (W_skip (Ze (Zc (W_block (Zc (Zd ?_)))))))))))))
    obtain ⟨d, dg, h⟩ := Zg h
    refine Za rfl rfl (Exec.index_rep S100 rfl az an (ah.mono (Zt (Zt (Zt (Zt i j) g) o) aa)) dg ?_)
    intro d6 dS b2
    refine Za rfl rfl (Zw (E := enctemporal_happening) aD A127 rfl rfl rfl b2 ?_)
    intro ee dh
    obtain rfl := enctemporal_happening_val.1 dh
    refine Za rfl rfl (Exec.alloc (cs := [Vi (0), Value.bool (false)]) aD Z127 rfl rfl ?_)
    intro aB em bQ
    refine Za rfl rfl (Exec.store_box (ds := [Vi (d.job), Value.bool (d.end_)]) (es := [Vi (d.job), Value.bool (d.end_)]) bQ A127 rfl rfl rfl rfl (Zj rfl (Zj rfl one_nil)) (Nat.le_of_ble_eq_true rfl) rfl ?_)
    intro en ai
    refine Zb (Ze (Zc (Zc (W_mid (M := fun f' w' => ∃ (br : PHeap) , PHeap.le a6 br ∧ St w0 br (Res.box m 26 [q, t, u, x] :: Res.arr (encInt .i64) 3 a am :: Res.box aB 127 [Vi (d.job), Value.bool (d.end_)] :: H) w' ∧ f' 2 = l ∧ f' 3 = Value.pointer (some ⟨m, 0, none⟩) ∧ f' 7 = a ∧ f' 9 = Value.bool (y) ∧ f' 10 = Vi ((b : Int)) ∧ f' 12 = Value.pointer (some ⟨aB, 0, none⟩) ∧ f' 17 = Value.slice (some ⟨ac, 0, none⟩) 2 2 ∧ f' 18 = Vi (([true, false].length : Int)) ∧ f' 19 = Vi ((af : Int)) ∧ f' 25 = Vi ((p.Jobs.length : Int)) ∧ f' 26 = Vi ((b : Int)) ∧ f' 29 = l ∧ f' 30 = Vi ((ag.length : Int)) ∧ f' 31 = Vi ((al : Int)) ∧ f' 44 = Value.bool (((!decide (d.job = (b : Int))) || !(d.end_ == y)))) ?_ ?_))))
    ·refine Zd (Za rfl rfl (Zp F127_0 rfl rfl rfl (Za rfl rfl (Zn (ai) A3 rfl rfl rfl (Za rfl rfl (Zm (v := Vi ((b : Int))) rfl ay (Za rfl rfl (Exec.neq rfl rfl rfl (Za rfl rfl (Zm (v := Value.bool (!decide (d.job = (b : Int)))) rfl rfl ?_))))))))))
     by_cases n : (!decide (d.job = (b : Int))) = true
     ·refine WL_passes 5 (by rw [n]; rfl) ?_
      refine Zb (Ze ?_)
      exact ⟨a6, (Zv _), ((ai).f2).f2, aM, aN, aO, ax, ay, rfl, aP, aQ, aR, aS, aT, az, a0, an, (Zx (or_t n)).symm⟩
     replace n := Zk n
     refine WL_run rfl (Zf rfl (Zx n)) rfl (Zp F127_1 rfl rfl rfl (WL_run rfl (Zf rfl (Zx n)) rfl (Zn (ai) A4 rfl rfl rfl (WL_run rfl (Zf rfl (Zx n)) rfl (Zm (v := Value.bool (y)) rfl ax (WL_run rfl (Zf rfl (Zx n)) rfl (Exec.bool_neq Tryz.underlying4 rfl rfl rfl (Za rfl rfl (Exec.pick_f (v := Value.bool (!(d.end_ == y))) rfl (Zx n) rfl (Zb (Ze ?_)))))))))))
     exact ⟨a6, (Zv _), ((ai).f2).f2, aM, aN, aO, ax, ay, rfl, aP, aQ, aR, aS, aT, az, a0, an, (Zx (or_f n)).symm⟩
    intro dJ eo bG
    obtain ⟨dq, ab, aj, aU, a1, aV, aW, aX, ct, aY, aZ, ba, bb, bc, bd, be, bf, bg⟩ := bG
    refine (Ze ?_)
    rcases ite_some h with ⟨ad, h⟩ | ⟨ad, h⟩
    ·refine W_cond_t bg ad (W_exit (at_exit (ib_here (Ze (Zd (Za rfl rfl (Exec.add rfl bf rfl (Za rfl rfl (Zm (v := Vi (IntKind.i64.wrap ((al : Int) + 1))) rfl rfl (Zb (Ze ?_)))))))))))
     have dA := Zu h
     subst bq
     exact ⟨dq, (Zt aa ab), ((((aj).f2).drop).f1).f1, aU, a1, aV, aW, aX, aY, aZ, ba, bb, bc, bd, be, (Eq.trans rfl (wrap_up aF (SliceRep.le (ah.mono (Zt (Zt (Zt i j) g) o)))))⟩
    refine W_cond_f bg ad ?_
    replace ad := Zk ad
    refine W_skip (Ze (Zc (Zd (Za rfl rfl (Exec.load_box_agg (ds := [q, t, u, x]) (aj) A26 rfl a1 rfl (Za rfl rfl (Exec.load_box_agg (ds := [Vi (d.job), Value.bool (d.end_)]) ((aj).f2) A127 rfl ct rfl ?_)))))))
    obtain ⟨d4, di, h⟩ := Zg h
    refine Za rfl rfl (Tc rfl rfl rfl (Zi rfl (Zi rfl args_nil)) (temporal_writes_sim di aj (bw.mono (Zt (Zt (Zt (Zt (Zt i j) g) o) aa) ab)) (bx.mono (Zt (Zt (Zt (Zt (Zt i j) g) o) aa) ab)) (bz.mono (Zt (Zt (Zt (Zt (Zt i j) g) o) aa) ab)) (ap.mono (Zt (Zt (Zt (Zt (Zt i j) g) o) aa) ab))).r ?_)
    rintro dy ep ⟨bs, _, ce, bR, rfl, a4⟩
    refine Za rfl rfl (Zr S23 rfl rfl a4 (Za rfl rfl (Zm (v := Vi (0)) rfl rfl (Zb (Ze ?_)))))
    obtain ⟨aw, b7, h⟩ := Zg h
    refine W_block (W_forS (fun k' s' f' w' => (fun (aw : (List Int)) => ∃ (bt : PHeap) , PHeap.le bs bt ∧ St w0 bt (Res.box m 26 [q, t, u, x] :: Res.arr (encInt .i64) 3 a aw :: H) w' ∧ f' 2 = l ∧ f' 3 = Value.pointer (some ⟨m, 0, none⟩) ∧ f' 7 = a ∧ f' 9 = Value.bool (y) ∧ f' 10 = Vi ((b : Int)) ∧ f' 17 = Value.slice (some ⟨ac, 0, none⟩) 2 2 ∧ f' 18 = Vi (([true, false].length : Int)) ∧ f' 19 = Vi ((af : Int)) ∧ f' 25 = Vi ((p.Jobs.length : Int)) ∧ f' 26 = Vi ((b : Int)) ∧ f' 29 = l ∧ f' 30 = Vi ((ag.length : Int)) ∧ f' 31 = Vi ((al : Int)) ∧ f' 47 = dy ∧ f' 48 = Vi ((d4.length : Int)) ∧ f' 49 = Vi (k' : Int)) s') b7 ?_ ?_ ?_)
    ·have bS := ((bR).f2).drop
     exact ⟨bs, (Zv _), ((bS).f1).f1, aU, a1, aV, aW, aX, aY, aZ, ba, bb, bc, bd, be, bf, rfl, rfl, rfl⟩
    ·intro cd aw dr dK er cc bB z
     obtain ⟨dt, aG, aE, cu, cv, bh, cw, cx, cy, cz, c0, c1, c2, c3, c4, c5, bi, bj, aA⟩ := bB
     refine Zc (Zd (Za rfl rfl (Zq rfl aA bj (Zb (Ze (Zc (W_true (Zx (decide_eq_true (by omega))) (W_skip (Ze (Zc (W_block (Zc (Zd ?_)))))))))))))
     obtain ⟨ao, dj, z⟩ := Zg z
     refine Za rfl rfl (Exec.index_rep S23 rfl bi aA (a4.mono aG) dj ?_)
     intro d7 dT b3
     refine Za rfl rfl (Zw (E := encFact) aE A75 rfl rfl rfl b3 ?_)
     intro ef dk
     obtain rfl := encFact_val.1 dk
     refine Za rfl rfl (Exec.alloc (cs := [Vi (0), Vi (0)]) aE Z75 rfl rfl ?_)
     intro d8 et bT
     refine Za rfl rfl (Exec.store_box (ds := [Vi (ao.Var), Vi (ao.Val)]) (es := [Vi (ao.Var), Vi (ao.Val)]) bT A75 rfl rfl rfl rfl (Zj rfl (Zj rfl one_nil)) (Nat.le_of_ble_eq_true rfl) rfl ?_)
     intro eu ak
     refine Zb (Ze (Zd (Za rfl rfl (Zm (v := a) rfl bh (Za rfl rfl (Zp F75_0 rfl rfl rfl (Za rfl rfl (Zn (ak) A3 rfl rfl rfl (Za rfl rfl (Zp F75_1 rfl rfl rfl (Za rfl rfl (Zn (ak) A3 rfl rfl rfl ?_))))))))))))
     obtain ⟨e0, a2, z⟩ := Zg z
     obtain ⟨dP, d9, aC⟩ := ((ak).f2).arr_at a2
     refine Za rfl rfl (Exec.index_slice S22 rfl aC rfl (idx_some a2).1 (idx_some a2).2.1 ?_)
     obtain ⟨dQ, dl, z⟩ := Zg z
     refine Za rfl rfl (Exec.store_arr (ak).f2 aC A3 rfl rfl rfl rfl (encInt_val.2 rfl) dl ?_)
     intro ev bU
     refine Zb (ib_normal (Ze (Zd (Za rfl rfl (Exec.add rfl aA rfl (Za rfl rfl (Zm (v := Vi (IntKind.i64.wrap ((cd : Int) + 1))) rfl rfl (Zb (Ze ?_)))))))))
     have dB := Zu z
     subst dr
     exact ⟨dt, aG, (((bU).f1).drop).f1, cu, cv, bh, cw, cx, cy, cz, c0, c1, c2, c3, c4, c5, bi, bj, (Eq.trans rfl (wrap_up cc (SliceRep.le a4)))⟩
    intro dL ew bC
    obtain ⟨du, cf, bV, c6, c7, c8, c9, cA, cB, cC, cD, cE, cF, cG, cH, cI, dU, cJ, dz⟩ := bC
    refine Zc (Zd (Za rfl rfl (Zq rfl dz cJ (Zb (Ze (Zc (W_false (Zx (decide_eq_false (by omega))) (W_exit (at_exit (at_exit (ib_here (ib_normal (Ze (Zd (Za rfl rfl (Exec.add rfl cI rfl (Za rfl rfl (Zm (v := Vi (IntKind.i64.wrap ((al : Int) + 1))) rfl rfl (Zb (Ze ?_))))))))))))))))))))
    have dC := Zu h
    subst bq
    exact ⟨du, (Zt (Zt (Zt aa ab) ce) cf), ((bV).f1).f1, c6, c7, c8, c9, cA, cB, cC, cD, cE, cF, cG, cH, (Eq.trans rfl (wrap_up aF (SliceRep.le (ah.mono (Zt (Zt (Zt i j) g) o)))))⟩
   intro dM ex bD
   obtain ⟨dv, cg, bW, cK, cL, cM, cN, dV, cO, cP, cQ, cR, cS, dW, cT, d0⟩ := bD
   refine Zc (Zd (Za rfl rfl (Zq rfl d0 cT (Zb (Ze (Zc (W_false (Zx (decide_eq_false (by omega))) (W_exit (at_exit (at_exit (ib_here (ib_normal (Ze (Zd (Za rfl rfl (Exec.add rfl cS rfl (Za rfl rfl (Zm (v := Vi (IntKind.i64.wrap ((b : Int) + 1))) rfl rfl (Zb (Ze ?_))))))))))))))))))))
   have dD := Zu ar
   subst dp
   exact ⟨dv, (Zt o cg), ((bW).f1).f1, cK, cL, cM, cN, cO, cP, cQ, cR, (Eq.trans rfl (wrap_up cb (SliceRep.le (ap.mono (Zt (Zt i j) g)))))⟩
  intro dN ey bE
  obtain ⟨dw, ch, bX, cU, cV, cW, dX, cX, cY, cZ, da, d1⟩ := bE
  refine Zc (Zd (Za rfl rfl (Zq rfl d1 da (Zb (Ze (Zc (W_false (Zx (decide_eq_false (by omega))) (W_exit (at_exit (at_exit (ib_here (ib_normal (Ze (Zd (Za rfl rfl (Exec.add rfl cZ rfl (Za rfl rfl (Zm (v := Vi (IntKind.i64.wrap ((af : Int) + 1))) rfl rfl (Zb (Ze ?_))))))))))))))))))))
  have dE := Zu ae
  subst dn
  exact ⟨dw, (Zt g ch), ((bX).f1).f1, cU, cV, cW, cX, cY, (Eq.trans rfl (wrap_up ca (SliceRep.le a3)))⟩
 intro dO ez bF
 obtain ⟨ec, ci, bY, dY, dZ, db, ea, dc, d2⟩ := bF
 refine Zc (Zd (Za rfl rfl (Zq rfl d2 dc (Zb (Ze (Zc (W_false (Zx (decide_eq_false (by omega))) (W_exit (at_exit (at_exit (ib_here (Ze (Zc (Zd (Za rfl rfl (Zm (v := a) rfl db (Za rfl rfl (Zo (v := a) rfl rfl (Zb (Ze (W_ret ?_)))))))))))))))))))))
 have dF := Zu hm
 subst r
 refine ⟨_, ret1 rfl, ?_⟩
 obtain ⟨dx, cj, bZ, dm⟩ := (bY).f1.freezeArr
 exact ⟨dx, a, (Zt (Zt (Zt i j) ci) cj), (bZ).drop, rfl, dm⟩
theorem temporal_tick_sim {w0 w : World} {s : PHeap} {H : List Res} {a2 : Temporal} {az : (List Launch)} {m : Int} {bG : (List Int)} {ah : (List temporal_happening)} {d : Value} {g : Value} {i : Value} {j : Value} {q : Value} {aa : Value} {p : Value} {r : (List Int) × (Option Int)} (hm : temporal_tick_p a2 az m bG ah = some r) (hS : St w0 s (H) w) (an : SliceRep (encInt .i64) s d a2.Vars) (ao : SliceRep (encInt .i64) s g a2.Init) (ap : SliceRep encFact s i a2.Goal) (ak : SliceRep encJob s j a2.Jobs) (a4 : SliceRep encLaunch s q az) (aM : SliceRep (encInt .i64) s aa bG) (ad : SliceRep enctemporal_happening s p ah) :
  Calls Tryz.prog 40 #[Value.agg #[d, g, i, j], q, Vi (m), aa, p] w fun e w' => ∃ v, e = .returned v ∧ ((un2 fun (ey : (List Int)) (ez : (Option Int)) => ∃ (aF : PHeap) (bH : Value), PHeap.le s aF ∧ St w0 aF (H) w' ∧ v = Value.tuple #[bH, errV 77 (ez)] ∧ SliceRep (encInt .i64) aF bH ey) r) := by
 unfold temporal_tick_p at hm
 refine calls_of_W Tryz.func40 rfl rfl (Zc (Zd (Za rfl rfl (Exec.box (cs := [d, g, i, j]) hS rfl rfl rfl ?_))))
 intro c fF aV
 refine Za rfl rfl (Zo (v := Value.slice none 0 0) rfl rfl (Za rfl rfl (Zo (v := errV 77 (none)) rfl rfl (Zb (Ze (Zc (Zc (Zd (Za rfl rfl (Exec.load_box_agg (ds := [d, g, i, j]) (aV) A26 rfl rfl rfl (Za rfl rfl (Zm (v := q) rfl rfl (Za rfl rfl (Zm (v := Vi (m)) rfl rfl ?_))))))))))))))
 obtain ⟨gh, dP, hm⟩ := Zg hm
 refine Za rfl rfl (Tc rfl rfl rfl (Zi rfl (Zi rfl (Zi rfl args_nil))) (temporal_overlaps_sim dP aV an ao ap ak a4).r ?_)
 rintro _ fG ⟨aB, a, aW, rfl⟩
 refine Zb (Ze ?_)
 rcases ite_some hm with ⟨au, hm⟩ | ⟨au, hm⟩
 ·refine W_cond_t rfl au (Zc (Zd (Za rfl rfl (Exec.makeInterface C77 rfl rfl (Za rfl rfl (Zo (v := Value.slice none 0 0) rfl rfl (Za rfl rfl (Zo (v := errV 77 (some 18)) rfl rfl (Zb (Ze (W_ret (at_ret ?_))))))))))))
  have e8 := Zu hm
  subst r
  refine ⟨_, ret2 rfl, ?_⟩
  exact ⟨aB, (Value.slice none 0 0), a, (aW).drop, (tup2 rfl rfl), (SliceRep.nil _ _)⟩
 refine W_cond_f rfl au ?_
 replace au := Zk au
 refine W_skip (Ze (Zc (Zc (Zd (Za rfl rfl (Zm (v := p) rfl rfl (Za rfl rfl (Zr S100 rfl rfl (ad.mono a) (Za rfl rfl (Zm (v := Vi (0)) rfl rfl (Zb (Ze ?_))))))))))))
 obtain ⟨aN, bN, c8, c0, cr⟩ := ctl_some hm
 refine W_mid (M := fun f' w' => ∃ s', (aN = .next s' ∨ aN = .brk s') ∧ (fun (_ : Unit) => ∃ (b3 : PHeap) , PHeap.le aB b3 ∧ St w0 b3 (Res.box c 26 [d, g, i, j] :: H) w' ∧ f' 1 = q ∧ f' 2 = Vi (m) ∧ f' 3 = aa ∧ f' 4 = p ∧ f' 5 = Value.pointer (some ⟨c, 0, none⟩) ∧ f' 25 = Vi ((ah.length : Int))) s') ?_ ?_
 ·refine W_block (W_forC (fun k' s' f' w' => (fun (_ : Unit) => ∃ (b4 : PHeap) , PHeap.le aB b4 ∧ St w0 b4 (Res.box c 26 [d, g, i, j] :: H) w' ∧ f' 1 = q ∧ f' 2 = Vi (m) ∧ f' 3 = aa ∧ f' 4 = p ∧ f' 5 = Value.pointer (some ⟨c, 0, none⟩) ∧ f' 25 = Vi ((ah.length : Int)) ∧ f' 26 = Vi (k' : Int)) s') bN ?_ ?_ ?_)
  ·exact ⟨aB, (Zv _), aW, rfl, rfl, rfl, rfl, rfl, rfl, rfl⟩
  ·intro x fv aO eQ fH cw bR ay cC
   obtain ⟨aG, ae, ce, cR, cS, cT, cU, cV, bm, aJ⟩ := bR
   refine Zc (Zd (Za rfl rfl (Zq rfl aJ bm (Zb (Ze (Zc (W_true (Zx (decide_eq_true (by omega))) (W_skip (Ze (Zc (W_block (Zc (Zd (Za rfl rfl (Zm (v := Vi ((x : Int))) rfl aJ (Za rfl rfl (Zo (v := Vi ((x : Int))) rfl rfl (Zb (Ze (Zc (Zd (Za rfl rfl (Zm (v := Vi ((x : Int))) rfl rfl (Za rfl rfl (Zm (v := Vi (0)) rfl rfl (Zb (Ze ?_)))))))))))))))))))))))))))
   obtain ⟨f8, dQ, ay⟩ := Zg ay
   obtain ⟨aP, bO, c9, c1, ct⟩ := ctl_some ay
   refine W_mid (M := fun f' w' => ∃ s', (aP = .next s' ∨ aP = .brk s') ∧ (fun (_ : Unit) => ∃ (b5 : PHeap) , PHeap.le aG b5 ∧ St w0 b5 (Res.box c 26 [d, g, i, j] :: H) w' ∧ f' 1 = q ∧ f' 2 = Vi (m) ∧ f' 3 = aa ∧ f' 4 = p ∧ f' 5 = Value.pointer (some ⟨c, 0, none⟩) ∧ f' 12 = Vi ((x : Int)) ∧ f' 25 = Vi ((ah.length : Int)) ∧ f' 26 = Vi ((x : Int)) ∧ f' 29 = Vi ((x : Int))) s') ?_ ?_
   ·refine W_block (W_forC (fun k' s' f' w' => (fun (_ : Unit) => ∃ (b6 : PHeap) , PHeap.le aG b6 ∧ St w0 b6 (Res.box c 26 [d, g, i, j] :: H) w' ∧ f' 1 = q ∧ f' 2 = Vi (m) ∧ f' 3 = aa ∧ f' 4 = p ∧ f' 5 = Value.pointer (some ⟨c, 0, none⟩) ∧ f' 12 = Vi ((x : Int)) ∧ f' 25 = Vi ((ah.length : Int)) ∧ f' 26 = Vi ((x : Int)) ∧ f' 29 = Vi ((x : Int)) ∧ f' 30 = Vi (k' : Int)) s') bO ?_ ?_ ?_)
    ·exact ⟨aG, (Zv _), ce, cR, cS, cT, cU, cV, rfl, bm, aJ, rfl, rfl⟩
    ·intro a6 fw aQ eR fI cx bS t cD
     obtain ⟨fr, af, a5, cW, cX, cY, aE, bn, bo, cZ, da, bp, aK⟩ := bS
     refine Zc (Zd (Za rfl rfl (Zq rfl aK bp (Zb (Ze (Zc (W_true (Zx (decide_eq_true (by omega))) (W_skip (Ze (Zc (W_block (Zc (Zd (Za rfl rfl (Zm (v := Vi ((a6 : Int))) rfl aK (Za rfl rfl (Zo (v := Vi ((a6 : Int))) rfl rfl (Zb (Ze (Zc (W_dl (n0 := 10) (qs 0 9 (.e 9 [] .done)) hmix (by kernel_rfl) (by kernel_rfl) (DL_q rfl rfl (Exec.load_box_agg (ds := [d, g, i, j]) (a5.drew) A26 rfl bn rfl ⟨rfl, ?_⟩)))))))))))))))))))))))
     refine DL_q rfl rfl (Zm (v := p) rfl aE ⟨rfl, ?_⟩)
     refine DL_q rfl rfl (Zm (v := Vi ((x : Int))) rfl bo ⟨rfl, ?_⟩)
     obtain ⟨gf, dR, t⟩ := Zg t
     refine DL_q rfl rfl (Exec.index_repE S100 rfl rfl rfl (ad.mono (Zt (Zt a ae) af)) dR ?_)
     intro e1 fd bI e9
     refine ⟨rfl, ?_⟩
     refine DL_q rfl rfl (Zw (E := enctemporal_happening) a5.drew A127 rfl rfl rfl bI ?_)
     intro f9 dS
     obtain rfl := enctemporal_happening_val.1 dS
     refine ⟨rfl, ?_⟩
     refine DL_q rfl rfl (Zm (v := p) rfl aE ⟨rfl, ?_⟩)
     refine DL_q rfl rfl (Zm (v := Vi ((a6 : Int))) rfl rfl ⟨rfl, ?_⟩)
     obtain ⟨gg, dT, t⟩ := Zg t
     refine DL_q rfl rfl (Exec.index_repE S100 rfl rfl rfl (ad.mono (Zt (Zt a ae) af)) dT ?_)
     intro e2 fe bJ eA
     refine ⟨rfl, ?_⟩
     refine DL_q rfl rfl (Zw (E := enctemporal_happening) a5.drew A127 rfl rfl rfl bJ ?_)
     intro fA dU
     obtain rfl := enctemporal_happening_val.1 dU
     refine ⟨rfl, ?_⟩
     obtain ⟨gi, dV, t⟩ := Zg t
     refine DL_e rfl rfl (Tc rfl rfl rfl (Zi rfl (Zi rfl (Zi rfl args_nil))) (temporal_interfere_sim dV a5.drew (an.mono (Zt (Zt a ae) af)) (ao.mono (Zt (Zt a ae) af)) (ap.mono (Zt (Zt a ae) af)) (ak.mono (Zt (Zt a ae) af))).r ?_)
     rintro _ fJ ⟨b7, bi, aX, rfl⟩
     refine ⟨ag_nil, ?_⟩
     refine DL_done (Zb (Ze ?_))
     rcases ite_some t with ⟨av, t⟩ | ⟨av, t⟩
     ·refine W_cond_t rfl av (Zc (Zd (Za rfl rfl (Exec.makeInterface C77 rfl rfl (Za rfl rfl (Zo (v := Value.slice none 0 0) rfl rfl (Za rfl rfl (Zo (v := errV 77 (some 17)) rfl rfl (Zb (Ze (W_ret (ib_ret (at_ret (at_ret (ib_ret (at_ret (ib_ret (at_ret (at_ret (ib_ret (at_ret (at_ret ?_))))))))))))))))))))))
      have eB := Zu t
      subst aQ
      have c4 := c9 _ (cD (by intro _ h; cases h))
      have eC := Zu c4
      subst aO
      have c5 := c8 _ (cC (by intro _ h; cases h))
      have eD := Zu c5
      subst r
      refine ⟨_, ret2 rfl, ?_⟩
      exact ⟨b7, (Value.slice none 0 0), (Zt (Zt (Zt a ae) af) bi), (aX).drop, (tup2 rfl rfl), (SliceRep.nil _ _)⟩
     refine W_cond_f rfl av ?_
     replace av := Zk av
     refine W_skip (ib_normal (Ze (Zd (Za rfl rfl (Exec.add rfl aK rfl (Za rfl rfl (Zm (v := Vi (IntKind.i64.wrap ((a6 : Int) + 1))) rfl rfl (Zb (Ze ?_)))))))))
     have eE := Zu t
     subst aQ
     refine ⟨_, rfl, ?_⟩; exact ⟨b7, (Zt af bi), aX, cW, cX, cY, aE, bn, bo, cZ, da, bp, (Eq.trans rfl (wrap_up cx (by have h := must_some dQ; simp at h; simp only [maxLen]; omega)))⟩
    intro fx eS fK bT cE
    obtain ⟨ej, cL, cf, db, dc, dd, de, df, dg, dh, di, bq, et⟩ := bT
    refine Zc (Zd (Za rfl rfl (Zq rfl et bq (Zb (Ze (Zc (W_false (Zx (decide_eq_false (by omega))) (W_exit (at_exit (at_exit (ib_here (Ze ?_))))))))))))
    refine ⟨_, .inl cE, ?_⟩; exact ⟨ej, cL, cf, db, dc, dd, de, df, dg, dh, di, bq⟩
   rintro eT fL ⟨fy, bd, bZ⟩
   have ay := bd.elim (c1 _) (ct _)
   clear bd
   obtain ⟨ek, cM, cg, dj, dk, dl, dm, dn, fi, dp, dq, fj⟩ := bZ
   refine (ib_normal (Ze (Zd (Za rfl rfl (Exec.add rfl dq rfl (Za rfl rfl (Zm (v := Vi (IntKind.i64.wrap ((x : Int) + 1))) rfl rfl (Zb (Ze ?_)))))))))
   have eF := Zu ay
   subst aO
   refine ⟨_, rfl, ?_⟩; exact ⟨ek, (Zt ae cM), cg, dj, dk, dl, dm, dn, dp, (Eq.trans rfl (wrap_up cw (SliceRep.le (ad.mono a))))⟩
  intro fz eU fM bU cF
  obtain ⟨el, cN, ch, dr, dt, du, dv, dw, br, eu⟩ := bU
  refine Zc (Zd (Za rfl rfl (Zq rfl eu br (Zb (Ze (Zc (W_false (Zx (decide_eq_false (by omega))) (W_exit (at_exit (at_exit (ib_here (Ze ?_))))))))))))
  refine ⟨_, .inl cF, ?_⟩; exact ⟨el, cN, ch, dr, dt, du, dv, dw, br⟩
 rintro eV fN ⟨f0, be, ca⟩
 have hm := be.elim (c0 _) (cr _)
 clear be
 obtain ⟨aH, b, ci, dx, dy, dz, bs, d0, fk⟩ := ca
 refine (Ze (Zc (Zc (Zd (Za rfl rfl (Zm (v := p) rfl bs (Za rfl rfl (Zr S100 rfl rfl (ad.mono (Zt a b)) (Za rfl rfl (Zm (v := Vi (0)) rfl rfl (Zb (Ze ?_))))))))))))
 obtain ⟨aR, bP, cA, c2, cu⟩ := ctl_some hm
 refine W_mid (M := fun f' w' => ∃ s', (aR = .next s' ∨ aR = .brk s') ∧ (fun (_ : Unit) => ∃ (b8 : PHeap) , PHeap.le aH b8 ∧ St w0 b8 (Res.box c 26 [d, g, i, j] :: H) w' ∧ f' 1 = q ∧ f' 2 = Vi (m) ∧ f' 3 = aa ∧ f' 4 = p ∧ f' 5 = Value.pointer (some ⟨c, 0, none⟩) ∧ f' 46 = p ∧ f' 47 = Vi ((ah.length : Int))) s') ?_ ?_
 ·refine W_block (W_forC (fun k' s' f' w' => (fun (_ : Unit) => ∃ (b9 : PHeap) , PHeap.le aH b9 ∧ St w0 b9 (Res.box c 26 [d, g, i, j] :: H) w' ∧ f' 1 = q ∧ f' 2 = Vi (m) ∧ f' 3 = aa ∧ f' 4 = p ∧ f' 5 = Value.pointer (some ⟨c, 0, none⟩) ∧ f' 46 = p ∧ f' 47 = Vi ((ah.length : Int)) ∧ f' 48 = Vi (k' : Int)) s') bP ?_ ?_ ?_)
  ·exact ⟨aH, (Zv _), ci, dx, dy, dz, bs, d0, rfl, rfl, rfl⟩
  ·intro cK f2 aS eW fO cy bV u cG
   obtain ⟨fs, ag, aY, d1, d2, bt, d3, bu, bv, bw, aL⟩ := bV
   refine Zc (Zd (Za rfl rfl (Zq rfl aL bw (Zb (Ze (Zc (W_true (Zx (decide_eq_true (by omega))) (W_skip (Ze (Zc (W_block (Zc (Zd ?_)))))))))))))
   obtain ⟨al, dW, u⟩ := Zg u
   refine Za rfl rfl (Exec.index_rep S100 rfl bv aL (ad.mono (Zt (Zt a b) ag)) dW ?_)
   intro e3 ff bK
   refine Za rfl rfl (Zw (E := enctemporal_happening) aY A127 rfl rfl rfl bK ?_)
   intro fB dX
   obtain rfl := enctemporal_happening_val.1 dX
   refine Za rfl rfl (Exec.alloc (cs := [Vi (0), Value.bool (false)]) aY Z127 rfl rfl ?_)
   intro e4 fP cj
   refine Za rfl rfl (Exec.store_box (ds := [Vi (al.job), Value.bool (al.end_)]) (es := [Vi (al.job), Value.bool (al.end_)]) cj A127 rfl rfl rfl rfl (Zj rfl (Zj rfl one_nil)) (Nat.le_of_ble_eq_true rfl) rfl ?_)
   intro fQ aC
   refine Zb (Ze (Zc (Zd (Za rfl rfl (Exec.load_box_agg (ds := [d, g, i, j]) ((aC).f1) A26 rfl bu rfl (Za rfl rfl (Exec.load_box_agg (ds := [Vi (al.job), Value.bool (al.end_)]) (aC) A127 rfl rfl rfl ?_)))))))
   obtain ⟨gj, dY, u⟩ := Zg u
   refine Za rfl rfl (Tc rfl rfl rfl (Zi rfl (Zi rfl args_nil)) (temporal_reads_sim dY aC (an.mono (Zt (Zt a b) ag)) (ao.mono (Zt (Zt a b) ag)) (ap.mono (Zt (Zt a b) ag)) (ak.mono (Zt (Zt a b) ag))).r ?_)
   rintro fC fR ⟨ft, _, aD, ck, rfl, eh⟩
   refine Za rfl rfl (Zm (v := aa) rfl bt ?_)
   obtain ⟨gk, dZ, u⟩ := Zg u
   refine Za rfl rfl (Tc rfl rfl rfl (Zi rfl (Zi rfl args_nil)) (task_Holds_sim dZ ck eh (aM.mono (Zt (Zt (Zt a b) ag) aD))).r ?_)
   rintro _ fS ⟨bA, bj, aZ, rfl⟩
   refine Za rfl rfl (Exec.not rfl rfl (Zb (Ze ?_)))
   rcases ite_some u with ⟨aw, u⟩ | ⟨aw, u⟩
   ·refine W_cond_t rfl aw (Zc (Zd (Za rfl rfl (Exec.makeInterface C77 rfl rfl (Za rfl rfl (Zo (v := Value.slice none 0 0) rfl rfl (Za rfl rfl (Zo (v := errV 77 (some 12)) rfl rfl (Zb (Ze (W_ret (ib_ret (at_ret (at_ret (ib_ret (at_ret (at_ret ?_)))))))))))))))))
    have eG := Zu u
    subst aS
    have c6 := cA _ (cG (by intro _ h; cases h))
    have eH := Zu c6
    subst r
    refine ⟨_, ret2 rfl, ?_⟩
    exact ⟨bA, (Value.slice none 0 0), (Zt (Zt (Zt (Zt a b) ag) aD) bj), ((aZ).drop).drop, (tup2 rfl rfl), (SliceRep.nil _ _)⟩
   refine W_cond_f rfl aw ?_
   replace aw := Zk aw
   refine W_skip (ib_normal (Ze (Zd (Za rfl rfl (Exec.add rfl aL rfl (Za rfl rfl (Zm (v := Vi (IntKind.i64.wrap ((cK : Int) + 1))) rfl rfl (Zb (Ze ?_)))))))))
   have eI := Zu u
   subst aS
   refine ⟨_, rfl, ?_⟩; exact ⟨bA, (Zt (Zt ag aD) bj), (aZ).drop, d1, d2, bt, d3, bu, bv, bw, (Eq.trans rfl (wrap_up cy (SliceRep.le (ad.mono (Zt a b)))))⟩
  intro f3 eX fT bW cH
  obtain ⟨em, cO, cl, d4, d5, d6, d7, d8, d9, bx, ev⟩ := bW
  refine Zc (Zd (Za rfl rfl (Zq rfl ev bx (Zb (Ze (Zc (W_false (Zx (decide_eq_false (by omega))) (W_exit (at_exit (at_exit (ib_here (Ze ?_))))))))))))
  refine ⟨_, .inl cH, ?_⟩; exact ⟨em, cO, cl, d4, d5, d6, d7, d8, d9, bx⟩
 rintro eY fU ⟨f4, bf, cb⟩
 have hm := bf.elim (c2 _) (cu _)
 clear bf
 obtain ⟨fu, l, ba, dA, dB, dC, dD, bz, fl, fm⟩ := cb
 refine (Ze (Zc (Zd (Za rfl rfl (Exec.load_box_agg (ds := [d, g, i, j]) (ba) A26 rfl bz rfl (Za rfl rfl (Zm (v := aa) rfl dC (Za rfl rfl (Zm (v := p) rfl dD ?_)))))))))
 obtain ⟨gl, ea, hm⟩ := Zg hm
 refine Za rfl rfl (Tc rfl rfl rfl (Zi rfl (Zi rfl (Zi rfl args_nil))) (temporal_after_sim ea ba (an.mono (Zt (Zt a b) l)) (ao.mono (Zt (Zt a b) l)) (ap.mono (Zt (Zt a b) l)) (ak.mono (Zt (Zt a b) l)) (aM.mono (Zt (Zt a b) l)) (ad.mono (Zt (Zt a b) l))).r ?_)
 rintro ai fV ⟨aI, _, z, cm, rfl, b2⟩
 refine Za rfl rfl (Zo (v := ai) rfl rfl (Zb (Ze (Zc (Zc (Zd (Za rfl rfl (Zm (v := q) rfl dA (Za rfl rfl (Zr S27 rfl rfl (a4.mono (Zt (Zt (Zt a b) l) z)) (Za rfl rfl (Zm (v := Vi (0)) rfl rfl (Zb (Ze ?_))))))))))))))
 obtain ⟨aT, bQ, cB, c3, cv⟩ := ctl_some hm
 refine W_mid (M := fun f' w' => ∃ s', (aT = .next s' ∨ aT = .brk s') ∧ (fun (_ : Unit) => ∃ (bB : PHeap) , PHeap.le aI bB ∧ St w0 bB (Res.box c 26 [d, g, i, j] :: H) w' ∧ f' 2 = Vi (m) ∧ f' 5 = Value.pointer (some ⟨c, 0, none⟩) ∧ f' 16 = ai ∧ f' 64 = q ∧ f' 65 = Vi ((az.length : Int))) s') ?_ ?_
 ·refine W_block (W_forC (fun k' s' f' w' => (fun (_ : Unit) => ∃ (bC : PHeap) , PHeap.le aI bC ∧ St w0 bC (Res.box c 26 [d, g, i, j] :: H) w' ∧ f' 2 = Vi (m) ∧ f' 5 = Value.pointer (some ⟨c, 0, none⟩) ∧ f' 16 = ai ∧ f' 64 = q ∧ f' 65 = Vi ((az.length : Int)) ∧ f' 66 = Vi (k' : Int)) s') bQ ?_ ?_ ?_)
  ·exact ⟨aI, (Zv _), cm, dB, bz, rfl, rfl, rfl, rfl⟩
  ·intro bh f5 aU eZ fW cz bX ab cI
   obtain ⟨bD, ac, bb, a0, a1, a8, a9, aA, a3⟩ := bX
   refine Zc (Zd (Za rfl rfl (Zq rfl a3 aA (Zb (Ze (Zc (W_true (Zx (decide_eq_true (by omega))) (W_skip (Ze (Zc (W_block (Zc (Zd ?_)))))))))))))
   obtain ⟨aj, eb, ab⟩ := Zg ab
   refine Za rfl rfl (Exec.index_rep S27 rfl a9 a3 (a4.mono (Zt (Zt (Zt (Zt a b) l) z) ac)) eb ?_)
   intro e5 fg bL
   refine Za rfl rfl (Zw (E := encLaunch) bb A64 rfl rfl rfl bL ?_)
   intro fD ec
   obtain rfl := encLaunch_val.1 ec
   refine Za rfl rfl (Exec.alloc (cs := [Vi (0), Vi (0)]) bb Z64 rfl rfl ?_)
   intro e6 fX cn
   refine Za rfl rfl (Exec.store_box (ds := [Vi (aj.At), Vi (aj.Job)]) (es := [Vi (aj.At), Vi (aj.Job)]) cn A64 rfl rfl rfl rfl (Zj rfl (Zj rfl one_nil)) (Nat.le_of_ble_eq_true rfl) rfl ?_)
   intro fY aq
   refine Zb (Ze (Zc ?_))
   obtain ⟨am, o, ab⟩ := Zg ab
   refine W_mid (M := fun f' w' => (fun (am : Bool) => ∃ (bE : PHeap) , PHeap.le bD bE ∧ St w0 bE (Res.box c 26 [d, g, i, j] :: H) w' ∧ f' 2 = Vi (m) ∧ f' 5 = Value.pointer (some ⟨c, 0, none⟩) ∧ f' 16 = ai ∧ f' 64 = q ∧ f' 65 = Vi ((az.length : Int)) ∧ f' 66 = Vi ((bh : Int)) ∧ f' 92 = Value.bool (am)) am) ?_ ?_
   ·refine Zd (Za rfl rfl (Zp F64_0 rfl rfl rfl (Za rfl rfl (Zn (aq) A3 rfl rfl rfl (Za rfl rfl (Zm (v := Vi (m)) rfl a0 (Za rfl rfl (Exec.leq rfl rfl rfl (Za rfl rfl (Zm (v := Value.bool (decide (aj.At ≤ m))) rfl rfl ?_))))))))))
    rcases ite_some o with ⟨y, o⟩ | ⟨y, o⟩
    ·refine WL_run rfl (Zf rfl (Zx y)) rfl (Zm (v := Vi (m)) rfl a0 (WL_run rfl (Zf rfl (Zx y)) rfl (Exec.load_box_agg (ds := [d, g, i, j]) ((aq).f1) A26 rfl a1 rfl (WL_run rfl (Zf rfl (Zx y)) rfl (Exec.load_box_agg (ds := [Vi (aj.At), Vi (aj.Job)]) (aq) A64 rfl rfl rfl ?_)))))
     obtain ⟨gm, ed, o⟩ := Zg o
     refine WL_run rfl (Zf rfl (Zx y)) rfl (Tc rfl rfl rfl (Zi rfl (Zi rfl args_nil)) (temporal_end_sim ed aq (an.mono (Zt (Zt (Zt (Zt a b) l) z) ac)) (ao.mono (Zt (Zt (Zt (Zt a b) l) z) ac)) (ap.mono (Zt (Zt (Zt (Zt a b) l) z) ac)) (ak.mono (Zt (Zt (Zt (Zt a b) l) z) ac))).r ?_)
     rintro _ fZ ⟨en, a7, ar, rfl⟩
     refine WL_run rfl (Zf rfl (Zx y)) rfl (Zq rfl rfl rfl ?_)
     refine WL_passes 2 (by rw [y]; rfl) ?_
     rcases ite_some o with ⟨n, o⟩ | ⟨n, o⟩
     ·refine WL_run rfl (Zf rfl (Zx n)) rfl (Zp F26_3 rfl a1 rfl (WL_run rfl (Zf rfl (Zx n)) rfl (Zn ((ar).f1) A24 rfl rfl rfl (WL_run rfl (Zf rfl (Zx n)) rfl (Zp F64_1 rfl rfl rfl (WL_run rfl (Zf rfl (Zx n)) rfl (Zn (ar) A3 rfl rfl rfl ?_)))))))
      obtain ⟨ew, ee, o⟩ := Zg o
      refine WL_run rfl (Zf rfl (Zx n)) rfl (Exec.index_rep S24 rfl rfl rfl (ak.mono (Zt (Zt (Zt (Zt (Zt a b) l) z) ac) a7)) ee ?_)
      intro e7 fh bM
      refine WL_run rfl (Zf rfl (Zx n)) rfl (Zp F59_3 rfl rfl rfl (WL_run rfl (Zf rfl (Zx n)) rfl (Zw (E := (encSlice encFact)) ar A23 rfl rfl rfl (bM.sub (Sub.iso (Sub.snd (Sub.snd (Sub.snd (Sub.fst (Sub.refl _)) rfl) rfl) rfl)) rfl) ?_)))
      intro fE ef
      have ei : SliceRep _ _ _ (ew.Over) := encSlice_val.1 ef
      refine WL_run rfl (Zf rfl (Zx n)) rfl (Zm (v := ai) rfl a8 ?_)
      obtain ⟨e0, eg, o⟩ := Zg o
      refine WL_run rfl (Zf rfl (Zx n)) rfl (Tc rfl rfl rfl (Zi rfl (Zi rfl args_nil)) (task_Holds_sim eg ar ei (b2.mono (Zt ac a7))).r ?_)
      rintro _ ga ⟨eo, cP, co, rfl⟩
      refine WL_run rfl (Zf rfl (Zx n)) rfl (Exec.not rfl rfl (Za rfl rfl (Zs (v := Value.bool (!e0)) rfl (Zx n) rfl (Zb (Ze ?_)))))
      have eJ := Zu o
      subst am
      exact ⟨eo, (Zt a7 cP), (co).drop, a0, a1, a8, a9, aA, a3, rfl⟩
     replace n := Zk n
     refine WL_passes 11 (by rw [n]; rfl) ?_
     refine Zb (Ze ?_)
     have eK := Zu o
     subst am
     exact ⟨en, a7, (ar).drop, a0, a1, a8, a9, aA, a3, rfl⟩
    replace y := Zk y
    refine WL_passes 18 (by rw [y]; rfl) ?_
    refine Zb (Ze ?_)
    have eL := Zu o
    subst am
    exact ⟨bD, (Zv _), (aq).drop, a0, a1, a8, a9, aA, a3, rfl⟩
   intro fa gb cc
   obtain ⟨bF, bk, bc, dE, dF, dG, dH, dI, dJ, b0⟩ := cc
   refine (Ze ?_)
   rcases ite_some ab with ⟨ax, ab⟩ | ⟨ax, ab⟩
   ·refine W_cond_t b0 ax (Zc (Zd (Za rfl rfl (Exec.makeInterface C77 rfl rfl (Za rfl rfl (Zo (v := Value.slice none 0 0) rfl rfl (Za rfl rfl (Zo (v := errV 77 (some 16)) rfl rfl (Zb (Ze (W_ret (ib_ret (at_ret (at_ret (ib_ret (at_ret (at_ret ?_)))))))))))))))))
    have eM := Zu ab
    subst aU
    have c7 := cB _ (cI (by intro _ h; cases h))
    have eN := Zu c7
    subst r
    refine ⟨_, ret2 rfl, ?_⟩
    exact ⟨bF, (Value.slice none 0 0), (Zt (Zt (Zt (Zt (Zt a b) l) z) ac) bk), (bc).drop, (tup2 rfl rfl), (SliceRep.nil _ _)⟩
   refine W_cond_f b0 ax ?_
   replace ax := Zk ax
   refine W_skip (ib_normal (Ze (Zd (Za rfl rfl (Exec.add rfl dJ rfl (Za rfl rfl (Zm (v := Vi (IntKind.i64.wrap ((bh : Int) + 1))) rfl rfl (Zb (Ze ?_)))))))))
   have eO := Zu ab
   subst aU
   refine ⟨_, rfl, ?_⟩; exact ⟨bF, (Zt ac bk), bc, dE, dF, dG, dH, dI, (Eq.trans rfl (wrap_up cz (SliceRep.le (a4.mono (Zt (Zt (Zt a b) l) z)))))⟩
  intro f6 fb gc bY cJ
  obtain ⟨ep, cQ, cp, dK, dL, dM, dN, b1, ex⟩ := bY
  refine Zc (Zd (Za rfl rfl (Zq rfl ex b1 (Zb (Ze (Zc (W_false (Zx (decide_eq_false (by omega))) (W_exit (at_exit (at_exit (ib_here (Ze ?_))))))))))))
  refine ⟨_, .inl cJ, ?_⟩; exact ⟨ep, cQ, cp, dK, dL, dM, dN, b1⟩
 rintro fc gd ⟨f7, bg, cd⟩
 have hm := bg.elim (c3 _) (cv _)
 clear bg
 obtain ⟨er, bl, cq, fn, fo, dO, fp, fq⟩ := cd
 refine (Ze (Zc (Zd (Za rfl rfl (Zm (v := ai) rfl dO (Za rfl rfl (Zo (v := ai) rfl rfl (Za rfl rfl (Zo (v := errV 77 (none)) rfl rfl (Zb (Ze (W_ret ?_))))))))))))
 have eP := Zu hm
 subst r
 refine ⟨_, ret2 rfl, ?_⟩
 exact ⟨er, ai, (Zt (Zt (Zt (Zt a b) l) z) bl), (cq).drop, (tup2 rfl rfl), (b2.mono bl)⟩
theorem temporal_makespan_sim {w0 w : World} {s : PHeap} {H : List Res} {g : Temporal} {p : (List Launch)} {h : Value} {i : Value} {j : Value} {l : Value} {m : Value} {r : Int} (hm : temporal_makespan_p g p = some r) (hS : St w0 s (H) w) (ac : SliceRep (encInt .i64) s h g.Vars) (ad : SliceRep (encInt .i64) s i g.Init) (ae : SliceRep encFact s j g.Goal) (af : SliceRep encJob s l g.Jobs) (n : SliceRep encLaunch s m p) :
  Calls Tryz.prog 42 #[Value.agg #[h, i, j, l], m] w fun e w' => ∃ v, e = .returned v ∧ ((fun (a4 : Int) => ∃ (aa : PHeap) , PHeap.le s aa ∧ St w0 aa (H) w' ∧ v = Vi (a4)) r) := by
 unfold temporal_makespan_p at hm
 refine calls_of_W Tryz.func42 rfl rfl (Zc (Zd (Za rfl rfl (Exec.box (cs := [h, i, j, l]) hS rfl rfl rfl ?_))))
 intro t aH ak
 refine Za rfl rfl (Zo (v := Vi (0)) rfl rfl (Zb (Ze (Zc (Zd (Za rfl rfl (Zo (v := Vi (0)) rfl rfl (Zb (Ze (Zc (Zc (Zd (Za rfl rfl (Zm (v := m) rfl rfl (Za rfl rfl (Zr S27 rfl rfl n (Za rfl rfl (Zm (v := Vi (0)) rfl rfl (Zb (Ze ?_))))))))))))))))))))
 obtain ⟨a, ah, hm⟩ := Zg hm
 refine W_block (W_forS (fun k' s' f' w' => (fun (a : Int) => ∃ (ab : PHeap) , PHeap.le s ab ∧ St w0 ab (Res.box t 26 [h, i, j, l] :: H) w' ∧ f' 2 = Value.pointer (some ⟨t, 0, none⟩) ∧ f' 5 = Vi (a) ∧ f' 8 = m ∧ f' 9 = Vi ((p.length : Int)) ∧ f' 10 = Vi (k' : Int)) s') ah ?_ ?_ ?_)
 ·exact ⟨s, (Zv _), ak, rfl, rfl, rfl, rfl, rfl⟩
 ·intro ap a a0 aA aI ao ai d
  obtain ⟨aF, b, u, x, au, y, z, q⟩ := ai
  refine Zc (Zd (Za rfl rfl (Zq rfl q z (Zb (Ze (Zc (W_true (Zx (decide_eq_true (by omega))) (W_skip (Ze (Zc (W_block (Zc (Zd ?_)))))))))))))
  obtain ⟨c, ax, d⟩ := Zg d
  refine Za rfl rfl (Exec.index_rep S27 rfl y q (n.mono b) ax ?_)
  intro a6 aC ag
  refine Za rfl rfl (Zw (E := encLaunch) u A64 rfl rfl rfl ag ?_)
  intro aG ay
  obtain rfl := encLaunch_val.1 ay
  refine Za rfl rfl (Exec.alloc (cs := [Vi (0), Vi (0)]) u Z64 rfl rfl ?_)
  intro a7 aJ al
  refine Za rfl rfl (Exec.store_box (ds := [Vi (c.At), Vi (c.Job)]) (es := [Vi (c.At), Vi (c.Job)]) al A64 rfl rfl rfl rfl (Zj rfl (Zj rfl one_nil)) (Nat.le_of_ble_eq_true rfl) rfl ?_)
  intro aK o
  refine Zb (Ze (Zd (Za rfl rfl (Zm (v := Vi (a)) rfl au (Za rfl rfl (Exec.load_box_agg (ds := [h, i, j, l]) ((o).f1) A26 rfl x rfl (Za rfl rfl (Exec.load_box_agg (ds := [Vi (c.At), Vi (c.Job)]) (o) A64 rfl rfl rfl ?_))))))))
  obtain ⟨a5, az, d⟩ := Zg d
  refine Za rfl rfl (Tc rfl rfl rfl (Zi rfl (Zi rfl args_nil)) (temporal_end_sim az o (ac.mono b) (ad.mono b) (ae.mono b) (af.mono b)).r ?_)
  rintro _ aL ⟨a1, aq, am, rfl⟩
  refine Za rfl rfl (Exec.max2 rfl rfl rfl (Za rfl rfl (Zo (v := Vi (max a a5)) rfl rfl (Zb (ib_normal (Ze (Zd (Za rfl rfl (Exec.add rfl q rfl (Za rfl rfl (Zm (v := Vi (IntKind.i64.wrap ((ap : Int) + 1))) rfl rfl (Zb (Ze ?_)))))))))))))
  have a8 := Zu d
  subst a0
  exact ⟨a1, (Zt b aq), (am).drop, x, rfl, y, z, (Eq.trans rfl (wrap_up ao (SliceRep.le n)))⟩
 intro aB aM aj
 obtain ⟨a2, ar, an, aD, av, aE, aw, a3⟩ := aj
 refine Zc (Zd (Za rfl rfl (Zq rfl a3 aw (Zb (Ze (Zc (W_false (Zx (decide_eq_false (by omega))) (W_exit (at_exit (at_exit (ib_here (Ze (Zc (Zd (Za rfl rfl (Zm (v := Vi (a)) rfl av (Za rfl rfl (Zo (v := Vi (a)) rfl rfl (Zb (Ze (W_ret ?_)))))))))))))))))))))
 have a9 := Zu hm
 subst r
 refine ⟨_, ret1 rfl, ?_⟩
 exact ⟨a2, ar, (an).drop, rfl⟩
theorem temporal_Validate_sim {w0 w : World} {s : PHeap} {H : List Res} {ad : Temporal} {a4 : (List Launch)} {g : Value} {d : Value} {i : Value} {j : Value} {o : Value} {r : Int × (Option Int)} (hm : temporal_Validate_p ad a4 = some r) (hS : St w0 s (H) w) (ae : SliceRep (encInt .i64) s g ad.Vars) (y : SliceRep (encInt .i64) s d ad.Init) (z : SliceRep encFact s i ad.Goal) (af : SliceRep encJob s j ad.Jobs) (ag : SliceRep encLaunch s o a4) :
  Calls Tryz.prog 15 #[Value.agg #[g, d, i, j], o] w fun e w' => ∃ v, e = .returned v ∧ ((un2 fun (b3 : Int) (b4 : (Option Int)) => ∃ (aC : PHeap) , PHeap.le s aC ∧ St w0 aC (H) w' ∧ v = Value.tuple #[Vi (b3), errV 77 (b4)]) r) := by
 unfold temporal_Validate_p at hm
 refine calls_of_W Tryz.func15 rfl rfl (Zc (Zd (Za rfl rfl (Exec.box (cs := [g, d, i, j]) hS rfl rfl rfl ?_))))
 intro ah bO az
 refine Za rfl rfl (Zo (v := Vi (0)) rfl rfl (Za rfl rfl (Zo (v := errV 77 (none)) rfl rfl (Zb (Ze (Zc (Zc (Zd (Za rfl rfl (Exec.load_box_agg (ds := [g, d, i, j]) (az) A26 rfl rfl rfl (Za rfl rfl (Zm (v := o) rfl rfl ?_))))))))))))
 obtain ⟨al, bj, hm⟩ := Zg hm
 refine Za rfl rfl (Tc rfl rfl rfl (Zi rfl (Zi rfl args_nil)) (temporal_accept_sim bj az ae y z af ag).r ?_)
 rintro _ bP ⟨bu, a, ai, rfl⟩
 refine Za rfl rfl (Zo (v := errV 77 (al)) rfl rfl (Zb (Ze (Zc (Zd (Za rfl rfl (Zm (v := errV 77 (al)) rfl rfl (Za rfl rfl (Exec.err_neq_nil (T := 77) Tryz.underlying36 rfl rfl rfl (Zb (Ze ?_)))))))))))
 rcases ite_some hm with ⟨aa, hm⟩ | ⟨aa, hm⟩
 ·refine W_cond_t rfl aa (Zc (Zd (Za rfl rfl (Zm (v := errV 77 (al)) rfl rfl (Za rfl rfl (Zo (v := Vi (0)) rfl rfl (Za rfl rfl (Zo (v := errV 77 (al)) rfl rfl (Zb (Ze (W_ret (at_ret ?_))))))))))))
  have b6 := Zu hm
  subst r
  refine ⟨_, ret2 rfl, ?_⟩
  exact ⟨bu, a, (ai).drop, (tup2 rfl rfl)⟩
 refine W_cond_f rfl aa ?_
 replace aa := Zk aa
 refine W_skip (Ze (Zc (Zd (Za rfl rfl (Zp F26_1 rfl rfl rfl (Za rfl rfl (Zn (ai) A22 rfl rfl rfl (Za rfl rfl (Zo (v := d) rfl rfl (Zb (Ze (Zc (Zd (Za rfl rfl (Exec.load_box_agg (ds := [g, d, i, j]) (ai) A26 rfl rfl rfl (Za rfl rfl (Zm (v := o) rfl rfl ?_)))))))))))))))))
 obtain ⟨bz, bk, hm⟩ := Zg hm
 obtain ⟨aF, aG⟩ := bz
 replace hm := un2_eq hm
 refine Za rfl rfl (Tc rfl rfl rfl (Zi rfl (Zi rfl args_nil)) (temporal_happenings_sim bk ai (ae.mono a) (y.mono a) (z.mono a) (af.mono a) (ag.mono a)).r ?_)
 rintro _ bQ ⟨ap, q, n, b, aM, rfl, ao⟩
 refine Za rfl rfl (Zm (v := Value.tuple #[Value.map (some n), q]) rfl rfl (Za rfl rfl (Exec.extract (v := Value.map (some n)) rfl rfl rfl (Za rfl rfl (Exec.extract (v := q) rfl rfl rfl (Za rfl rfl (Zo (v := Value.map (some n)) rfl rfl (Za rfl rfl (Zo (v := q) rfl rfl (Zb (Ze (Zc (Zc (Zd (Za rfl rfl (Zm (v := q) rfl rfl (Za rfl rfl (Zr S22 rfl rfl ao (Za rfl rfl (Zm (v := Vi (0)) rfl rfl (Zb (Ze ?_))))))))))))))))))))))
 obtain ⟨ax, aI, aU, aS, aQ⟩ := ctl_some hm
 refine W_mid (M := fun f' w' => ∃ s', (ax = .next s' ∨ ax = .brk s') ∧ (fun (aE : (List Int)) => ∃ (aq : PHeap) (ak : Value), PHeap.le ap aq ∧ St w0 aq (Res.box ah 26 [g, d, i, j] :: Res.fmap Tryz.prog 3 enctemporal_happening n aF :: H) w' ∧ f' 1 = o ∧ f' 2 = Value.pointer (some ⟨ah, 0, none⟩) ∧ f' 7 = ak ∧ f' 8 = Value.map (some n) ∧ f' 28 = q ∧ f' 29 = Vi ((aG.length : Int)) ∧ SliceRep (encInt .i64) aq ak aE) s') ?_ ?_
 ·refine W_block (W_forC (fun k' s' f' w' => (fun (au : (List Int)) => ∃ (ar : PHeap) (t : Value), PHeap.le ap ar ∧ St w0 ar (Res.box ah 26 [g, d, i, j] :: Res.fmap Tryz.prog 3 enctemporal_happening n aF :: H) w' ∧ f' 1 = o ∧ f' 2 = Value.pointer (some ⟨ah, 0, none⟩) ∧ f' 7 = t ∧ f' 8 = Value.map (some n) ∧ f' 28 = q ∧ f' 29 = Vi ((aG.length : Int)) ∧ f' 30 = Vi (k' : Int) ∧ SliceRep (encInt .i64) ar t au) s') aI ?_ ?_ ?_)
  ·have aN := (aM).f1
   exact ⟨ap, d, (Zv _), aN, rfl, rfl, rfl, rfl, rfl, rfl, rfl, (y.mono (Zt a b))⟩
  ·intro aY au ay bC bR aR aJ c aW
   obtain ⟨bK, t, l, aj, a5, a6, bb, a7, a8, a9, av, an⟩ := aJ
   refine Zc (Zd (Za rfl rfl (Zq rfl av a9 (Zb (Ze (Zc (W_true (Zx (decide_eq_true (by omega))) (W_skip (Ze (Zc (W_block (Zc (Zd ?_)))))))))))))
   obtain ⟨aw, bl, c⟩ := Zg c
   refine Za rfl rfl (Exec.index_rep S22 rfl a8 av (ao.mono l) bl ?_)
   intro b5 bF aH
   refine Za rfl rfl (Zw (E := (encInt .i64)) aj A3 rfl rfl rfl aH ?_)
   intro bM bm
   obtain rfl := encInt_val.1 bm
   refine Za rfl rfl (Zo (v := Vi (aw)) rfl rfl (Zb (Ze (Zc (Zd (Za rfl rfl (Exec.load_box_agg (ds := [g, d, i, j]) (aj) A26 rfl a6 rfl (Za rfl rfl (Zm (v := o) rfl a5 (Za rfl rfl (Zm (v := Vi (aw)) rfl rfl (Za rfl rfl (Zm (v := t) rfl bb (Za rfl rfl (Zm (v := Value.map (some n)) rfl a7 (Za rfl rfl (Zm (v := Vi (aw)) rfl rfl ?_)))))))))))))))))
   obtain ⟨bJ, bn, c⟩ := Zg c
   refine Za rfl rfl (Exec.fmap_look ((aj).f1) ⟨Tryz.underlying95, Tryz.underlying3⟩ Z100 rfl rfl rfl bn ?_)
   intro bN bo
   have bs := encSlice_val.1 bo
   obtain ⟨b0, bp, c⟩ := Zg c
   obtain ⟨bX, x⟩ := b0
   replace c := un2_eq c
   refine Za rfl rfl (Tc rfl rfl rfl (Zi rfl (Zi rfl (Zi rfl (Zi rfl (Zi rfl args_nil))))) (temporal_tick_sim bp aj (ae.mono (Zt (Zt a b) l)) (y.mono (Zt (Zt a b) l)) (z.mono (Zt (Zt a b) l)) (af.mono (Zt (Zt a b) l)) (ag.mono (Zt (Zt a b) l)) an bs).r ?_)
   rintro _ bS ⟨aD, u, a3, a0, rfl, bt⟩
   refine Za rfl rfl (Zm (v := Value.tuple #[u, errV 77 (x)]) rfl rfl (Za rfl rfl (Exec.extract (v := u) rfl rfl rfl (Za rfl rfl (Exec.extract (v := errV 77 (x)) rfl rfl rfl (Za rfl rfl (Zo (v := u) rfl rfl (Za rfl rfl (Zo (v := errV 77 (x)) rfl rfl (Zb (Ze (Zc (Zc (Zd (Za rfl rfl (Zm (v := errV 77 (x)) rfl rfl (Za rfl rfl (Exec.err_neq_nil (T := 77) Tryz.underlying36 rfl rfl rfl (Zb (Ze ?_))))))))))))))))))))
   rcases ite_some c with ⟨ab, c⟩ | ⟨ab, c⟩
   ·refine W_cond_t rfl ab (Zc (Zd (Za rfl rfl (Zm (v := errV 77 (x)) rfl rfl (Za rfl rfl (Zo (v := Vi (0)) rfl rfl (Za rfl rfl (Zo (v := errV 77 (x)) rfl rfl (Zb (Ze (W_ret (at_ret (ib_ret (at_ret (at_ret (ib_ret (at_ret (at_ret ?_))))))))))))))))))
    have b7 := Zu c
    subst ay
    have aT := aU _ (aW (by intro _ h; cases h))
    have b8 := Zu aT
    subst r
    refine ⟨_, ret2 rfl, ?_⟩
    exact ⟨aD, (Zt (Zt (Zt a b) l) a3), ((a0).drop).drop, (tup2 rfl rfl)⟩
   refine W_cond_f rfl ab ?_
   replace ab := Zk ab
   refine W_skip (Ze (Zd (Za rfl rfl (Zm (v := u) rfl rfl (Za rfl rfl (Zo (v := u) rfl rfl (Zb (ib_normal (Ze (Zd (Za rfl rfl (Exec.add rfl av rfl (Za rfl rfl (Zm (v := Vi (IntKind.i64.wrap ((aY : Int) + 1))) rfl rfl (Zb (Ze ?_))))))))))))))))
   have b9 := Zu c
   subst ay
   refine ⟨_, rfl, ?_⟩; exact ⟨aD, u, (Zt l a3), ((a0).f1).f1, a5, a6, rfl, a7, a8, a9, (Eq.trans rfl (wrap_up aR (SliceRep.le ao))), bt⟩
  intro au bD bT aK aX
  obtain ⟨bv, t, aZ, aO, bc, bd, be, bf, bg, aA, b1, an⟩ := aK
  refine Zc (Zd (Za rfl rfl (Zq rfl b1 aA (Zb (Ze (Zc (W_false (Zx (decide_eq_false (by omega))) (W_exit (at_exit (at_exit (ib_here (Ze ?_))))))))))))
  refine ⟨_, .inl aX, ?_⟩; exact ⟨bv, t, aZ, ((aO).f1).f1, bc, bd, be, bf, bg, aA, an⟩
 rintro bE bU ⟨aE, a2, aL⟩
 have hm := a2.elim (aS _) (aQ _)
 clear a2
 obtain ⟨bL, ak, m, a1, bh, aB, bi, bG, bH, bI, aV⟩ := aL
 refine (Ze (Zc (Zc (Zd (Za rfl rfl (Zp F26_2 rfl aB rfl (Za rfl rfl (Zn (a1) A23 rfl rfl rfl (Za rfl rfl (Zm (v := ak) rfl bi ?_))))))))))
 obtain ⟨bY, bq, hm⟩ := Zg hm
 refine Za rfl rfl (Tc rfl rfl rfl (Zi rfl (Zi rfl args_nil)) (task_Holds_sim bq a1 (z.mono (Zt (Zt a b) m)) aV).r ?_)
 rintro _ bV ⟨bw, p, am, rfl⟩
 refine Za rfl rfl (Exec.not rfl rfl (Zb (Ze ?_)))
 rcases ite_some hm with ⟨ac, hm⟩ | ⟨ac, hm⟩
 ·refine W_cond_t rfl ac (Zc (Zd (Za rfl rfl (Exec.makeInterface C77 rfl rfl (Za rfl rfl (Zo (v := Vi (0)) rfl rfl (Za rfl rfl (Zo (v := errV 77 (some 13)) rfl rfl (Zb (Ze (W_ret (at_ret ?_))))))))))))
  have bA := Zu hm
  subst r
  refine ⟨_, ret2 rfl, ?_⟩
  exact ⟨bw, (Zt (Zt (Zt a b) m) p), ((am).drop).drop, (tup2 rfl rfl)⟩
 refine W_cond_f rfl ac ?_
 replace ac := Zk ac
 refine W_skip (Ze (Zc (Zd (Za rfl rfl (Exec.load_box_agg (ds := [g, d, i, j]) (am) A26 rfl aB rfl (Za rfl rfl (Zm (v := o) rfl bh ?_)))))))
 obtain ⟨b2, br, hm⟩ := Zg hm
 refine Za rfl rfl (Tc rfl rfl rfl (Zi rfl (Zi rfl args_nil)) (temporal_makespan_sim br am (ae.mono (Zt (Zt (Zt a b) m) p)) (y.mono (Zt (Zt (Zt a b) m) p)) (z.mono (Zt (Zt (Zt a b) m) p)) (af.mono (Zt (Zt (Zt a b) m) p)) (ag.mono (Zt (Zt (Zt a b) m) p))).r ?_)
 rintro _ bW ⟨bx, ba, aP, rfl⟩
 refine Za rfl rfl (Zo (v := Vi (b2)) rfl rfl (Za rfl rfl (Zo (v := errV 77 (none)) rfl rfl (Zb (Ze (W_ret ?_))))))
 have bB := Zu hm
 subst r
 refine ⟨_, ret2 rfl, ?_⟩
 exact ⟨bx, (Zt (Zt (Zt (Zt a b) m) p) ba), ((aP).drop).drop, (tup2 rfl rfl)⟩
theorem EC77 : (Tryz.prog.info? 77).map (·.comparable) = some true := by kernel_rfl
theorem simulate_invalid_sim {w0 w : World} {s : PHeap} {H : List Res} {a : (Option Int)}  {r : Bool} (hm : simulate_invalid_p a = some r) (hS : St w0 s (H) w)  :
  Calls Tryz.prog 16 #[errV 77 (a)] w fun e w' => ∃ v, e = .returned v ∧ ((fun (o : Bool) => ∃ (h : PHeap) , PHeap.le s h ∧ St w0 h (H) w' ∧ v = Value.bool (o)) r) := by
 unfold simulate_invalid_p at hm
 refine calls_of_W Tryz.func16 rfl rfl (Zc (Zd (Za rfl rfl (Zo (v := Value.bool (false)) rfl rfl (Zb (Ze (Zc (W_mid (M := fun f' w' => ∃ (i : PHeap) , PHeap.le s i ∧ St w0 i (H) w' ∧ f' 2 = Value.bool (((decide (a = some 18)) || ((decide (a = some 17)) || ((decide (a = some 12)) || ((decide (a = some 16)) || decide (a = some 13))))))) ?_ ?_))))))))
 ·refine Zd (Za rfl rfl (Zm (v := errV 77 (a)) rfl rfl (Za rfl rfl (Exec.makeInterface C77 rfl rfl (Za rfl rfl (Exec.err_eql (T := 77) Tryz.underlying36 ⟨EC77, Tryz.underlying77⟩ rfl rfl rfl (Za rfl rfl (Zm (v := Value.bool (decide (a = some 18))) rfl rfl ?_))))))))
  by_cases b : (decide (a = some 18)) = true
  ·refine WL_passes 20 (by rw [b]; rfl) ?_
   refine Zb (Ze ?_)
   exact ⟨s, (Zv _), hS, (Zx (or_t b)).symm⟩
  replace b := Zk b
  refine WL_run rfl (Zf rfl (Zx b)) rfl (Zm (v := errV 77 (a)) rfl rfl (WL_run rfl (Zf rfl (Zx b)) rfl (Exec.makeInterface C77 rfl rfl (WL_run rfl (Zf rfl (Zx b)) rfl (Exec.err_eql (T := 77) Tryz.underlying36 ⟨EC77, Tryz.underlying77⟩ rfl rfl rfl ?_)))))
  refine WL_passes 2 (by rw [b]; rfl) ?_
  by_cases c : (decide (a = some 17)) = true
  ·refine WL_passes 15 (by rw [c]; rfl) ?_
   refine Zb (Ze ?_)
   exact ⟨s, (Zv _), hS, (Zx (Eq.trans (or_f b) (or_t c))).symm⟩
  replace c := Zk c
  refine WL_run rfl (Zf rfl (Zx c)) rfl (Zm (v := errV 77 (a)) rfl rfl (WL_run rfl (Zf rfl (Zx c)) rfl (Exec.makeInterface C77 rfl rfl (WL_run rfl (Zf rfl (Zx c)) rfl (Exec.err_eql (T := 77) Tryz.underlying36 ⟨EC77, Tryz.underlying77⟩ rfl rfl rfl ?_)))))
  refine WL_passes 2 (by rw [c]; rfl) ?_
  by_cases d : (decide (a = some 12)) = true
  ·refine WL_passes 10 (by rw [d]; rfl) ?_
   refine Zb (Ze ?_)
   exact ⟨s, (Zv _), hS, (Zx (Eq.trans (or_f b) (Eq.trans (or_f c) (or_t d)))).symm⟩
  replace d := Zk d
  refine WL_run rfl (Zf rfl (Zx d)) rfl (Zm (v := errV 77 (a)) rfl rfl (WL_run rfl (Zf rfl (Zx d)) rfl (Exec.makeInterface C77 rfl rfl (WL_run rfl (Zf rfl (Zx d)) rfl (Exec.err_eql (T := 77) Tryz.underlying36 ⟨EC77, Tryz.underlying77⟩ rfl rfl rfl ?_)))))
  refine WL_passes 2 (by rw [d]; rfl) ?_
  by_cases g : (decide (a = some 16)) = true
  ·refine WL_passes 5 (by rw [g]; rfl) ?_
   refine Zb (Ze ?_)
   exact ⟨s, (Zv _), hS, (Zx (Eq.trans (or_f b) (Eq.trans (or_f c) (Eq.trans (or_f d) (or_t g))))).symm⟩
  replace g := Zk g
  refine WL_run rfl (Zf rfl (Zx g)) rfl (Zm (v := errV 77 (a)) rfl rfl (WL_run rfl (Zf rfl (Zx g)) rfl (Exec.makeInterface C77 rfl rfl (WL_run rfl (Zf rfl (Zx g)) rfl (Exec.err_eql (T := 77) Tryz.underlying36 ⟨EC77, Tryz.underlying77⟩ rfl rfl rfl ?_)))))
  refine WL_passes 2 (by rw [g]; rfl) ?_
  refine Zb (Ze ?_)
  exact ⟨s, (Zv _), hS, (Zx (Eq.trans (or_f b) (Eq.trans (or_f c) (Eq.trans (or_f d) (or_f g))))).symm⟩
 intro q t j
 obtain ⟨n, l, k, m⟩ := j
 refine (Ze (W_ret ?_))
 have p := Zu hm
 subst r
 refine ⟨_, ret1 rfl, ?_⟩
 exact ⟨n, l, k, m⟩
theorem A34 : tyAgg Tryz.prog 34 = some (true, 4) := by kernel_rfl
theorem F70_1 : tyField Tryz.prog 70 1 = some 4 := by kernel_rfl
theorem A27 : tyAgg Tryz.prog 27 = some (false, 1) := by kernel_rfl
theorem F70_2 : tyField Tryz.prog 70 2 = some 5 := by kernel_rfl
theorem F34_0 : tyField Tryz.prog 34 0 = some 0 := by kernel_rfl
theorem A30 : tyAgg Tryz.prog 30 = some (false, 1) := by kernel_rfl
theorem F70_0 : tyField Tryz.prog 70 0 = some 0 := by kernel_rfl
theorem simulate_run_end_sim {w0 w : World} {s : PHeap} {H : List Res} {a : simulate_run} {c : Int} {b : Nat} {h : Value} {i : Value} {j : Value} {k : Value} {m : Value} {d : Value} {f : Value} {g : Value} {r : Int} (hm : simulate_run_end_p a c = some r) (hS : St w0 s (Res.box b 70 [h, i, j, k, m, d, f, g, Vi (a.out.Makespan)] :: Res.arr encsimulate_Event 49 d a.out.Events :: Res.arr (encSlice (encInt .i64)) 22 f a.out.States :: Res.arr encsimulate_Problem 52 g a.out.Problems :: H) w) (aj : SliceRep (encInt .i64) s h a.t.Vars) (ak : SliceRep (encInt .i64) s i a.t.Init) (al : SliceRep encFact s j a.t.Goal) (x : SliceRep encJob s k a.t.Jobs) (o : SliceRep encLaunch s m a.l) :
  Calls Tryz.prog 43 #[Value.pointer (some ⟨b, 0, none⟩), Vi (c)] w fun e w' => ∃ v, e = .returned v ∧ ((fun (ai : Int) => ∃ (q : PHeap) , PHeap.le s q ∧ St w0 q (Res.box b 70 [h, i, j, k, m, d, f, g, Vi (a.out.Makespan)] :: Res.arr encsimulate_Event 49 d a.out.Events :: Res.arr (encSlice (encInt .i64)) 22 f a.out.States :: Res.arr encsimulate_Problem 52 g a.out.Problems :: H) w' ∧ v = Vi (ai)) r) := by
 unfold simulate_run_end_p at hm
 refine calls_of_W Tryz.func43 rfl rfl (Zc (Zd (Za rfl rfl (Zo (v := Vi (0)) rfl rfl (Zb (Ze (Zc (W_dl (n0 := 25) (qs 0 25 .done) hmix (by kernel_rfl) (by kernel_rfl) (DL_q rfl rfl (Zm (v := Value.pointer (some ⟨b, 0, none⟩)) rfl rfl ⟨rfl, ?_⟩))))))))))
 refine DL_q rfl rfl (Exec.nilCheck_ptr rfl rfl ⟨rfl, ?_⟩)
 refine DL_q rfl rfl (Zp F70_1 rfl rfl rfl ⟨rfl, ?_⟩)
 refine DL_q rfl rfl (Zn (hS.drew) A27 rfl rfl rfl ⟨rfl, ?_⟩)
 refine DL_q rfl rfl (Zm (v := Vi (c)) rfl rfl ⟨rfl, ?_⟩)
 obtain ⟨n, p, hm⟩ := Zg hm
 refine DL_q rfl rfl (Exec.index_repE S27 rfl rfl rfl o p ?_)
 intro am av y ap
 refine ⟨rfl, ?_⟩
 refine DL_q rfl rfl (Zp F64_0 rfl rfl rfl ⟨rfl, ?_⟩)
 refine DL_q rfl rfl (Zw (E := (encInt .i64)) hS.drew A3 rfl rfl rfl (y.sub (Sub.iso (Sub.fst (Sub.refl _))) rfl) ?_)
 intro af ab
 obtain rfl : af = Vi (n.At) := encInt_val.1 ab
 refine ⟨rfl, ?_⟩
 refine DL_q rfl rfl (Zm (v := Value.pointer (some ⟨b, 0, none⟩)) rfl rfl ⟨rfl, ?_⟩)
 refine DL_q rfl rfl (Exec.nilCheck_ptr rfl rfl ⟨rfl, ?_⟩)
 refine DL_q rfl rfl (Zp F70_0 rfl rfl rfl ⟨rfl, ?_⟩)
 refine DL_q rfl rfl (Zp F26_3 rfl rfl rfl ⟨rfl, ?_⟩)
 refine DL_q rfl rfl (Zn (hS.drew) A24 rfl rfl rfl ⟨rfl, ?_⟩)
 refine DL_q rfl rfl (Zm (v := Value.pointer (some ⟨b, 0, none⟩)) rfl rfl ⟨rfl, ?_⟩)
 refine DL_q rfl rfl (Exec.nilCheck_ptr rfl rfl ⟨rfl, ?_⟩)
 refine DL_q rfl rfl (Zp F70_1 rfl rfl rfl ⟨rfl, ?_⟩)
 refine DL_q rfl rfl (Zn (hS.drew) A27 rfl rfl rfl ⟨rfl, ?_⟩)
 refine DL_q rfl rfl (Zm (v := Vi (c)) rfl rfl ⟨rfl, ?_⟩)
 refine DL_q rfl rfl (Exec.index_repE S27 rfl rfl rfl o p ?_)
 intro an aw z aq
 refine ⟨rfl, ?_⟩
 refine DL_q rfl rfl (Zp F64_1 rfl rfl rfl ⟨rfl, ?_⟩)
 refine DL_q rfl rfl (Zw (E := (encInt .i64)) hS.drew A3 rfl rfl rfl (z.sub (Sub.iso (Sub.snd (Sub.refl _) rfl)) rfl) ?_)
 intro ag ac
 obtain rfl : ag = Vi (n.Job) := encInt_val.1 ac
 refine ⟨rfl, ?_⟩
 obtain ⟨u, ad, hm⟩ := Zg hm
 refine DL_q rfl rfl (Exec.index_repE S24 rfl rfl rfl x ad ?_)
 intro ao ax aa ar
 refine ⟨rfl, ?_⟩
 refine DL_q rfl rfl (Zp F59_1 rfl rfl rfl ⟨rfl, ?_⟩)
 refine DL_q rfl rfl (Zw (E := (encInt .i64)) hS.drew A3 rfl rfl rfl (aa.sub (Sub.iso (Sub.snd (Sub.fst (Sub.refl _)) rfl)) rfl) ?_)
 intro ah ae
 obtain rfl : ah = Vi (u.Duration) := encInt_val.1 ae
 refine ⟨rfl, ?_⟩
 refine DL_q rfl rfl (Exec.add rfl rfl rfl ⟨rfl, ?_⟩)
 refine DL_done (Za rfl rfl (Zo (v := Vi (IntKind.i64.wrap (n.At + u.Duration))) rfl rfl (Zb (Ze (W_ret ?_)))))
 have au := Zu hm
 subst r
 refine ⟨_, ret1 rfl, ?_⟩
 exact ⟨s, (Zv _), ((((hS.drew).f3).f3).f3).f3, rfl⟩
theorem S30 : tySlice Tryz.prog 30 = some (49, 3, 24) := by kernel_rfl
theorem Z49 : tyZero Tryz.prog 49 = some (Value.agg #[Vi (0), Vi (0), Value.bool false]) := by kernel_rfl
theorem F34_3 : tyField Tryz.prog 34 3 = some 3 := by kernel_rfl
theorem F49_0 : tyField Tryz.prog 49 0 = some 0 := by kernel_rfl
theorem F49_2 : tyField Tryz.prog 49 2 = some 2 := by kernel_rfl
theorem F49_1 : tyField Tryz.prog 49 1 = some 1 := by kernel_rfl
theorem cmp_isNaN_int_sim {w0 w : World} {s : PHeap} {H : List Res} {a : Int}  {r : Bool} (hm : cmp_isNaN_int_p a = some r) (hS : St w0 s (H) w)  :
  Calls Tryz.prog 77 #[Vi (a)] w fun e w' => ∃ v, e = .returned v ∧ ((fun (c : Bool) => ∃ (b : PHeap) , PHeap.le s b ∧ St w0 b (H) w' ∧ v = Value.bool (c)) r) := by
 unfold cmp_isNaN_int_p at hm
 refine calls_of_W Tryz.func77 rfl rfl (Zc (Zd (Za rfl rfl (Zo (v := Value.bool (false)) rfl rfl (Zb (Ze (Zc (Zd (Za rfl rfl (Zm (v := Vi (a)) rfl rfl (Za rfl rfl (Zm (v := Vi (a)) rfl rfl (Za rfl rfl (Exec.neq rfl rfl rfl (Za rfl rfl (Zo (v := Value.bool (!decide (a = a))) rfl rfl (Zb (Ze (W_ret ?_)))))))))))))))))))
 have d := Zu hm
 subst r
 refine ⟨_, ret1 rfl, ?_⟩
 exact ⟨s, (Zv _), hS, rfl⟩
theorem cmp_Compare_int_sim {w0 w : World} {s : PHeap} {H : List Res} {b : Int} {a : Int}  {r : Int} (hm : cmp_Compare_int_p b a = some r) (hS : St w0 s (H) w)  :
  Calls Tryz.prog 47 #[Vi (b), Vi (a)] w fun e w' => ∃ v, e = .returned v ∧ ((fun (o : Int) => ∃ (m : PHeap) , PHeap.le s m ∧ St w0 m (H) w' ∧ v = Vi (o)) r) := by
 unfold cmp_Compare_int_p at hm
 refine calls_of_W Tryz.func47 rfl rfl (Zc (Zd (Za rfl rfl (Zo (v := Vi (0)) rfl rfl (Zb (Ze (Zc (Zd (Za rfl rfl (Zm (v := Vi (b)) rfl rfl (Za rfl rfl (Tc rfl rfl rfl (Zi rfl args_nil) (cmp_isNaN_int_sim (cmp_isNaN_int_tot b) hS ).r ?_))))))))))))
 rintro _ aa ⟨z, d, n, rfl⟩
 refine Za rfl rfl (Zo (v := Value.bool ((cmp_isNaN_int_t b))) rfl rfl (Zb (Ze (Zc (Zd (Za rfl rfl (Zm (v := Vi (a)) rfl rfl (Za rfl rfl (Tc rfl rfl rfl (Zi rfl args_nil) (cmp_isNaN_int_sim (cmp_isNaN_int_tot a) n ).r ?_)))))))))
 rintro _ ab ⟨g, f, c, rfl⟩
 refine Za rfl rfl (Zo (v := Value.bool ((cmp_isNaN_int_t a))) rfl rfl (Zb (Ze (Zc (Zc (Zd (Za rfl rfl (Zm (v := Value.bool ((cmp_isNaN_int_t b))) rfl rfl (Zb (Ze ?_))))))))))
 rcases ite_some hm with ⟨h, hm⟩ | ⟨h, hm⟩
 ·refine W_cond_t rfl h (Zc (Zc (Zd (Za rfl rfl (Zm (v := Value.bool ((cmp_isNaN_int_t a))) rfl rfl (Zb (Ze ?_)))))))
  rcases ite_some hm with ⟨i, hm⟩ | ⟨i, hm⟩
  ·refine W_cond_t rfl i (Zc (Zd (Za rfl rfl (Zo (v := Vi (0)) rfl rfl (Zb (Ze (W_ret (at_ret (at_ret ?_)))))))))
   have p := Zu hm
   subst r
   refine ⟨_, ret1 rfl, ?_⟩
   exact ⟨g, (Zt d f), c, rfl⟩
  refine W_cond_f rfl i ?_
  replace i := Zk i
  refine W_skip (Ze (Zc (Zd (Za rfl rfl (Zo (v := Vi ((-1))) rfl rfl (Zb (Ze (W_ret (at_ret ?_)))))))))
  have q := Zu hm
  subst r
  refine ⟨_, ret1 rfl, ?_⟩
  exact ⟨g, (Zt d f), c, rfl⟩
 refine W_cond_f rfl h ?_
 replace h := Zk h
 refine W_skip (Ze (Zc (Zc (Zd (Za rfl rfl (Zm (v := Value.bool ((cmp_isNaN_int_t a))) rfl rfl (Zb (Ze ?_))))))))
 rcases ite_some hm with ⟨j, hm⟩ | ⟨j, hm⟩
 ·refine W_cond_t rfl j (Zc (Zd (Za rfl rfl (Zo (v := Vi (1)) rfl rfl (Zb (Ze (W_ret (at_ret ?_))))))))
  have t := Zu hm
  subst r
  refine ⟨_, ret1 rfl, ?_⟩
  exact ⟨g, (Zt d f), c, rfl⟩
 refine W_cond_f rfl j ?_
 replace j := Zk j
 refine W_skip (Ze (Zc (Zc (Zd (Za rfl rfl (Zm (v := Vi (b)) rfl rfl (Za rfl rfl (Zm (v := Vi (a)) rfl rfl (Za rfl rfl (Zq rfl rfl rfl (Zb (Ze ?_))))))))))))
 rcases ite_some hm with ⟨k, hm⟩ | ⟨k, hm⟩
 ·refine W_cond_t rfl k (Zc (Zd (Za rfl rfl (Zo (v := Vi ((-1))) rfl rfl (Zb (Ze (W_ret (at_ret ?_))))))))
  have u := Zu hm
  subst r
  refine ⟨_, ret1 rfl, ?_⟩
  exact ⟨g, (Zt d f), c, rfl⟩
 refine W_cond_f rfl k ?_
 replace k := Zk k
 refine W_skip (Ze (Zc (Zc (Zd (Za rfl rfl (Zm (v := Vi (b)) rfl rfl (Za rfl rfl (Zm (v := Vi (a)) rfl rfl (Za rfl rfl (Exec.gtr rfl rfl rfl (Zb (Ze ?_))))))))))))
 rcases ite_some hm with ⟨l, hm⟩ | ⟨l, hm⟩
 ·refine W_cond_t rfl l (Zc (Zd (Za rfl rfl (Zo (v := Vi (1)) rfl rfl (Zb (Ze (W_ret (at_ret ?_))))))))
  have x := Zu hm
  subst r
  refine ⟨_, ret1 rfl, ?_⟩
  exact ⟨g, (Zt d f), c, rfl⟩
 refine W_cond_f rfl l ?_
 replace l := Zk l
 refine W_skip (Ze (Zc (Zd (Za rfl rfl (Zo (v := Vi (0)) rfl rfl (Zb (Ze (W_ret ?_))))))))
 have y := Zu hm
 subst r
 refine ⟨_, ret1 rfl, ?_⟩
 exact ⟨g, (Zt d f), c, rfl⟩
theorem simulate_rank_sim {w0 w : World} {s : PHeap} {H : List Res} {b : Bool}  {r : Int} (hm : simulate_rank_p b = some r) (hS : St w0 s (H) w)  :
  Calls Tryz.prog 48 #[Value.bool (b)] w fun e w' => ∃ v, e = .returned v ∧ ((fun (d : Int) => ∃ (c : PHeap) , PHeap.le s c ∧ St w0 c (H) w' ∧ v = Vi (d)) r) := by
 unfold simulate_rank_p at hm
 refine calls_of_W Tryz.func48 rfl rfl (Zc (Zd (Za rfl rfl (Zo (v := Vi (0)) rfl rfl (Zb (Ze (Zc (Zc (Zd (Za rfl rfl (Zm (v := Value.bool (b)) rfl rfl (Zb (Ze ?_)))))))))))))
 rcases ite_some hm with ⟨a, hm⟩ | ⟨a, hm⟩
 ·refine W_cond_t rfl a (Zc (Zd (Za rfl rfl (Zo (v := Vi (0)) rfl rfl (Zb (Ze (W_ret (at_ret ?_))))))))
  have f := Zu hm
  subst r
  refine ⟨_, ret1 rfl, ?_⟩
  exact ⟨s, (Zv _), hS, rfl⟩
 refine W_cond_f rfl a ?_
 replace a := Zk a
 refine W_skip (Ze (Zc (Zd (Za rfl rfl (Zo (v := Vi (1)) rfl rfl (Zb (Ze (W_ret ?_))))))))
 have g := Zu hm
 subst r
 refine ⟨_, ret1 rfl, ?_⟩
 exact ⟨s, (Zv _), hS, rfl⟩
theorem cmp_Or_int_sim {w0 w : World} {s : PHeap} {H : List Res} {d : (List Int)} {c : Value} {r : Int} (hm : cmp_Or_int_p d = some r) (hS : St w0 s (H) w) (i : SliceRep (encInt .i64) s c d) :
  Calls Tryz.prog 46 #[c] w fun e w' => ∃ v, e = .returned v ∧ ((fun (a3 : Int) => ∃ (y : PHeap) , PHeap.le s y ∧ St w0 y (H) w' ∧ v = Vi (a3)) r) := by
 unfold cmp_Or_int_p at hm
 refine calls_of_W Tryz.func46 rfl rfl (Zc (Zd (Za rfl rfl (Zo (v := Vi (0)) rfl rfl (Zb (Ze (Zc (Zd (Za rfl rfl (Zo (v := Vi (0)) rfl rfl (Zb (Ze (Zc (Zc (Zd (Za rfl rfl (Zm (v := c) rfl rfl (Za rfl rfl (Zr S22 rfl rfl i (Za rfl rfl (Zm (v := Vi (0)) rfl rfl (Zb (Ze ?_)))))))))))))))))))))))
 obtain ⟨n, ad, an, al, aj⟩ := ctl_some hm
 refine W_mid (M := fun f' w' => ∃ s', (n = .next s' ∨ n = .brk s') ∧ (fun (_ : Unit) => ∃ (z : PHeap) , PHeap.le s z ∧ St w0 z (H) w' ∧ f' 3 = Vi (0) ∧ f' 6 = c ∧ f' 7 = Vi ((d.length : Int))) s') ?_ ?_
 ·refine W_block (W_forC (fun k' s' f' w' => (fun (_ : Unit) => ∃ (aa : PHeap) , PHeap.le s aa ∧ St w0 aa (H) w' ∧ f' 3 = Vi (0) ∧ f' 6 = c ∧ f' 7 = Vi ((d.length : Int)) ∧ f' 8 = Vi (k' : Int)) s') ad ?_ ?_ ?_)
  ·exact ⟨s, (Zv _), hS, rfl, rfl, rfl, rfl⟩
  ·intro aq aF o a9 aJ ak ae a ao
   obtain ⟨ab, l, j, q, t, u, m⟩ := ae
   refine Zc (Zd (Za rfl rfl (Zq rfl m u (Zb (Ze (Zc (W_true (Zx (decide_eq_true (by omega))) (W_skip (Ze (Zc (W_block (Zc (Zd ?_)))))))))))))
   obtain ⟨g, ay, a⟩ := Zg a
   refine Za rfl rfl (Exec.index_rep S22 rfl t m (i.mono l) ay ?_)
   intro a4 aC ac
   refine Za rfl rfl (Zw (E := (encInt .i64)) j A3 rfl rfl rfl ac ?_)
   intro aI az
   obtain rfl := encInt_val.1 az
   refine Za rfl rfl (Zo (v := Vi (g)) rfl rfl (Zb (Ze (Zc (Zd (Za rfl rfl (Zm (v := Vi (g)) rfl rfl (Za rfl rfl (Zm (v := Vi (0)) rfl q (Za rfl rfl (Exec.neq rfl rfl rfl (Zb (Ze ?_)))))))))))))
   rcases ite_some a with ⟨b, a⟩ | ⟨b, a⟩
   ·refine W_cond_t rfl b (Zc (Zd (Za rfl rfl (Zm (v := Vi (g)) rfl rfl (Za rfl rfl (Zo (v := Vi (g)) rfl rfl (Zb (Ze (W_ret (ib_ret (at_ret (at_ret (ib_ret (at_ret (at_ret ?_)))))))))))))))
    have a5 := Zu a
    subst o
    have am := an _ (ao (by intro _ h; cases h))
    have a6 := Zu am
    subst r
    refine ⟨_, ret1 rfl, ?_⟩
    exact ⟨ab, l, j, rfl⟩
   refine W_cond_f rfl b ?_
   replace b := Zk b
   refine W_skip (ib_normal (Ze (Zd (Za rfl rfl (Exec.add rfl m rfl (Za rfl rfl (Zm (v := Vi (IntKind.i64.wrap ((aq : Int) + 1))) rfl rfl (Zb (Ze ?_)))))))))
   have a7 := Zu a
   subst o
   refine ⟨_, rfl, ?_⟩; exact ⟨ab, l, j, q, t, u, (Eq.trans rfl (wrap_up ak (SliceRep.le i)))⟩
  intro aG aA aK af ap
  obtain ⟨a0, ar, ah, av, aw, x, a2⟩ := af
  refine Zc (Zd (Za rfl rfl (Zq rfl a2 x (Zb (Ze (Zc (W_false (Zx (decide_eq_false (by omega))) (W_exit (at_exit (at_exit (ib_here (Ze ?_))))))))))))
  refine ⟨_, .inl ap, ?_⟩; exact ⟨a0, ar, ah, av, aw, x⟩
 rintro aB aL ⟨aH, p, ag⟩
 have hm := p.elim (al _) (aj _)
 clear p
 obtain ⟨a1, au, ai, ax, aD, aE⟩ := ag
 refine (Ze (Zc (Zd (Za rfl rfl (Zm (v := Vi (0)) rfl ax (Za rfl rfl (Zo (v := Vi (0)) rfl rfl (Zb (Ze (W_ret ?_))))))))))
 have a8 := Zu hm
 subst r
 refine ⟨_, ret1 rfl, ?_⟩
 exact ⟨a1, au, ai, rfl⟩
theorem simulate_run_events_c1_sim {w0 w : World} {s : PHeap} {H : List Res} {a : simulate_Event} {b : simulate_Event}  {r : Int} (hm : simulate_run_events_c1_p a b = some r) (hS : St w0 s (H) w)  :
  Calls Tryz.prog 45 #[Value.agg #[Vi (a.At), Vi (a.Launch), Value.bool (a.End)], Value.agg #[Vi (b.At), Vi (b.Launch), Value.bool (b.End)]] w fun e w' => ∃ v, e = .returned v ∧ ((fun (ag : Int) => ∃ (j : PHeap) , PHeap.le s j ∧ St w0 j (H) w' ∧ v = Vi (ag)) r) := by
 unfold simulate_run_events_c1_p at hm
 refine calls_of_W Tryz.func45 rfl rfl (Zc (Zd (Za rfl rfl (Exec.box (cs := [Vi (a.At), Vi (a.Launch), Value.bool (a.End)]) hS rfl rfl rfl ?_))))
 intro ai au k
 refine Za rfl rfl (Exec.box (cs := [Vi (b.At), Vi (b.Launch), Value.bool (b.End)]) k rfl rfl rfl ?_)
 intro aj av l
 refine Za rfl rfl (Zo (v := Vi (0)) rfl rfl (Zb (Ze (Zc (W_dl (n0 := 19) (qs 0 4 (.q 5 (.q 6 (.q 8 (.q 9 (qs 12 4 (.e 4 [5, 6, 8, 9, 12, 13, 14, 15] (.e 7 [8, 9, 12, 13, 14, 15] (.e 10 [12, 13, 14, 15] (.e 11 [12, 13, 14, 15] (.e 16 [] (.e 17 [] (.e 18 [] .done))))))))))))) hmix (by kernel_rfl) (by kernel_rfl) ?_)))))
 have d := l.drew
 refine DL_q rfl rfl (Zp F49_0 rfl rfl rfl ⟨rfl, ?_⟩)
 refine DL_q rfl rfl (Zn ((d).f1) A3 rfl rfl rfl ⟨rfl, ?_⟩)
 refine DL_q rfl rfl (Zp F49_0 rfl rfl rfl ⟨rfl, ?_⟩)
 refine DL_q rfl rfl (Zn (d) A3 rfl rfl rfl ⟨rfl, ?_⟩)
 refine DL_q rfl rfl (Zp F49_2 rfl rfl rfl ⟨rfl, ?_⟩)
 refine DL_q rfl rfl (Zn ((d).f1) A4 rfl rfl rfl ⟨rfl, ?_⟩)
 refine DL_q rfl rfl (Zp F49_2 rfl rfl rfl ⟨rfl, ?_⟩)
 refine DL_q rfl rfl (Zn (d) A4 rfl rfl rfl ⟨rfl, ?_⟩)
 refine DL_q rfl rfl (Zp F49_1 rfl rfl rfl ⟨rfl, ?_⟩)
 refine DL_q rfl rfl (Zn ((d).f1) A3 rfl rfl rfl ⟨rfl, ?_⟩)
 refine DL_q rfl rfl (Zp F49_1 rfl rfl rfl ⟨rfl, ?_⟩)
 refine DL_q rfl rfl (Zn (d) A3 rfl rfl rfl ⟨rfl, ?_⟩)
 refine DL_e rfl rfl (Tc rfl rfl rfl (Zi rfl (Zi rfl args_nil)) (cmp_Compare_int_sim (cmp_Compare_int_tot a.At b.At) d ).r ?_)
 rintro _ aw ⟨am, u, f, rfl⟩
 refine ⟨(ag_cons (ag_r rfl rfl (Zp F49_2 rfl rfl rfl ⟨rfl, rfl⟩)) (ag_cons (ag_r rfl rfl (Zn ((f).f1) A4 rfl rfl rfl ⟨rfl, rfl⟩)) (ag_cons (ag_r rfl rfl (Zp F49_2 rfl rfl rfl ⟨rfl, rfl⟩)) (ag_cons (ag_r rfl rfl (Zn (f) A4 rfl rfl rfl ⟨rfl, rfl⟩)) (ag_cons (ag_r rfl rfl (Zp F49_1 rfl rfl rfl ⟨rfl, rfl⟩)) (ag_cons (ag_r rfl rfl (Zn ((f).f1) A3 rfl rfl rfl ⟨rfl, rfl⟩)) (ag_cons (ag_r rfl rfl (Zp F49_1 rfl rfl rfl ⟨rfl, rfl⟩)) (ag_cons (ag_r rfl rfl (Zn (f) A3 rfl rfl rfl ⟨rfl, rfl⟩)) ag_nil)))))))), ?_⟩
 refine DL_e rfl rfl (Tc rfl rfl rfl (Zi rfl args_nil) (simulate_rank_sim (simulate_rank_tot a.End) f ).r ?_)
 rintro _ ax ⟨an, x, g, rfl⟩
 refine ⟨(ag_cons (ag_r rfl rfl (Zp F49_2 rfl rfl rfl ⟨rfl, rfl⟩)) (ag_cons (ag_r rfl rfl (Zn (g) A4 rfl rfl rfl ⟨rfl, rfl⟩)) (ag_cons (ag_r rfl rfl (Zp F49_1 rfl rfl rfl ⟨rfl, rfl⟩)) (ag_cons (ag_r rfl rfl (Zn ((g).f1) A3 rfl rfl rfl ⟨rfl, rfl⟩)) (ag_cons (ag_r rfl rfl (Zp F49_1 rfl rfl rfl ⟨rfl, rfl⟩)) (ag_cons (ag_r rfl rfl (Zn (g) A3 rfl rfl rfl ⟨rfl, rfl⟩)) ag_nil)))))), ?_⟩
 refine DL_e rfl rfl (Tc rfl rfl rfl (Zi rfl args_nil) (simulate_rank_sim (simulate_rank_tot b.End) g ).r ?_)
 rintro _ ay ⟨ao, y, h, rfl⟩
 refine ⟨(ag_cons (ag_r rfl rfl (Zp F49_1 rfl rfl rfl ⟨rfl, rfl⟩)) (ag_cons (ag_r rfl rfl (Zn ((h).f1) A3 rfl rfl rfl ⟨rfl, rfl⟩)) (ag_cons (ag_r rfl rfl (Zp F49_1 rfl rfl rfl ⟨rfl, rfl⟩)) (ag_cons (ag_r rfl rfl (Zn (h) A3 rfl rfl rfl ⟨rfl, rfl⟩)) ag_nil)))), ?_⟩
 refine DL_e rfl rfl (Tc rfl rfl rfl (Zi rfl (Zi rfl args_nil)) (cmp_Compare_int_sim (cmp_Compare_int_tot (simulate_rank_t a.End) (simulate_rank_t b.End)) h ).r ?_)
 rintro _ az ⟨ap, z, i, rfl⟩
 refine ⟨(ag_cons (ag_r rfl rfl (Zp F49_1 rfl rfl rfl ⟨rfl, rfl⟩)) (ag_cons (ag_r rfl rfl (Zn ((i).f1) A3 rfl rfl rfl ⟨rfl, rfl⟩)) (ag_cons (ag_r rfl rfl (Zp F49_1 rfl rfl rfl ⟨rfl, rfl⟩)) (ag_cons (ag_r rfl rfl (Zn (i) A3 rfl rfl rfl ⟨rfl, rfl⟩)) ag_nil)))), ?_⟩
 refine DL_e rfl rfl (Tc rfl rfl rfl (Zi rfl (Zi rfl args_nil)) (cmp_Compare_int_sim (cmp_Compare_int_tot a.Launch b.Launch) i ).r ?_)
 rintro _ a0 ⟨aq, aa, m, rfl⟩
 refine ⟨ag_nil, ?_⟩
 refine DL_e rfl rfl (Exec.buildSlice (Te := 3) (cs := [Vi ((cmp_Compare_int_t a.At b.At)), Vi ((cmp_Compare_int_t (simulate_rank_t a.End) (simulate_rank_t b.End))), Vi ((cmp_Compare_int_t a.Launch b.Launch))]) m rfl (parts_cons (c := [Vi ((cmp_Compare_int_t a.At b.At))]) (cells_of rfl rfl) (parts_cons (c := [Vi ((cmp_Compare_int_t (simulate_rank_t a.End) (simulate_rank_t b.End)))]) (cells_of rfl rfl) (parts_cons (c := [Vi ((cmp_Compare_int_t a.Launch b.Launch))]) (cells_of rfl rfl) parts_nil))) (fun _ => by kernel_rfl) ?_)
 intro ak a1 n
 refine ⟨ag_nil, ?_⟩
 have o := St.boxArr (E := (encInt .i64)) (xs := [(cmp_Compare_int_t a.At b.At), (cmp_Compare_int_t (simulate_rank_t a.End) (simulate_rank_t b.End)), (cmp_Compare_int_t a.Launch b.Launch)]) n ⟨[Vi ((cmp_Compare_int_t a.At b.At))], [Vi ((cmp_Compare_int_t (simulate_rank_t a.End) (simulate_rank_t b.End))), Vi ((cmp_Compare_int_t a.Launch b.Launch))], rfl, rfl, ⟨[Vi ((cmp_Compare_int_t (simulate_rank_t a.End) (simulate_rank_t b.End)))], [Vi ((cmp_Compare_int_t a.Launch b.Launch))], rfl, rfl, ⟨[Vi ((cmp_Compare_int_t a.Launch b.Launch))], [], rfl, rfl, rfl⟩⟩⟩ (by simp [maxLen])
 obtain ⟨ar, ab, p, ae⟩ := o.freezeArr
 obtain ⟨ah, ad, hm⟩ := Zg hm
 refine DL_e rfl rfl (Tc rfl rfl rfl (Zi rfl args_nil) (cmp_Or_int_sim ad p ae).r ?_)
 rintro _ a2 ⟨af, ac, t, rfl⟩
 refine ⟨ag_nil, ?_⟩
 refine DL_done (Za rfl rfl (Zo (v := Vi (ah)) rfl rfl (Zb (Ze (W_ret ?_)))))
 have al := Zu hm
 subst r
 refine ⟨_, ret1 rfl, ?_⟩
 exact ⟨af, (Zt (Zt (Zt (Zt (Zt (Zt u x) y) z) aa) ab) ac), ((t).drop).drop, rfl⟩
end Go.Pw
