/-
  The walks (printed by my generator).
-/
import Derived.Test.YtkfcbmecmdpilaaL29
import Derived.Test.YtkfcbmecmdpilaaL27
import Derived.Test.YtkfcbmecmdpilaaSs5
set_option maxRecDepth 100000
set_option maxHeartbeats 4000000
set_option linter.unusedVariables false
namespace Go.Pw
open Go.Proofs
theorem ref19_Simplify_sim {w0 w : World} {s : PHeap} {H : List Res} {fu : Nat} {aV : Ground} {ab : Value} {ac : Value} {ad : Value} {ae : Value} {af : Value} {r : Bool × Ground × ref19_Map} (hm : ref19_Simplify_p fu aV = some r) (hS : St w0 s (H) w) (bk : SliceRep encAtom s ab aV.Atoms) (bl : SliceRep encGFluent s ac aV.Fluents) (bO : SliceRep (encInt .i64) s ad aV.Init) (bm : SliceRep encCond s ae aV.Goal) (aU : SliceRep encGOp s af aV.Ops) :
  Calls Try.prog 13 #[Value.agg #[ab, ac, ad, ae, af]] w fun e w' => ∃ v, e = .returned v ∧ ((un3 fun (hN : Bool) (bL : Ground) (cS : ref19_Map) => ∃ (ay : PHeap) (dO : Value) (dP : Value) (dQ : Value) (dR : Value) (dS : Value) (dT : Value) (dU : Value) (dV : Value), PHeap.le s ay ∧ St w0 ay (H) w' ∧ v = Value.tuple #[Value.agg #[dO, dP, dQ, dR, dS], Value.agg #[dT, dU, dV], Value.bool (hN)] ∧ SliceRep encAtom ay dO bL.Atoms ∧ SliceRep encGFluent ay dP bL.Fluents ∧ SliceRep (encInt .i64) ay dQ bL.Init ∧ SliceRep encCond ay dR bL.Goal ∧ SliceRep encGOp ay dS bL.Ops ∧ SliceRep (encInt .i64) ay dT cS.Atoms ∧ SliceRep (encInt .i64) ay dU cS.Fluents ∧ SliceRep (encInt .i64) ay dV cS.Ops) r) := by
 unfold ref19_Simplify_p at hm
 refine calls_of_W Try.func13 rfl rfl (Zc (Zd (Za rfl rfl (Exec.box (cs := [ab, ac, ad, ae, af]) hS rfl rfl rfl ?_))))
 intro d jE e6
 refine Za rfl rfl (Exec.alloc (cs := [Value.slice none 0 0, Value.slice none 0 0, Value.slice none 0 0, Value.slice none 0 0, Value.slice none 0 0]) e6 Z28 rfl rfl ?_)
 intro g jF e7
 refine Za rfl rfl (Exec.alloc (cs := [Value.slice none 0 0, Value.slice none 0 0, Value.slice none 0 0]) e7 Z37 rfl rfl ?_)
 intro i jG db
 refine Za rfl rfl (Zo (v := Value.bool (false)) rfl rfl (Zb (Ze (Zc (Zc (Zd (Za rfl rfl (Exec.load_box_agg (ds := [ab, ac, ad, ae, af]) ((db).f2) A28 rfl rfl rfl ?_))))))))
 obtain ⟨kH, gy, hm⟩ := Zg hm
 refine Za rfl rfl (Tc rfl rfl rfl (Zi rfl args_nil) (ref18_Valid_sim gy db bk bl bO bm aU).r ?_)
 rintro _ jH ⟨hw, x, co, rfl⟩
 refine Za rfl rfl (Exec.not rfl rfl (Zb (Ze ?_)))
 rcases ite_some hm with ⟨bq, hm⟩ | ⟨bq, hm⟩
 ·refine W_cond_t rfl bq (Zc (Zd (Za rfl rfl (Exec.build rfl parts_nil (v := Value.agg #[Value.slice none 0 0, Value.slice none 0 0, Value.slice none 0 0, Value.slice none 0 0, Value.slice none 0 0]) (fun _ => by kernel_rfl) (Za rfl rfl (Exec.build rfl parts_nil (v := Value.agg #[Value.slice none 0 0, Value.slice none 0 0, Value.slice none 0 0]) (fun _ => by kernel_rfl) (Za rfl rfl (Exec.store_box (ds := [Value.slice none 0 0, Value.slice none 0 0, Value.slice none 0 0, Value.slice none 0 0, Value.slice none 0 0]) (es := [Value.slice none 0 0, Value.slice none 0 0, Value.slice none 0 0, Value.slice none 0 0, Value.slice none 0 0]) (co).f1 A28 rfl rfl rfl rfl (Zj rfl (Zj rfl (Zj rfl (Zj rfl (Zj rfl one_nil))))) (Nat.le_of_ble_eq_true rfl) rfl ?_))))))))
  intro jI e8
  refine Za rfl rfl (Exec.store_box (ds := [Value.slice none 0 0, Value.slice none 0 0, Value.slice none 0 0]) (es := [Value.slice none 0 0, Value.slice none 0 0, Value.slice none 0 0]) (e8).f1 A37 rfl rfl rfl rfl (Zj rfl (Zj rfl (Zj rfl one_nil))) (Nat.le_of_ble_eq_true rfl) rfl ?_)
  intro jJ cp
  refine Za rfl rfl (Zo (v := Value.bool (false)) rfl rfl (Zb (Ze (W_ret (at_ret ?_)))))
  have il := Zu hm
  subst r
  refine ⟨_, retG3 rfl ⟨_, _, rfl, cellRes ((cp).f1) A28⟩ ⟨_, _, rfl, cellRes (cp) A37⟩ rfl, ?_⟩
  exact ⟨hw, (Value.slice none 0 0), (Value.slice none 0 0), (Value.slice none 0 0), (Value.slice none 0 0), (Value.slice none 0 0), (Value.slice none 0 0), (Value.slice none 0 0), (Value.slice none 0 0), x, (((cp).drop).drop).drop, (tup3 rfl rfl rfl), (SliceRep.nil _ _), (SliceRep.nil _ _), (SliceRep.nil _ _), (SliceRep.nil _ _), (SliceRep.nil _ _), (SliceRep.nil _ _), (SliceRep.nil _ _), (SliceRep.nil _ _)⟩
 refine W_cond_f rfl bq ?_
 replace bq := Zk bq
 refine W_skip (Ze (Zc (Zd (Za rfl rfl (Exec.load_box_agg (ds := [ab, ac, ad, ae, af]) ((co).f2) A28 rfl rfl rfl ?_)))))
 obtain ⟨kI, gz, hm⟩ := Zg hm
 refine Za rfl rfl (Tc rfl rfl rfl (Zi rfl args_nil) (ref19_Relevant_sim gz co (bk.mono x) (bl.mono x) (bO.mono x) (bm.mono x) (aU.mono x)).r ?_)
 rintro _ jK ⟨hx, ah, ai, aj, e9, rfl, bi, aI⟩
 refine Za rfl rfl (Exec.alloc (cs := [Value.slice none 0 0, Value.slice none 0 0]) e9 Z64 rfl rfl ?_)
 intro j jL eA
 refine Za rfl rfl (Exec.store_box (ds := [ah, ai]) (es := [ah, ai]) eA A64 rfl rfl rfl rfl (Zj (bi).one (Zj (aI).one one_nil)) (Nat.le_of_ble_eq_true rfl) rfl ?_)
 intro jM bP
 refine Zb (Ze (Zc ?_))
 obtain ⟨hO, dA, hm⟩ := Zg hm
 obtain ⟨hP, cD, hm⟩ := Zg hm
 refine W_mid (M := fun f' w' => ∃ (cb : PHeap) (n : Value) (o : Value) (b : Nat), PHeap.le hx cb ∧ St w0 cb (Res.box d 28 [ab, ac, ad, ae, af] :: Res.box g 28 [Value.slice none 0 0, Value.slice none 0 0, Value.slice none 0 0, Value.slice none 0 0, Value.slice none 0 0] :: Res.box i 37 [Value.slice none 0 0, Value.slice none 0 0, Value.slice none 0 0] :: Res.box j 64 [ah, ai] :: Res.box b 37 [n, o, Value.slice none 0 0] :: H) w' ∧ f' 1 = Value.pointer (some ⟨d, 0, none⟩) ∧ f' 2 = Value.pointer (some ⟨g, 0, none⟩) ∧ f' 3 = Value.pointer (some ⟨i, 0, none⟩) ∧ f' 5 = Value.pointer (some ⟨j, 0, none⟩) ∧ f' 6 = Value.pointer (some ⟨b, 0, none⟩) ∧ SliceRep (encInt .i64) cb n hO ∧ SliceRep (encInt .i64) cb o hP) ?_ ?_
 ·refine W_dl (n0 := 8) (.q 0 (.q 1 (.q 3 (.q 4 (.alt (.e 2 [3, 4] (.alt (.e 5 [] (.q 6 (.e 7 [6] .done))) (.e 7 [3, 4] (.e 5 [] (.q 6 .done))))) (.e 7 [0, 1, 3, 4] (.e 2 [3, 4] (.e 5 [] (.q 6 .done))))))))) hmix (by kernel_rfl) (by kernel_rfl) (DL_q rfl rfl (Zp F64_0 rfl rfl rfl ⟨rfl, ?_⟩))
  refine DL_q rfl rfl (Zn (bP.drew) A60 rfl rfl rfl ⟨rfl, ?_⟩)
  refine DL_q rfl rfl (Zp F64_1 rfl rfl rfl ⟨rfl, ?_⟩)
  refine DL_q rfl rfl (Zn (bP.drew) A60 rfl rfl rfl ⟨rfl, ?_⟩)
  refine DL_alt ?_ ?_
  ·refine DL_e rfl rfl (Tc rfl rfl rfl (Zi rfl args_nil) (ref19_numbers_sim dA bP.drew bi).r ?_)
   rintro ao jN ⟨jn, _, bQ, cq, rfl, aJ⟩
   refine ⟨(ag_cons (ag_r rfl rfl (Zp F64_1 rfl rfl rfl ⟨rfl, rfl⟩)) (ag_cons (ag_r rfl rfl (Zn (cq) A60 rfl rfl rfl ⟨rfl, rfl⟩)) ag_nil)), ?_⟩
   refine DL_alt ?_ ?_
   ·refine DL_e rfl rfl (Tc rfl rfl rfl (Zi rfl args_nil) (ref19_numbers_sim cD cq (aI.mono bQ)).r ?_)
    rintro aK jO ⟨hy, _, b1, eB, rfl, ca⟩
    refine ⟨ag_nil, ?_⟩
    refine DL_q rfl rfl (Exec.build rfl (parts_cons (c := [ao]) (cells_of rfl (cells_one ((aJ.mono b1)).one)) (parts_cons (c := [aK]) (cells_of rfl (cells_one (ca).one)) parts_nil)) (v := Value.agg #[ao, aK, Value.slice none 0 0]) (fun _ => by kernel_rfl) ⟨rfl, ?_⟩)
    refine DL_e rfl rfl (Exec.alloc (cs := [Value.slice none 0 0, Value.slice none 0 0, Value.slice none 0 0]) eB Z37 rfl rfl ?_)
    intro ek jP eC
    refine ⟨(ag_cons (ag_r rfl rfl (Exec.build rfl (parts_cons (c := [ao]) (cells_of rfl (cells_one ((aJ.mono b1)).one)) (parts_cons (c := [aK]) (cells_of rfl (cells_one (ca).one)) parts_nil)) (v := Value.agg #[ao, aK, Value.slice none 0 0]) (fun _ => by kernel_rfl) ⟨rfl, rfl⟩)) ag_nil), ?_⟩
    refine DL_done (Za rfl rfl (Exec.store_box (ds := [ao, aK, Value.slice none 0 0]) (es := [ao, aK, Value.slice none 0 0]) eC A37 rfl rfl rfl rfl (Zj ((aJ.mono b1)).one (Zj (ca).one (Zj rfl one_nil))) (Nat.le_of_ble_eq_true rfl) rfl ?_))
    intro jQ eD
    refine Zb (Ze ?_)
    exact ⟨hy, ao, aK, ek, (Zt bQ b1), ((((eD).f1).f2).f3).f4, rfl, rfl, rfl, rfl, rfl, (aJ.mono b1), ca⟩
   refine DL_e rfl rfl (Exec.alloc (cs := [Value.slice none 0 0, Value.slice none 0 0, Value.slice none 0 0]) cq Z37 rfl rfl ?_)
   intro el jR dc
   refine ⟨(ag_cons (ag_r rfl rfl (Zp F64_1 rfl rfl rfl ⟨rfl, rfl⟩)) (ag_cons (ag_r rfl rfl (Zn ((dc).f1) A60 rfl rfl rfl ⟨rfl, rfl⟩)) ag_nil)), ?_⟩
   refine DL_e rfl rfl (Tc rfl rfl rfl (Zi rfl args_nil) (ref19_numbers_sim cD dc (aI.mono bQ)).r ?_)
   rintro bD jS ⟨hz, _, bR, eE, rfl, cE⟩
   refine ⟨ag_nil, ?_⟩
   refine DL_q rfl rfl (Exec.build rfl (parts_cons (c := [ao]) (cells_of rfl (cells_one ((aJ.mono bR)).one)) (parts_cons (c := [bD]) (cells_of rfl (cells_one (cE).one)) parts_nil)) (v := Value.agg #[ao, bD, Value.slice none 0 0]) (fun _ => by kernel_rfl) ⟨rfl, ?_⟩)
   refine DL_done (Za rfl rfl (Exec.store_box (ds := [ao, bD, Value.slice none 0 0]) (es := [ao, bD, Value.slice none 0 0]) eE A37 rfl rfl rfl rfl (Zj ((aJ.mono bR)).one (Zj (cE).one (Zj rfl one_nil))) (Nat.le_of_ble_eq_true rfl) rfl ?_))
   intro jT eF
   refine Zb (Ze ?_)
   exact ⟨hz, ao, bD, el, (Zt bQ bR), ((((eF).f1).f2).f3).f4, rfl, rfl, rfl, rfl, rfl, (aJ.mono bR), cE⟩
  refine DL_e rfl rfl (Exec.alloc (cs := [Value.slice none 0 0, Value.slice none 0 0, Value.slice none 0 0]) bP.drew Z37 rfl rfl ?_)
  intro em jU cr
  refine ⟨(ag_cons (ag_r rfl rfl (Zp F64_0 rfl rfl rfl ⟨rfl, rfl⟩)) (ag_cons (ag_r rfl rfl (Zn ((cr).f1) A60 rfl rfl rfl ⟨rfl, rfl⟩)) (ag_cons (ag_r rfl rfl (Zp F64_1 rfl rfl rfl ⟨rfl, rfl⟩)) (ag_cons (ag_r rfl rfl (Zn ((cr).f1) A60 rfl rfl rfl ⟨rfl, rfl⟩)) ag_nil)))), ?_⟩
  refine DL_e rfl rfl (Tc rfl rfl rfl (Zi rfl args_nil) (ref19_numbers_sim dA cr bi).r ?_)
  rintro bE jV ⟨jo, _, dw, dd, rfl, cF⟩
  refine ⟨(ag_cons (ag_r rfl rfl (Zp F64_1 rfl rfl rfl ⟨rfl, rfl⟩)) (ag_cons (ag_r rfl rfl (Zn ((dd).f1) A60 rfl rfl rfl ⟨rfl, rfl⟩)) ag_nil)), ?_⟩
  refine DL_e rfl rfl (Tc rfl rfl rfl (Zi rfl args_nil) (ref19_numbers_sim cD dd (aI.mono dw)).r ?_)
  rintro bF jW ⟨h0, _, bS, eG, rfl, cG⟩
  refine ⟨ag_nil, ?_⟩
  refine DL_q rfl rfl (Exec.build rfl (parts_cons (c := [bE]) (cells_of rfl (cells_one ((cF.mono bS)).one)) (parts_cons (c := [bF]) (cells_of rfl (cells_one (cG).one)) parts_nil)) (v := Value.agg #[bE, bF, Value.slice none 0 0]) (fun _ => by kernel_rfl) ⟨rfl, ?_⟩)
  refine DL_done (Za rfl rfl (Exec.store_box (ds := [bE, bF, Value.slice none 0 0]) (es := [bE, bF, Value.slice none 0 0]) eG A37 rfl rfl rfl rfl (Zj ((cF.mono bS)).one (Zj (cG).one (Zj rfl one_nil))) (Nat.le_of_ble_eq_true rfl) rfl ?_))
  intro jX eH
  refine Zb (Ze ?_)
  exact ⟨h0, bE, bF, em, (Zt dw bS), ((((eH).f1).f2).f3).f4, rfl, rfl, rfl, rfl, rfl, (cF.mono bS), cG⟩
 intro iC jY ex
 obtain ⟨cH, n, o, b, y, eI, fD, fE, fF, fG, fH, aZ, b0⟩ := ex
 refine (Ze (Zc (Zd (Za rfl rfl (Exec.alloc (cs := [Value.slice none 0 0, Value.slice none 0 0, Value.slice none 0 0, Value.slice none 0 0, Value.slice none 0 0]) eI Z28 rfl rfl ?_)))))
 intro p jZ eJ
 refine Zb (Ze (Zc (Zc (Zd (Za rfl rfl (Zo (v := Vi (0)) rfl rfl (Zb (Ze ?_))))))))
 obtain ⟨cU, en, iP, fo, fk⟩ := ctl_some hm
 refine W_mid (M := fun f' w' => ∃ s', (cU = .next s' ∨ cU = .brk s') ∧ (un3 fun (dr : Int) (a0 : (List Atom)) (a1 : (List Int)) => ∃ (dB : PHeap) (k : Value) (l : Value), PHeap.le cH dB ∧ St w0 dB (Res.box d 28 [ab, ac, ad, ae, af] :: Res.box g 28 [Value.slice none 0 0, Value.slice none 0 0, Value.slice none 0 0, Value.slice none 0 0, Value.slice none 0 0] :: Res.box i 37 [Value.slice none 0 0, Value.slice none 0 0, Value.slice none 0 0] :: Res.box j 64 [ah, ai] :: Res.box b 37 [n, o, Value.slice none 0 0] :: Res.box p 28 [k, Value.slice none 0 0, l, Value.slice none 0 0, Value.slice none 0 0] :: Res.arr encAtom 56 k a0 :: Res.arr (encInt .i64) 3 l a1 :: H) w' ∧ f' 1 = Value.pointer (some ⟨d, 0, none⟩) ∧ f' 2 = Value.pointer (some ⟨g, 0, none⟩) ∧ f' 3 = Value.pointer (some ⟨i, 0, none⟩) ∧ f' 5 = Value.pointer (some ⟨j, 0, none⟩) ∧ f' 6 = Value.pointer (some ⟨b, 0, none⟩) ∧ f' 7 = Value.pointer (some ⟨p, 0, none⟩) ∧ f' 8 = Vi (dr)) s') ?_ ?_
 ·refine W_block (W_while (fun s' f' w' => (un3 fun (ar : Int) (dW : (List Atom)) (dX : (List Int)) => ∃ (dC : PHeap) (bG : Value) (aL : Value), PHeap.le cH dC ∧ St w0 dC (Res.box d 28 [ab, ac, ad, ae, af] :: Res.box g 28 [Value.slice none 0 0, Value.slice none 0 0, Value.slice none 0 0, Value.slice none 0 0, Value.slice none 0 0] :: Res.box i 37 [Value.slice none 0 0, Value.slice none 0 0, Value.slice none 0 0] :: Res.box j 64 [ah, ai] :: Res.box b 37 [n, o, Value.slice none 0 0] :: Res.box p 28 [bG, Value.slice none 0 0, aL, Value.slice none 0 0, Value.slice none 0 0] :: Res.arr encAtom 56 bG dW :: Res.arr (encInt .i64) 3 aL dX :: H) w' ∧ f' 1 = Value.pointer (some ⟨d, 0, none⟩) ∧ f' 2 = Value.pointer (some ⟨g, 0, none⟩) ∧ f' 3 = Value.pointer (some ⟨i, 0, none⟩) ∧ f' 5 = Value.pointer (some ⟨j, 0, none⟩) ∧ f' 6 = Value.pointer (some ⟨b, 0, none⟩) ∧ f' 7 = Value.pointer (some ⟨p, 0, none⟩) ∧ f' 8 = Vi (ar)) s') en ?_ ?_)
  ·have eK := eJ.nilArr encAtom 56
   have eL := eK.nilArr (encInt .i64) 3
   exact ⟨cH, (Value.slice none 0 0), (Value.slice none 0 0), (Zv _), (((((((eL).f1).f2).f7).f7).f7).f7).f7, fD, fE, fF, fG, fH, rfl, rfl⟩
  intro hB cV iD ka et al fs
  obtain ⟨ar, dW, dX⟩ := hB
  replace al := un3_eq al
  obtain ⟨cI, bG, aL, aD, a2, aF, bU, bV, b8, b9, ax, a6⟩ := et
  refine Zc (Zc (Zd (Za rfl rfl (Zm (v := Vi (ar)) rfl a6 (Za rfl rfl (Zp F28_0 rfl aF rfl (Za rfl rfl (Zn (a2) A22 rfl rfl rfl (Za rfl rfl (Zr S22 rfl rfl (bk.mono (Zt (Zt (Zt x aj) y) aD)) (Za rfl rfl (Zq rfl rfl rfl (Zb (Ze ?_))))))))))))))
  rcases ite_some al with ⟨br, al⟩ | ⟨br, al⟩
  ·refine W_cond_t rfl br (W_skip (Ze (Zc (W_block (Zc (Zd (Za rfl rfl (Zp F64_0 rfl b8 rfl (Za rfl rfl (Zn ((a2).f3) A60 rfl rfl rfl (Za rfl rfl (Zm (v := Vi (ar)) rfl a6 ?_))))))))))))
   obtain ⟨hL, g0, al⟩ := Zg al
   refine Za rfl rfl (Exec.index_rep S60 rfl rfl rfl (bi.mono (Zt y aD)) g0 ?_)
   intro hU iZ ec
   refine Za rfl rfl (Zw (E := encBool) a2 A4 rfl rfl rfl ec ?_)
   intro hJ g1
   obtain rfl : hJ = Value.bool (hL) := encBool_val.1 g1
   refine Zb (Ze ?_)
   obtain ⟨cd, an, al⟩ := Zg al
   refine W_mid (M := fun f' w' => (un2 fun (dx : (List Atom)) (dy : (List Int)) => ∃ (dD : PHeap) (cf : Value) (cg : Value), PHeap.le cI dD ∧ St w0 dD (Res.box d 28 [ab, ac, ad, ae, af] :: Res.box g 28 [Value.slice none 0 0, Value.slice none 0 0, Value.slice none 0 0, Value.slice none 0 0, Value.slice none 0 0] :: Res.box i 37 [Value.slice none 0 0, Value.slice none 0 0, Value.slice none 0 0] :: Res.box j 64 [ah, ai] :: Res.box b 37 [n, o, Value.slice none 0 0] :: Res.box p 28 [cf, Value.slice none 0 0, cg, Value.slice none 0 0, Value.slice none 0 0] :: Res.arr encAtom 56 cf dx :: Res.arr (encInt .i64) 3 cg dy :: H) w' ∧ f' 1 = Value.pointer (some ⟨d, 0, none⟩) ∧ f' 2 = Value.pointer (some ⟨g, 0, none⟩) ∧ f' 3 = Value.pointer (some ⟨i, 0, none⟩) ∧ f' 5 = Value.pointer (some ⟨j, 0, none⟩) ∧ f' 6 = Value.pointer (some ⟨b, 0, none⟩) ∧ f' 7 = Value.pointer (some ⟨p, 0, none⟩) ∧ f' 8 = Vi (ar)) cd) ?_ ?_
   ·rcases ite_some an with ⟨bs, an⟩ | ⟨bs, an⟩
    ·refine W_cond_t rfl bs (Zc (W_dl (n0 := 9) (qs 0 7 (.e 7 [0, 1] (.e 8 [] .done))) hmix (by kernel_rfl) (by kernel_rfl) (DL_q rfl rfl (Zp F28_0 rfl ax rfl ⟨rfl, ?_⟩))))
     refine DL_q rfl rfl (Zn ((a2.drew).f5) A22 rfl rfl rfl ⟨rfl, ?_⟩)
     refine DL_q rfl rfl (Zp F28_0 rfl aF rfl ⟨rfl, ?_⟩)
     refine DL_q rfl rfl (Zn (a2.drew) A22 rfl rfl rfl ⟨rfl, ?_⟩)
     refine DL_q rfl rfl (Zm (v := Vi (ar)) rfl a6 ⟨rfl, ?_⟩)
     obtain ⟨bK, g2, an⟩ := Zg an
     refine DL_q rfl rfl (Exec.index_repE S22 rfl rfl rfl (bk.mono (Zt (Zt (Zt x aj) y) aD)) g2 ?_)
     intro hV ja ed im
     refine ⟨rfl, ?_⟩
     refine DL_q rfl rfl (Zw (E := encAtom) a2.drew A56 rfl rfl rfl ed ?_)
     intro j8 g3
     obtain ⟨ce, rfl, gS⟩ := encAtom_val.1 g3
     refine ⟨rfl, ?_⟩
     refine DL_e rfl rfl (Exec.buildSlice (Te := 56) (cs := [Value.string (bK.Name), ce]) a2.drew rfl (parts_cons (c := [Value.string (bK.Name), ce]) (cells_of rfl rfl) parts_nil) (fun _ => by kernel_rfl) ?_)
     intro hW kb de
     refine ⟨(ag_cons (ag_r rfl rfl (Zp F28_0 rfl ax rfl ⟨rfl, rfl⟩)) (ag_cons (ag_r rfl rfl (Zn ((de).f6) A22 rfl rfl rfl ⟨rfl, rfl⟩)) ag_nil)), ?_⟩
     obtain ⟨fx, g4, an⟩ := Zg an
     refine DL_e rfl rfl (Exec.append_box (E := encAtom) (ys := [bK]) (de).f7 S22 Z56 rfl (by decide) rfl rfl rfl rfl ⟨[Value.string (bK.Name), ce], [], rfl, ⟨[Value.string (bK.Name)], [ce], rfl, rfl, ⟨_, rfl, gS⟩⟩, rfl⟩ rfl g4 ?_)
     intro bj kc ct
     refine ⟨ag_nil, ?_⟩
     refine DL_done (Za rfl rfl (Zp F28_0 rfl ax rfl (Za rfl rfl (Exec.store_box (ds := [bj]) (es := [bj, Value.slice none 0 0, aL, Value.slice none 0 0, Value.slice none 0 0]) (ct).f6 A22 rfl rfl rfl (cells_one (((ct).f6).f1).arr_one) (Zj (((ct).f6).f1).arr_one one_nil) (Nat.le_of_ble_eq_true rfl) rfl ?_))))
     intro kd df
     refine Zb (Ze (Zc (Zd (Za rfl rfl (Zp F28_2 rfl aF rfl (Za rfl rfl (Zn ((df).f2) A24 rfl rfl rfl (Za rfl rfl (Zm (v := Vi (ar)) rfl a6 ?_)))))))))
     obtain ⟨kJ, g5, an⟩ := Zg an
     refine Za rfl rfl (Tc rfl rfl rfl (Zi rfl (Zi rfl args_nil)) (ref18_In_sim g5 df (bO.mono (Zt (Zt (Zt x aj) y) aD))).r ?_)
     rintro _ ke ⟨cJ, dz, bn, rfl⟩
     refine Zb (Ze ?_)
     obtain ⟨b2, a4, an⟩ := Zg an
     refine W_mid (M := fun f' w' => (fun (b2 : (List Int)) => ∃ (dE : PHeap) (ch : Value), PHeap.le cJ dE ∧ St w0 dE (Res.box d 28 [ab, ac, ad, ae, af] :: Res.box g 28 [Value.slice none 0 0, Value.slice none 0 0, Value.slice none 0 0, Value.slice none 0 0, Value.slice none 0 0] :: Res.box i 37 [Value.slice none 0 0, Value.slice none 0 0, Value.slice none 0 0] :: Res.box j 64 [ah, ai] :: Res.box b 37 [n, o, Value.slice none 0 0] :: Res.box p 28 [bj, Value.slice none 0 0, ch, Value.slice none 0 0, Value.slice none 0 0] :: Res.arr encAtom 56 bj fx :: Res.arr (encInt .i64) 3 ch b2 :: H) w' ∧ f' 1 = Value.pointer (some ⟨d, 0, none⟩) ∧ f' 2 = Value.pointer (some ⟨g, 0, none⟩) ∧ f' 3 = Value.pointer (some ⟨i, 0, none⟩) ∧ f' 5 = Value.pointer (some ⟨j, 0, none⟩) ∧ f' 6 = Value.pointer (some ⟨b, 0, none⟩) ∧ f' 7 = Value.pointer (some ⟨p, 0, none⟩) ∧ f' 8 = Vi (ar)) b2) ?_ ?_
     ·rcases ite_some a4 with ⟨bt, a4⟩ | ⟨bt, a4⟩
      ·refine W_cond_t rfl bt (W_dl (n0 := 9) (qs 0 7 (.e 7 [0, 1] (.e 8 [] .done))) hmix (by kernel_rfl) (by kernel_rfl) (DL_q rfl rfl (Zp F28_2 rfl ax rfl ⟨rfl, ?_⟩)))
       refine DL_q rfl rfl (Zn (bn.drew) A24 rfl rfl rfl ⟨rfl, ?_⟩)
       refine DL_q rfl rfl (Zp F37_0 rfl b9 rfl ⟨rfl, ?_⟩)
       refine DL_q rfl rfl (Zn ((bn.drew).f6) A24 rfl rfl rfl ⟨rfl, ?_⟩)
       refine DL_q rfl rfl (Zm (v := Vi (ar)) rfl a6 ⟨rfl, ?_⟩)
       obtain ⟨cm, g6, a4⟩ := Zg a4
       refine DL_q rfl rfl (Exec.index_repE S24 rfl rfl rfl (aZ.mono (Zt aD dz)) g6 ?_)
       intro hX jb ee io
       refine ⟨rfl, ?_⟩
       refine DL_q rfl rfl (Zw (E := (encInt .i64)) bn.drew A3 rfl rfl rfl ee ?_)
       intro j9 g7
       obtain rfl := encInt_val.1 g7
       refine ⟨rfl, ?_⟩
       refine DL_e rfl rfl (Exec.buildSlice (Te := 3) (cs := [Vi (cm)]) bn.drew rfl (parts_cons (c := [Vi (cm)]) (cells_of rfl rfl) parts_nil) (fun _ => by kernel_rfl) ?_)
       intro hY kf dg
       refine ⟨(ag_cons (ag_r rfl rfl (Zp F28_2 rfl ax rfl ⟨rfl, rfl⟩)) (ag_cons (ag_r rfl rfl (Zn ((dg).f1) A24 rfl rfl rfl ⟨rfl, rfl⟩)) ag_nil)), ?_⟩
       obtain ⟨iT, g8, a4⟩ := Zg a4
       refine DL_e rfl rfl (Exec.append_box (E := (encInt .i64)) (ys := [cm]) (dg).f8 S24 Z3 rfl (by decide) rfl rfl rfl rfl ⟨[Vi (cm)], [], rfl, rfl, rfl⟩ rfl g8 ?_)
       intro cN kg cu
       refine ⟨ag_nil, ?_⟩
       refine DL_done (Za rfl rfl (Zp F28_2 rfl ax rfl (Za rfl rfl (Exec.store_box (ds := [cN]) (es := [bj, Value.slice none 0 0, cN, Value.slice none 0 0, Value.slice none 0 0]) (cu).f1 A24 rfl rfl rfl (cells_one (((cu).f1).f1).arr_one) (Zj (((cu).f1).f1).arr_one one_nil) (Nat.le_of_ble_eq_true rfl) rfl ?_))))
       intro kh eM
       refine Zb (Ze ?_)
       have ip := Zu a4
       subst b2
       exact ⟨cJ, cN, (Zv _), ((((((((eM).f1).f2).f2).f7).f7).f7).f7).f7, aF, bU, bV, b8, b9, ax, a6⟩
      refine W_cond_f rfl bt ?_
      replace bt := Zk bt
      refine W_skip (Ze ?_)
      have iq := Zu a4
      subst b2
      exact ⟨cJ, aL, (Zv _), ((((((((bn).f7).f2).f2).f7).f7).f7).f7).f7, aF, bU, bV, b8, b9, ax, a6⟩
     intro iE ki ey
     obtain ⟨h1, ch, fy, eN, fI, fJ, fK, fL, fM, fN, fO⟩ := ey
     refine (Ze ?_)
     have ir := Zu an
     subst cd
     exact ⟨h1, bj, ch, (Zt dz fy), ((((((((eN).f7).f7).f7).f7).f7).f7).f7).f7, fI, fJ, fK, fL, fM, fN, fO⟩
    refine W_cond_f rfl bs ?_
    replace bs := Zk bs
    refine W_skip (Ze ?_)
    have it := Zu an
    subst cd
    exact ⟨cI, bG, aL, (Zv _), ((((((((a2).f7).f7).f7).f7).f7).f7).f7).f7, aF, bU, bV, b8, b9, ax, a6⟩
   intro iF kj ez
   obtain ⟨dx, dy⟩ := cd
   replace al := un2_eq al
   obtain ⟨h2, cf, cg, fz, eO, fP, fQ, fR, fS, fT, fU, fV⟩ := ez
   refine (ib_normal (Ze (Zd (Za rfl rfl (Zm (v := Vi (ar)) rfl fV (Za rfl rfl (Exec.add rfl rfl rfl (Za rfl rfl (Zo (v := Vi (IntKind.i64.wrap (ar + 1))) rfl rfl (Zb (Ze ?_)))))))))))
   have iu := Zu al
   subst cV
   refine ⟨_, rfl, ?_⟩; exact ⟨h2, cf, cg, (Zt aD fz), ((((((((eO).f7).f7).f7).f7).f7).f7).f7).f7, fP, fQ, fR, fS, fT, fU, rfl⟩
  refine W_cond_f rfl br ?_
  replace br := Zk br
  refine W_exit (at_exit (at_exit (ib_here (Ze ?_))))
  have iv := Zu al
  subst cV
  refine ⟨_, .inr (fs (by intro _ h; cases h)), ?_⟩; exact ⟨cI, bG, aL, aD, ((((((((a2).f7).f7).f7).f7).f7).f7).f7).f7, aF, bU, bV, b8, b9, ax, a6⟩
 rintro iG kk ⟨hC, dm, e0⟩
 have hm := dm.elim (fo _) (fk _)
 clear dm
 obtain ⟨dr, a0, a1⟩ := hC
 replace hm := un3_eq hm
 obtain ⟨cK, k, l, a, eP, fW, fX, fY, fZ, ga, gb, jh⟩ := e0
 refine (Ze (Zc (Zc (Zd (Za rfl rfl (Zo (v := Vi (0)) rfl rfl (Zb (Ze ?_))))))))
 obtain ⟨cW, eo, iQ, fp, fl⟩ := ctl_some hm
 refine W_mid (M := fun f' w' => ∃ s', (cW = .next s' ∨ cW = .brk s') ∧ (un2 fun (dt : Int) (aS : (List GFluent)) => ∃ (dF : PHeap) (ag : Value), PHeap.le cK dF ∧ St w0 dF (Res.box d 28 [ab, ac, ad, ae, af] :: Res.box g 28 [Value.slice none 0 0, Value.slice none 0 0, Value.slice none 0 0, Value.slice none 0 0, Value.slice none 0 0] :: Res.box i 37 [Value.slice none 0 0, Value.slice none 0 0, Value.slice none 0 0] :: Res.box j 64 [ah, ai] :: Res.box b 37 [n, o, Value.slice none 0 0] :: Res.box p 28 [k, ag, l, Value.slice none 0 0, Value.slice none 0 0] :: Res.arr encAtom 56 k a0 :: Res.arr encGFluent 93 ag aS :: Res.arr (encInt .i64) 3 l a1 :: H) w' ∧ f' 1 = Value.pointer (some ⟨d, 0, none⟩) ∧ f' 2 = Value.pointer (some ⟨g, 0, none⟩) ∧ f' 3 = Value.pointer (some ⟨i, 0, none⟩) ∧ f' 5 = Value.pointer (some ⟨j, 0, none⟩) ∧ f' 6 = Value.pointer (some ⟨b, 0, none⟩) ∧ f' 7 = Value.pointer (some ⟨p, 0, none⟩) ∧ f' 9 = Vi (dt)) s') ?_ ?_
 ·refine W_block (W_while (fun s' f' w' => (un2 fun (a7 : Int) (dY : (List GFluent)) => ∃ (dG : PHeap) (bH : Value), PHeap.le cK dG ∧ St w0 dG (Res.box d 28 [ab, ac, ad, ae, af] :: Res.box g 28 [Value.slice none 0 0, Value.slice none 0 0, Value.slice none 0 0, Value.slice none 0 0, Value.slice none 0 0] :: Res.box i 37 [Value.slice none 0 0, Value.slice none 0 0, Value.slice none 0 0] :: Res.box j 64 [ah, ai] :: Res.box b 37 [n, o, Value.slice none 0 0] :: Res.box p 28 [k, bH, l, Value.slice none 0 0, Value.slice none 0 0] :: Res.arr encAtom 56 k a0 :: Res.arr encGFluent 93 bH dY :: Res.arr (encInt .i64) 3 l a1 :: H) w' ∧ f' 1 = Value.pointer (some ⟨d, 0, none⟩) ∧ f' 2 = Value.pointer (some ⟨g, 0, none⟩) ∧ f' 3 = Value.pointer (some ⟨i, 0, none⟩) ∧ f' 5 = Value.pointer (some ⟨j, 0, none⟩) ∧ f' 6 = Value.pointer (some ⟨b, 0, none⟩) ∧ f' 7 = Value.pointer (some ⟨p, 0, none⟩) ∧ f' 9 = Vi (a7)) s') eo ?_ ?_)
  ·have eQ := eP.nilArr encGFluent 93
   exact ⟨cK, (Value.slice none 0 0), (Zv _), (((((((((eQ).f8).f1).f8).f8).f8).f8).f8).f8).f8, fW, fX, fY, fZ, ga, gb, rfl⟩
  intro hD cX iH kl eu ap ft
  obtain ⟨a7, dY⟩ := hD
  replace ap := un2_eq ap
  obtain ⟨cc, bH, b3, a3, bA, c4, c5, bW, c6, bd, be⟩ := eu
  refine Zc (Zc (Zd (Za rfl rfl (Zm (v := Vi (a7)) rfl be (Za rfl rfl (Zp F28_1 rfl bA rfl (Za rfl rfl (Zn (a3) A23 rfl rfl rfl (Za rfl rfl (Zr S23 rfl rfl (bl.mono (Zt (Zt (Zt (Zt x aj) y) a) b3)) (Za rfl rfl (Zq rfl rfl rfl (Zb (Ze ?_))))))))))))))
  rcases ite_some ap with ⟨bu, ap⟩ | ⟨bu, ap⟩
  ·refine W_cond_t rfl bu (W_skip (Ze (Zc (W_block (Zc (Zd (Za rfl rfl (Zp F64_1 rfl bW rfl (Za rfl rfl (Zn ((a3).f3) A60 rfl rfl rfl (Za rfl rfl (Zm (v := Vi (a7)) rfl be ?_))))))))))))
   obtain ⟨hM, g9, ap⟩ := Zg ap
   refine Za rfl rfl (Exec.index_rep S60 rfl rfl rfl (aI.mono (Zt (Zt y a) b3)) g9 ?_)
   intro hZ jc ef
   refine Za rfl rfl (Zw (E := encBool) a3 A4 rfl rfl rfl ef ?_)
   intro hK gA
   obtain rfl : hK = Value.bool (hM) := encBool_val.1 gA
   refine Zb (Ze ?_)
   obtain ⟨b4, a5, ap⟩ := Zg ap
   refine W_mid (M := fun f' w' => (fun (b4 : (List GFluent)) => ∃ (dH : PHeap) (ci : Value), PHeap.le cc dH ∧ St w0 dH (Res.box d 28 [ab, ac, ad, ae, af] :: Res.box g 28 [Value.slice none 0 0, Value.slice none 0 0, Value.slice none 0 0, Value.slice none 0 0, Value.slice none 0 0] :: Res.box i 37 [Value.slice none 0 0, Value.slice none 0 0, Value.slice none 0 0] :: Res.box j 64 [ah, ai] :: Res.box b 37 [n, o, Value.slice none 0 0] :: Res.box p 28 [k, ci, l, Value.slice none 0 0, Value.slice none 0 0] :: Res.arr encAtom 56 k a0 :: Res.arr encGFluent 93 ci b4 :: Res.arr (encInt .i64) 3 l a1 :: H) w' ∧ f' 1 = Value.pointer (some ⟨d, 0, none⟩) ∧ f' 2 = Value.pointer (some ⟨g, 0, none⟩) ∧ f' 3 = Value.pointer (some ⟨i, 0, none⟩) ∧ f' 5 = Value.pointer (some ⟨j, 0, none⟩) ∧ f' 6 = Value.pointer (some ⟨b, 0, none⟩) ∧ f' 7 = Value.pointer (some ⟨p, 0, none⟩) ∧ f' 9 = Vi (a7)) b4) ?_ ?_
   ·rcases ite_some a5 with ⟨bv, a5⟩ | ⟨bv, a5⟩
    ·refine W_cond_t rfl bv (W_dl (n0 := 9) (qs 0 7 (.e 7 [0, 1] (.e 8 [] .done))) hmix (by kernel_rfl) (by kernel_rfl) (DL_q rfl rfl (Zp F28_1 rfl bd rfl ⟨rfl, ?_⟩)))
     refine DL_q rfl rfl (Zn ((a3.drew).f5) A23 rfl rfl rfl ⟨rfl, ?_⟩)
     refine DL_q rfl rfl (Zp F28_1 rfl bA rfl ⟨rfl, ?_⟩)
     refine DL_q rfl rfl (Zn (a3.drew) A23 rfl rfl rfl ⟨rfl, ?_⟩)
     refine DL_q rfl rfl (Zm (v := Vi (a7)) rfl be ⟨rfl, ?_⟩)
     obtain ⟨u, gB, a5⟩ := Zg a5
     refine DL_q rfl rfl (Exec.index_repE S23 rfl rfl rfl (bl.mono (Zt (Zt (Zt (Zt x aj) y) a) b3)) gB ?_)
     intro ia jd eg iw
     refine ⟨rfl, ?_⟩
     refine DL_q rfl rfl (Zw (E := encGFluent) a3.drew A93 rfl rfl rfl eg ?_)
     intro jA gC
     obtain ⟨bC, rfl, gT⟩ := encGFluent_val.1 gC
     refine ⟨rfl, ?_⟩
     refine DL_e rfl rfl (Exec.buildSlice (Te := 93) (cs := [Value.string (u.Fluent.Name), bC, Vi (u.Lo), Vi (u.Hi), Vi (u.Init)]) a3.drew rfl (parts_cons (c := [Value.string (u.Fluent.Name), bC, Vi (u.Lo), Vi (u.Hi), Vi (u.Init)]) (cells_of rfl rfl) parts_nil) (fun _ => by kernel_rfl) ?_)
     intro ib km dh
     refine ⟨(ag_cons (ag_r rfl rfl (Zp F28_1 rfl bd rfl ⟨rfl, rfl⟩)) (ag_cons (ag_r rfl rfl (Zn ((dh).f6) A23 rfl rfl rfl ⟨rfl, rfl⟩)) ag_nil)), ?_⟩
     obtain ⟨iU, gD, a5⟩ := Zg a5
     refine DL_e rfl rfl (Exec.append_box (E := encGFluent) (ys := [u]) (dh).f8 S23 Z93 rfl (by decide) rfl rfl rfl rfl ⟨[Value.string (u.Fluent.Name), bC, Vi (u.Lo), Vi (u.Hi), Vi (u.Init)], [], rfl, ⟨[Value.string (u.Fluent.Name), bC], [Vi (u.Lo), Vi (u.Hi), Vi (u.Init)], rfl, ⟨[Value.string (u.Fluent.Name)], [bC], rfl, rfl, ⟨_, rfl, gT⟩⟩, ⟨[Vi (u.Lo)], [Vi (u.Hi), Vi (u.Init)], rfl, rfl, ⟨[Vi (u.Hi)], [Vi (u.Init)], rfl, rfl, rfl⟩⟩⟩, rfl⟩ rfl gD ?_)
     intro cO kn cv
     refine ⟨ag_nil, ?_⟩
     refine DL_done (Za rfl rfl (Zp F28_1 rfl bd rfl (Za rfl rfl (Exec.store_box (ds := [cO]) (es := [k, cO, l, Value.slice none 0 0, Value.slice none 0 0]) (cv).f6 A23 rfl rfl rfl (cells_one (((cv).f6).f1).arr_one) (Zj (((cv).f6).f1).arr_one one_nil) (Nat.le_of_ble_eq_true rfl) rfl ?_))))
     intro ko eR
     refine Zb (Ze ?_)
     have ix := Zu a5
     subst b4
     exact ⟨cc, cO, (Zv _), (((((((((eR).f8).f2).f8).f3).f8).f8).f8).f8).f8, bA, c4, c5, bW, c6, bd, be⟩
    refine W_cond_f rfl bv ?_
    replace bv := Zk bv
    refine W_skip (Ze ?_)
    have iy := Zu a5
    subst b4
    exact ⟨cc, bH, (Zv _), (((((((((a3).f8).f8).f8).f8).f8).f8).f8).f8).f8, bA, c4, c5, bW, c6, bd, be⟩
   intro iI kp e1
   obtain ⟨h3, ci, f0, eS, gc, gd, gf, gg, gh, gi, gj⟩ := e1
   refine (ib_normal (Ze (Zd (Za rfl rfl (Zm (v := Vi (a7)) rfl gj (Za rfl rfl (Exec.add rfl rfl rfl (Za rfl rfl (Zo (v := Vi (IntKind.i64.wrap (a7 + 1))) rfl rfl (Zb (Ze ?_)))))))))))
   have iz := Zu ap
   subst cX
   refine ⟨_, rfl, ?_⟩; exact ⟨h3, ci, (Zt b3 f0), (((((((((eS).f8).f8).f8).f8).f8).f8).f8).f8).f8, gc, gd, gf, gg, gh, gi, rfl⟩
  refine W_cond_f rfl bu ?_
  replace bu := Zk bu
  refine W_exit (at_exit (at_exit (ib_here (Ze ?_))))
  have i0 := Zu ap
  subst cX
  refine ⟨_, .inr (ft (by intro _ h; cases h)), ?_⟩; exact ⟨cc, bH, b3, (((((((((a3).f8).f8).f8).f8).f8).f8).f8).f8).f8, bA, c4, c5, bW, c6, bd, be⟩
 rintro iJ kq ⟨hE, dn, e2⟩
 have hm := dn.elim (fp _) (fl _)
 clear dn
 obtain ⟨dt, aS⟩ := hE
 replace hm := un2_eq hm
 obtain ⟨cL, ag, m, eT, gk, gl, gm, gn, go, gp, ji⟩ := e2
 refine (Ze (Zc (Zc (Zd (Za rfl rfl (Zo (v := Vi (0)) rfl rfl (Zb (Ze ?_))))))))
 obtain ⟨cY, ep, iR, fq, fm⟩ := ctl_some hm
 refine W_mid (M := fun f' w' => ∃ s', (cY = .next s' ∨ cY = .brk s') ∧ (un2 fun (du : Int) (bM : (List Cond)) => ∃ (dI : PHeap) (ak : Value), PHeap.le cL dI ∧ St w0 dI (Res.box d 28 [ab, ac, ad, ae, af] :: Res.box g 28 [Value.slice none 0 0, Value.slice none 0 0, Value.slice none 0 0, Value.slice none 0 0, Value.slice none 0 0] :: Res.box i 37 [Value.slice none 0 0, Value.slice none 0 0, Value.slice none 0 0] :: Res.box j 64 [ah, ai] :: Res.box b 37 [n, o, Value.slice none 0 0] :: Res.box p 28 [k, ag, l, ak, Value.slice none 0 0] :: Res.arr encAtom 56 k a0 :: Res.arr encGFluent 93 ag aS :: Res.arr (encInt .i64) 3 l a1 :: Res.arr encCond 47 ak bM :: H) w' ∧ f' 1 = Value.pointer (some ⟨d, 0, none⟩) ∧ f' 2 = Value.pointer (some ⟨g, 0, none⟩) ∧ f' 3 = Value.pointer (some ⟨i, 0, none⟩) ∧ f' 5 = Value.pointer (some ⟨j, 0, none⟩) ∧ f' 6 = Value.pointer (some ⟨b, 0, none⟩) ∧ f' 7 = Value.pointer (some ⟨p, 0, none⟩) ∧ f' 10 = Vi (du)) s') ?_ ?_
 ·refine W_block (W_while (fun s' f' w' => (un2 fun (ba : Int) (dZ : (List Cond)) => ∃ (dJ : PHeap) (cj : Value), PHeap.le cL dJ ∧ St w0 dJ (Res.box d 28 [ab, ac, ad, ae, af] :: Res.box g 28 [Value.slice none 0 0, Value.slice none 0 0, Value.slice none 0 0, Value.slice none 0 0, Value.slice none 0 0] :: Res.box i 37 [Value.slice none 0 0, Value.slice none 0 0, Value.slice none 0 0] :: Res.box j 64 [ah, ai] :: Res.box b 37 [n, o, Value.slice none 0 0] :: Res.box p 28 [k, ag, l, cj, Value.slice none 0 0] :: Res.arr encAtom 56 k a0 :: Res.arr encGFluent 93 ag aS :: Res.arr (encInt .i64) 3 l a1 :: Res.arr encCond 47 cj dZ :: H) w' ∧ f' 1 = Value.pointer (some ⟨d, 0, none⟩) ∧ f' 2 = Value.pointer (some ⟨g, 0, none⟩) ∧ f' 3 = Value.pointer (some ⟨i, 0, none⟩) ∧ f' 5 = Value.pointer (some ⟨j, 0, none⟩) ∧ f' 6 = Value.pointer (some ⟨b, 0, none⟩) ∧ f' 7 = Value.pointer (some ⟨p, 0, none⟩) ∧ f' 10 = Vi (ba)) s') ep ?_ ?_)
  ·have eU := eT.nilArr encCond 47
   exact ⟨cL, (Value.slice none 0 0), (Zv _), (((((((((eU).f9).f9).f9).f9).f9).f9).f9).f9).f9, gk, gl, gm, gn, go, gp, rfl⟩
  intro hF cZ iK kr ev am fv
  obtain ⟨ba, dZ⟩ := hF
  replace am := un2_eq am
  obtain ⟨h4, cj, bb, aC, bX, d0, d1, d2, c7, bf, bY⟩ := ev
  refine Zc (Zc (Zd (Za rfl rfl (Zm (v := Vi (ba)) rfl bY (Za rfl rfl (Zp F28_3 rfl bX rfl (Za rfl rfl (Zn (aC) A25 rfl rfl rfl (Za rfl rfl (Zr S25 rfl rfl (bm.mono (Zt (Zt (Zt (Zt (Zt x aj) y) a) m) bb)) (Za rfl rfl (Zq rfl rfl rfl (Zb (Ze ?_))))))))))))))
  rcases ite_some am with ⟨bw, am⟩ | ⟨bw, am⟩
  ·refine W_cond_t rfl bw (W_skip (Ze (Zc (W_block (W_dl (n0 := 11) (qs 0 8 (.e 8 [0, 1] (.e 9 [0, 1] (.e 10 [] .done)))) hmix (by kernel_rfl) (by kernel_rfl) (DL_q rfl rfl (Zp F28_3 rfl bf rfl ⟨rfl, ?_⟩)))))))
   refine DL_q rfl rfl (Zn ((aC.drew).f5) A25 rfl rfl rfl ⟨rfl, ?_⟩)
   refine DL_q rfl rfl (Exec.load_box_agg (ds := [n, o, Value.slice none 0 0]) ((aC.drew).f4) A37 rfl c7 rfl ⟨rfl, ?_⟩)
   refine DL_q rfl rfl (Zp F28_3 rfl bX rfl ⟨rfl, ?_⟩)
   refine DL_q rfl rfl (Zn (aC.drew) A25 rfl rfl rfl ⟨rfl, ?_⟩)
   refine DL_q rfl rfl (Zm (v := Vi (ba)) rfl bY ⟨rfl, ?_⟩)
   obtain ⟨kE, gE, am⟩ := Zg am
   refine DL_q rfl rfl (Exec.index_repE S25 rfl rfl rfl (bm.mono (Zt (Zt (Zt (Zt (Zt x aj) y) a) m) bb)) gE ?_)
   intro ic je eh i1
   refine ⟨rfl, ?_⟩
   refine DL_q rfl rfl (Zw (E := encCond) aC.drew A47 rfl rfl rfl eh ?_)
   intro jB gF
   obtain ⟨jv, jw, jx, rfl, gU, gV, gW⟩ := encCond_val.1 gF
   refine ⟨rfl, ?_⟩
   obtain ⟨hQ, gG, am⟩ := Zg am
   refine DL_e rfl rfl (Tc rfl rfl rfl (Zi rfl (Zi rfl args_nil)) (ref19_Map_cond_sim gG aC.drew (aZ.mono (Zt (Zt a m) bb)) (b0.mono (Zt (Zt a m) bb)) (SliceRep.nil _ _) gU gV gW).r ?_)
   rintro _ ks ⟨h5, ck, bI, bJ, fA, di, rfl, gX, gY, gZ⟩
   refine ⟨(ag_cons (ag_r rfl rfl (Zp F28_3 rfl bf rfl ⟨rfl, rfl⟩)) (ag_cons (ag_r rfl rfl (Zn ((di).f5) A25 rfl rfl rfl ⟨rfl, rfl⟩)) ag_nil)), ?_⟩
   refine DL_e rfl rfl (Exec.buildSlice (Te := 47) (cs := [ck, bI, bJ]) di rfl (parts_cons (c := [ck, bI, bJ]) (cells_of rfl rfl) parts_nil) (fun _ => by kernel_rfl) ?_)
   intro ie kt dj
   refine ⟨(ag_cons (ag_r rfl rfl (Zp F28_3 rfl bf rfl ⟨rfl, rfl⟩)) (ag_cons (ag_r rfl rfl (Zn ((dj).f6) A25 rfl rfl rfl ⟨rfl, rfl⟩)) ag_nil)), ?_⟩
   obtain ⟨iV, gH, am⟩ := Zg am
   refine DL_e rfl rfl (Exec.append_box (E := encCond) (ys := [hQ]) (dj).f10 S25 Z47 rfl (by decide) rfl rfl rfl rfl ⟨[ck, bI, bJ], [], rfl, ⟨[ck], [bI, bJ], rfl, ⟨_, rfl, gX⟩, ⟨[bI], [bJ], rfl, ⟨_, rfl, gY⟩, ⟨_, rfl, gZ⟩⟩⟩, rfl⟩ rfl gH ?_)
   intro cP ku cw
   refine ⟨ag_nil, ?_⟩
   refine DL_done (Za rfl rfl (Zp F28_3 rfl bf rfl (Za rfl rfl (Exec.store_box (ds := [cP]) (es := [k, ag, l, cP, Value.slice none 0 0]) (cw).f6 A25 rfl rfl rfl (cells_one (((cw).f6).f1).arr_one) (Zj (((cw).f6).f1).arr_one one_nil) (Nat.le_of_ble_eq_true rfl) rfl ?_))))
   intro kv eV
   refine Zb (ib_normal (Ze (Zd (Za rfl rfl (Zm (v := Vi (ba)) rfl bY (Za rfl rfl (Exec.add rfl rfl rfl (Za rfl rfl (Zo (v := Vi (IntKind.i64.wrap (ba + 1))) rfl rfl (Zb (Ze ?_)))))))))))
   have i2 := Zu am
   subst cZ
   refine ⟨_, rfl, ?_⟩; exact ⟨h5, cP, (Zt bb fA), ((((((((((eV).f1).f9).f9).f9).f4).f9).f9).f9).f9).f9, bX, d0, d1, d2, c7, bf, rfl⟩
  refine W_cond_f rfl bw ?_
  replace bw := Zk bw
  refine W_exit (at_exit (at_exit (ib_here (Ze ?_))))
  have i3 := Zu am
  subst cZ
  refine ⟨_, .inr (fv (by intro _ h; cases h)), ?_⟩; exact ⟨h4, cj, bb, ((((((((((aC).f9).f9).f9).f9).f9).f9).f9).f9).f9).f9, bX, d0, d1, d2, c7, bf, bY⟩
 rintro iL kw ⟨hG, dp, e3⟩
 have hm := dp.elim (fq _) (fm _)
 clear dp
 obtain ⟨du, bM⟩ := hG
 replace hm := un2_eq hm
 obtain ⟨cM, ak, z, eW, gq, gr, gs, gu, gv, gw, jj⟩ := e3
 refine (Ze (Zc (Zc (Zd (Za rfl rfl (Zo (v := Vi (0)) rfl rfl (Zb (Ze ?_))))))))
 obtain ⟨da, er, iS, fr, fn⟩ := ctl_some hm
 refine W_mid (M := fun f' w' => ∃ s', (da = .next s' ∨ da = .brk s') ∧ (un3 fun (dv : Int) (ea : (List Int)) (eb : (List GOp)) => ∃ (dK : PHeap) (a9 : Value) (aM : Value), PHeap.le cM dK ∧ St w0 dK (Res.box d 28 [ab, ac, ad, ae, af] :: Res.box g 28 [Value.slice none 0 0, Value.slice none 0 0, Value.slice none 0 0, Value.slice none 0 0, Value.slice none 0 0] :: Res.box i 37 [Value.slice none 0 0, Value.slice none 0 0, Value.slice none 0 0] :: Res.box j 64 [ah, ai] :: Res.box b 37 [n, o, a9] :: Res.box p 28 [k, ag, l, ak, aM] :: Res.arr (encInt .i64) 3 a9 ea :: Res.arr encAtom 56 k a0 :: Res.arr encGFluent 93 ag aS :: Res.arr (encInt .i64) 3 l a1 :: Res.arr encCond 47 ak bM :: Res.arr encGOp 51 aM eb :: H) w' ∧ f' 1 = Value.pointer (some ⟨d, 0, none⟩) ∧ f' 2 = Value.pointer (some ⟨g, 0, none⟩) ∧ f' 3 = Value.pointer (some ⟨i, 0, none⟩) ∧ f' 5 = Value.pointer (some ⟨j, 0, none⟩) ∧ f' 6 = Value.pointer (some ⟨b, 0, none⟩) ∧ f' 7 = Value.pointer (some ⟨p, 0, none⟩) ∧ f' 11 = Vi (dv)) s') ?_ ?_
 ·refine W_block (W_while (fun s' f' w' => (un3 fun (au : Int) (cT : (List Int)) (aT : (List GOp)) => ∃ (dL : PHeap) (aN : Value) (aO : Value), PHeap.le cM dL ∧ St w0 dL (Res.box d 28 [ab, ac, ad, ae, af] :: Res.box g 28 [Value.slice none 0 0, Value.slice none 0 0, Value.slice none 0 0, Value.slice none 0 0, Value.slice none 0 0] :: Res.box i 37 [Value.slice none 0 0, Value.slice none 0 0, Value.slice none 0 0] :: Res.box j 64 [ah, ai] :: Res.box b 37 [n, o, aN] :: Res.box p 28 [k, ag, l, ak, aO] :: Res.arr (encInt .i64) 3 aN cT :: Res.arr encAtom 56 k a0 :: Res.arr encGFluent 93 ag aS :: Res.arr (encInt .i64) 3 l a1 :: Res.arr encCond 47 ak bM :: Res.arr encGOp 51 aO aT :: H) w' ∧ f' 1 = Value.pointer (some ⟨d, 0, none⟩) ∧ f' 2 = Value.pointer (some ⟨g, 0, none⟩) ∧ f' 3 = Value.pointer (some ⟨i, 0, none⟩) ∧ f' 5 = Value.pointer (some ⟨j, 0, none⟩) ∧ f' 6 = Value.pointer (some ⟨b, 0, none⟩) ∧ f' 7 = Value.pointer (some ⟨p, 0, none⟩) ∧ f' 11 = Vi (au)) s') er ?_ ?_)
  ·have eX := eW.nilArr (encInt .i64) 3
   have eY := eX.nilArr encGOp 51
   exact ⟨cM, (Value.slice none 0 0), (Value.slice none 0 0), (Zv _), (((((((((((eY).f11).f11).f11).f11).f5).f11).f11).f11).f11).f11).f11, gq, gr, gs, gu, gv, gw, rfl⟩
  intro hH cn iM kx ew t fw
  obtain ⟨au, cT, aT⟩ := hH
  replace t := un3_eq t
  obtain ⟨dM, aN, aO, aa, aW, bg, c8, c9, bB, bZ, cA, bh⟩ := ew
  refine Zc (Zc (Zd (Za rfl rfl (Zm (v := Vi (au)) rfl bh (Za rfl rfl (Zp F28_4 rfl bg rfl (Za rfl rfl (Zn (aW) A26 rfl rfl rfl (Za rfl rfl (Zr S26 rfl rfl (aU.mono (Zt (Zt (Zt (Zt (Zt (Zt x aj) y) a) m) z) aa)) (Za rfl rfl (Zq rfl rfl rfl (Zb (Ze ?_))))))))))))))
  rcases ite_some t with ⟨bx, t⟩ | ⟨bx, t⟩
  ·refine W_cond_t rfl bx (W_skip (Ze (Zc (W_block (Zc (Zc ?_))))))
   obtain ⟨bN, aq, t⟩ := Zg t
   refine W_mid (M := fun f' w' => (fun (bN : Bool) => ∃ (dN : PHeap) , PHeap.le dM dN ∧ St w0 dN (Res.box d 28 [ab, ac, ad, ae, af] :: Res.box g 28 [Value.slice none 0 0, Value.slice none 0 0, Value.slice none 0 0, Value.slice none 0 0, Value.slice none 0 0] :: Res.box i 37 [Value.slice none 0 0, Value.slice none 0 0, Value.slice none 0 0] :: Res.box j 64 [ah, ai] :: Res.box b 37 [n, o, aN] :: Res.box p 28 [k, ag, l, ak, aO] :: Res.arr (encInt .i64) 3 aN cT :: Res.arr encAtom 56 k a0 :: Res.arr encGFluent 93 ag aS :: Res.arr (encInt .i64) 3 l a1 :: Res.arr encCond 47 ak bM :: Res.arr encGOp 51 aO aT :: H) w' ∧ f' 1 = Value.pointer (some ⟨d, 0, none⟩) ∧ f' 2 = Value.pointer (some ⟨g, 0, none⟩) ∧ f' 3 = Value.pointer (some ⟨i, 0, none⟩) ∧ f' 5 = Value.pointer (some ⟨j, 0, none⟩) ∧ f' 6 = Value.pointer (some ⟨b, 0, none⟩) ∧ f' 7 = Value.pointer (some ⟨p, 0, none⟩) ∧ f' 11 = Vi (au) ∧ f' 124 = Value.bool (bN)) bN) ?_ ?_
   ·refine W_dl (n0 := 15) (qs 0 6 (.e 6 [] (qs 7 6 (.e 13 [] (.q 14 .done))))) hmix (by kernel_rfl) (by kernel_rfl) (DL_q rfl rfl (Exec.load_box_agg (ds := [ah, ai]) ((aW.drew).f3) A64 rfl bB rfl ⟨rfl, ?_⟩))
    refine DL_q rfl rfl (Zp F28_4 rfl bg rfl ⟨rfl, ?_⟩)
    refine DL_q rfl rfl (Zn (aW.drew) A26 rfl rfl rfl ⟨rfl, ?_⟩)
    refine DL_q rfl rfl (Zm (v := Vi (au)) rfl bh ⟨rfl, ?_⟩)
    obtain ⟨kF, gI, aq⟩ := Zg aq
    refine DL_q rfl rfl (Exec.index_repE S26 rfl rfl rfl (aU.mono (Zt (Zt (Zt (Zt (Zt (Zt x aj) y) a) m) z) aa)) gI ?_)
    intro ig jf ei i4
    refine ⟨rfl, ?_⟩
    refine DL_q rfl rfl (Zw (E := encGOp) aW.drew A51 rfl rfl rfl ei ?_)
    intro jC gJ
    obtain ⟨jy, jz, j0, j1, j2, rfl, ha, hb, hc, hd, he⟩ := encGOp_val.1 gJ
    refine ⟨rfl, ?_⟩
    obtain ⟨hR, gK, aq⟩ := Zg aq
    refine DL_e rfl rfl (Tc rfl rfl rfl (Zi rfl (Zi rfl args_nil)) (ref19_Marks_Touches_sim gK aW.drew (bi.mono (Zt (Zt (Zt (Zt y a) m) z) aa)) (aI.mono (Zt (Zt (Zt (Zt y a) m) z) aa)) ha hb hc hd he).r ?_)
    rintro _ ky ⟨h6, av, bo, rfl⟩
    refine ⟨ag_nil, ?_⟩
    refine DL_q rfl rfl (Exec.not rfl rfl ⟨rfl, ?_⟩)
    refine DL_q rfl rfl (Zm (v := Value.bool (!hR)) rfl rfl ⟨rfl, ?_⟩)
    rcases ite_some aq with ⟨aw, aq⟩ | ⟨aw, aq⟩
    ·refine DL_passes 6 (by rw [aw]; rfl) ?_
     refine DL_done (Zb (Ze ?_))
     have i5 := Zu aq
     subst bN
     exact ⟨h6, av, ((((((((((((bo).f11).f11).f11).f11).f11).f11).f11).f11).f11).f11).f11).f11, bg, c8, c9, bB, bZ, cA, bh, rfl⟩
    replace aw := Zk aw
    refine DL_qg rfl rfl (Zf rfl (Zx aw)) (Exec.load_box_agg (ds := [ab, ac, ad, ae, af]) (bo) A28 rfl bg rfl ⟨rfl, ?_⟩)
    refine DL_qg rfl rfl (Zf rfl (Zx aw)) (Exec.load_box_agg (ds := [ah, ai]) ((bo).f3) A64 rfl bB rfl ⟨rfl, ?_⟩)
    refine DL_qg rfl rfl (Zf rfl (Zx aw)) (Exec.load_box_agg (ds := [n, o, aN]) ((bo).f4) A37 rfl bZ rfl ⟨rfl, ?_⟩)
    refine DL_qg rfl rfl (Zf rfl (Zx aw)) (Zm (v := Vi (au)) rfl bh ⟨rfl, ?_⟩)
    obtain ⟨hT, gL, aq⟩ := Zg aq
    refine DL_eg rfl rfl (Zf rfl (Zx aw)) (Tc rfl rfl rfl (Zi rfl (Zi rfl (Zi rfl (Zi rfl args_nil)))) (ref19_beaten_o_sim gL (bo).f6 (bk.mono (Zt (Zt (Zt (Zt (Zt (Zt (Zt x aj) y) a) m) z) aa) av)) (bl.mono (Zt (Zt (Zt (Zt (Zt (Zt (Zt x aj) y) a) m) z) aa) av)) (bO.mono (Zt (Zt (Zt (Zt (Zt (Zt (Zt x aj) y) a) m) z) aa) av)) (bm.mono (Zt (Zt (Zt (Zt (Zt (Zt (Zt x aj) y) a) m) z) aa) av)) (aU.mono (Zt (Zt (Zt (Zt (Zt (Zt (Zt x aj) y) a) m) z) aa) av)) (bi.mono (Zt (Zt (Zt (Zt (Zt y a) m) z) aa) av)) (aI.mono (Zt (Zt (Zt (Zt (Zt y a) m) z) aa) av)) (aZ.mono (Zt (Zt (Zt (Zt a m) z) aa) av)) (b0.mono (Zt (Zt (Zt (Zt a m) z) aa) av))).r ?_)
    rintro _ kz ⟨h7, fB, eZ, rfl⟩
    refine ⟨ag_nil, ?_⟩
    refine DL_q rfl rfl (Exec.pick_f (v := Value.bool (hT)) rfl (Zx aw) rfl ⟨rfl, ?_⟩)
    refine DL_done (Zb (Ze ?_))
    have i6 := Zu aq
    subst bN
    exact ⟨h7, (Zt av fB), ((((((((((((eZ).f11).f11).f11).f11).f11).f5).f11).f11).f11).f11).f11).f11, bg, c8, c9, bB, bZ, cA, bh, rfl⟩
   intro iN k0 e4
   obtain ⟨h8, b5, aX, cB, d3, d4, d5, aG, aH, cC, d6⟩ := e4
   refine (Ze ?_)
   rcases ite_some t with ⟨bz, t⟩ | ⟨bz, t⟩
   ·refine W_cond_t d6 bz (Zc (Zd (Za rfl rfl (Zp F37_2 rfl aG rfl (Za rfl rfl (Zn ((aX).f4) A24 rfl rfl rfl (Za rfl rfl (Exec.buildSlice (Te := 3) (cs := [Vi ((-1))]) aX rfl (parts_cons (c := [Vi ((-1))]) (cells_of rfl rfl) parts_nil) (fun _ => by kernel_rfl) ?_))))))))
    intro ih k1 fa
    obtain ⟨iW, gM, t⟩ := Zg t
    refine Za rfl rfl (Exec.append_box (E := (encInt .i64)) (ys := [(-1)]) (fa).f7 S24 Z3 rfl (by decide) rfl rfl rfl rfl ⟨[Vi ((-1))], [], rfl, rfl, rfl⟩ rfl gM ?_)
    intro cQ k2 cx
    refine Za rfl rfl (Zp F37_2 rfl aG rfl (Za rfl rfl (Exec.store_box (ds := [cQ]) (es := [n, o, cQ]) (cx).f5 A24 rfl rfl rfl (cells_one (((cx).f5).f1).arr_one) (Zj (((cx).f5).f1).arr_one one_nil) (Nat.le_of_ble_eq_true rfl) rfl ?_)))
    intro k3 fb
    refine Zb (Ze (W_exit (at_exit (ib_here (Ze (Zd (Za rfl rfl (Zm (v := Vi (au)) rfl cC (Za rfl rfl (Exec.add rfl rfl rfl (Za rfl rfl (Zo (v := Vi (IntKind.i64.wrap (au + 1))) rfl rfl (Zb (Ze ?_))))))))))))))
    have i7 := Zu t
    subst cn
    refine ⟨_, rfl, ?_⟩; exact ⟨h8, cQ, aO, (Zt aa b5), ((((((((((((fb).f11).f11).f11).f11).f11).f6).f11).f7).f11).f11).f11).f11, cB, d3, d4, d5, aG, aH, rfl⟩
   refine W_cond_f d6 bz ?_
   replace bz := Zk bz
   refine W_skip (Ze (Zc (Zd (Za rfl rfl (Zp F37_2 rfl aG rfl (Za rfl rfl (Zn ((aX).f4) A24 rfl rfl rfl (Za rfl rfl (Zp F28_4 rfl aH rfl (Za rfl rfl (Zn ((aX).f5) A26 rfl rfl rfl (Za rfl rfl (Exec.len_arr ((aX).f11) S26 rfl rfl (Za rfl rfl (Exec.buildSlice (Te := 3) (cs := [Vi ((aT.length : Int))]) aX rfl (parts_cons (c := [Vi ((aT.length : Int))]) (cells_of rfl rfl) parts_nil) (fun _ => by kernel_rfl) ?_)))))))))))))))
   intro ii k4 fc
   obtain ⟨iX, gN, t⟩ := Zg t
   refine Za rfl rfl (Exec.append_box (E := (encInt .i64)) (ys := [(aT.length : Int)]) (fc).f7 S24 Z3 rfl (by decide) rfl rfl rfl rfl ⟨[Vi ((aT.length : Int))], [], rfl, rfl, rfl⟩ rfl gN ?_)
   intro cl k5 cy
   refine Za rfl rfl (Zp F37_2 rfl aG rfl (Za rfl rfl (Exec.store_box (ds := [cl]) (es := [n, o, cl]) (cy).f5 A24 rfl rfl rfl (cells_one (((cy).f5).f1).arr_one) (Zj (((cy).f5).f1).arr_one one_nil) (Nat.le_of_ble_eq_true rfl) rfl ?_)))
   intro k6 bp
   refine Zb (Ze (W_dl (n0 := 11) (qs 0 8 (.e 8 [0, 1] (.e 9 [0, 1] (.e 10 [] .done)))) hmix (by kernel_rfl) (by kernel_rfl) (DL_q rfl rfl (Zp F28_4 rfl aH rfl ⟨rfl, ?_⟩))))
   refine DL_q rfl rfl (Zn ((bp.drew).f6) A26 rfl rfl rfl ⟨rfl, ?_⟩)
   refine DL_q rfl rfl (Exec.load_box_agg (ds := [n, o, cl]) (bp.drew) A37 rfl aG rfl ⟨rfl, ?_⟩)
   refine DL_q rfl rfl (Zp F28_4 rfl cB rfl ⟨rfl, ?_⟩)
   refine DL_q rfl rfl (Zn ((bp.drew).f2) A26 rfl rfl rfl ⟨rfl, ?_⟩)
   refine DL_q rfl rfl (Zm (v := Vi (au)) rfl cC ⟨rfl, ?_⟩)
   obtain ⟨kG, gO, t⟩ := Zg t
   refine DL_q rfl rfl (Exec.index_repE S26 rfl rfl rfl (aU.mono (Zt (Zt (Zt (Zt (Zt (Zt (Zt x aj) y) a) m) z) aa) b5)) gO ?_)
   intro ij jg ej i8
   refine ⟨rfl, ?_⟩
   refine DL_q rfl rfl (Zw (E := encGOp) bp.drew A51 rfl rfl rfl ej ?_)
   intro jD gP
   obtain ⟨j3, j4, j5, j6, j7, rfl, hf, hg, hh, hi, hj⟩ := encGOp_val.1 gP
   refine ⟨rfl, ?_⟩
   obtain ⟨az, gQ, t⟩ := Zg t
   refine DL_e rfl rfl (Tc rfl rfl rfl (Zi rfl (Zi rfl args_nil)) (ref19_Map_operator_o_sim gQ (bp.drew).f1 (aZ.mono (Zt (Zt (Zt (Zt a m) z) aa) b5)) (b0.mono (Zt (Zt (Zt (Zt a m) z) aa) b5)) hf hg hh hi hj).r ?_)
   rintro _ k7 ⟨h9, aP, aA, aB, aQ, aR, fC, dk, rfl, hk, hl, hn, ho, hp⟩
   refine ⟨(ag_cons (ag_r rfl rfl (Zp F28_4 rfl aH rfl ⟨rfl, rfl⟩)) (ag_cons (ag_r rfl rfl (Zn ((dk).f6) A26 rfl rfl rfl ⟨rfl, rfl⟩)) ag_nil)), ?_⟩
   refine DL_e rfl rfl (Exec.buildSlice (Te := 51) (cs := [Value.string (az.Name), Vi (az.Cost), aP, aA, aB, aQ, aR]) dk rfl (parts_cons (c := [Value.string (az.Name), Vi (az.Cost), aP, aA, aB, aQ, aR]) (cells_of rfl rfl) parts_nil) (fun _ => by kernel_rfl) ?_)
   intro ik k8 dl
   refine ⟨(ag_cons (ag_r rfl rfl (Zp F28_4 rfl aH rfl ⟨rfl, rfl⟩)) (ag_cons (ag_r rfl rfl (Zn ((dl).f7) A26 rfl rfl rfl ⟨rfl, rfl⟩)) ag_nil)), ?_⟩
   obtain ⟨iY, gR, t⟩ := Zg t
   refine DL_e rfl rfl (Exec.append_box (E := encGOp) (ys := [az]) (dl).f12 S26 Z51 rfl (by decide) rfl rfl rfl rfl ⟨[Value.string (az.Name), Vi (az.Cost), aP, aA, aB, aQ, aR], [], rfl, ⟨[Value.string (az.Name)], [Vi (az.Cost), aP, aA, aB, aQ, aR], rfl, rfl, ⟨[Vi (az.Cost)], [aP, aA, aB, aQ, aR], rfl, rfl, ⟨[aP, aA, aB], [aQ, aR], rfl, ⟨[aP], [aA, aB], rfl, ⟨_, rfl, hk⟩, ⟨[aA], [aB], rfl, ⟨_, rfl, hl⟩, ⟨_, rfl, hn⟩⟩⟩, ⟨[aQ], [aR], rfl, ⟨_, rfl, ho⟩, ⟨_, rfl, hp⟩⟩⟩⟩⟩, rfl⟩ rfl gR ?_)
   intro cR k9 cz
   refine ⟨ag_nil, ?_⟩
   refine DL_done (Za rfl rfl (Zp F28_4 rfl aH rfl (Za rfl rfl (Exec.store_box (ds := [cR]) (es := [k, ag, l, ak, cR]) (cz).f7 A26 rfl rfl rfl (cells_one (((cz).f7).f1).arr_one) (Zj (((cz).f7).f1).arr_one one_nil) (Nat.le_of_ble_eq_true rfl) rfl ?_))))
   intro kA fd
   refine Zb (ib_normal (Ze (Zd (Za rfl rfl (Zm (v := Vi (au)) rfl cC (Za rfl rfl (Exec.add rfl rfl rfl (Za rfl rfl (Zo (v := Vi (IntKind.i64.wrap (au + 1))) rfl rfl (Zb (Ze ?_)))))))))))
   have i9 := Zu t
   subst cn
   refine ⟨_, rfl, ?_⟩; exact ⟨h9, cl, cR, (Zt (Zt aa b5) fC), ((((((((((((fd).f1).f11).f11).f11).f11).f6).f6).f7).f11).f11).f11).f11, cB, d3, d4, d5, aG, aH, rfl⟩
  refine W_cond_f rfl bx ?_
  replace bx := Zk bx
  refine W_exit (at_exit (at_exit (ib_here (Ze ?_))))
  have iA := Zu t
  subst cn
  refine ⟨_, .inr (fw (by intro _ h; cases h)), ?_⟩; exact ⟨dM, aN, aO, aa, ((((((((((((aW).f11).f11).f11).f11).f11).f11).f11).f11).f11).f11).f11).f11, bg, c8, c9, bB, bZ, cA, bh⟩
 rintro iO kB ⟨hI, dq, e5⟩
 have hm := dq.elim (fr _) (fn _)
 clear dq
 obtain ⟨dv, ea, eb⟩ := hI
 replace hm := un3_eq hm
 obtain ⟨jp, a9, aM, b6, c0, jk, d7, d8, jl, d9, gx, jm⟩ := e5
 refine (Ze (Zc (W_dl (n0 := 3) (.q 0 (.q 1 (.e 2 [1] .done))) hmix (by kernel_rfl) (by kernel_rfl) (DL_q rfl rfl (Exec.load_box_agg (ds := [k, ag, l, ak, aM]) ((c0.drew).f5) A28 rfl gx rfl ⟨rfl, ?_⟩)))))
 refine DL_q rfl rfl (Exec.load_box_agg (ds := [n, o, a9]) ((c0.drew).f4) A37 rfl d9 rfl ⟨rfl, ?_⟩)
 have aY := (c0.drew).f1
 refine DL_e rfl rfl (Exec.store_box (ds := [k, ag, l, ak, aM]) (es := [k, ag, l, ak, aM]) aY A28 rfl d7 rfl rfl (Zj ((aY).f7).arr_one (Zj ((aY).f8).arr_one (Zj ((aY).f9).arr_one (Zj ((aY).f10).arr_one (Zj ((aY).f11).arr_one one_nil))))) (Nat.le_of_ble_eq_true rfl) rfl ?_)
 intro kC c1
 refine ⟨(ag_cons (ag_r rfl rfl (Exec.load_box_agg (ds := [n, o, a9]) ((c1).f4) A37 rfl d9 rfl ⟨rfl, rfl⟩)) ag_nil), ?_⟩
 refine DL_done (Za rfl rfl (Exec.store_box (ds := [n, o, a9]) (es := [n, o, a9]) (c1).f2 A37 rfl d8 rfl rfl (Zj ((aZ.mono (Zt (Zt (Zt a m) z) b6))).one (Zj ((b0.mono (Zt (Zt (Zt a m) z) b6))).one (Zj (((c1).f2).f6).arr_one one_nil))) (Nat.le_of_ble_eq_true rfl) rfl ?_))
 intro kD c2
 refine Za rfl rfl (Zo (v := Value.bool (true)) rfl rfl (Zb (Ze (W_ret ?_))))
 have iB := Zu hm
 subst r
 refine ⟨_, retG3 rfl ⟨_, _, d7, cellRes ((c2).f1) A28⟩ ⟨_, _, d8, cellRes (c2) A37⟩ rfl, ?_⟩
 obtain ⟨jq, c3, fe, hq⟩ := (c2).f7.freezeArr
 obtain ⟨jr, bT, ff, hr⟩ := (fe).f7.freezeArr
 obtain ⟨js, b7, fg, hs⟩ := (ff).f7.freezeArr
 obtain ⟨jt, bc, fh, ht⟩ := (fg).f7.freezeArr
 obtain ⟨ju, aE, fi, hu⟩ := (fh).f7.freezeArr
 obtain ⟨hA, a8, fj, hv⟩ := (fi).f6.freezeArr
 exact ⟨hA, k, ag, l, ak, aM, n, o, a9, (Zt (Zt (Zt (Zt (Zt (Zt (Zt (Zt (Zt (Zt (Zt (Zt x aj) y) a) m) z) b6) c3) bT) b7) bc) aE) a8), ((((((fj).drop).drop).drop).drop).drop).drop, (tup3 rfl rfl rfl), (hq.mono (Zt (Zt (Zt (Zt bT b7) bc) aE) a8)), (hr.mono (Zt (Zt (Zt b7 bc) aE) a8)), (hs.mono (Zt (Zt bc aE) a8)), (ht.mono (Zt aE a8)), (hu.mono a8), (aZ.mono (Zt (Zt (Zt (Zt (Zt (Zt (Zt (Zt (Zt a m) z) b6) c3) bT) b7) bc) aE) a8)), (b0.mono (Zt (Zt (Zt (Zt (Zt (Zt (Zt (Zt (Zt a m) z) b6) c3) bT) b7) bc) aE) a8)), hv⟩
theorem ref10_Compare_sim {w0 w : World} {s : PHeap} {H : List Res} {c : Atom} {g : Atom} {q : Value} {t : Value} {r : Int} (hm : ref10_Compare_p c g = some r) (hS : St w0 s (H) w) (ab : SliceRep encStr s q c.Args) (ac : SliceRep encStr s t g.Args) :
  Calls Try.prog 48 #[Value.agg #[Value.string (c.Name), q], Value.agg #[Value.string (g.Name), t]] w fun e w' => ∃ v, e = .returned v ∧ ((fun (aT : Int) => ∃ (ay : PHeap) , PHeap.le s ay ∧ St w0 ay (H) w' ∧ v = Vi (aT)) r) := by
 unfold ref10_Compare_p at hm
 refine calls_of_W Try.func48 rfl rfl (Zc (Zd (Za rfl rfl (Exec.box (cs := [Value.string (c.Name), q]) hS rfl rfl rfl ?_))))
 intro m bt aC
 refine Za rfl rfl (Exec.box (cs := [Value.string (g.Name), t]) aC rfl rfl rfl ?_)
 intro n bu k
 refine Za rfl rfl (Zo (v := Vi (0)) rfl rfl (Zb (Ze (Zc (Zc (Zd (Za rfl rfl (Zp F56_0 rfl rfl rfl (Za rfl rfl (Zn ((k).f1) A9 rfl rfl rfl (Za rfl rfl (Zp F56_0 rfl rfl rfl (Za rfl rfl (Zn (k) A9 rfl rfl rfl (Za rfl rfl (Exec.str_neq rfl rfl rfl (Zb (Ze ?_))))))))))))))))))
 rcases ite_some hm with ⟨u, hm⟩ | ⟨u, hm⟩
 ·refine W_cond_t rfl u (Zc (Zc (Zd (Za rfl rfl (Zp F56_0 rfl rfl rfl (Za rfl rfl (Zn ((k).f1) A9 rfl rfl rfl (Za rfl rfl (Zp F56_0 rfl rfl rfl (Za rfl rfl (Zn (k) A9 rfl rfl rfl (Za rfl rfl (Exec.str_lss rfl rfl rfl (Zb (Ze ?_)))))))))))))))
  rcases ite_some hm with ⟨x, hm⟩ | ⟨x, hm⟩
  ·refine W_cond_t rfl x (Zc (Zd (Za rfl rfl (Zo (v := Vi ((-1))) rfl rfl (Zb (Ze (W_ret (at_ret (at_ret ?_)))))))))
   have aY := Zu hm
   subst r
   refine ⟨_, ret1 rfl, ?_⟩
   exact ⟨s, (Zv _), ((k).drop).drop, rfl⟩
  refine W_cond_f rfl x ?_
  replace x := Zk x
  refine W_skip (Ze (Zc (Zd (Za rfl rfl (Zo (v := Vi (1)) rfl rfl (Zb (Ze (W_ret (at_ret ?_)))))))))
  have aZ := Zu hm
  subst r
  refine ⟨_, ret1 rfl, ?_⟩
  exact ⟨s, (Zv _), ((k).drop).drop, rfl⟩
 refine W_cond_f rfl u ?_
 replace u := Zk u
 refine W_skip (Ze (Zc (Zc (Zd (Za rfl rfl (Zo (v := Vi (0)) rfl rfl (Zb (Ze ?_))))))))
 obtain ⟨ap, a8, ar, aF, aE⟩ := ctl_some hm
 refine W_mid (M := fun f' w' => ∃ s', (ap = .next s' ∨ ap = .brk s') ∧ (fun (au : Int) => ∃ (az : PHeap) , PHeap.le s az ∧ St w0 az (Res.box m 56 [Value.string (c.Name), q] :: Res.box n 56 [Value.string (g.Name), t] :: H) w' ∧ f' 2 = Value.pointer (some ⟨m, 0, none⟩) ∧ f' 3 = Value.pointer (some ⟨n, 0, none⟩) ∧ f' 5 = Vi (au)) s') ?_ ?_
 ·refine W_block (W_while (fun s' f' w' => (fun (b : Int) => ∃ (a0 : PHeap) , PHeap.le s a0 ∧ St w0 a0 (Res.box m 56 [Value.string (c.Name), q] :: Res.box n 56 [Value.string (g.Name), t] :: H) w' ∧ f' 2 = Value.pointer (some ⟨m, 0, none⟩) ∧ f' 3 = Value.pointer (some ⟨n, 0, none⟩) ∧ f' 5 = Vi (b)) s') a8 ?_ ?_)
  ·have aD := (k).f1
   exact ⟨s, (Zv _), aD, rfl, rfl, rfl⟩
  intro b ad bl bv a9 a ak
  obtain ⟨ao, i, ae, am, an, af⟩ := a9
  refine Zc (Zc (W_mid (M := fun f' w' => ∃ (a1 : PHeap) , PHeap.le ao a1 ∧ St w0 a1 (Res.box m 56 [Value.string (c.Name), q] :: Res.box n 56 [Value.string (g.Name), t] :: H) w' ∧ f' 2 = Value.pointer (some ⟨m, 0, none⟩) ∧ f' 3 = Value.pointer (some ⟨n, 0, none⟩) ∧ f' 5 = Vi (b) ∧ f' 27 = Value.bool (((decide (b < (c.Args.length : Int))) && decide (b < (g.Args.length : Int))))) ?_ ?_))
  ·refine Zd (Za rfl rfl (Zm (v := Vi (b)) rfl af (Za rfl rfl (Zp F56_1 rfl am rfl (Za rfl rfl (Zn (ae) A54 rfl rfl rfl (Za rfl rfl (Zr S54 rfl rfl (ab.mono i) (Za rfl rfl (Zq rfl rfl rfl (Za rfl rfl (Zm (v := Value.bool (decide (b < (c.Args.length : Int)))) rfl rfl ?_))))))))))))
   by_cases d : (decide (b < (c.Args.length : Int))) = true
   ·refine WL_run rfl (Zf rfl (Zx d)) rfl (Zm (v := Vi (b)) rfl af (WL_run rfl (Zf rfl (Zx d)) rfl (Zp F56_1 rfl an rfl (WL_run rfl (Zf rfl (Zx d)) rfl (Zn ((ae).f1) A54 rfl rfl rfl (WL_run rfl (Zf rfl (Zx d)) rfl (Zr S54 rfl rfl (ac.mono i) (WL_run rfl (Zf rfl (Zx d)) rfl (Zq rfl rfl rfl (Za rfl rfl (Zs (v := Value.bool (decide (b < (g.Args.length : Int)))) rfl (Zx d) rfl (Zb (Ze ?_)))))))))))))
    exact ⟨ao, (Zv _), ((ae).f1).f1, am, an, af, (Zx (and_t d)).symm⟩
   replace d := Zk d
   refine WL_passes 6 (by rw [d]; rfl) ?_
   refine Zb (Ze ?_)
   exact ⟨ao, (Zv _), ((ae).f1).f1, am, an, af, (Zx (and_f d)).symm⟩
  intro bm bw aA
  obtain ⟨ai, j, l, ag, ah, p, av⟩ := aA
  refine (Ze ?_)
  rcases ite_some a with ⟨y, a⟩ | ⟨y, a⟩
  ·refine W_cond_t av y (W_skip (Ze (Zc (W_block (Zc (Zc (W_dl (n0 := 11) (qs 0 11 .done) hmix (by kernel_rfl) (by kernel_rfl) (DL_q rfl rfl (Zp F56_1 rfl ag rfl ⟨rfl, ?_⟩)))))))))
   refine DL_q rfl rfl (Zn (l.drew) A54 rfl rfl rfl ⟨rfl, ?_⟩)
   refine DL_q rfl rfl (Zm (v := Vi (b)) rfl p ⟨rfl, ?_⟩)
   obtain ⟨a2, aw, a⟩ := Zg a
   refine DL_q rfl rfl (Exec.index_repE S54 rfl rfl rfl (ab.mono (Zt i j)) aw ?_)
   intro aU bo a4 ba
   refine ⟨rfl, ?_⟩
   refine DL_q rfl rfl (Zw (E := encStr) l.drew A9 rfl rfl rfl a4 ?_)
   intro aP aK
   obtain rfl : aP = Value.string (a2) := encStr_val.1 aK
   refine ⟨rfl, ?_⟩
   refine DL_q rfl rfl (Zp F56_1 rfl ah rfl ⟨rfl, ?_⟩)
   refine DL_q rfl rfl (Zn ((l.drew).f1) A54 rfl rfl rfl ⟨rfl, ?_⟩)
   refine DL_q rfl rfl (Zm (v := Vi (b)) rfl p ⟨rfl, ?_⟩)
   obtain ⟨a3, ax, a⟩ := Zg a
   refine DL_q rfl rfl (Exec.index_repE S54 rfl rfl rfl (ac.mono (Zt i j)) ax ?_)
   intro aV bp a5 bb
   refine ⟨rfl, ?_⟩
   refine DL_q rfl rfl (Zw (E := encStr) l.drew A9 rfl rfl rfl a5 ?_)
   intro aQ aL
   obtain rfl : aQ = Value.string (a3) := encStr_val.1 aL
   refine ⟨rfl, ?_⟩
   refine DL_q rfl rfl (Exec.str_lss rfl rfl rfl ⟨rfl, ?_⟩)
   refine DL_done (Zb (Ze ?_))
   rcases ite_some a with ⟨z, a⟩ | ⟨z, a⟩
   ·refine W_cond_t rfl z (Zc (Zd (Za rfl rfl (Zo (v := Vi ((-1))) rfl rfl (Zb (Ze (W_ret (at_ret (ib_ret (at_ret (at_ret (ib_ret (at_ret (at_ret ?_))))))))))))))
    have bc := Zu a
    subst ad
    have aG := ar _ (ak (by intro _ h; cases h))
    have bd := Zu aG
    subst r
    refine ⟨_, ret1 rfl, ?_⟩
    exact ⟨ai, (Zt i j), ((l.drew).drop).drop, rfl⟩
   refine W_cond_f rfl z ?_
   replace z := Zk z
   refine W_skip (Ze (Zc (W_dl (n0 := 11) (qs 0 11 .done) hmix (by kernel_rfl) (by kernel_rfl) ?_)))
   have o := l.drew.drew
   refine DL_q rfl rfl (Zp F56_1 rfl ag rfl ⟨rfl, ?_⟩)
   refine DL_q rfl rfl (Zn (o) A54 rfl rfl rfl ⟨rfl, ?_⟩)
   refine DL_q rfl rfl (Zm (v := Vi (b)) rfl p ⟨rfl, ?_⟩)
   refine DL_q rfl rfl (Exec.index_repE S54 rfl rfl rfl (ab.mono (Zt i j)) aw ?_)
   intro aW bq a6 be
   refine ⟨rfl, ?_⟩
   refine DL_q rfl rfl (Zw (E := encStr) o A9 rfl rfl rfl a6 ?_)
   intro aR aM
   obtain rfl : aR = Value.string (a2) := encStr_val.1 aM
   refine ⟨rfl, ?_⟩
   refine DL_q rfl rfl (Zp F56_1 rfl ah rfl ⟨rfl, ?_⟩)
   refine DL_q rfl rfl (Zn ((o).f1) A54 rfl rfl rfl ⟨rfl, ?_⟩)
   refine DL_q rfl rfl (Zm (v := Vi (b)) rfl p ⟨rfl, ?_⟩)
   refine DL_q rfl rfl (Exec.index_repE S54 rfl rfl rfl (ac.mono (Zt i j)) ax ?_)
   intro aX br a7 bf
   refine ⟨rfl, ?_⟩
   refine DL_q rfl rfl (Zw (E := encStr) o A9 rfl rfl rfl a7 ?_)
   intro aS aN
   obtain rfl : aS = Value.string (a3) := encStr_val.1 aN
   refine ⟨rfl, ?_⟩
   refine DL_q rfl rfl (Exec.str_gtr rfl rfl rfl ⟨rfl, ?_⟩)
   refine DL_done (Zb (Ze ?_))
   rcases ite_some a with ⟨aa, a⟩ | ⟨aa, a⟩
   ·refine W_cond_t rfl aa (Zc (Zd (Za rfl rfl (Zo (v := Vi (1)) rfl rfl (Zb (Ze (W_ret (ib_ret (at_ret (at_ret (ib_ret (at_ret (at_ret ?_)))))))))))))
    have bg := Zu a
    subst ad
    have aH := ar _ (ak (by intro _ h; cases h))
    have bh := Zu aH
    subst r
    refine ⟨_, ret1 rfl, ?_⟩
    exact ⟨ai, (Zt i j), ((o).drop).drop, rfl⟩
   refine W_cond_f rfl aa ?_
   replace aa := Zk aa
   refine W_skip (ib_normal (Ze (Zd (Za rfl rfl (Zm (v := Vi (b)) rfl p (Za rfl rfl (Exec.add rfl rfl rfl (Za rfl rfl (Zo (v := Vi (IntKind.i64.wrap (b + 1))) rfl rfl (Zb (Ze ?_)))))))))))
   have bi := Zu a
   subst ad
   refine ⟨_, rfl, ?_⟩; exact ⟨ai, (Zt i j), ((o).f1).f1, ag, ah, rfl⟩
  refine W_cond_f av y ?_
  replace y := Zk y
  refine W_exit (at_exit (at_exit (ib_here (Ze ?_))))
  have bj := Zu a
  subst ad
  refine ⟨_, .inr (ak (by intro _ h; cases h)), ?_⟩; exact ⟨ai, (Zt i j), ((l).f1).f1, ag, ah, p⟩
 rintro bn bx ⟨au, aq, aB⟩
 have hm := aq.elim (aF _) (aE _)
 clear aq
 obtain ⟨aO, al, aj, aI, aJ, bs⟩ := aB
 refine (Ze (Zc (Zd (Za rfl rfl (Zp F56_1 rfl aI rfl (Za rfl rfl (Zn (aj) A54 rfl rfl rfl (Za rfl rfl (Zr S54 rfl rfl (ab.mono al) (Za rfl rfl (Zp F56_1 rfl aJ rfl (Za rfl rfl (Zn ((aj).f1) A54 rfl rfl rfl (Za rfl rfl (Zr S54 rfl rfl (ac.mono al) (Za rfl rfl (Exec.sub rfl rfl rfl (Za rfl rfl (Zo (v := Vi (IntKind.i64.wrap ((c.Args.length : Int) - (g.Args.length : Int)))) rfl rfl (Zb (Ze (W_ret ?_))))))))))))))))))))))
 have bk := Zu hm
 subst r
 refine ⟨_, ret1 rfl, ?_⟩
 exact ⟨aO, al, ((aj).drop).drop, rfl⟩
theorem ref10_SameAtoms_sim {w0 w : World} {s : PHeap} {H : List Res} {u : (List Atom)} {y : (List Atom)} {c : Value} {g : Value} {r : Bool} (hm : ref10_SameAtoms_p u y = some r) (hS : St w0 s (H) w) (o : SliceRep encAtom s c u) (x : SliceRep encAtom s g y) :
  Calls Try.prog 46 #[c, g] w fun e w' => ∃ v, e = .returned v ∧ ((fun (a5 : Bool) => ∃ (af : PHeap) , PHeap.le s af ∧ St w0 af (H) w' ∧ v = Value.bool (a5)) r) := by
 unfold ref10_SameAtoms_p at hm
 refine calls_of_W Try.func46 rfl rfl (Zc (Zd (Za rfl rfl (Zo (v := Value.bool (false)) rfl rfl (Zb (Ze (Zc (Zc (Zd (Za rfl rfl (Zm (v := c) rfl rfl (Za rfl rfl (Zr S22 rfl rfl o (Za rfl rfl (Zm (v := g) rfl rfl (Za rfl rfl (Zr S22 rfl rfl x (Za rfl rfl (Exec.neq rfl rfl rfl (Zb (Ze ?_)))))))))))))))))))))
 rcases ite_some hm with ⟨i, hm⟩ | ⟨i, hm⟩
 ·refine W_cond_t rfl i (Zc (Zd (Za rfl rfl (Zo (v := Value.bool (false)) rfl rfl (Zb (Ze (W_ret (at_ret ?_))))))))
  have a8 := Zu hm
  subst r
  refine ⟨_, ret1 rfl, ?_⟩
  exact ⟨s, (Zv _), hS, rfl⟩
 refine W_cond_f rfl i ?_
 replace i := Zk i
 refine W_skip (Ze (Zc (Zc (Zd (Za rfl rfl (Zo (v := Vi (0)) rfl rfl (Zb (Ze ?_))))))))
 obtain ⟨z, al, au, aq, ap⟩ := ctl_some hm
 refine W_mid (M := fun f' w' => ∃ s', (z = .next s' ∨ z = .brk s') ∧ (fun (ad : Int) => ∃ (ag : PHeap) , PHeap.le s ag ∧ St w0 ag (H) w' ∧ f' 0 = c ∧ f' 1 = g ∧ f' 5 = Vi (ad)) s') ?_ ?_
 ·refine W_block (W_while (fun s' f' w' => (fun (b : Int) => ∃ (ah : PHeap) , PHeap.le s ah ∧ St w0 ah (H) w' ∧ f' 0 = c ∧ f' 1 = g ∧ f' 5 = Vi (b)) s') al ?_ ?_)
  ·exact ⟨s, (Zv _), hS, rfl, rfl, rfl⟩
  intro b p aG aR am a ac
  obtain ⟨a3, d, m, n, t, l⟩ := am
  refine Zc (Zc (Zd (Za rfl rfl (Zm (v := Vi (b)) rfl l (Za rfl rfl (Zm (v := c) rfl n (Za rfl rfl (Zr S22 rfl rfl (o.mono d) (Za rfl rfl (Zq rfl rfl rfl (Zb (Ze ?_))))))))))))
  rcases ite_some a with ⟨j, a⟩ | ⟨j, a⟩
  ·refine W_cond_t rfl j (W_skip (Ze (Zc (W_block (Zc (W_dl (n0 := 10) (qs 0 8 (.e 8 [] (.q 9 .done))) hmix (by kernel_rfl) (by kernel_rfl) (DL_q rfl rfl (Zm (v := c) rfl n ⟨rfl, ?_⟩))))))))
   refine DL_q rfl rfl (Zm (v := Vi (b)) rfl l ⟨rfl, ?_⟩)
   obtain ⟨aU, aw, a⟩ := Zg a
   refine DL_q rfl rfl (Exec.index_repE S22 rfl rfl rfl (o.mono d) aw ?_)
   intro a6 aI aj a9
   refine ⟨rfl, ?_⟩
   refine DL_q rfl rfl (Zw (E := encAtom) m.drew A56 rfl rfl rfl aj ?_)
   intro aP ax
   obtain ⟨aN, rfl, a1⟩ := encAtom_val.1 ax
   refine ⟨rfl, ?_⟩
   refine DL_q rfl rfl (Zm (v := g) rfl t ⟨rfl, ?_⟩)
   refine DL_q rfl rfl (Zm (v := Vi (b)) rfl l ⟨rfl, ?_⟩)
   obtain ⟨aV, ay, a⟩ := Zg a
   refine DL_q rfl rfl (Exec.index_repE S22 rfl rfl rfl (x.mono d) ay ?_)
   intro a7 aJ ak aA
   refine ⟨rfl, ?_⟩
   refine DL_q rfl rfl (Zw (E := encAtom) m.drew A56 rfl rfl rfl ak ?_)
   intro aQ az
   obtain ⟨aO, rfl, a2⟩ := encAtom_val.1 az
   refine ⟨rfl, ?_⟩
   obtain ⟨aW, a0, a⟩ := Zg a
   refine DL_e rfl rfl (Tc rfl rfl rfl (Zi rfl (Zi rfl args_nil)) (ref10_Compare_sim a0 m.drew a1 a2).r ?_)
   rintro _ aS ⟨ai, ae, aa, rfl⟩
   refine ⟨ag_nil, ?_⟩
   refine DL_q rfl rfl (Exec.neq rfl rfl rfl ⟨rfl, ?_⟩)
   refine DL_done (Zb (Ze ?_))
   rcases ite_some a with ⟨k, a⟩ | ⟨k, a⟩
   ·refine W_cond_t rfl k (Zc (Zd (Za rfl rfl (Zo (v := Value.bool (false)) rfl rfl (Zb (Ze (W_ret (ib_ret (at_ret (at_ret (ib_ret (at_ret (at_ret ?_)))))))))))))
    have aB := Zu a
    subst p
    have ar := au _ (ac (by intro _ h; cases h))
    have aC := Zu ar
    subst r
    refine ⟨_, ret1 rfl, ?_⟩
    exact ⟨ai, (Zt d ae), aa, rfl⟩
   refine W_cond_f rfl k ?_
   replace k := Zk k
   refine W_skip (ib_normal (Ze (Zd (Za rfl rfl (Zm (v := Vi (b)) rfl l (Za rfl rfl (Exec.add rfl rfl rfl (Za rfl rfl (Zo (v := Vi (IntKind.i64.wrap (b + 1))) rfl rfl (Zb (Ze ?_)))))))))))
   have aD := Zu a
   subst p
   refine ⟨_, rfl, ?_⟩; exact ⟨ai, (Zt d ae), aa, n, t, rfl⟩
  refine W_cond_f rfl j ?_
  replace j := Zk j
  refine W_exit (at_exit (at_exit (ib_here (Ze ?_))))
  have aE := Zu a
  subst p
  refine ⟨_, .inr (ac (by intro _ h; cases h)), ?_⟩; exact ⟨a3, d, m, n, t, l⟩
 rintro aH aT ⟨ad, ab, an⟩
 have hm := ab.elim (aq _) (ap _)
 clear ab
 obtain ⟨a4, av, ao, aK, aL, aM⟩ := an
 refine (Ze (Zc (Zd (Za rfl rfl (Zo (v := Value.bool (true)) rfl rfl (Zb (Ze (W_ret ?_))))))))
 have aF := Zu hm
 subst r
 refine ⟨_, ret1 rfl, ?_⟩
 exact ⟨a4, av, ao, rfl⟩
theorem ref18_Same_sim {w0 w : World} {s : PHeap} {H : List Res} {fu : Nat} {a5 : Ground} {a6 : Ground} {z : Value} {aa : Value} {ab : Value} {ac : Value} {ad : Value} {ae : Value} {af : Value} {ag : Value} {ah : Value} {ai : Value} {r : Bool} (hm : ref18_Same_p fu a5 a6 = some r) (hS : St w0 s (H) w) (cm : SliceRep encAtom s z a5.Atoms) (bq : SliceRep encGFluent s aa a5.Fluents) (cn : SliceRep (encInt .i64) s ab a5.Init) (br : SliceRep encCond s ac a5.Goal) (aI : SliceRep encGOp s ad a5.Ops) (co : SliceRep encAtom s ae a6.Atoms) (bA : SliceRep encGFluent s af a6.Fluents) (cp : SliceRep (encInt .i64) s ag a6.Init) (bB : SliceRep encCond s ah a6.Goal) (aV : SliceRep encGOp s ai a6.Ops) :
  Calls Try.prog 15 #[Value.agg #[z, aa, ab, ac, ad], Value.agg #[ae, af, ag, ah, ai]] w fun e w' => ∃ v, e = .returned v ∧ ((fun (ee : Bool) => ∃ (bZ : PHeap) , PHeap.le s bZ ∧ St w0 bZ (H) w' ∧ v = Value.bool (ee)) r) := by
 unfold ref18_Same_p at hm
 refine calls_of_W Try.func15 rfl rfl (Zc (Zd (Za rfl rfl (Exec.box (cs := [z, aa, ab, ac, ad]) hS rfl rfl rfl ?_))))
 intro d fH cI
 refine Za rfl rfl (Exec.box (cs := [ae, af, ag, ah, ai]) cI rfl rfl rfl ?_)
 intro g fI bx
 refine Za rfl rfl (Zo (v := Value.bool (false)) rfl rfl (Zb (Ze (Zc (Zc ?_)))))
 obtain ⟨a4, c, hm⟩ := Zg hm
 refine W_mid (M := fun f' w' => (fun (a4 : Bool) => ∃ (ca : PHeap) , PHeap.le s ca ∧ St w0 ca (Res.box d 28 [z, aa, ab, ac, ad] :: Res.box g 28 [ae, af, ag, ah, ai] :: H) w' ∧ f' 2 = Value.pointer (some ⟨d, 0, none⟩) ∧ f' 3 = Value.pointer (some ⟨g, 0, none⟩) ∧ f' 50 = Value.bool (a4)) a4) ?_ ?_
 ·refine Zd (Za rfl rfl (Zp F28_0 rfl rfl rfl (Za rfl rfl (Zn ((bx).f1) A22 rfl rfl rfl (Za rfl rfl (Zp F28_0 rfl rfl rfl (Za rfl rfl (Zn (bx) A22 rfl rfl rfl ?_))))))))
  obtain ⟨ef, dw, c⟩ := Zg c
  refine Za rfl rfl (Tc rfl rfl rfl (Zi rfl (Zi rfl args_nil)) (ref10_SameAtoms_sim dw bx cm co).r ?_)
  rintro _ fJ ⟨dV, x, aY, rfl⟩
  refine Za rfl rfl (Exec.not rfl rfl (Za rfl rfl (Zm (v := Value.bool (!ef)) rfl rfl ?_)))
  rcases ite_some c with ⟨an, c⟩ | ⟨an, c⟩
  ·refine WL_passes 34 (by rw [an]; rfl) ?_
   refine Zb (Ze ?_)
   have eu := Zu c
   subst a4
   exact ⟨dV, x, (aY).f1, rfl, rfl, rfl⟩
  replace an := Zk an
  refine WL_run rfl (Zf rfl (Zx an)) rfl (Zp F28_2 rfl rfl rfl (WL_run rfl (Zf rfl (Zx an)) rfl (Zn ((aY).f1) A24 rfl rfl rfl (WL_run rfl (Zf rfl (Zx an)) rfl (Zp F28_2 rfl rfl rfl (WL_run rfl (Zf rfl (Zx an)) rfl (Zn (aY) A24 rfl rfl rfl ?_)))))))
  obtain ⟨gj, dx, c⟩ := Zg c
  refine WL_run rfl (Zf rfl (Zx an)) rfl (Tc rfl rfl rfl (Zi rfl (Zi rfl args_nil)) (ref18_ints_sim dx aY (cn.mono x) (cp.mono x)).r ?_)
  rintro _ fK ⟨bi, ax, aq, rfl⟩
  refine WL_run rfl (Zf rfl (Zx an)) rfl (Exec.not rfl rfl ?_)
  refine WL_passes 2 (by rw [an]; rfl) ?_
  rcases ite_some c with ⟨aj, c⟩ | ⟨aj, c⟩
  ·refine WL_passes 26 (by rw [aj]; rfl) ?_
   refine Zb (Ze ?_)
   have ev := Zu c
   subst a4
   exact ⟨bi, (Zt x ax), (aq).f1, rfl, rfl, rfl⟩
  replace aj := Zk aj
  refine WL_run rfl (Zf rfl (Zx aj)) rfl (Zp F28_1 rfl rfl rfl (WL_run rfl (Zf rfl (Zx aj)) rfl (Zn ((aq).f1) A23 rfl rfl rfl (WL_run rfl (Zf rfl (Zx aj)) rfl (Zr S23 rfl rfl (bq.mono (Zt x ax)) (WL_run rfl (Zf rfl (Zx aj)) rfl (Zp F28_1 rfl rfl rfl (WL_run rfl (Zf rfl (Zx aj)) rfl (Zn (aq) A23 rfl rfl rfl (WL_run rfl (Zf rfl (Zx aj)) rfl (Zr S23 rfl rfl (bA.mono (Zt x ax)) (WL_run rfl (Zf rfl (Zx aj)) rfl (Exec.neq rfl rfl rfl ?_)))))))))))))
  refine WL_passes 2 (by rw [aj]; rfl) ?_
  rcases ite_some c with ⟨ak, c⟩ | ⟨ak, c⟩
  ·refine WL_passes 17 (by rw [ak]; rfl) ?_
   refine Zb (Ze ?_)
   have ew := Zu c
   subst a4
   exact ⟨bi, (Zt x ax), (aq).f1, rfl, rfl, rfl⟩
  replace ak := Zk ak
  refine WL_run rfl (Zf rfl (Zx ak)) rfl (Zp F28_3 rfl rfl rfl (WL_run rfl (Zf rfl (Zx ak)) rfl (Zn ((aq).f1) A25 rfl rfl rfl (WL_run rfl (Zf rfl (Zx ak)) rfl (Zr S25 rfl rfl (br.mono (Zt x ax)) (WL_run rfl (Zf rfl (Zx ak)) rfl (Zp F28_3 rfl rfl rfl (WL_run rfl (Zf rfl (Zx ak)) rfl (Zn (aq) A25 rfl rfl rfl (WL_run rfl (Zf rfl (Zx ak)) rfl (Zr S25 rfl rfl (bB.mono (Zt x ax)) (WL_run rfl (Zf rfl (Zx ak)) rfl (Exec.neq rfl rfl rfl ?_)))))))))))))
  refine WL_passes 2 (by rw [ak]; rfl) ?_
  rcases ite_some c with ⟨al, c⟩ | ⟨al, c⟩
  ·refine WL_passes 8 (by rw [al]; rfl) ?_
   refine Zb (Ze ?_)
   have ex := Zu c
   subst a4
   exact ⟨bi, (Zt x ax), (aq).f1, rfl, rfl, rfl⟩
  replace al := Zk al
  refine WL_run rfl (Zf rfl (Zx al)) rfl (Zp F28_4 rfl rfl rfl (WL_run rfl (Zf rfl (Zx al)) rfl (Zn ((aq).f1) A26 rfl rfl rfl (WL_run rfl (Zf rfl (Zx al)) rfl (Zr S26 rfl rfl (aI.mono (Zt x ax)) (WL_run rfl (Zf rfl (Zx al)) rfl (Zp F28_4 rfl rfl rfl (WL_run rfl (Zf rfl (Zx al)) rfl (Zn (aq) A26 rfl rfl rfl (WL_run rfl (Zf rfl (Zx al)) rfl (Zr S26 rfl rfl (aV.mono (Zt x ax)) (WL_run rfl (Zf rfl (Zx al)) rfl (Exec.neq rfl rfl rfl (Za rfl rfl (Exec.pick_f (v := Value.bool (!decide ((a5.Ops.length : Int) = (a6.Ops.length : Int)))) rfl (Zx al) rfl (Zb (Ze ?_)))))))))))))))))
  have ey := Zu c
  subst a4
  exact ⟨bi, (Zt x ax), (aq).f1, rfl, rfl, rfl⟩
 intro eS fL cB
 obtain ⟨bj, k, bF, di, dj, bW⟩ := cB
 refine (Ze ?_)
 rcases ite_some hm with ⟨aN, hm⟩ | ⟨aN, hm⟩
 ·refine W_cond_t bW aN (Zc (Zd (Za rfl rfl (Zo (v := Value.bool (false)) rfl rfl (Zb (Ze (W_ret (at_ret ?_))))))))
  have ez := Zu hm
  subst r
  refine ⟨_, ret1 rfl, ?_⟩
  exact ⟨bj, k, ((bF).drop).drop, rfl⟩
 refine W_cond_f bW aN ?_
 replace aN := Zk aN
 refine W_skip (Ze (Zc (Zc (Zd (Za rfl rfl (Zo (v := Vi (0)) rfl rfl (Zb (Ze ?_))))))))
 obtain ⟨bC, c5, db, cV, cS⟩ := ctl_some hm
 refine W_mid (M := fun f' w' => ∃ s', (bC = .next s' ∨ bC = .brk s') ∧ (fun (bP : Int) => ∃ (cb : PHeap) , PHeap.le bj cb ∧ St w0 cb (Res.box d 28 [z, aa, ab, ac, ad] :: Res.box g 28 [ae, af, ag, ah, ai] :: H) w' ∧ f' 2 = Value.pointer (some ⟨d, 0, none⟩) ∧ f' 3 = Value.pointer (some ⟨g, 0, none⟩) ∧ f' 5 = Vi (bP)) s') ?_ ?_
 ·refine W_block (W_while (fun s' f' w' => (fun (i : Int) => ∃ (cc : PHeap) , PHeap.le bj cc ∧ St w0 cc (Res.box d 28 [z, aa, ab, ac, ad] :: Res.box g 28 [ae, af, ag, ah, ai] :: H) w' ∧ f' 2 = Value.pointer (some ⟨d, 0, none⟩) ∧ f' 3 = Value.pointer (some ⟨g, 0, none⟩) ∧ f' 5 = Vi (i)) s') c5 ?_ ?_)
  ·have cJ := (bF).f1
   exact ⟨bj, (Zv _), (cJ).f1, di, dj, rfl⟩
  intro i bu eT fM c8 o bM
  obtain ⟨bk, aD, a2, a1, az, m⟩ := c8
  refine Zc (Zc (Zd (Za rfl rfl (Zm (v := Vi (i)) rfl m (Za rfl rfl (Zp F28_1 rfl a1 rfl (Za rfl rfl (Zn (a2) A23 rfl rfl rfl (Za rfl rfl (Zr S23 rfl rfl (bq.mono (Zt k aD)) (Za rfl rfl (Zq rfl rfl rfl (Zb (Ze ?_))))))))))))))
  rcases ite_some o with ⟨aO, o⟩ | ⟨aO, o⟩
  ·refine W_cond_t rfl aO (W_skip (Ze (Zc (W_block (Zc ?_)))))
   obtain ⟨a, dy, o⟩ := Zg o
   obtain ⟨b, dz, o⟩ := Zg o
   refine W_mid (M := fun f' w' => ∃ (bl : PHeap) (bo : Value) (bp : Value) (bs : Nat) (bt : Nat), PHeap.le bk bl ∧ St w0 bl (Res.box d 28 [z, aa, ab, ac, ad] :: Res.box g 28 [ae, af, ag, ah, ai] :: Res.box bs 93 [Value.string (a.Fluent.Name), bo, Vi (a.Lo), Vi (a.Hi), Vi (a.Init)] :: Res.box bt 93 [Value.string (b.Fluent.Name), bp, Vi (b.Lo), Vi (b.Hi), Vi (b.Init)] :: H) w' ∧ f' 2 = Value.pointer (some ⟨d, 0, none⟩) ∧ f' 3 = Value.pointer (some ⟨g, 0, none⟩) ∧ f' 5 = Vi (i) ∧ f' 6 = Value.pointer (some ⟨bs, 0, none⟩) ∧ f' 7 = Value.pointer (some ⟨bt, 0, none⟩) ∧ SliceRep encStr bl bo a.Fluent.Args ∧ SliceRep encStr bl bp b.Fluent.Args) ?_ ?_
   ·refine W_dl (n0 := 13) (qs 0 10 (.alt (.e 10 [0, 1, 2, 3, 4, 5, 6, 7, 8, 9] (.e 11 [0, 1, 2, 3, 4, 5, 6, 7, 8, 9] (.e 12 [5, 6, 7, 8, 9] .done))) (.e 11 [0, 1, 2, 3, 4, 5, 6, 7, 8, 9] (.e 10 [0, 1, 2, 3, 4, 5, 6, 7, 8, 9] (.e 12 [5, 6, 7, 8, 9] .done))))) hmix (by kernel_rfl) (by kernel_rfl) (DL_q rfl rfl (Zp F28_1 rfl a1 rfl ⟨rfl, ?_⟩))
    refine DL_q rfl rfl (Zn (a2.drew) A23 rfl rfl rfl ⟨rfl, ?_⟩)
    refine DL_q rfl rfl (Zm (v := Vi (i)) rfl m ⟨rfl, ?_⟩)
    refine DL_q rfl rfl (Exec.index_repE S23 rfl rfl rfl (bq.mono (Zt k aD)) dy ?_)
    intro ei fc cq aW
    refine ⟨rfl, ?_⟩
    refine DL_q rfl rfl (Exec.load_atR (E := encGFluent) a2.drew A93 rfl rfl rfl cq ?_)
    intro fB d0 aX
    obtain ⟨aF, rfl, bg⟩ := encGFluent_val.1 d0
    refine ⟨rfl, ?_⟩
    refine DL_q rfl rfl (Zp F28_1 rfl az rfl ⟨rfl, ?_⟩)
    refine DL_q rfl rfl (Zn ((a2.drew).f1) A23 rfl rfl rfl ⟨rfl, ?_⟩)
    refine DL_q rfl rfl (Zm (v := Vi (i)) rfl m ⟨rfl, ?_⟩)
    refine DL_q rfl rfl (Exec.index_repE S23 rfl rfl rfl (bA.mono (Zt k aD)) dz ?_)
    intro ej fd cr aB
    refine ⟨rfl, ?_⟩
    refine DL_q rfl rfl (Exec.load_atR (E := encGFluent) a2.drew A93 rfl rfl rfl cr ?_)
    intro fC d1 aC
    obtain ⟨aG, rfl, bh⟩ := encGFluent_val.1 d1
    refine ⟨rfl, ?_⟩
    refine DL_alt ?_ ?_
    ·refine DL_e rfl rfl (Exec.alloc (cs := [Value.string (⟨#[]⟩), Value.slice none 0 0, Vi (0), Vi (0), Vi (0)]) a2.drew Z93 rfl rfl ?_)
     intro c1 fN aJ
     refine ⟨(ag_cons (ag_r rfl rfl (Zp F28_1 rfl a1 rfl ⟨rfl, rfl⟩)) (ag_cons (ag_r rfl rfl (Zn ((aJ).f1) A23 rfl rfl rfl ⟨rfl, rfl⟩)) (ag_cons (ag_r rfl rfl (Zm (v := Vi (i)) rfl m ⟨rfl, rfl⟩)) (ag_cons (ag_r rfl rfl (Exec.index_run rfl rfl rfl aW ⟨rfl, rfl⟩)) (ag_cons (ag_r rfl rfl (Exec.load_run rfl rfl (aX (Zv _) aJ) ⟨rfl, rfl⟩)) (ag_cons (ag_r rfl rfl (Zp F28_1 rfl az rfl ⟨rfl, rfl⟩)) (ag_cons (ag_r rfl rfl (Zn ((aJ).f2) A23 rfl rfl rfl ⟨rfl, rfl⟩)) (ag_cons (ag_r rfl rfl (Zm (v := Vi (i)) rfl m ⟨rfl, rfl⟩)) (ag_cons (ag_r rfl rfl (Exec.index_run rfl rfl rfl aB ⟨rfl, rfl⟩)) (ag_cons (ag_r rfl rfl (Exec.load_run rfl rfl (aC (Zv _) aJ) ⟨rfl, rfl⟩)) ag_nil)))))))))), ?_⟩
     refine DL_e rfl rfl (Exec.alloc (cs := [Value.string (⟨#[]⟩), Value.slice none 0 0, Vi (0), Vi (0), Vi (0)]) aJ Z93 rfl rfl ?_)
     intro c2 fO aK
     refine ⟨(ag_cons (ag_r rfl rfl (Zp F28_1 rfl a1 rfl ⟨rfl, rfl⟩)) (ag_cons (ag_r rfl rfl (Zn ((aK).f2) A23 rfl rfl rfl ⟨rfl, rfl⟩)) (ag_cons (ag_r rfl rfl (Zm (v := Vi (i)) rfl m ⟨rfl, rfl⟩)) (ag_cons (ag_r rfl rfl (Exec.index_run rfl rfl rfl aW ⟨rfl, rfl⟩)) (ag_cons (ag_r rfl rfl (Exec.load_run rfl rfl (aX (Zv _) aK) ⟨rfl, rfl⟩)) (ag_cons (ag_r rfl rfl (Zp F28_1 rfl az rfl ⟨rfl, rfl⟩)) (ag_cons (ag_r rfl rfl (Zn ((aK).f3) A23 rfl rfl rfl ⟨rfl, rfl⟩)) (ag_cons (ag_r rfl rfl (Zm (v := Vi (i)) rfl m ⟨rfl, rfl⟩)) (ag_cons (ag_r rfl rfl (Exec.index_run rfl rfl rfl aB ⟨rfl, rfl⟩)) (ag_cons (ag_r rfl rfl (Exec.load_run rfl rfl (aC (Zv _) aK) ⟨rfl, rfl⟩)) ag_nil)))))))))), ?_⟩
     refine DL_e rfl rfl (Exec.store_box (ds := [Value.string (a.Fluent.Name), aF, Vi (a.Lo), Vi (a.Hi), Vi (a.Init)]) (es := [Value.string (a.Fluent.Name), aF, Vi (a.Lo), Vi (a.Hi), Vi (a.Init)]) (aK).f1 A93 rfl rfl rfl rfl (Zj rfl (Zj (bg).one (Zj rfl (Zj rfl (Zj rfl one_nil))))) (Nat.le_of_ble_eq_true rfl) rfl ?_)
     intro fP bz
     refine ⟨(ag_cons (ag_r rfl rfl (Zp F28_1 rfl az rfl ⟨rfl, rfl⟩)) (ag_cons (ag_r rfl rfl (Zn ((bz).f3) A23 rfl rfl rfl ⟨rfl, rfl⟩)) (ag_cons (ag_r rfl rfl (Zm (v := Vi (i)) rfl m ⟨rfl, rfl⟩)) (ag_cons (ag_r rfl rfl (Exec.index_run rfl rfl rfl aB ⟨rfl, rfl⟩)) (ag_cons (ag_r rfl rfl (Exec.load_run rfl rfl (aC (Zv _) bz) ⟨rfl, rfl⟩)) ag_nil))))), ?_⟩
     refine DL_done (Za rfl rfl (Exec.store_box (ds := [Value.string (b.Fluent.Name), aG, Vi (b.Lo), Vi (b.Hi), Vi (b.Init)]) (es := [Value.string (b.Fluent.Name), aG, Vi (b.Lo), Vi (b.Hi), Vi (b.Init)]) (bz).f1 A93 rfl rfl rfl rfl (Zj rfl (Zj (bh).one (Zj rfl (Zj rfl (Zj rfl one_nil))))) (Nat.le_of_ble_eq_true rfl) rfl ?_))
     intro fQ cK
     refine Zb (Ze ?_)
     exact ⟨bk, aF, aG, c1, c2, (Zv _), (((cK).f1).f3).f3, a1, az, m, rfl, rfl, bg, bh⟩
    refine DL_e rfl rfl (Exec.alloc (cs := [Value.string (⟨#[]⟩), Value.slice none 0 0, Vi (0), Vi (0), Vi (0)]) a2.drew Z93 rfl rfl ?_)
    intro c3 fR aL
    refine ⟨(ag_cons (ag_r rfl rfl (Zp F28_1 rfl a1 rfl ⟨rfl, rfl⟩)) (ag_cons (ag_r rfl rfl (Zn ((aL).f1) A23 rfl rfl rfl ⟨rfl, rfl⟩)) (ag_cons (ag_r rfl rfl (Zm (v := Vi (i)) rfl m ⟨rfl, rfl⟩)) (ag_cons (ag_r rfl rfl (Exec.index_run rfl rfl rfl aW ⟨rfl, rfl⟩)) (ag_cons (ag_r rfl rfl (Exec.load_run rfl rfl (aX (Zv _) aL) ⟨rfl, rfl⟩)) (ag_cons (ag_r rfl rfl (Zp F28_1 rfl az rfl ⟨rfl, rfl⟩)) (ag_cons (ag_r rfl rfl (Zn ((aL).f2) A23 rfl rfl rfl ⟨rfl, rfl⟩)) (ag_cons (ag_r rfl rfl (Zm (v := Vi (i)) rfl m ⟨rfl, rfl⟩)) (ag_cons (ag_r rfl rfl (Exec.index_run rfl rfl rfl aB ⟨rfl, rfl⟩)) (ag_cons (ag_r rfl rfl (Exec.load_run rfl rfl (aC (Zv _) aL) ⟨rfl, rfl⟩)) ag_nil)))))))))), ?_⟩
    refine DL_e rfl rfl (Exec.alloc (cs := [Value.string (⟨#[]⟩), Value.slice none 0 0, Vi (0), Vi (0), Vi (0)]) aL Z93 rfl rfl ?_)
    intro c4 fS aM
    refine ⟨(ag_cons (ag_r rfl rfl (Zp F28_1 rfl a1 rfl ⟨rfl, rfl⟩)) (ag_cons (ag_r rfl rfl (Zn ((aM).f2) A23 rfl rfl rfl ⟨rfl, rfl⟩)) (ag_cons (ag_r rfl rfl (Zm (v := Vi (i)) rfl m ⟨rfl, rfl⟩)) (ag_cons (ag_r rfl rfl (Exec.index_run rfl rfl rfl aW ⟨rfl, rfl⟩)) (ag_cons (ag_r rfl rfl (Exec.load_run rfl rfl (aX (Zv _) aM) ⟨rfl, rfl⟩)) (ag_cons (ag_r rfl rfl (Zp F28_1 rfl az rfl ⟨rfl, rfl⟩)) (ag_cons (ag_r rfl rfl (Zn ((aM).f3) A23 rfl rfl rfl ⟨rfl, rfl⟩)) (ag_cons (ag_r rfl rfl (Zm (v := Vi (i)) rfl m ⟨rfl, rfl⟩)) (ag_cons (ag_r rfl rfl (Exec.index_run rfl rfl rfl aB ⟨rfl, rfl⟩)) (ag_cons (ag_r rfl rfl (Exec.load_run rfl rfl (aC (Zv _) aM) ⟨rfl, rfl⟩)) ag_nil)))))))))), ?_⟩
    refine DL_e rfl rfl (Exec.store_box (ds := [Value.string (a.Fluent.Name), aF, Vi (a.Lo), Vi (a.Hi), Vi (a.Init)]) (es := [Value.string (a.Fluent.Name), aF, Vi (a.Lo), Vi (a.Hi), Vi (a.Init)]) aM A93 rfl rfl rfl rfl (Zj rfl (Zj (bg).one (Zj rfl (Zj rfl (Zj rfl one_nil))))) (Nat.le_of_ble_eq_true rfl) rfl ?_)
    intro fT b0
    refine ⟨(ag_cons (ag_r rfl rfl (Zp F28_1 rfl az rfl ⟨rfl, rfl⟩)) (ag_cons (ag_r rfl rfl (Zn ((b0).f3) A23 rfl rfl rfl ⟨rfl, rfl⟩)) (ag_cons (ag_r rfl rfl (Zm (v := Vi (i)) rfl m ⟨rfl, rfl⟩)) (ag_cons (ag_r rfl rfl (Exec.index_run rfl rfl rfl aB ⟨rfl, rfl⟩)) (ag_cons (ag_r rfl rfl (Exec.load_run rfl rfl (aC (Zv _) b0) ⟨rfl, rfl⟩)) ag_nil))))), ?_⟩
    refine DL_done (Za rfl rfl (Exec.store_box (ds := [Value.string (b.Fluent.Name), aG, Vi (b.Lo), Vi (b.Hi), Vi (b.Init)]) (es := [Value.string (b.Fluent.Name), aG, Vi (b.Lo), Vi (b.Hi), Vi (b.Init)]) (b0).f1 A93 rfl rfl rfl rfl (Zj rfl (Zj (bh).one (Zj rfl (Zj rfl (Zj rfl one_nil))))) (Nat.le_of_ble_eq_true rfl) rfl ?_))
    intro fU cL
    refine Zb (Ze ?_)
    exact ⟨bk, aF, aG, c4, c3, (Zv _), (((cL).f1).f3).f3, a1, az, m, rfl, rfl, bg, bh⟩
   intro eU fV cC
   obtain ⟨dW, bo, bp, bs, bt, bS, b1, ba, bb, bc, bd, be, de, df⟩ := cC
   refine (Ze (Zc ?_))
   obtain ⟨aA, t, o⟩ := Zg o
   refine W_mid (M := fun f' w' => (fun (aA : Bool) => ∃ (cd : PHeap) , PHeap.le dW cd ∧ St w0 cd (Res.box d 28 [z, aa, ab, ac, ad] :: Res.box g 28 [ae, af, ag, ah, ai] :: H) w' ∧ f' 2 = Value.pointer (some ⟨d, 0, none⟩) ∧ f' 3 = Value.pointer (some ⟨g, 0, none⟩) ∧ f' 5 = Vi (i) ∧ f' 94 = Value.bool (aA)) aA) ?_ ?_
   ·refine Zd (Za rfl rfl (Zp F93_0 rfl bd rfl (Za rfl rfl (Exec.load_box_agg (ds := [Value.string (a.Fluent.Name), bo]) ((b1).f2) A56 rfl rfl rfl (Za rfl rfl (Zp F93_0 rfl be rfl (Za rfl rfl (Exec.load_box_agg (ds := [Value.string (b.Fluent.Name), bp]) ((b1).f3) A56 rfl rfl rfl ?_))))))))
    obtain ⟨eg, d2, t⟩ := Zg t
    refine Za rfl rfl (Tc rfl rfl rfl (Zi rfl (Zi rfl args_nil)) (ref10_Compare_sim d2 b1 de df).r ?_)
    rintro _ fW ⟨bm, aZ, ar, rfl⟩
    refine Za rfl rfl (Exec.neq rfl rfl rfl (Za rfl rfl (Zm (v := Value.bool (!decide (eg = 0))) rfl rfl ?_)))
    rcases ite_some t with ⟨au, t⟩ | ⟨au, t⟩
    ·refine WL_passes 20 (by rw [au]; rfl) ?_
     refine Zb (Ze ?_)
     have e0 := Zu t
     subst aA
     exact ⟨bm, aZ, ((((((ar).f2).drop).f2).drop).f1).f1, ba, bb, bc, rfl⟩
    replace au := Zk au
    refine WL_run rfl (Zf rfl (Zx au)) rfl (Zp F93_1 rfl bd rfl (WL_run rfl (Zf rfl (Zx au)) rfl (Zn ((ar).f2) A3 rfl rfl rfl (WL_run rfl (Zf rfl (Zx au)) rfl (Zp F93_1 rfl be rfl (WL_run rfl (Zf rfl (Zx au)) rfl (Zn ((ar).f3) A3 rfl rfl rfl (WL_run rfl (Zf rfl (Zx au)) rfl (Exec.neq rfl rfl rfl ?_)))))))))
    refine WL_passes 2 (by rw [au]; rfl) ?_
    rcases ite_some t with ⟨av, t⟩ | ⟨av, t⟩
    ·refine WL_passes 13 (by rw [av]; rfl) ?_
     refine Zb (Ze ?_)
     have e1 := Zu t
     subst aA
     exact ⟨bm, aZ, ((((((ar).f2).drop).f2).drop).f1).f1, ba, bb, bc, rfl⟩
    replace av := Zk av
    refine WL_run rfl (Zf rfl (Zx av)) rfl (Zp F93_2 rfl bd rfl (WL_run rfl (Zf rfl (Zx av)) rfl (Zn ((ar).f2) A3 rfl rfl rfl (WL_run rfl (Zf rfl (Zx av)) rfl (Zp F93_2 rfl be rfl (WL_run rfl (Zf rfl (Zx av)) rfl (Zn ((ar).f3) A3 rfl rfl rfl (WL_run rfl (Zf rfl (Zx av)) rfl (Exec.neq rfl rfl rfl ?_)))))))))
    refine WL_passes 2 (by rw [av]; rfl) ?_
    rcases ite_some t with ⟨aw, t⟩ | ⟨aw, t⟩
    ·refine WL_passes 6 (by rw [aw]; rfl) ?_
     refine Zb (Ze ?_)
     have e2 := Zu t
     subst aA
     exact ⟨bm, aZ, ((((((ar).f2).drop).f2).drop).f1).f1, ba, bb, bc, rfl⟩
    replace aw := Zk aw
    refine WL_run rfl (Zf rfl (Zx aw)) rfl (Zp F93_3 rfl bd rfl (WL_run rfl (Zf rfl (Zx aw)) rfl (Zn ((ar).f2) A3 rfl rfl rfl (WL_run rfl (Zf rfl (Zx aw)) rfl (Zp F93_3 rfl be rfl (WL_run rfl (Zf rfl (Zx aw)) rfl (Zn ((ar).f3) A3 rfl rfl rfl (WL_run rfl (Zf rfl (Zx aw)) rfl (Exec.neq rfl rfl rfl (Za rfl rfl (Exec.pick_f (v := Value.bool (!decide (a.Init = b.Init))) rfl (Zx aw) rfl (Zb (Ze ?_)))))))))))))
    have e3 := Zu t
    subst aA
    exact ⟨bm, aZ, ((((((ar).f2).drop).f2).drop).f1).f1, ba, bb, bc, rfl⟩
   intro eV fX cD
   obtain ⟨ce, bT, bG, dk, dl, dm, bX⟩ := cD
   refine (Ze ?_)
   rcases ite_some o with ⟨aP, o⟩ | ⟨aP, o⟩
   ·refine W_cond_t bX aP (Zc (Zd (Za rfl rfl (Zo (v := Value.bool (false)) rfl rfl (Zb (Ze (W_ret (ib_ret (at_ret (at_ret (ib_ret (at_ret (at_ret ?_)))))))))))))
    have e4 := Zu o
    subst bu
    have cY := db _ (bM (by intro _ h; cases h))
    have e5 := Zu cY
    subst r
    refine ⟨_, ret1 rfl, ?_⟩
    exact ⟨ce, (Zt (Zt (Zt k aD) bS) bT), ((bG).drop).drop, rfl⟩
   refine W_cond_f bX aP ?_
   replace aP := Zk aP
   refine W_skip (ib_normal (Ze (Zd (Za rfl rfl (Zm (v := Vi (i)) rfl dm (Za rfl rfl (Exec.add rfl rfl rfl (Za rfl rfl (Zo (v := Vi (IntKind.i64.wrap (i + 1))) rfl rfl (Zb (Ze ?_)))))))))))
   have e6 := Zu o
   subst bu
   refine ⟨_, rfl, ?_⟩; exact ⟨ce, (Zt (Zt aD bS) bT), ((bG).f1).f1, dk, dl, rfl⟩
  refine W_cond_f rfl aO ?_
  replace aO := Zk aO
  refine W_exit (at_exit (at_exit (ib_here (Ze ?_))))
  have e7 := Zu o
  subst bu
  refine ⟨_, .inr (bM (by intro _ h; cases h)), ?_⟩; exact ⟨bk, aD, ((a2).f1).f1, a1, az, m⟩
 rintro eW fY ⟨bP, bJ, cE⟩
 have hm := bJ.elim (cV _) (cS _)
 clear bJ
 obtain ⟨b6, y, cM, dn, dp, fm⟩ := cE
 refine (Ze (Zc (Zc (Zd (Za rfl rfl (Zo (v := Vi (0)) rfl rfl (Zb (Ze ?_))))))))
 obtain ⟨bD, c6, dc, cW, cT⟩ := ctl_some hm
 refine W_mid (M := fun f' w' => ∃ s', (bD = .next s' ∨ bD = .brk s') ∧ (fun (bQ : Int) => ∃ (cf : PHeap) , PHeap.le b6 cf ∧ St w0 cf (Res.box d 28 [z, aa, ab, ac, ad] :: Res.box g 28 [ae, af, ag, ah, ai] :: H) w' ∧ f' 2 = Value.pointer (some ⟨d, 0, none⟩) ∧ f' 3 = Value.pointer (some ⟨g, 0, none⟩) ∧ f' 8 = Vi (bQ)) s') ?_ ?_
 ·refine W_block (W_while (fun s' f' w' => (fun (a8 : Int) => ∃ (cg : PHeap) , PHeap.le b6 cg ∧ St w0 cg (Res.box d 28 [z, aa, ab, ac, ad] :: Res.box g 28 [ae, af, ag, ah, ai] :: H) w' ∧ f' 2 = Value.pointer (some ⟨d, 0, none⟩) ∧ f' 3 = Value.pointer (some ⟨g, 0, none⟩) ∧ f' 8 = Vi (a8)) s') c6 ?_ ?_)
  ·have cN := (cM).f1
   exact ⟨b6, (Zv _), (cN).f1, dn, dp, rfl⟩
  intro a8 bv eX fZ c9 p bN
  obtain ⟨dX, aE, a7, bf, b3, aU⟩ := c9
  refine Zc (Zc (Zd (Za rfl rfl (Zm (v := Vi (a8)) rfl aU (Za rfl rfl (Zp F28_3 rfl bf rfl (Za rfl rfl (Zn (a7) A25 rfl rfl rfl (Za rfl rfl (Zr S25 rfl rfl (br.mono (Zt (Zt k y) aE)) (Za rfl rfl (Zq rfl rfl rfl (Zb (Ze ?_))))))))))))))
  rcases ite_some p with ⟨aQ, p⟩ | ⟨aQ, p⟩
  ·refine W_cond_t rfl aQ (W_skip (Ze (Zc (W_block (Zc (W_dl (n0 := 12) (qs 0 10 (.e 10 [] (.q 11 .done))) hmix (by kernel_rfl) (by kernel_rfl) (DL_q rfl rfl (Zp F28_3 rfl bf rfl ⟨rfl, ?_⟩))))))))
   refine DL_q rfl rfl (Zn (a7.drew) A25 rfl rfl rfl ⟨rfl, ?_⟩)
   refine DL_q rfl rfl (Zm (v := Vi (a8)) rfl aU ⟨rfl, ?_⟩)
   obtain ⟨gh, d3, p⟩ := Zg p
   refine DL_q rfl rfl (Exec.index_repE S25 rfl rfl rfl (br.mono (Zt (Zt k y) aE)) d3 ?_)
   intro ek fe ct e8
   refine ⟨rfl, ?_⟩
   refine DL_q rfl rfl (Zw (E := encCond) a7.drew A47 rfl rfl rfl ct ?_)
   intro fD d4
   obtain ⟨fr, fs, ft, rfl, dF, dG, dH⟩ := encCond_val.1 d4
   refine ⟨rfl, ?_⟩
   refine DL_q rfl rfl (Zp F28_3 rfl b3 rfl ⟨rfl, ?_⟩)
   refine DL_q rfl rfl (Zn ((a7.drew).f1) A25 rfl rfl rfl ⟨rfl, ?_⟩)
   refine DL_q rfl rfl (Zm (v := Vi (a8)) rfl aU ⟨rfl, ?_⟩)
   obtain ⟨gi, d5, p⟩ := Zg p
   refine DL_q rfl rfl (Exec.index_repE S25 rfl rfl rfl (bB.mono (Zt (Zt k y) aE)) d5 ?_)
   intro el ff cu e9
   refine ⟨rfl, ?_⟩
   refine DL_q rfl rfl (Zw (E := encCond) a7.drew A47 rfl rfl rfl cu ?_)
   intro fE d6
   obtain ⟨fv, fw, fx, rfl, dI, dJ, dK⟩ := encCond_val.1 d6
   refine ⟨rfl, ?_⟩
   obtain ⟨gk, d7, p⟩ := Zg p
   refine DL_e rfl rfl (Tc rfl rfl rfl (Zi rfl (Zi rfl args_nil)) (ref18_SameCond_sim d7 a7.drew dF dG dH dI dJ dK).r ?_)
   rintro _ ga ⟨ch, bU, bH, rfl⟩
   refine ⟨ag_nil, ?_⟩
   refine DL_q rfl rfl (Exec.not rfl rfl ⟨rfl, ?_⟩)
   refine DL_done (Zb (Ze ?_))
   rcases ite_some p with ⟨aR, p⟩ | ⟨aR, p⟩
   ·refine W_cond_t rfl aR (Zc (Zd (Za rfl rfl (Zo (v := Value.bool (false)) rfl rfl (Zb (Ze (W_ret (ib_ret (at_ret (at_ret (ib_ret (at_ret (at_ret ?_)))))))))))))
    have eA := Zu p
    subst bv
    have cZ := dc _ (bN (by intro _ h; cases h))
    have eB := Zu cZ
    subst r
    refine ⟨_, ret1 rfl, ?_⟩
    exact ⟨ch, (Zt (Zt (Zt k y) aE) bU), ((bH).drop).drop, rfl⟩
   refine W_cond_f rfl aR ?_
   replace aR := Zk aR
   refine W_skip (ib_normal (Ze (Zd (Za rfl rfl (Zm (v := Vi (a8)) rfl aU (Za rfl rfl (Exec.add rfl rfl rfl (Za rfl rfl (Zo (v := Vi (IntKind.i64.wrap (a8 + 1))) rfl rfl (Zb (Ze ?_)))))))))))
   have eC := Zu p
   subst bv
   refine ⟨_, rfl, ?_⟩; exact ⟨ch, (Zt aE bU), ((bH).f1).f1, bf, b3, rfl⟩
  refine W_cond_f rfl aQ ?_
  replace aQ := Zk aQ
  refine W_exit (at_exit (at_exit (ib_here (Ze ?_))))
  have eD := Zu p
  subst bv
  refine ⟨_, .inr (bN (by intro _ h; cases h)), ?_⟩; exact ⟨dX, aE, ((a7).f1).f1, bf, b3, aU⟩
 rintro eY gb ⟨bQ, bK, cF⟩
 have hm := bK.elim (cW _) (cT _)
 clear bK
 obtain ⟨b7, a0, cO, dq, dr, fn⟩ := cF
 refine (Ze (Zc (Zc (Zd (Za rfl rfl (Zo (v := Vi (0)) rfl rfl (Zb (Ze ?_))))))))
 obtain ⟨bE, c7, dd, cX, cU⟩ := ctl_some hm
 refine W_mid (M := fun f' w' => ∃ s', (bE = .next s' ∨ bE = .brk s') ∧ (fun (bR : Int) => ∃ (ci : PHeap) , PHeap.le b7 ci ∧ St w0 ci (Res.box d 28 [z, aa, ab, ac, ad] :: Res.box g 28 [ae, af, ag, ah, ai] :: H) w' ∧ f' 2 = Value.pointer (some ⟨d, 0, none⟩) ∧ f' 3 = Value.pointer (some ⟨g, 0, none⟩) ∧ f' 9 = Vi (bR)) s') ?_ ?_
 ·refine W_block (W_while (fun s' f' w' => (fun (am : Int) => ∃ (cj : PHeap) , PHeap.le b7 cj ∧ St w0 cj (Res.box d 28 [z, aa, ab, ac, ad] :: Res.box g 28 [ae, af, ag, ah, ai] :: H) w' ∧ f' 2 = Value.pointer (some ⟨d, 0, none⟩) ∧ f' 3 = Value.pointer (some ⟨g, 0, none⟩) ∧ f' 9 = Vi (am)) s') c7 ?_ ?_)
  ·have cP := (cO).f1
   exact ⟨b7, (Zv _), (cP).f1, dq, dr, rfl⟩
  intro am bw eZ gc cA ao bO
  obtain ⟨bn, ay, b2, a3, a9, ap⟩ := cA
  refine Zc (Zc (Zd (Za rfl rfl (Zm (v := Vi (am)) rfl ap (Za rfl rfl (Zp F28_4 rfl a3 rfl (Za rfl rfl (Zn (b2) A26 rfl rfl rfl (Za rfl rfl (Zr S26 rfl rfl (aI.mono (Zt (Zt (Zt k y) a0) ay)) (Za rfl rfl (Zq rfl rfl rfl (Zb (Ze ?_))))))))))))))
  rcases ite_some ao with ⟨aS, ao⟩ | ⟨aS, ao⟩
  ·refine W_cond_t rfl aS (W_skip (Ze (Zc (W_block (Zc ?_)))))
   obtain ⟨aH, u, ao⟩ := Zg ao
   refine W_mid (M := fun f' w' => (fun (aH : Bool) => ∃ (ck : PHeap) , PHeap.le bn ck ∧ St w0 ck (Res.box d 28 [z, aa, ab, ac, ad] :: Res.box g 28 [ae, af, ag, ah, ai] :: H) w' ∧ f' 2 = Value.pointer (some ⟨d, 0, none⟩) ∧ f' 3 = Value.pointer (some ⟨g, 0, none⟩) ∧ f' 9 = Vi (am) ∧ f' 162 = Value.bool (aH)) aH) ?_ ?_
   ·refine W_dl (n0 := 42) (qs 0 39 (.e 39 [] (.q 40 (.q 41 .done)))) hmix (by kernel_rfl) (by kernel_rfl) ?_
    have n := b2.drew
    refine DL_q rfl rfl (Zp F28_4 rfl a3 rfl ⟨rfl, ?_⟩)
    refine DL_q rfl rfl (Zn (n) A26 rfl rfl rfl ⟨rfl, ?_⟩)
    refine DL_q rfl rfl (Zm (v := Vi (am)) rfl ap ⟨rfl, ?_⟩)
    obtain ⟨b8, b4, u⟩ := Zg u
    refine DL_q rfl rfl (Exec.index_repE S26 rfl rfl rfl (aI.mono (Zt (Zt (Zt k y) a0) ay)) b4 ?_)
    intro em fg cv eE
    refine ⟨rfl, ?_⟩
    refine DL_q rfl rfl (Zp F51_0 rfl rfl rfl ⟨rfl, ?_⟩)
    refine DL_q rfl rfl (Zw (E := encStr) n A9 rfl rfl rfl (cv.sub (Sub.iso (Sub.fst (Sub.refl _))) rfl) ?_)
    intro ea d8
    obtain rfl : ea = Value.string (b8.Name) := encStr_val.1 d8
    refine ⟨rfl, ?_⟩
    refine DL_q rfl rfl (Zp F28_4 rfl a9 rfl ⟨rfl, ?_⟩)
    refine DL_q rfl rfl (Zn ((n).f1) A26 rfl rfl rfl ⟨rfl, ?_⟩)
    refine DL_q rfl rfl (Zm (v := Vi (am)) rfl ap ⟨rfl, ?_⟩)
    obtain ⟨b9, b5, u⟩ := Zg u
    refine DL_q rfl rfl (Exec.index_repE S26 rfl rfl rfl (aV.mono (Zt (Zt (Zt k y) a0) ay)) b5 ?_)
    intro en fh cw eF
    refine ⟨rfl, ?_⟩
    refine DL_q rfl rfl (Zp F51_0 rfl rfl rfl ⟨rfl, ?_⟩)
    refine DL_q rfl rfl (Zw (E := encStr) n A9 rfl rfl rfl (cw.sub (Sub.iso (Sub.fst (Sub.refl _))) rfl) ?_)
    intro eb d9
    obtain rfl : eb = Value.string (b9.Name) := encStr_val.1 d9
    refine ⟨rfl, ?_⟩
    refine DL_q rfl rfl (Exec.str_neq rfl rfl rfl ⟨rfl, ?_⟩)
    refine DL_q rfl rfl (Zm (v := Value.bool (!decide (b8.Name = b9.Name))) rfl rfl ⟨rfl, ?_⟩)
    rcases ite_some u with ⟨j, u⟩ | ⟨j, u⟩
    ·refine DL_passes 28 (by rw [j]; rfl) ?_
     refine DL_done (Zb (Ze ?_))
     have eG := Zu u
     subst aH
     exact ⟨bn, (Zv _), ((n).f1).f1, a3, a9, ap, rfl⟩
    replace j := Zk j
    refine DL_qg rfl rfl (Zf rfl (Zx j)) (Zp F28_4 rfl a3 rfl ⟨rfl, ?_⟩)
    refine DL_qg rfl rfl (Zf rfl (Zx j)) (Zn (n) A26 rfl rfl rfl ⟨rfl, ?_⟩)
    refine DL_qg rfl rfl (Zf rfl (Zx j)) (Zm (v := Vi (am)) rfl ap ⟨rfl, ?_⟩)
    refine DL_qg rfl rfl (Zf rfl (Zx j)) (Exec.index_repE S26 rfl rfl rfl (aI.mono (Zt (Zt (Zt k y) a0) ay)) b4 ?_)
    intro eo fi cx eH
    refine ⟨rfl, ?_⟩
    refine DL_qg rfl rfl (Zf rfl (Zx j)) (Zp F51_1 rfl rfl rfl ⟨rfl, ?_⟩)
    refine DL_qg rfl rfl (Zf rfl (Zx j)) (Zw (E := (encInt .i64)) n A3 rfl rfl rfl (cx.sub (Sub.iso (Sub.snd (Sub.fst (Sub.refl _)) rfl)) rfl) ?_)
    intro ec dA
    obtain rfl : ec = Vi (b8.Cost) := encInt_val.1 dA
    refine ⟨rfl, ?_⟩
    refine DL_qg rfl rfl (Zf rfl (Zx j)) (Zp F28_4 rfl a9 rfl ⟨rfl, ?_⟩)
    refine DL_qg rfl rfl (Zf rfl (Zx j)) (Zn ((n).f1) A26 rfl rfl rfl ⟨rfl, ?_⟩)
    refine DL_qg rfl rfl (Zf rfl (Zx j)) (Zm (v := Vi (am)) rfl ap ⟨rfl, ?_⟩)
    refine DL_qg rfl rfl (Zf rfl (Zx j)) (Exec.index_repE S26 rfl rfl rfl (aV.mono (Zt (Zt (Zt k y) a0) ay)) b5 ?_)
    intro ep fj cy eI
    refine ⟨rfl, ?_⟩
    refine DL_qg rfl rfl (Zf rfl (Zx j)) (Zp F51_1 rfl rfl rfl ⟨rfl, ?_⟩)
    refine DL_qg rfl rfl (Zf rfl (Zx j)) (Zw (E := (encInt .i64)) n A3 rfl rfl rfl (cy.sub (Sub.iso (Sub.snd (Sub.fst (Sub.refl _)) rfl)) rfl) ?_)
    intro ed dB
    obtain rfl : ed = Vi (b9.Cost) := encInt_val.1 dB
    refine ⟨rfl, ?_⟩
    refine DL_qg rfl rfl (Zf rfl (Zx j)) (Exec.neq rfl rfl rfl ⟨rfl, ?_⟩)
    refine DL_passes 2 (by rw [j]; rfl) ?_
    rcases ite_some u with ⟨l, u⟩ | ⟨l, u⟩
    ·refine DL_passes 13 (by rw [l]; rfl) ?_
     refine DL_done (Zb (Ze ?_))
     have eJ := Zu u
     subst aH
     exact ⟨bn, (Zv _), ((n).f1).f1, a3, a9, ap, rfl⟩
    replace l := Zk l
    refine DL_qg rfl rfl (Zf rfl (Zx l)) (Zp F28_4 rfl a3 rfl ⟨rfl, ?_⟩)
    refine DL_qg rfl rfl (Zf rfl (Zx l)) (Zn (n) A26 rfl rfl rfl ⟨rfl, ?_⟩)
    refine DL_qg rfl rfl (Zf rfl (Zx l)) (Zm (v := Vi (am)) rfl ap ⟨rfl, ?_⟩)
    refine DL_qg rfl rfl (Zf rfl (Zx l)) (Exec.index_repE S26 rfl rfl rfl (aI.mono (Zt (Zt (Zt k y) a0) ay)) b4 ?_)
    intro er fk cz eK
    refine ⟨rfl, ?_⟩
    refine DL_qg rfl rfl (Zf rfl (Zx l)) (Zw (E := encGOp) n A51 rfl rfl rfl cz ?_)
    intro fF dC
    obtain ⟨fy, fz, f0, f4, f5, rfl, dL, dM, dN, dO, dP⟩ := encGOp_val.1 dC
    refine ⟨rfl, ?_⟩
    refine DL_qg rfl rfl (Zf rfl (Zx l)) (Zp F28_4 rfl a9 rfl ⟨rfl, ?_⟩)
    refine DL_qg rfl rfl (Zf rfl (Zx l)) (Zn ((n).f1) A26 rfl rfl rfl ⟨rfl, ?_⟩)
    refine DL_qg rfl rfl (Zf rfl (Zx l)) (Zm (v := Vi (am)) rfl ap ⟨rfl, ?_⟩)
    refine DL_qg rfl rfl (Zf rfl (Zx l)) (Exec.index_repE S26 rfl rfl rfl (aV.mono (Zt (Zt (Zt k y) a0) ay)) b5 ?_)
    intro et fl c0 eL
    refine ⟨rfl, ?_⟩
    refine DL_qg rfl rfl (Zf rfl (Zx l)) (Zw (E := encGOp) n A51 rfl rfl rfl c0 ?_)
    intro fG dD
    obtain ⟨f6, f7, f8, f9, fA, rfl, dQ, dR, dS, dT, dU⟩ := encGOp_val.1 dD
    refine ⟨rfl, ?_⟩
    obtain ⟨eh, dE, u⟩ := Zg u
    refine DL_eg rfl rfl (Zf rfl (Zx l)) (Tc rfl rfl rfl (Zi rfl (Zi rfl args_nil)) (ref18_SameOp_sim dE n dL dM dN dO dP dQ dR dS dT dU).r ?_)
    rintro _ gd ⟨dY, dg, cQ, rfl⟩
    refine ⟨ag_nil, ?_⟩
    refine DL_qg rfl rfl (Zf rfl (Zx l)) (Exec.not rfl rfl ⟨rfl, ?_⟩)
    refine DL_q rfl rfl (Exec.pick_f (v := Value.bool (!eh)) rfl (Zx l) rfl ⟨rfl, ?_⟩)
    refine DL_done (Zb (Ze ?_))
    have eM := Zu u
    subst aH
    exact ⟨dY, dg, ((cQ).f1).f1, a3, a9, ap, rfl⟩
   intro fa gf cG
   obtain ⟨cl, bV, bI, dt, du, dv, bY⟩ := cG
   refine (Ze ?_)
   rcases ite_some ao with ⟨aT, ao⟩ | ⟨aT, ao⟩
   ·refine W_cond_t bY aT (Zc (Zd (Za rfl rfl (Zo (v := Value.bool (false)) rfl rfl (Zb (Ze (W_ret (ib_ret (at_ret (at_ret (ib_ret (at_ret (at_ret ?_)))))))))))))
    have eN := Zu ao
    subst bw
    have da := dd _ (bO (by intro _ h; cases h))
    have eO := Zu da
    subst r
    refine ⟨_, ret1 rfl, ?_⟩
    exact ⟨cl, (Zt (Zt (Zt (Zt k y) a0) ay) bV), ((bI).drop).drop, rfl⟩
   refine W_cond_f bY aT ?_
   replace aT := Zk aT
   refine W_skip (ib_normal (Ze (Zd (Za rfl rfl (Zm (v := Vi (am)) rfl dv (Za rfl rfl (Exec.add rfl rfl rfl (Za rfl rfl (Zo (v := Vi (IntKind.i64.wrap (am + 1))) rfl rfl (Zb (Ze ?_)))))))))))
   have eP := Zu ao
   subst bw
   refine ⟨_, rfl, ?_⟩; exact ⟨cl, (Zt ay bV), ((bI).f1).f1, dt, du, rfl⟩
  refine W_cond_f rfl aS ?_
  replace aS := Zk aS
  refine W_exit (at_exit (at_exit (ib_here (Ze ?_))))
  have eQ := Zu ao
  subst bw
  refine ⟨_, .inr (bO (by intro _ h; cases h)), ?_⟩; exact ⟨bn, ay, ((b2).f1).f1, a3, a9, ap⟩
 rintro fb gg ⟨bR, bL, cH⟩
 have hm := bL.elim (cX _) (cU _)
 clear bL
 obtain ⟨dZ, dh, cR, fo, fp, fq⟩ := cH
 refine (Ze (Zc (Zd (Za rfl rfl (Zo (v := Value.bool (true)) rfl rfl (Zb (Ze (W_ret ?_))))))))
 have eR := Zu hm
 subst r
 refine ⟨_, ret1 rfl, ?_⟩
 exact ⟨dZ, (Zt (Zt (Zt k y) a0) dh), ((cR).drop).drop, rfl⟩
theorem law19_SimplifyTasks_sim {w0 w : World} {s : PHeap} {H : List Res} {fu : Nat} {ae : Ground} {z : Value} {aa : Value} {ab : Value} {ac : Value} {ad : Value} {r : Bool} (hm : law19_SimplifyTasks_p fu ae = some r) (hS : St w0 s (H) w) (aD : SliceRep encAtom s z ae.Atoms) (aE : SliceRep encGFluent s aa ae.Fluents) (aF : SliceRep (encInt .i64) s ab ae.Init) (aG : SliceRep encCond s ac ae.Goal) (ay : SliceRep encGOp s ad ae.Ops) :
  Calls Try.prog 3 #[Value.agg #[z, aa, ab, ac, ad]] w fun e w' => ∃ v, e = .returned v ∧ ((fun (bT : Bool) => ∃ (be : PHeap) , PHeap.le s be ∧ St w0 be (H) w' ∧ v = Value.bool (bT)) r) := by
 unfold law19_SimplifyTasks_p at hm
 refine calls_of_W Try.func3 rfl rfl (Zc (Zd (Za rfl rfl (Exec.box (cs := [z, aa, ab, ac, ad]) hS rfl rfl rfl ?_))))
 intro aW cv aX
 refine Za rfl rfl (Zo (v := Value.bool (false)) rfl rfl (Zb (Ze (Zc (Zc ?_)))))
 obtain ⟨ap, g, hm⟩ := Zg hm
 refine W_mid (M := fun f' w' => (fun (ap : Bool) => ∃ (bf : PHeap) , PHeap.le s bf ∧ St w0 bf (Res.box aW 28 [z, aa, ab, ac, ad] :: H) w' ∧ f' 1 = Value.pointer (some ⟨aW, 0, none⟩) ∧ f' 20 = Value.bool (ap)) ap) ?_ ?_
 ·refine Zd (Za rfl rfl (Exec.load_box_agg (ds := [z, aa, ab, ac, ad]) (aX) A28 rfl rfl rfl ?_))
  obtain ⟨bU, b8, g⟩ := Zg g
  refine Za rfl rfl (Tc rfl rfl rfl (Zi rfl args_nil) (law18_Large_sim b8 aX aD aE aF aG ay).r ?_)
  rintro _ cw ⟨bg, a4, az, rfl⟩
  refine Za rfl rfl (Zm (v := Value.bool (bU)) rfl rfl ?_)
  rcases ite_some g with ⟨n, g⟩ | ⟨n, g⟩
  ·refine WL_passes 9 (by rw [n]; rfl) ?_
   refine Zb (Ze ?_)
   have cb := Zu g
   subst ap
   exact ⟨bg, a4, az, rfl, rfl⟩
  replace n := Zk n
  refine WL_run rfl (Zf rfl (Zx n)) rfl (Zp F28_4 rfl rfl rfl (WL_run rfl (Zf rfl (Zx n)) rfl (Zn (az) A26 rfl rfl rfl (WL_run rfl (Zf rfl (Zx n)) rfl (Zr S26 rfl rfl (ay.mono a4) (WL_run rfl (Zf rfl (Zx n)) rfl (Exec.gtr rfl rfl rfl ?_)))))))
  refine WL_passes 2 (by rw [n]; rfl) ?_
  rcases ite_some g with ⟨u, g⟩ | ⟨u, g⟩
  ·refine WL_passes 3 (by rw [u]; rfl) ?_
   refine Zb (Ze ?_)
   have cc := Zu g
   subst ap
   exact ⟨bg, a4, az, rfl, rfl⟩
  replace u := Zk u
  obtain ⟨bV, b9, g⟩ := Zg g
  refine WL_run rfl (Zf rfl (Zx u)) rfl (Tc rfl rfl rfl args_nil (law19_awake_sim b9 az ).r ?_)
  rintro _ cx ⟨bI, b1, bn, rfl⟩
  refine WL_run rfl (Zf rfl (Zx u)) rfl (Exec.not rfl rfl (Za rfl rfl (Exec.pick_f (v := Value.bool (!bV)) rfl (Zx u) rfl (Zb (Ze ?_)))))
  have cd := Zu g
  subst ap
  exact ⟨bI, (Zt a4 b1), bn, rfl, rfl⟩
 intro cp cy bk
 obtain ⟨ct, h, aH, aZ, ba⟩ := bk
 refine (Ze ?_)
 rcases ite_some hm with ⟨av, hm⟩ | ⟨av, hm⟩
 ·refine W_cond_t ba av (Zc (Zd ?_))
  obtain ⟨bW, bA, hm⟩ := Zg hm
  refine Za rfl rfl (Tc rfl rfl rfl args_nil (law19_awake_sim bA aH ).r ?_)
  rintro _ cz ⟨bJ, b2, bo, rfl⟩
  refine Za rfl rfl (Zo (v := Value.bool (bW)) rfl rfl (Zb (Ze (W_ret (at_ret ?_)))))
  have ce := Zu hm
  subst r
  refine ⟨_, ret1 rfl, ?_⟩
  exact ⟨bJ, (Zt h b2), (bo).drop, rfl⟩
 refine W_cond_f ba av ?_
 replace av := Zk av
 refine W_skip (Ze (Zc (Zd (Za rfl rfl (Exec.load_box_agg (ds := [z, aa, ab, ac, ad]) (aH) A28 rfl aZ rfl ?_)))))
 obtain ⟨bR, bB, hm⟩ := Zg hm
 obtain ⟨q, cI, cJ⟩ := bR
 replace hm := un3_eq hm
 refine Za rfl rfl (Tc rfl rfl rfl (Zi rfl args_nil) (simplify_Simplify_sim bB aH (aD.mono h) (aE.mono h) (aF.mono h) (aG.mono h) (ay.mono h)).r ?_)
 rintro _ c0 ⟨cu, af, ag, ah, ai, aj, a6, a7, a8, x, bp, rfl, aI, aJ, aK, aL, aM, aN, aO, aP⟩
 refine Za rfl rfl (Zm (v := Value.tuple #[Value.agg #[af, ag, ah, ai, aj], Value.agg #[a6, a7, a8], errV 41 (q)]) rfl rfl (Za rfl rfl (Exec.extract (v := Value.agg #[af, ag, ah, ai, aj]) rfl rfl rfl (Za rfl rfl (Exec.extract (v := Value.agg #[a6, a7, a8]) rfl rfl rfl (Za rfl rfl (Exec.extract (v := errV 41 (q)) rfl rfl rfl (Za rfl rfl (Exec.alloc (cs := [Value.slice none 0 0, Value.slice none 0 0, Value.slice none 0 0, Value.slice none 0 0, Value.slice none 0 0]) bp Z28 rfl rfl ?_)))))))))
 intro bX c1 bq
 refine Za rfl rfl (Exec.alloc (cs := [Value.slice none 0 0, Value.slice none 0 0, Value.slice none 0 0]) bq Z32 rfl rfl ?_)
 intro bY c2 br
 refine Za rfl rfl (Exec.store_box (ds := [af, ag, ah, ai, aj]) (es := [af, ag, ah, ai, aj]) (br).f1 A28 rfl rfl rfl rfl (Zj (aI).one (Zj (aJ).one (Zj (aK).one (Zj (aL).one (Zj (aM).one one_nil))))) (Nat.le_of_ble_eq_true rfl) rfl ?_)
 intro c3 bs
 refine Za rfl rfl (Exec.store_box (ds := [a6, a7, a8]) (es := [a6, a7, a8]) (bs).f1 A32 rfl rfl rfl rfl (Zj (aN).one (Zj (aO).one (Zj (aP).one one_nil))) (Nat.le_of_ble_eq_true rfl) rfl ?_)
 intro c4 aY
 refine Za rfl rfl (Zo (v := errV 41 (q)) rfl rfl (Zb (Ze (Zc (Zd (Za rfl rfl (Exec.load_box_agg (ds := [z, aa, ab, ac, ad]) ((aY).f2) A28 rfl aZ rfl ?_)))))))
 obtain ⟨bS, bC, hm⟩ := Zg hm
 obtain ⟨aC, cK, cL⟩ := bS
 replace hm := un3_eq hm
 refine Za rfl rfl (Tc rfl rfl rfl (Zi rfl args_nil) (ref19_Simplify_sim bC aY (aD.mono (Zt h x)) (aE.mono (Zt h x)) (aF.mono (Zt h x)) (aG.mono (Zt h x)) (ay.mono (Zt h x))).r ?_)
 rintro _ c5 ⟨aV, ak, al, am, an, ao, a9, aA, aB, b, bt, rfl, aQ, aR, aS, aT, aU, bb, bc, bd⟩
 refine Za rfl rfl (Zm (v := Value.tuple #[Value.agg #[ak, al, am, an, ao], Value.agg #[a9, aA, aB], Value.bool (aC)]) rfl rfl (Za rfl rfl (Exec.extract (v := Value.agg #[ak, al, am, an, ao]) rfl rfl rfl (Za rfl rfl (Exec.extract (v := Value.agg #[a9, aA, aB]) rfl rfl rfl (Za rfl rfl (Exec.extract (v := Value.bool (aC)) rfl rfl rfl (Za rfl rfl (Exec.alloc (cs := [Value.slice none 0 0, Value.slice none 0 0, Value.slice none 0 0, Value.slice none 0 0, Value.slice none 0 0]) bt Z28 rfl rfl ?_)))))))))
 intro bZ c6 bu
 refine Za rfl rfl (Exec.alloc (cs := [Value.slice none 0 0, Value.slice none 0 0, Value.slice none 0 0]) bu Z37 rfl rfl ?_)
 intro ca c7 bv
 refine Za rfl rfl (Exec.store_box (ds := [ak, al, am, an, ao]) (es := [ak, al, am, an, ao]) (bv).f1 A28 rfl rfl rfl rfl (Zj (aQ).one (Zj (aR).one (Zj (aS).one (Zj (aT).one (Zj (aU).one one_nil))))) (Nat.le_of_ble_eq_true rfl) rfl ?_)
 intro c8 bw
 refine Za rfl rfl (Exec.store_box (ds := [a9, aA, aB]) (es := [a9, aA, aB]) (bw).f1 A37 rfl rfl rfl rfl (Zj (bb).one (Zj (bc).one (Zj (bd).one one_nil))) (Nat.le_of_ble_eq_true rfl) rfl ?_)
 intro c9 ar
 refine Za rfl rfl (Zo (v := Value.bool (aC)) rfl rfl (Zb (Ze (Zc (Zc (Zd (Za rfl rfl (Zm (v := Value.bool (aC)) rfl rfl (Za rfl rfl (Exec.not rfl rfl (Zb (Ze ?_))))))))))))
 rcases ite_some hm with ⟨aw, hm⟩ | ⟨aw, hm⟩
 ·refine W_cond_t rfl aw (Zc ?_)
  obtain ⟨aq, i, hm⟩ := Zg hm
  refine W_mid (M := fun f' w' => (fun (aq : Bool) => ∃ (bh : PHeap) , PHeap.le aV bh ∧ St w0 bh (H) w' ∧ f' 2 = Value.bool (aq)) aq) ?_ ?_
  ·refine Zd (Za rfl rfl (Zm (v := errV 41 (q)) rfl rfl (Za rfl rfl (Tc rfl rfl rfl (Zi rfl (Zi rfl args_nil)) (base_Is_sim (base_Is_tot q 2) ar ).r ?_))))
   rintro _ cA ⟨bK, d, a0, rfl⟩
   refine Za rfl rfl (Zm (v := Value.bool ((base_Is_t q 2))) rfl rfl ?_)
   rcases ite_some i with ⟨o, i⟩ | ⟨o, i⟩
   ·refine WL_run rfl (Zf rfl (Zx o)) rfl (Exec.load_box_agg (ds := [af, ag, ah, ai, aj]) ((a0).f3) A28 rfl rfl rfl (WL_run rfl (Zf rfl (Zx o)) rfl (Exec.load_box_agg (ds := [ak, al, am, an, ao]) ((a0).f1) A28 rfl rfl rfl ?_)))
    obtain ⟨cM, bD, i⟩ := Zg i
    refine WL_run rfl (Zf rfl (Zx o)) rfl (Tc rfl rfl rfl (Zi rfl (Zi rfl args_nil)) (ref18_Same_sim bD a0 (aI.mono (Zt b d)) (aJ.mono (Zt b d)) (aK.mono (Zt b d)) (aL.mono (Zt b d)) (aM.mono (Zt b d)) (aQ.mono d) (aR.mono d) (aS.mono d) (aT.mono d) (aU.mono d)).r ?_)
    rintro _ cB ⟨bi, ax, au, rfl⟩
    refine WL_passes 2 (by rw [o]; rfl) ?_
    rcases ite_some i with ⟨c, i⟩ | ⟨c, i⟩
    ·refine WL_run rfl (Zf rfl (Zx c)) rfl (Zp F32_0 rfl rfl rfl (WL_run rfl (Zf rfl (Zx c)) rfl (Zn ((au).f2) A24 rfl rfl rfl (WL_run rfl (Zf rfl (Zx c)) rfl (Zr S24 rfl rfl (aN.mono (Zt (Zt b d) ax)) (WL_run rfl (Zf rfl (Zx c)) rfl (Zp F32_1 rfl rfl rfl (WL_run rfl (Zf rfl (Zx c)) rfl (Zn ((au).f2) A24 rfl rfl rfl (WL_run rfl (Zf rfl (Zx c)) rfl (Zr S24 rfl rfl (aO.mono (Zt (Zt b d) ax)) (WL_run rfl (Zf rfl (Zx c)) rfl (Exec.add rfl rfl rfl (WL_run rfl (Zf rfl (Zx c)) rfl (Zp F32_2 rfl rfl rfl (WL_run rfl (Zf rfl (Zx c)) rfl (Zn ((au).f2) A24 rfl rfl rfl (WL_run rfl (Zf rfl (Zx c)) rfl (Zr S24 rfl rfl (aP.mono (Zt (Zt b d) ax)) (WL_run rfl (Zf rfl (Zx c)) rfl (Exec.add rfl rfl rfl (WL_run rfl (Zf rfl (Zx c)) rfl (Exec.eql rfl rfl rfl ?_)))))))))))))))))))))))
     refine WL_passes 2 (by rw [c]; rfl) ?_
     refine Zb (Ze ?_)
     have cf := Zu i
     subst aq
     exact ⟨bi, (Zt d ax), (((((au).drop).drop).drop).drop).drop, rfl⟩
    replace c := Zk c
    refine WL_passes 14 (by rw [c]; rfl) ?_
    refine Zb (Ze ?_)
    have cg := Zu i
    subst aq
    exact ⟨bi, (Zt d ax), (((((au).drop).drop).drop).drop).drop, rfl⟩
   replace o := Zk o
   refine WL_passes 19 (by rw [o]; rfl) ?_
   refine Zb (Ze ?_)
   have ch := Zu i
   subst aq
   exact ⟨bK, d, (((((a0).drop).drop).drop).drop).drop, rfl⟩
  intro cq cC bl
  obtain ⟨bL, b3, bx, b6⟩ := bl
  refine (Ze (W_ret (at_ret ?_)))
  have ci := Zu hm
  subst r
  refine ⟨_, ret1 rfl, ?_⟩
  exact ⟨bL, (Zt (Zt (Zt h x) b) b3), bx, b6⟩
 refine W_cond_f rfl aw ?_
 replace aw := Zk aw
 refine W_skip (Ze (Zc ?_))
 obtain ⟨t, a, hm⟩ := Zg hm
 refine W_mid (M := fun f' w' => (fun (t : Bool) => ∃ (bj : PHeap) , PHeap.le aV bj ∧ St w0 bj (H) w' ∧ f' 2 = Value.bool (t)) t) ?_ ?_
 ·refine Zd (Za rfl rfl (Zm (v := errV 41 (q)) rfl rfl (Za rfl rfl (Exec.err_eql_nil (T := 41) Try.underlying34 rfl rfl rfl (Za rfl rfl (Zm (v := Value.bool (q.isNone)) rfl rfl ?_))))))
  rcases ite_some a with ⟨p, a⟩ | ⟨p, a⟩
  ·refine WL_run rfl (Zf rfl (Zx p)) rfl (Exec.load_box_agg (ds := [af, ag, ah, ai, aj]) ((ar).f3) A28 rfl rfl rfl (WL_run rfl (Zf rfl (Zx p)) rfl (Exec.load_box_agg (ds := [ak, al, am, an, ao]) ((ar).f1) A28 rfl rfl rfl ?_)))
   obtain ⟨cN, bE, a⟩ := Zg a
   refine WL_run rfl (Zf rfl (Zx p)) rfl (Tc rfl rfl rfl (Zi rfl (Zi rfl args_nil)) (ref18_Same_sim bE ar (aI.mono b) (aJ.mono b) (aK.mono b) (aL.mono b) (aM.mono b) aQ aR aS aT aU).r ?_)
   rintro _ cD ⟨bM, m, a1, rfl⟩
   refine WL_passes 2 (by rw [p]; rfl) ?_
   rcases ite_some a with ⟨j, a⟩ | ⟨j, a⟩
   ·refine WL_run rfl (Zf rfl (Zx j)) rfl (Zp F32_0 rfl rfl rfl (WL_run rfl (Zf rfl (Zx j)) rfl (Zn ((a1).f2) A24 rfl rfl rfl (WL_run rfl (Zf rfl (Zx j)) rfl (Zp F37_0 rfl rfl rfl (WL_run rfl (Zf rfl (Zx j)) rfl (Zn (a1) A24 rfl rfl rfl ?_)))))))
    obtain ⟨cO, bF, a⟩ := Zg a
    refine WL_run rfl (Zf rfl (Zx j)) rfl (Tc rfl rfl rfl (Zi rfl (Zi rfl args_nil)) (base_Ints_sim bF a1 (aN.mono (Zt b m)) (bb.mono m)).r ?_)
    rintro _ cE ⟨bN, y, a2, rfl⟩
    refine WL_passes 2 (by rw [j]; rfl) ?_
    rcases ite_some a with ⟨k, a⟩ | ⟨k, a⟩
    ·refine WL_run rfl (Zf rfl (Zx k)) rfl (Zp F32_1 rfl rfl rfl (WL_run rfl (Zf rfl (Zx k)) rfl (Zn ((a2).f2) A24 rfl rfl rfl (WL_run rfl (Zf rfl (Zx k)) rfl (Zp F37_1 rfl rfl rfl (WL_run rfl (Zf rfl (Zx k)) rfl (Zn (a2) A24 rfl rfl rfl ?_)))))))
     obtain ⟨cP, bG, a⟩ := Zg a
     refine WL_run rfl (Zf rfl (Zx k)) rfl (Tc rfl rfl rfl (Zi rfl (Zi rfl args_nil)) (base_Ints_sim bG a2 (aO.mono (Zt (Zt b m) y)) (bc.mono (Zt m y))).r ?_)
     rintro _ cF ⟨bO, a5, a3, rfl⟩
     refine WL_passes 2 (by rw [k]; rfl) ?_
     rcases ite_some a with ⟨l, a⟩ | ⟨l, a⟩
     ·refine WL_run rfl (Zf rfl (Zx l)) rfl (Zp F32_2 rfl rfl rfl (WL_run rfl (Zf rfl (Zx l)) rfl (Zn ((a3).f2) A24 rfl rfl rfl (WL_run rfl (Zf rfl (Zx l)) rfl (Zp F37_2 rfl rfl rfl (WL_run rfl (Zf rfl (Zx l)) rfl (Zn (a3) A24 rfl rfl rfl ?_)))))))
      obtain ⟨cQ, bH, a⟩ := Zg a
      refine WL_run rfl (Zf rfl (Zx l)) rfl (Tc rfl rfl rfl (Zi rfl (Zi rfl args_nil)) (base_Ints_sim bH a3 (aP.mono (Zt (Zt (Zt b m) y) a5)) (bd.mono (Zt (Zt m y) a5))).r ?_)
      rintro _ cG ⟨bP, b4, bz, rfl⟩
      refine WL_passes 2 (by rw [l]; rfl) ?_
      refine Zb (Ze ?_)
      have cj := Zu a
      subst t
      exact ⟨bP, (Zt (Zt (Zt m y) a5) b4), (((((bz).drop).drop).drop).drop).drop, rfl⟩
     replace l := Zk l
     refine WL_passes 7 (by rw [l]; rfl) ?_
     refine Zb (Ze ?_)
     have ck := Zu a
     subst t
     exact ⟨bO, (Zt (Zt m y) a5), (((((a3).drop).drop).drop).drop).drop, rfl⟩
    replace k := Zk k
    refine WL_passes 14 (by rw [k]; rfl) ?_
    refine Zb (Ze ?_)
    have cl := Zu a
    subst t
    exact ⟨bN, (Zt m y), (((((a2).drop).drop).drop).drop).drop, rfl⟩
   replace j := Zk j
   refine WL_passes 21 (by rw [j]; rfl) ?_
   refine Zb (Ze ?_)
   have cm := Zu a
   subst t
   exact ⟨bM, m, (((((a1).drop).drop).drop).drop).drop, rfl⟩
  replace p := Zk p
  refine WL_passes 26 (by rw [p]; rfl) ?_
  refine Zb (Ze ?_)
  have cn := Zu a
  subst t
  exact ⟨aV, (Zv _), (((((ar).drop).drop).drop).drop).drop, rfl⟩
 intro cr cH bm
 obtain ⟨bQ, b5, b0, b7⟩ := bm
 refine (Ze (W_ret ?_))
 have co := Zu hm
 subst r
 refine ⟨_, ret1 rfl, ?_⟩
 exact ⟨bQ, (Zt (Zt (Zt h x) b) b5), b0, b7⟩
end Go.Pw
