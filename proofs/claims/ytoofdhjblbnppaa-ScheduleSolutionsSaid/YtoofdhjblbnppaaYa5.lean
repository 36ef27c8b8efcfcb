/-
  The walks (printed by my generator).
-/
import Derived.Test.YtoofdhjblbnppaaL29
import Derived.Test.YtoofdhjblbnppaaL27
import Derived.Test.YtoofdhjblbnppaaYa4
set_option maxRecDepth 100000
set_option maxHeartbeats 4000000
set_option linter.unusedVariables false
namespace Go.Pw
open Go.Proofs
theorem law57_ScheduleSolutions_sim {w0 w : World} {s : PHeap} {H : List Res} {bu : Temporal} {c2 : (List Launch)} {cj : (List Int)} {x : Value} {y : Value} {z : Value} {aa : Value} {ak : Value} {ah : Value} {r : Bool} (hm : law57_ScheduleSolutions_p bu c2 cj = some r) (hS : St w0 s (H) w) (a0 : SliceRep (encInt .i64) s x bu.Vars) (a1 : SliceRep (encInt .i64) s y bu.Init) (a2 : SliceRep encFact s z bu.Goal) (a3 : SliceRep encJob s aa bu.Jobs) (aG : SliceRep encLaunch s ak c2) (a8 : SliceRep (encInt .i8) s ah cj) :
  Calls Try.prog 6 #[Value.agg #[x, y, z, aa], ak, ah] w fun e w' => ∃ v, e = .returned v ∧ ((fun (fZ : Bool) => ∃ (cU : PHeap) , PHeap.le s cU ∧ St w0 cU (H) w' ∧ v = Value.bool (fZ)) r) := by
 unfold law57_ScheduleSolutions_p at hm
 refine calls_of_W Try.func6 rfl rfl (Zc (Zd (Za rfl rfl (Exec.box (cs := [x, y, z, aa]) hS rfl rfl rfl ?_))))
 intro an ij dB
 refine Za rfl rfl (Zo (v := Value.bool (false)) rfl rfl (Zb (Ze (Zc (Zc ?_)))))
 obtain ⟨b2, a5, hm⟩ := Zg hm
 refine W_mid (M := fun f' w' => (fun (b2 : Bool) => ∃ (cV : PHeap) , PHeap.le s cV ∧ St w0 cV (Res.box an 26 [x, y, z, aa] :: H) w' ∧ f' 1 = ak ∧ f' 2 = ah ∧ f' 3 = Value.pointer (some ⟨an, 0, none⟩) ∧ f' 26 = Value.bool (b2)) b2) ?_ ?_
 ·refine Zd ?_
  obtain ⟨ga, e8, a5⟩ := Zg a5
  refine Za rfl rfl (Tc rfl rfl rfl args_nil (law57_awake_sim e8 dB ).r ?_)
  rintro _ ik ⟨fu, aN, bG, rfl⟩
  refine Za rfl rfl (Exec.not rfl rfl (Za rfl rfl (Zm (v := Value.bool (!ga)) rfl rfl ?_)))
  rcases ite_some a5 with ⟨a4, a5⟩ | ⟨a4, a5⟩
  ·refine WL_passes 5 (by rw [a4]; rfl) ?_
   refine Zb (Ze ?_)
   have g1 := Zu a5
   subst b2
   exact ⟨fu, aN, bG, rfl, rfl, rfl, rfl⟩
  replace a4 := Zk a4
  refine WL_run rfl (Zf rfl (Zx a4)) rfl (Exec.load_box_agg (ds := [x, y, z, aa]) (bG) A26 rfl rfl rfl (WL_run rfl (Zf rfl (Zx a4)) rfl (Zm (v := ak) rfl rfl ?_)))
  obtain ⟨gb, e9, a5⟩ := Zg a5
  refine WL_run rfl (Zf rfl (Zx a4)) rfl (Tc rfl rfl rfl (Zi rfl (Zi rfl args_nil)) (law57_few_sim e9 bG (a0.mono aN) (a1.mono aN) (a2.mono aN) (a3.mono aN) (aG.mono aN)).r ?_)
  rintro _ il ⟨fv, dX, dC, rfl⟩
  refine WL_run rfl (Zf rfl (Zx a4)) rfl (Exec.not rfl rfl (Za rfl rfl (Exec.pick_f (v := Value.bool (!gb)) rfl (Zx a4) rfl (Zb (Ze ?_)))))
  have g2 := Zu a5
  subst b2
  exact ⟨fv, (Zt aN dX), dC, rfl, rfl, rfl, rfl⟩
 intro hd im d5
 obtain ⟨hJ, a, bH, bU, c7, bV, c8⟩ := d5
 refine (Ze ?_)
 rcases ite_some hm with ⟨bf, hm⟩ | ⟨bf, hm⟩
 ·refine W_cond_t c8 bf (Zc (Zd ?_))
  obtain ⟨gc, eA, hm⟩ := Zg hm
  refine Za rfl rfl (Tc rfl rfl rfl args_nil (law57_awake_sim eA bH ).r ?_)
  rintro _ io ⟨fw, dY, dD, rfl⟩
  refine Za rfl rfl (Zo (v := Value.bool (gc)) rfl rfl (Zb (Ze (W_ret (at_ret ?_)))))
  have g3 := Zu hm
  subst r
  refine ⟨_, ret1 rfl, ?_⟩
  exact ⟨fw, (Zt a dY), (dD).drop, rfl⟩
 refine W_cond_f c8 bf ?_
 replace bf := Zk bf
 refine W_skip (Ze (Zc (Zd (Za rfl rfl (Exec.load_box_agg (ds := [x, y, z, aa]) (bH) A26 rfl bV rfl (Za rfl rfl (Zm (v := ak) rfl bU ?_)))))))
 obtain ⟨fH, eB, hm⟩ := Zg hm
 obtain ⟨u, aS⟩ := fH
 replace hm := un2_eq hm
 refine Za rfl rfl (Tc rfl rfl rfl (Zi rfl (Zi rfl args_nil)) (temporal_Validate_sim eB bH (a0.mono a) (a1.mono a) (a2.mono a) (a3.mono a) (aG.mono a)).r ?_)
 rintro _ ip ⟨cf, g, cx, rfl⟩
 refine Za rfl rfl (Zm (v := Value.tuple #[Vi (u), errV 45 (aS)]) rfl rfl (Za rfl rfl (Exec.extract (v := Vi (u)) rfl rfl rfl (Za rfl rfl (Exec.extract (v := errV 45 (aS)) rfl rfl rfl (Za rfl rfl (Zo (v := Vi (u)) rfl rfl (Za rfl rfl (Zo (v := errV 45 (aS)) rfl rfl (Zb (Ze (Zc (Zc (W_mid (M := fun f' w' => ∃ (cW : PHeap) , PHeap.le cf cW ∧ St w0 cW (Res.box an 26 [x, y, z, aa] :: H) w' ∧ f' 1 = ak ∧ f' 2 = ah ∧ f' 3 = Value.pointer (some ⟨an, 0, none⟩) ∧ f' 7 = Vi (u) ∧ f' 39 = Value.bool ((aS.isSome || decide (300 < u)))) ?_ ?_))))))))))))))
 ·refine Zd (Za rfl rfl (Zm (v := errV 45 (aS)) rfl rfl (Za rfl rfl (Exec.err_neq_nil (T := 45) Try.underlying31 rfl rfl rfl (Za rfl rfl (Zm (v := Value.bool (aS.isSome)) rfl rfl ?_))))))
  by_cases a9 : aS.isSome = true
  ·refine WL_passes 3 (by rw [a9]; rfl) ?_
   refine Zb (Ze ?_)
   exact ⟨cf, (Zv _), cx, bU, c7, bV, rfl, (Zx (or_t a9)).symm⟩
  replace a9 := Zk a9
  refine WL_run rfl (Zf rfl (Zx a9)) rfl (Zm (v := Vi (u)) rfl rfl (WL_run rfl (Zf rfl (Zx a9)) rfl (Exec.gtr rfl rfl rfl (Za rfl rfl (Exec.pick_f (v := Value.bool (decide (300 < u))) rfl (Zx a9) rfl (Zb (Ze ?_)))))))
  exact ⟨cf, (Zv _), cx, bU, c7, bV, rfl, (Zx (or_f a9)).symm⟩
 intro he iq d6
 obtain ⟨fx, h, bI, br, c9, bW, cA, cB⟩ := d6
 refine (Ze ?_)
 rcases ite_some hm with ⟨bg, hm⟩ | ⟨bg, hm⟩
 ·refine W_cond_t cB bg (Zc (Zd (Za rfl rfl (Zo (v := Value.bool (true)) rfl rfl (Zb (Ze (W_ret (at_ret ?_))))))))
  have g4 := Zu hm
  subst r
  refine ⟨_, ret1 rfl, ?_⟩
  exact ⟨fx, (Zt (Zt a g) h), (bI).drop, rfl⟩
 refine W_cond_f cB bg ?_
 replace bg := Zk bg
 refine W_skip (Ze (Zc (Zd (Za rfl rfl (Exec.load_box_agg (ds := [x, y, z, aa]) (bI) A26 rfl bW rfl (Za rfl rfl (Zm (v := ak) rfl br ?_)))))))
 obtain ⟨fI, eC, hm⟩ := Zg hm
 obtain ⟨hI, iU, aD⟩ := fI
 replace hm := un3_eq hm
 refine Za rfl rfl (Tc rfl rfl rfl (Zi rfl (Zi rfl args_nil)) (law57_network_sim eC bI (a0.mono (Zt (Zt a g) h)) (a1.mono (Zt (Zt a g) h)) (a2.mono (Zt (Zt a g) h)) (a3.mono (Zt (Zt a g) h)) (aG.mono (Zt (Zt a g) h))).r ?_)
 rintro _ ir dW
 rcases dW with ⟨ci, rfl, fy, aC, b8, b9, ay, l, cy, rfl⟩ | ⟨rfl, fz, az, m, cz, rfl⟩
 ·replace hm := optC_some hm
  refine Za rfl rfl (Zm (v := Value.tuple #[Value.pointer (some ⟨aC, 0, none⟩), ay, Value.bool (aD)]) rfl rfl (Za rfl rfl (Exec.extract (v := Value.pointer (some ⟨aC, 0, none⟩)) rfl rfl rfl (Za rfl rfl (Exec.extract (v := ay) rfl rfl rfl (Za rfl rfl (Exec.extract (v := Value.bool (aD)) rfl rfl rfl (Za rfl rfl (Zo (v := Value.pointer (some ⟨aC, 0, none⟩)) rfl rfl (Za rfl rfl (Zo (v := ay) rfl rfl (Za rfl rfl (Zo (v := Value.bool (aD)) rfl rfl (Zb (Ze (Zc (Zc (Zd (Za rfl rfl (Zm (v := Value.bool (aD)) rfl rfl (Za rfl rfl (Exec.not rfl rfl (Zb (Ze ?_))))))))))))))))))))))))
  rcases ite_some hm with ⟨bh, hm⟩ | ⟨bh, hm⟩
  ·refine W_cond_t rfl bh (Zc (Zd (Za rfl rfl (Zo (v := Value.bool (false)) rfl rfl (Zb (Ze (W_ret (at_ret ?_))))))))
   have g5 := Zu hm
   subst r
   refine ⟨_, ret1 rfl, ?_⟩
   exact ⟨fy, (Zt (Zt (Zt a g) h) l), (((((cy).drop).drop).drop).drop).drop, rfl⟩
  refine W_cond_f rfl bh ?_
  replace bh := Zk bh
  refine W_skip (Ze (Zc (Zd (Za rfl rfl (Zm (v := ak) rfl br ?_)))))
  obtain ⟨df, eD, hm⟩ := Zg hm
  refine Za rfl rfl (Tc rfl rfl rfl (Zi rfl args_nil) (ref56_Sorted_sim eD cy (aG.mono (Zt (Zt (Zt a g) h) l))).r ?_)
  rintro a6 it ⟨cX, _, n, bJ, rfl⟩
  refine Za rfl rfl (Zo (v := a6) rfl rfl (Zb (Ze (Zc (Zc (Zd (Za rfl rfl (Zm (v := a6) rfl rfl (Za rfl rfl (Exec.len_arr (bJ) S27 rfl rfl (Za rfl rfl (Zm (v := Vi (0)) rfl rfl (Zb (Ze ?_))))))))))))))
  obtain ⟨fJ, dz, hm⟩ := Zg hm
  refine W_block (W_forS (fun k' s' f' w' => (un2 fun (bP : (List Int)) (bQ : (List Launch)) => ∃ (cY : PHeap) , PHeap.le cX cY ∧ St w0 cY (Res.box an 26 [x, y, z, aa] :: Res.box aC 89 [b8] :: Res.arr (encInt .i64) 3 ay bP :: Res.arr encLaunch 39 a6 bQ :: Res.arr encRaw 22 b8 b9 :: Res.rows (encInt .i64) 3 b9 ci.d :: H) w' ∧ f' 1 = ak ∧ f' 2 = ah ∧ f' 3 = Value.pointer (some ⟨an, 0, none⟩) ∧ f' 7 = Vi (u) ∧ f' 9 = Value.pointer (some ⟨aC, 0, none⟩) ∧ f' 10 = ay ∧ f' 12 = a6 ∧ f' 52 = Vi ((df.length : Int)) ∧ f' 53 = Vi (k' : Int)) s') dz ?_ ?_ ?_)
  ·have dE := ((bJ).f3).f3
   exact ⟨cX, (Zv _), ((((dE).f2).f4).f4).f5, br, c9, bW, cA, rfl, rfl, rfl, rfl, rfl⟩
  ·intro aq fK f0 hf iu dU d1 aL
   obtain ⟨bP, bQ⟩ := fK
   replace aL := un2_eq aL
   obtain ⟨cg, bp, aV, cC, aZ, cD, cE, cF, b4, bX, bY, bA⟩ := d1
   refine Zc (Zd (Za rfl rfl (Zq rfl bA bY (Zb (Ze (Zc (W_true (Zx (decide_eq_true (by omega))) (W_skip (Ze (Zc (W_block (Zc (Zd (Za rfl rfl (Zm (v := Vi ((aq : Int))) rfl bA (Za rfl rfl (Zo (v := Vi ((aq : Int))) rfl rfl (Zb (Ze (Zc (Zd (Za rfl rfl (Zm (v := Vi ((aq : Int))) rfl rfl (Za rfl rfl (Zm (v := ah) rfl aZ (Za rfl rfl (Zr S51 rfl rfl (a8.mono (Zt (Zt (Zt (Zt (Zt a g) h) l) n) bp)) (Za rfl rfl (Zq rfl rfl rfl (Zb (Ze ?_)))))))))))))))))))))))))))))))
   obtain ⟨b6, p, aL⟩ := Zg aL
   refine W_mid (M := fun f' w' => (un2 fun (c3 : (List Int)) (c4 : (List Launch)) => ∃ (cZ : PHeap) , PHeap.le cg cZ ∧ St w0 cZ (Res.box an 26 [x, y, z, aa] :: Res.box aC 89 [b8] :: Res.arr (encInt .i64) 3 ay c3 :: Res.arr encLaunch 39 a6 c4 :: Res.arr encRaw 22 b8 b9 :: Res.rows (encInt .i64) 3 b9 ci.d :: H) w' ∧ f' 1 = ak ∧ f' 2 = ah ∧ f' 3 = Value.pointer (some ⟨an, 0, none⟩) ∧ f' 7 = Vi (u) ∧ f' 9 = Value.pointer (some ⟨aC, 0, none⟩) ∧ f' 10 = ay ∧ f' 12 = a6 ∧ f' 52 = Vi ((df.length : Int)) ∧ f' 53 = Vi ((aq : Int))) b6) ?_ ?_
   ·rcases ite_some p with ⟨bi, p⟩ | ⟨bi, p⟩
    ·refine W_cond_t rfl bi (Zc (W_dl (n0 := 11) (qs 0 11 .done) hmix (by kernel_rfl) (by kernel_rfl) (DL_q rfl rfl (Zm (v := a6) rfl bX ⟨rfl, ?_⟩))))
     refine DL_q rfl rfl (Zm (v := Vi ((aq : Int))) rfl rfl ⟨rfl, ?_⟩)
     obtain ⟨fV, aA, p⟩ := Zg p
     obtain ⟨ho, go, ck⟩ := ((aV.drew).f3).arr_at aA
     refine DL_q rfl rfl (Exec.index_slice S27 rfl ck rfl (idx_some aA).1 (idx_some aA).2.1 ⟨rfl, ?_⟩)
     refine DL_q rfl rfl (Zp F39_0 rfl rfl rfl ⟨rfl, ?_⟩)
     refine DL_q rfl rfl (Exec.load_arr (F := (encInt .i64)) ((aV.drew).f3) ck A3 rfl rfl rfl aA (Sub.iso (Sub.fst (Sub.refl _))) ?_)
     intro fT eE
     obtain rfl : fT = Vi (fV.At) := encInt_val.1 eE
     refine ⟨rfl, ?_⟩
     refine DL_q rfl rfl (Zm (v := ah) rfl aZ ⟨rfl, ?_⟩)
     refine DL_q rfl rfl (Zm (v := Vi ((aq : Int))) rfl rfl ⟨rfl, ?_⟩)
     obtain ⟨iK, cd, p⟩ := Zg p
     refine DL_q rfl rfl (Exec.index_repE S51 rfl rfl rfl (a8.mono (Zt (Zt (Zt (Zt (Zt a g) h) l) n) bp)) cd ?_)
     intro gd h6 dn g6
     refine ⟨rfl, ?_⟩
     refine DL_q rfl rfl (Zw (E := (encInt .i8)) aV.drew A52 rfl rfl rfl dn ?_)
     intro hT eF
     obtain rfl := encInt_val.1 eF
     refine ⟨rfl, ?_⟩
     refine DL_q rfl rfl (Exec.convert_int (by rw [Try.underlying52]; rfl) Try.underlying3 rfl rfl ⟨rfl, ?_⟩)
     refine DL_q rfl rfl (Exec.add rfl rfl rfl ⟨rfl, ?_⟩)
     refine DL_done ?_
     obtain ⟨hp, gp, cl⟩ := ((aV.drew).f3).arr_at aA
     refine Za rfl rfl (Exec.index_slice S27 rfl cl rfl (idx_some aA).1 (idx_some aA).2.1 (Za rfl rfl (Zp F39_0 rfl rfl rfl ?_)))
     obtain ⟨h0, eG, p⟩ := Zg p
     refine Za rfl rfl (Exec.store_arr_fld (set := (fun (c : Launch) b => { c with At := b })) (aV.drew).f3 cl A3 rfl rfl rfl rfl (encInt_val.2 rfl) (Upd.iso (k := (fun (c : Launch) b => { c with At := b })) (Upd.fst (Upd.refl _)) (fun _ _ => rfl)) aA eG ?_)
     intro iv bb
     refine Zb (Ze (Zc (W_dl (n0 := 12) (qs 0 12 .done) hmix (by kernel_rfl) (by kernel_rfl) (DL_q rfl rfl (Zm (v := ay) rfl b4 ⟨rfl, ?_⟩)))))
     refine DL_q rfl rfl (Zm (v := Vi ((aq : Int))) rfl rfl ⟨rfl, ?_⟩)
     refine DL_q rfl rfl (Exec.mul rfl rfl rfl ⟨rfl, ?_⟩)
     refine DL_q rfl rfl (Exec.add rfl rfl rfl ⟨rfl, ?_⟩)
     obtain ⟨iL, aO, p⟩ := Zg p
     obtain ⟨hq, gq, cm⟩ := ((bb.drew).f3).arr_at aO
     refine DL_q rfl rfl (Exec.index_slice S22 rfl cm rfl (idx_some aO).1 (idx_some aO).2.1 ⟨rfl, ?_⟩)
     refine DL_q rfl rfl (Exec.load_arr (F := (encInt .i64)) ((bb.drew).f3) cm A3 rfl rfl rfl aO (Sub.refl _) ?_)
     intro hU eH
     obtain rfl := encInt_val.1 eH
     refine ⟨rfl, ?_⟩
     refine DL_q rfl rfl (Zm (v := ah) rfl aZ ⟨rfl, ?_⟩)
     refine DL_q rfl rfl (Zm (v := Vi ((aq : Int))) rfl rfl ⟨rfl, ?_⟩)
     refine DL_q rfl rfl (Exec.index_repE S51 rfl rfl rfl (a8.mono (Zt (Zt (Zt (Zt (Zt a g) h) l) n) bp)) cd ?_)
     intro gf h7 dp g7
     refine ⟨rfl, ?_⟩
     refine DL_q rfl rfl (Zw (E := (encInt .i8)) bb.drew A52 rfl rfl rfl dp ?_)
     intro hV eI
     obtain rfl := encInt_val.1 eI
     refine ⟨rfl, ?_⟩
     refine DL_q rfl rfl (Exec.convert_int (by rw [Try.underlying52]; rfl) Try.underlying3 rfl rfl ⟨rfl, ?_⟩)
     refine DL_q rfl rfl (Exec.add rfl rfl rfl ⟨rfl, ?_⟩)
     refine DL_done ?_
     obtain ⟨hr, gr, cn⟩ := ((bb.drew).f3).arr_at aO
     refine Za rfl rfl (Exec.index_slice S22 rfl cn rfl (idx_some aO).1 (idx_some aO).2.1 ?_)
     obtain ⟨h1, eJ, p⟩ := Zg p
     refine Za rfl rfl (Exec.store_arr (bb.drew).f3 cn A3 rfl rfl rfl rfl (encInt_val.2 rfl) eJ ?_)
     intro iw bc
     refine Zb (Ze (W_dl (n0 := 12) (qs 0 12 .done) hmix (by kernel_rfl) (by kernel_rfl) (DL_q rfl rfl (Zm (v := ay) rfl b4 ⟨rfl, ?_⟩))))
     refine DL_q rfl rfl (Zm (v := Vi ((aq : Int))) rfl rfl ⟨rfl, ?_⟩)
     refine DL_q rfl rfl (Exec.mul rfl rfl rfl ⟨rfl, ?_⟩)
     refine DL_q rfl rfl (Exec.add rfl rfl rfl ⟨rfl, ?_⟩)
     obtain ⟨iM, aP, p⟩ := Zg p
     obtain ⟨hs, gs, co⟩ := (bc.drew).arr_at aP
     refine DL_q rfl rfl (Exec.index_slice S22 rfl co rfl (idx_some aP).1 (idx_some aP).2.1 ⟨rfl, ?_⟩)
     refine DL_q rfl rfl (Exec.load_arr (F := (encInt .i64)) (bc.drew) co A3 rfl rfl rfl aP (Sub.refl _) ?_)
     intro hW eK
     obtain rfl := encInt_val.1 eK
     refine ⟨rfl, ?_⟩
     refine DL_q rfl rfl (Zm (v := ah) rfl aZ ⟨rfl, ?_⟩)
     refine DL_q rfl rfl (Zm (v := Vi ((aq : Int))) rfl rfl ⟨rfl, ?_⟩)
     refine DL_q rfl rfl (Exec.index_repE S51 rfl rfl rfl (a8.mono (Zt (Zt (Zt (Zt (Zt a g) h) l) n) bp)) cd ?_)
     intro gg h8 dq g8
     refine ⟨rfl, ?_⟩
     refine DL_q rfl rfl (Zw (E := (encInt .i8)) bc.drew A52 rfl rfl rfl dq ?_)
     intro hX eL
     obtain rfl := encInt_val.1 eL
     refine ⟨rfl, ?_⟩
     refine DL_q rfl rfl (Exec.convert_int (by rw [Try.underlying52]; rfl) Try.underlying3 rfl rfl ⟨rfl, ?_⟩)
     refine DL_q rfl rfl (Exec.add rfl rfl rfl ⟨rfl, ?_⟩)
     refine DL_done ?_
     obtain ⟨ht, gu, cp⟩ := (bc.drew).arr_at aP
     refine Za rfl rfl (Exec.index_slice S22 rfl cp rfl (idx_some aP).1 (idx_some aP).2.1 ?_)
     obtain ⟨h2, eM, p⟩ := Zg p
     refine Za rfl rfl (Exec.store_arr bc.drew cp A3 rfl rfl rfl rfl (encInt_val.2 rfl) eM ?_)
     intro ix dF
     refine Zb (Ze ?_)
     have g9 := Zu p
     subst b6
     exact ⟨cg, (Zv _), ((((((dF).f5).f5).f3).f3).f5).f5, cC, aZ, cD, cE, cF, b4, bX, bY, bA⟩
    refine W_cond_f rfl bi ?_
    replace bi := Zk bi
    refine W_skip (Ze ?_)
    have gA := Zu p
    subst b6
    exact ⟨cg, (Zv _), ((((((aV).f5).f5).f5).f5).f5).f5, cC, aZ, cD, cE, cF, b4, bX, bY, bA⟩
   intro hg iy d7
   obtain ⟨c3, c4⟩ := b6
   replace aL := un2_eq aL
   obtain ⟨f6, dZ, dG, ef, eg, eh, ei, ej, ek, el, em, en⟩ := d7
   refine (ib_normal (Ze (Zd (Za rfl rfl (Exec.add rfl en rfl (Za rfl rfl (Zm (v := Vi (IntKind.i64.wrap ((aq : Int) + 1))) rfl rfl (Zb (Ze ?_)))))))))
   have gB := Zu aL
   subst f0
   exact ⟨f6, (Zt bp dZ), ((((((dG).f5).f5).f5).f5).f5).f5, ef, eg, eh, ei, ej, ek, el, em, (Eq.trans rfl (wrap_up dU (bJ).arr_le))⟩
  intro hh iz d2
  obtain ⟨bP, bQ⟩ := fJ
  replace hm := un2_eq hm
  obtain ⟨hK, ab, dH, eo, hG, bZ, cG, ep, er, cH, es, fW⟩ := d2
  refine Zc (Zd (Za rfl rfl (Zq rfl fW es (Zb (Ze (Zc (W_false (Zx (decide_eq_false (by omega))) (W_exit (at_exit (at_exit (ib_here (Ze (Zc (Zc (Zd (Za rfl rfl (Zm (v := Value.pointer (some ⟨aC, 0, none⟩)) rfl ep (Za rfl rfl (Zm (v := ay) rfl er ?_)))))))))))))))))))
  obtain ⟨hL, ac, dI, fo⟩ := (dH).f2.freezeArr
  obtain ⟨iV, eN, hm⟩ := Zg hm
  refine Za rfl rfl (Tc rfl rfl rfl (Zi rfl (Zi rfl args_nil)) (stn_Network_Holds_sim eN (((dI).f4).f4).f3 fo).r ?_)
  rintro _ i0 ⟨f7, ad, bK, rfl⟩
  refine Za rfl rfl (Exec.not rfl rfl (Zb (Ze ?_)))
  rcases ite_some hm with ⟨bj, hm⟩ | ⟨bj, hm⟩
  ·refine W_cond_t rfl bj (Zc (Zd (Za rfl rfl (Zo (v := Value.bool (true)) rfl rfl (Zb (Ze (W_ret (at_ret ?_))))))))
   have gC := Zu hm
   subst r
   refine ⟨_, ret1 rfl, ?_⟩
   exact ⟨f7, (Zt (Zt (Zt (Zt (Zt (Zt (Zt a g) h) l) n) ab) ac) ad), (((((bK).drop).drop).drop).drop).drop, rfl⟩
  refine W_cond_f rfl bj ?_
  replace bj := Zk bj
  refine W_skip (Ze (Zc (Zd (Za rfl rfl (Exec.load_box_agg (ds := [x, y, z, aa]) ((bK).f3) A26 rfl bZ rfl (Za rfl rfl (Zm (v := a6) rfl cH ?_)))))))
  obtain ⟨hM, ai, dJ, cO⟩ := (bK).f4.freezeArr
  obtain ⟨fL, eO, hm⟩ := Zg hm
  obtain ⟨aT, bC⟩ := fL
  replace hm := un2_eq hm
  refine Za rfl rfl (Tc rfl rfl rfl (Zi rfl (Zi rfl args_nil)) (temporal_Validate_sim eO dJ (a0.mono (Zt (Zt (Zt (Zt (Zt (Zt (Zt (Zt a g) h) l) n) ab) ac) ad) ai)) (a1.mono (Zt (Zt (Zt (Zt (Zt (Zt (Zt (Zt a g) h) l) n) ab) ac) ad) ai)) (a2.mono (Zt (Zt (Zt (Zt (Zt (Zt (Zt (Zt a g) h) l) n) ab) ac) ad) ai)) (a3.mono (Zt (Zt (Zt (Zt (Zt (Zt (Zt (Zt a g) h) l) n) ab) ac) ad) ai)) cO).r ?_)
  rintro _ i1 ⟨f8, ao, bL, rfl⟩
  refine Za rfl rfl (Zm (v := Value.tuple #[Vi (aT), errV 45 (bC)]) rfl rfl (Za rfl rfl (Exec.extract (v := Vi (aT)) rfl rfl rfl (Za rfl rfl (Exec.extract (v := errV 45 (bC)) rfl rfl rfl (Za rfl rfl (Zo (v := Vi (aT)) rfl rfl (Za rfl rfl (Zo (v := errV 45 (bC)) rfl rfl (Zb (Ze (Zc (Zc (Zd (Za rfl rfl (Zm (v := errV 45 (bC)) rfl rfl (Za rfl rfl (Exec.err_neq_nil (T := 45) Try.underlying31 rfl rfl rfl (Zb (Ze ?_))))))))))))))))))))
  rcases ite_some hm with ⟨bk, hm⟩ | ⟨bk, hm⟩
  ·refine W_cond_t rfl bk (Zc (Zd (Za rfl rfl (Zo (v := Value.bool (false)) rfl rfl (Zb (Ze (W_ret (at_ret ?_))))))))
   have gD := Zu hm
   subst r
   refine ⟨_, ret1 rfl, ?_⟩
   exact ⟨f8, (Zt (Zt (Zt (Zt (Zt (Zt (Zt (Zt (Zt a g) h) l) n) ab) ac) ad) ai) ao), ((((bL).drop).drop).drop).drop, rfl⟩
  refine W_cond_f rfl bk ?_
  replace bk := Zk bk
  refine W_skip (Ze (Zc (Zd (Za rfl rfl (Exec.load_box_agg (ds := [x, y, z, aa]) ((bL).f3) A26 rfl bZ rfl (Za rfl rfl (Zm (v := ak) rfl eo ?_)))))))
  obtain ⟨fM, eP, hm⟩ := Zg hm
  obtain ⟨dg, b0⟩ := fM
  replace hm := un2_eq hm
  refine Za rfl rfl (Tc rfl rfl rfl (Zi rfl (Zi rfl args_nil)) (temporal_States_sim eP bL (a0.mono (Zt (Zt (Zt (Zt (Zt (Zt (Zt (Zt (Zt a g) h) l) n) ab) ac) ad) ai) ao)) (a1.mono (Zt (Zt (Zt (Zt (Zt (Zt (Zt (Zt (Zt a g) h) l) n) ab) ac) ad) ai) ao)) (a2.mono (Zt (Zt (Zt (Zt (Zt (Zt (Zt (Zt (Zt a g) h) l) n) ab) ac) ad) ai) ao)) (a3.mono (Zt (Zt (Zt (Zt (Zt (Zt (Zt (Zt (Zt a g) h) l) n) ab) ac) ad) ai) ao)) (aG.mono (Zt (Zt (Zt (Zt (Zt (Zt (Zt (Zt (Zt a g) h) l) n) ab) ac) ad) ai) ao))).r ?_)
  rintro _ i2 ⟨hN, bv, aX, c0, rfl, cP⟩
  refine Za rfl rfl (Zm (v := Value.tuple #[bv, errV 45 (b0)]) rfl rfl (Za rfl rfl (Exec.extract (v := bv) rfl rfl rfl (Za rfl rfl (Exec.extract (v := errV 45 (b0)) rfl rfl rfl (Za rfl rfl (Zo (v := bv) rfl rfl (Za rfl rfl (Zo (v := errV 45 (b0)) rfl rfl (Zb (Ze (Zc (Zd (Za rfl rfl (Exec.load_box_agg (ds := [x, y, z, aa]) ((c0).f3) A26 rfl bZ rfl (Za rfl rfl (Zm (v := a6) rfl cH ?_)))))))))))))))))
  obtain ⟨fN, eQ, hm⟩ := Zg hm
  obtain ⟨dh, bD⟩ := fN
  replace hm := un2_eq hm
  refine Za rfl rfl (Tc rfl rfl rfl (Zi rfl (Zi rfl args_nil)) (temporal_States_sim eQ c0 (a0.mono (Zt (Zt (Zt (Zt (Zt (Zt (Zt (Zt (Zt (Zt a g) h) l) n) ab) ac) ad) ai) ao) aX)) (a1.mono (Zt (Zt (Zt (Zt (Zt (Zt (Zt (Zt (Zt (Zt a g) h) l) n) ab) ac) ad) ai) ao) aX)) (a2.mono (Zt (Zt (Zt (Zt (Zt (Zt (Zt (Zt (Zt (Zt a g) h) l) n) ab) ac) ad) ai) ao) aX)) (a3.mono (Zt (Zt (Zt (Zt (Zt (Zt (Zt (Zt (Zt (Zt a g) h) l) n) ab) ac) ad) ai) ao) aX)) (cO.mono (Zt ao aX))).r ?_)
  rintro _ i3 ⟨bs, bw, bR, aH, rfl, cQ⟩
  refine Za rfl rfl (Zm (v := Value.tuple #[bw, errV 45 (bD)]) rfl rfl (Za rfl rfl (Exec.extract (v := bw) rfl rfl rfl (Za rfl rfl (Exec.extract (v := errV 45 (bD)) rfl rfl rfl (Za rfl rfl (Zo (v := bw) rfl rfl (Za rfl rfl (Zo (v := errV 45 (bD)) rfl rfl (Zb (Ze (Zc ?_))))))))))))
  obtain ⟨aE, i, hm⟩ := Zg hm
  refine W_mid (M := fun f' w' => (fun (aE : Bool) => ∃ (da : PHeap) , PHeap.le bs da ∧ St w0 da (H) w' ∧ f' 6 = Value.bool (aE)) aE) ?_ ?_
  ·refine W_dl (n0 := 31) (qs 0 29 (.e 29 [] (.q 30 .done))) hmix (by kernel_rfl) (by kernel_rfl) (DL_q rfl rfl (Zm (v := errV 45 (b0)) rfl rfl ⟨rfl, ?_⟩))
   refine DL_q rfl rfl (Exec.err_eql_nil (T := 45) Try.underlying31 rfl rfl rfl ⟨rfl, ?_⟩)
   refine DL_q rfl rfl (Zm (v := Value.bool (b0.isNone)) rfl rfl ⟨rfl, ?_⟩)
   rcases ite_some i with ⟨aJ, i⟩ | ⟨aJ, i⟩
   ·refine DL_qg rfl rfl (Zf rfl (Zx aJ)) (Zm (v := errV 45 (bD)) rfl rfl ⟨rfl, ?_⟩)
    refine DL_qg rfl rfl (Zf rfl (Zx aJ)) (Exec.err_eql_nil (T := 45) Try.underlying31 rfl rfl rfl ⟨rfl, ?_⟩)
    refine DL_passes 2 (by rw [aJ]; rfl) ?_
    rcases ite_some i with ⟨au, i⟩ | ⟨au, i⟩
    ·refine DL_qg rfl rfl (Zf rfl (Zx au)) (Zm (v := bv) rfl rfl ⟨rfl, ?_⟩)
     refine DL_qg rfl rfl (Zf rfl (Zx au)) (Zr S53 rfl rfl (cP.mono bR) ⟨rfl, ?_⟩)
     refine DL_qg rfl rfl (Zf rfl (Zx au)) (Zm (v := Vi (u)) rfl cG ⟨rfl, ?_⟩)
     refine DL_qg rfl rfl (Zf rfl (Zx au)) (Exec.add rfl rfl rfl ⟨rfl, ?_⟩)
     refine DL_qg rfl rfl (Zf rfl (Zx au)) (Exec.eql rfl rfl rfl ⟨rfl, ?_⟩)
     refine DL_q rfl rfl (Zs (v := Value.bool (decide ((dg.length : Int) = (IntKind.i64.wrap (u + 1))))) rfl (Zx au) rfl ⟨rfl, ?_⟩)
     refine DL_q rfl rfl (Zm (v := Value.bool (decide ((dg.length : Int) = (IntKind.i64.wrap (u + 1))))) rfl rfl ⟨rfl, ?_⟩)
     rcases ite_some i with ⟨av, i⟩ | ⟨av, i⟩
     ·refine DL_qg rfl rfl (Zf rfl (Zx av)) (Zm (v := bw) rfl rfl ⟨rfl, ?_⟩)
      refine DL_qg rfl rfl (Zf rfl (Zx av)) (Zr S53 rfl rfl cQ ⟨rfl, ?_⟩)
      refine DL_qg rfl rfl (Zf rfl (Zx av)) (Zm (v := Vi (aT)) rfl rfl ⟨rfl, ?_⟩)
      refine DL_qg rfl rfl (Zf rfl (Zx av)) (Exec.add rfl rfl rfl ⟨rfl, ?_⟩)
      refine DL_qg rfl rfl (Zf rfl (Zx av)) (Exec.eql rfl rfl rfl ⟨rfl, ?_⟩)
      refine DL_q rfl rfl (Zs (v := Value.bool (decide ((dh.length : Int) = (IntKind.i64.wrap (aT + 1))))) rfl (Zx av) rfl ⟨rfl, ?_⟩)
      refine DL_q rfl rfl (Zm (v := Value.bool (decide ((dh.length : Int) = (IntKind.i64.wrap (aT + 1))))) rfl rfl ⟨rfl, ?_⟩)
      rcases ite_some i with ⟨al, i⟩ | ⟨al, i⟩
      ·refine DL_qg rfl rfl (Zf rfl (Zx al)) (Zm (v := bv) rfl rfl ⟨rfl, ?_⟩)
       refine DL_qg rfl rfl (Zf rfl (Zx al)) (Zm (v := Vi (u)) rfl cG ⟨rfl, ?_⟩)
       obtain ⟨iN, eR, i⟩ := Zg i
       refine DL_qg rfl rfl (Zf rfl (Zx al)) (Exec.index_repE S53 rfl rfl rfl (cP.mono bR) eR ?_)
       intro gh h9 dr gE
       refine ⟨rfl, ?_⟩
       refine DL_qg rfl rfl (Zf rfl (Zx al)) (Zw (E := (encSlice (encInt .i64))) aH.drew A22 rfl rfl rfl dr ?_)
       intro hY eS
       have fp := encSlice_val.1 eS
       refine ⟨rfl, ?_⟩
       refine DL_qg rfl rfl (Zf rfl (Zx al)) (Zm (v := bw) rfl rfl ⟨rfl, ?_⟩)
       refine DL_qg rfl rfl (Zf rfl (Zx al)) (Zm (v := Vi (aT)) rfl rfl ⟨rfl, ?_⟩)
       obtain ⟨iO, eT, i⟩ := Zg i
       refine DL_qg rfl rfl (Zf rfl (Zx al)) (Exec.index_repE S53 rfl rfl rfl cQ eT ?_)
       intro gi hA dt gF
       refine ⟨rfl, ?_⟩
       refine DL_qg rfl rfl (Zf rfl (Zx al)) (Zw (E := (encSlice (encInt .i64))) aH.drew A22 rfl rfl rfl dt ?_)
       intro hZ eU
       have fq := encSlice_val.1 eU
       refine ⟨rfl, ?_⟩
       obtain ⟨di, eV, i⟩ := Zg i
       refine DL_eg rfl rfl (Zf rfl (Zx al)) (Tc rfl rfl rfl (Zi rfl (Zi rfl args_nil)) (base_Ints_sim eV aH.drew fp fq).r ?_)
       rintro _ i4 ⟨f9, ea, dK, rfl⟩
       refine ⟨ag_nil, ?_⟩
       refine DL_q rfl rfl (Zs (v := Value.bool (di)) rfl (Zx al) rfl ⟨rfl, ?_⟩)
       refine DL_done (Za rfl rfl (Zo (v := Value.bool (di)) rfl rfl (Zb (Ze ?_))))
       have gG := Zu i
       subst aE
       exact ⟨f9, ea, ((((dK).drop).drop).drop).drop, rfl⟩
      replace al := Zk al
      refine DL_passes 10 (by rw [al]; rfl) ?_
      refine DL_done (Za rfl rfl (Zo (v := Value.bool (false)) rfl rfl (Zb (Ze ?_))))
      have gH := Zu i
      subst aE
      exact ⟨bs, (Zv _), ((((aH.drew).drop).drop).drop).drop, rfl⟩
     replace av := Zk av
     refine DL_passes 17 (by rw [av]; rfl) ?_
     refine DL_done (Za rfl rfl (Zo (v := Value.bool (false)) rfl rfl (Zb (Ze ?_))))
     have gI := Zu i
     subst aE
     exact ⟨bs, (Zv _), ((((aH.drew).drop).drop).drop).drop, rfl⟩
    replace au := Zk au
    refine DL_passes 24 (by rw [au]; rfl) ?_
    refine DL_done (Za rfl rfl (Zo (v := Value.bool (false)) rfl rfl (Zb (Ze ?_))))
    have gJ := Zu i
    subst aE
    exact ⟨bs, (Zv _), ((((aH.drew).drop).drop).drop).drop, rfl⟩
   replace aJ := Zk aJ
   refine DL_passes 28 (by rw [aJ]; rfl) ?_
   refine DL_done (Za rfl rfl (Zo (v := Value.bool (false)) rfl rfl (Zb (Ze ?_))))
   have gK := Zu i
   subst aE
   exact ⟨bs, (Zv _), ((((aH.drew).drop).drop).drop).drop, rfl⟩
  intro hi i5 d8
  obtain ⟨fA, eb, dL, et⟩ := d8
  refine (Ze (W_ret ?_))
  have gL := Zu hm
  subst r
  refine ⟨_, ret1 rfl, ?_⟩
  exact ⟨fA, (Zt (Zt (Zt (Zt (Zt (Zt (Zt (Zt (Zt (Zt (Zt (Zt a g) h) l) n) ab) ac) ad) ai) ao) aX) bR) eb), dL, et⟩
 replace hm := optC_none hm
 refine Za rfl rfl (Zm (v := Value.tuple #[Value.pointer none, az, Value.bool (aD)]) rfl rfl (Za rfl rfl (Exec.extract (v := Value.pointer none) rfl rfl rfl (Za rfl rfl (Exec.extract (v := az) rfl rfl rfl (Za rfl rfl (Exec.extract (v := Value.bool (aD)) rfl rfl rfl (Za rfl rfl (Zo (v := Value.pointer none) rfl rfl (Za rfl rfl (Zo (v := az) rfl rfl (Za rfl rfl (Zo (v := Value.bool (aD)) rfl rfl (Zb (Ze (Zc (Zc (Zd (Za rfl rfl (Zm (v := Value.bool (aD)) rfl rfl (Za rfl rfl (Exec.not rfl rfl (Zb (Ze ?_))))))))))))))))))))))))
 rcases ite_some hm with ⟨bl, hm⟩ | ⟨bl, hm⟩
 ·refine W_cond_t rfl bl (Zc (Zd (Za rfl rfl (Zo (v := Value.bool (false)) rfl rfl (Zb (Ze (W_ret (at_ret ?_))))))))
  have gM := Zu hm
  subst r
  refine ⟨_, ret1 rfl, ?_⟩
  exact ⟨fz, (Zt (Zt (Zt a g) h) m), ((cz).drop).drop, rfl⟩
 refine W_cond_f rfl bl ?_
 replace bl := Zk bl
 refine W_skip (Ze (Zc (Zd (Za rfl rfl (Zm (v := ak) rfl br ?_)))))
 obtain ⟨dj, eW, hm⟩ := Zg hm
 refine Za rfl rfl (Tc rfl rfl rfl (Zi rfl args_nil) (ref56_Sorted_sim eW cz (aG.mono (Zt (Zt (Zt a g) h) m))).r ?_)
 rintro a7 i6 ⟨db, _, o, bM, rfl⟩
 refine Za rfl rfl (Zo (v := a7) rfl rfl (Zb (Ze (Zc (Zc (Zd (Za rfl rfl (Zm (v := a7) rfl rfl (Za rfl rfl (Exec.len_arr (bM) S27 rfl rfl (Za rfl rfl (Zm (v := Vi (0)) rfl rfl (Zb (Ze ?_))))))))))))))
 obtain ⟨fO, d0, hm⟩ := Zg hm
 refine W_block (W_forS (fun k' s' f' w' => (un2 fun (b3 : (List Int)) (bS : (List Launch)) => ∃ (dc : PHeap) , PHeap.le db dc ∧ St w0 dc (Res.box an 26 [x, y, z, aa] :: Res.arr (encInt .i64) 3 az b3 :: Res.arr encLaunch 39 a7 bS :: H) w' ∧ f' 1 = ak ∧ f' 2 = ah ∧ f' 3 = Value.pointer (some ⟨an, 0, none⟩) ∧ f' 7 = Vi (u) ∧ f' 9 = Value.pointer none ∧ f' 10 = az ∧ f' 12 = a7 ∧ f' 52 = Vi ((dj.length : Int)) ∧ f' 53 = Vi (k' : Int)) s') d0 ?_ ?_ ?_)
 ·have dM := (bM).f1
  exact ⟨db, (Zv _), (dM).f2, br, c9, bW, cA, rfl, rfl, rfl, rfl, rfl⟩
 ·intro ar fP fB hj i7 dV d3 aM
  obtain ⟨b3, bS⟩ := fP
  replace aM := un2_eq aM
  obtain ⟨ch, bq, aW, cI, ba, cJ, cK, cL, b5, ca, cb, bB⟩ := d3
  refine Zc (Zd (Za rfl rfl (Zq rfl bB cb (Zb (Ze (Zc (W_true (Zx (decide_eq_true (by omega))) (W_skip (Ze (Zc (W_block (Zc (Zd (Za rfl rfl (Zm (v := Vi ((ar : Int))) rfl bB (Za rfl rfl (Zo (v := Vi ((ar : Int))) rfl rfl (Zb (Ze (Zc (Zd (Za rfl rfl (Zm (v := Vi ((ar : Int))) rfl rfl (Za rfl rfl (Zm (v := ah) rfl ba (Za rfl rfl (Zr S51 rfl rfl (a8.mono (Zt (Zt (Zt (Zt (Zt a g) h) m) o) bq)) (Za rfl rfl (Zq rfl rfl rfl (Zb (Ze ?_)))))))))))))))))))))))))))))))
  obtain ⟨b7, t, aM⟩ := Zg aM
  refine W_mid (M := fun f' w' => (un2 fun (c5 : (List Int)) (c6 : (List Launch)) => ∃ (dd : PHeap) , PHeap.le ch dd ∧ St w0 dd (Res.box an 26 [x, y, z, aa] :: Res.arr (encInt .i64) 3 az c5 :: Res.arr encLaunch 39 a7 c6 :: H) w' ∧ f' 1 = ak ∧ f' 2 = ah ∧ f' 3 = Value.pointer (some ⟨an, 0, none⟩) ∧ f' 7 = Vi (u) ∧ f' 9 = Value.pointer none ∧ f' 10 = az ∧ f' 12 = a7 ∧ f' 52 = Vi ((dj.length : Int)) ∧ f' 53 = Vi ((ar : Int))) b7) ?_ ?_
  ·rcases ite_some t with ⟨bm, t⟩ | ⟨bm, t⟩
   ·refine W_cond_t rfl bm (Zc (W_dl (n0 := 11) (qs 0 11 .done) hmix (by kernel_rfl) (by kernel_rfl) (DL_q rfl rfl (Zm (v := a7) rfl ca ⟨rfl, ?_⟩))))
    refine DL_q rfl rfl (Zm (v := Vi ((ar : Int))) rfl rfl ⟨rfl, ?_⟩)
    obtain ⟨fX, aB, t⟩ := Zg t
    obtain ⟨hu, gv, cq⟩ := ((aW.drew).f2).arr_at aB
    refine DL_q rfl rfl (Exec.index_slice S27 rfl cq rfl (idx_some aB).1 (idx_some aB).2.1 ⟨rfl, ?_⟩)
    refine DL_q rfl rfl (Zp F39_0 rfl rfl rfl ⟨rfl, ?_⟩)
    refine DL_q rfl rfl (Exec.load_arr (F := (encInt .i64)) ((aW.drew).f2) cq A3 rfl rfl rfl aB (Sub.iso (Sub.fst (Sub.refl _))) ?_)
    intro fU eX
    obtain rfl : fU = Vi (fX.At) := encInt_val.1 eX
    refine ⟨rfl, ?_⟩
    refine DL_q rfl rfl (Zm (v := ah) rfl ba ⟨rfl, ?_⟩)
    refine DL_q rfl rfl (Zm (v := Vi ((ar : Int))) rfl rfl ⟨rfl, ?_⟩)
    obtain ⟨iP, ce, t⟩ := Zg t
    refine DL_q rfl rfl (Exec.index_repE S51 rfl rfl rfl (a8.mono (Zt (Zt (Zt (Zt (Zt a g) h) m) o) bq)) ce ?_)
    intro gj hB du gN
    refine ⟨rfl, ?_⟩
    refine DL_q rfl rfl (Zw (E := (encInt .i8)) aW.drew A52 rfl rfl rfl du ?_)
    intro ia eY
    obtain rfl := encInt_val.1 eY
    refine ⟨rfl, ?_⟩
    refine DL_q rfl rfl (Exec.convert_int (by rw [Try.underlying52]; rfl) Try.underlying3 rfl rfl ⟨rfl, ?_⟩)
    refine DL_q rfl rfl (Exec.add rfl rfl rfl ⟨rfl, ?_⟩)
    refine DL_done ?_
    obtain ⟨hv, gw, cr⟩ := ((aW.drew).f2).arr_at aB
    refine Za rfl rfl (Exec.index_slice S27 rfl cr rfl (idx_some aB).1 (idx_some aB).2.1 (Za rfl rfl (Zp F39_0 rfl rfl rfl ?_)))
    obtain ⟨h3, eZ, t⟩ := Zg t
    refine Za rfl rfl (Exec.store_arr_fld (set := (fun (c : Launch) b => { c with At := b })) (aW.drew).f2 cr A3 rfl rfl rfl rfl (encInt_val.2 rfl) (Upd.iso (k := (fun (c : Launch) b => { c with At := b })) (Upd.fst (Upd.refl _)) (fun _ _ => rfl)) aB eZ ?_)
    intro i9 bd
    refine Zb (Ze (Zc (W_dl (n0 := 12) (qs 0 12 .done) hmix (by kernel_rfl) (by kernel_rfl) (DL_q rfl rfl (Zm (v := az) rfl b5 ⟨rfl, ?_⟩)))))
    refine DL_q rfl rfl (Zm (v := Vi ((ar : Int))) rfl rfl ⟨rfl, ?_⟩)
    refine DL_q rfl rfl (Exec.mul rfl rfl rfl ⟨rfl, ?_⟩)
    refine DL_q rfl rfl (Exec.add rfl rfl rfl ⟨rfl, ?_⟩)
    obtain ⟨iQ, aQ, t⟩ := Zg t
    obtain ⟨hw, gx, ct⟩ := ((bd.drew).f2).arr_at aQ
    refine DL_q rfl rfl (Exec.index_slice S22 rfl ct rfl (idx_some aQ).1 (idx_some aQ).2.1 ⟨rfl, ?_⟩)
    refine DL_q rfl rfl (Exec.load_arr (F := (encInt .i64)) ((bd.drew).f2) ct A3 rfl rfl rfl aQ (Sub.refl _) ?_)
    intro ib fa
    obtain rfl := encInt_val.1 fa
    refine ⟨rfl, ?_⟩
    refine DL_q rfl rfl (Zm (v := ah) rfl ba ⟨rfl, ?_⟩)
    refine DL_q rfl rfl (Zm (v := Vi ((ar : Int))) rfl rfl ⟨rfl, ?_⟩)
    refine DL_q rfl rfl (Exec.index_repE S51 rfl rfl rfl (a8.mono (Zt (Zt (Zt (Zt (Zt a g) h) m) o) bq)) ce ?_)
    intro gk hC dv gO
    refine ⟨rfl, ?_⟩
    refine DL_q rfl rfl (Zw (E := (encInt .i8)) bd.drew A52 rfl rfl rfl dv ?_)
    intro ic fb
    obtain rfl := encInt_val.1 fb
    refine ⟨rfl, ?_⟩
    refine DL_q rfl rfl (Exec.convert_int (by rw [Try.underlying52]; rfl) Try.underlying3 rfl rfl ⟨rfl, ?_⟩)
    refine DL_q rfl rfl (Exec.add rfl rfl rfl ⟨rfl, ?_⟩)
    refine DL_done ?_
    obtain ⟨hx, gy, cu⟩ := ((bd.drew).f2).arr_at aQ
    refine Za rfl rfl (Exec.index_slice S22 rfl cu rfl (idx_some aQ).1 (idx_some aQ).2.1 ?_)
    obtain ⟨h4, fc, t⟩ := Zg t
    refine Za rfl rfl (Exec.store_arr (bd.drew).f2 cu A3 rfl rfl rfl rfl (encInt_val.2 rfl) fc ?_)
    intro iA be
    refine Zb (Ze (W_dl (n0 := 12) (qs 0 12 .done) hmix (by kernel_rfl) (by kernel_rfl) (DL_q rfl rfl (Zm (v := az) rfl b5 ⟨rfl, ?_⟩))))
    refine DL_q rfl rfl (Zm (v := Vi ((ar : Int))) rfl rfl ⟨rfl, ?_⟩)
    refine DL_q rfl rfl (Exec.mul rfl rfl rfl ⟨rfl, ?_⟩)
    refine DL_q rfl rfl (Exec.add rfl rfl rfl ⟨rfl, ?_⟩)
    obtain ⟨iR, aR, t⟩ := Zg t
    obtain ⟨hy, gz, cv⟩ := (be.drew).arr_at aR
    refine DL_q rfl rfl (Exec.index_slice S22 rfl cv rfl (idx_some aR).1 (idx_some aR).2.1 ⟨rfl, ?_⟩)
    refine DL_q rfl rfl (Exec.load_arr (F := (encInt .i64)) (be.drew) cv A3 rfl rfl rfl aR (Sub.refl _) ?_)
    intro ie fd
    obtain rfl := encInt_val.1 fd
    refine ⟨rfl, ?_⟩
    refine DL_q rfl rfl (Zm (v := ah) rfl ba ⟨rfl, ?_⟩)
    refine DL_q rfl rfl (Zm (v := Vi ((ar : Int))) rfl rfl ⟨rfl, ?_⟩)
    refine DL_q rfl rfl (Exec.index_repE S51 rfl rfl rfl (a8.mono (Zt (Zt (Zt (Zt (Zt a g) h) m) o) bq)) ce ?_)
    intro gl hD dw gP
    refine ⟨rfl, ?_⟩
    refine DL_q rfl rfl (Zw (E := (encInt .i8)) be.drew A52 rfl rfl rfl dw ?_)
    intro ig fe
    obtain rfl := encInt_val.1 fe
    refine ⟨rfl, ?_⟩
    refine DL_q rfl rfl (Exec.convert_int (by rw [Try.underlying52]; rfl) Try.underlying3 rfl rfl ⟨rfl, ?_⟩)
    refine DL_q rfl rfl (Exec.add rfl rfl rfl ⟨rfl, ?_⟩)
    refine DL_done ?_
    obtain ⟨hz, g0, cw⟩ := (be.drew).arr_at aR
    refine Za rfl rfl (Exec.index_slice S22 rfl cw rfl (idx_some aR).1 (idx_some aR).2.1 ?_)
    obtain ⟨h5, ff, t⟩ := Zg t
    refine Za rfl rfl (Exec.store_arr be.drew cw A3 rfl rfl rfl rfl (encInt_val.2 rfl) ff ?_)
    intro iB dN
    refine Zb (Ze ?_)
    have gQ := Zu t
    subst b7
    exact ⟨ch, (Zv _), (((dN).f1).f1).f2, cI, ba, cJ, cK, cL, b5, ca, cb, bB⟩
   refine W_cond_f rfl bm ?_
   replace bm := Zk bm
   refine W_skip (Ze ?_)
   have gR := Zu t
   subst b7
   exact ⟨ch, (Zv _), (((aW).f2).f2).f2, cI, ba, cJ, cK, cL, b5, ca, cb, bB⟩
  intro hk iC d9
  obtain ⟨c5, c6⟩ := b7
  replace aM := un2_eq aM
  obtain ⟨fC, ec, dO, eu, ev, ew, ex, ey, ez, e0, e1, e2⟩ := d9
  refine (ib_normal (Ze (Zd (Za rfl rfl (Exec.add rfl e2 rfl (Za rfl rfl (Zm (v := Vi (IntKind.i64.wrap ((ar : Int) + 1))) rfl rfl (Zb (Ze ?_)))))))))
  have gS := Zu aM
  subst fB
  exact ⟨fC, (Zt bq ec), (((dO).f2).f2).f2, eu, ev, ew, ex, ey, ez, e0, e1, (Eq.trans rfl (wrap_up dV (bM).arr_le))⟩
 intro hl iD d4
 obtain ⟨b3, bS⟩ := fO
 replace hm := un2_eq hm
 obtain ⟨hO, ae, dP, e3, hH, cc, cM, e4, e5, cN, e6, fY⟩ := d4
 refine Zc (Zd (Za rfl rfl (Zq rfl fY e6 (Zb (Ze (Zc (W_false (Zx (decide_eq_false (by omega))) (W_exit (at_exit (at_exit (ib_here (Ze (Zc (Zc (Zd (Za rfl rfl (Zm (v := Value.pointer none) rfl e4 (Za rfl rfl (Zm (v := az) rfl e5 ?_)))))))))))))))))))
 obtain ⟨hP, af, dQ, fr⟩ := (dP).f1.freezeArr
 refine Za rfl rfl (Tc rfl rfl rfl (Zi rfl (Zi rfl args_nil)) (stn_Network_Holds_nil_sim (stn_Network_Holds_nil_tot b3) dQ fr).r ?_)
 rintro _ iE ⟨fD, ag, bN, rfl⟩
 refine Za rfl rfl (Exec.not rfl rfl (Zb (Ze ?_)))
 rcases ite_some hm with ⟨bn, hm⟩ | ⟨bn, hm⟩
 ·refine W_cond_t rfl bn (Zc (Zd (Za rfl rfl (Zo (v := Value.bool (true)) rfl rfl (Zb (Ze (W_ret (at_ret ?_))))))))
  have gT := Zu hm
  subst r
  refine ⟨_, ret1 rfl, ?_⟩
  exact ⟨fD, (Zt (Zt (Zt (Zt (Zt (Zt (Zt a g) h) m) o) ae) af) ag), ((bN).drop).drop, rfl⟩
 refine W_cond_f rfl bn ?_
 replace bn := Zk bn
 refine W_skip (Ze (Zc (Zd (Za rfl rfl (Exec.load_box_agg (ds := [x, y, z, aa]) (bN) A26 rfl cc rfl (Za rfl rfl (Zm (v := a7) rfl cN ?_)))))))
 obtain ⟨hQ, aj, dR, cR⟩ := (bN).f1.freezeArr
 obtain ⟨fQ, fg, hm⟩ := Zg hm
 obtain ⟨aU, bE⟩ := fQ
 replace hm := un2_eq hm
 refine Za rfl rfl (Tc rfl rfl rfl (Zi rfl (Zi rfl args_nil)) (temporal_Validate_sim fg dR (a0.mono (Zt (Zt (Zt (Zt (Zt (Zt (Zt (Zt a g) h) m) o) ae) af) ag) aj)) (a1.mono (Zt (Zt (Zt (Zt (Zt (Zt (Zt (Zt a g) h) m) o) ae) af) ag) aj)) (a2.mono (Zt (Zt (Zt (Zt (Zt (Zt (Zt (Zt a g) h) m) o) ae) af) ag) aj)) (a3.mono (Zt (Zt (Zt (Zt (Zt (Zt (Zt (Zt a g) h) m) o) ae) af) ag) aj)) cR).r ?_)
 rintro _ iF ⟨fE, ap, bO, rfl⟩
 refine Za rfl rfl (Zm (v := Value.tuple #[Vi (aU), errV 45 (bE)]) rfl rfl (Za rfl rfl (Exec.extract (v := Vi (aU)) rfl rfl rfl (Za rfl rfl (Exec.extract (v := errV 45 (bE)) rfl rfl rfl (Za rfl rfl (Zo (v := Vi (aU)) rfl rfl (Za rfl rfl (Zo (v := errV 45 (bE)) rfl rfl (Zb (Ze (Zc (Zc (Zd (Za rfl rfl (Zm (v := errV 45 (bE)) rfl rfl (Za rfl rfl (Exec.err_neq_nil (T := 45) Try.underlying31 rfl rfl rfl (Zb (Ze ?_))))))))))))))))))))
 rcases ite_some hm with ⟨bo, hm⟩ | ⟨bo, hm⟩
 ·refine W_cond_t rfl bo (Zc (Zd (Za rfl rfl (Zo (v := Value.bool (false)) rfl rfl (Zb (Ze (W_ret (at_ret ?_))))))))
  have gU := Zu hm
  subst r
  refine ⟨_, ret1 rfl, ?_⟩
  exact ⟨fE, (Zt (Zt (Zt (Zt (Zt (Zt (Zt (Zt (Zt a g) h) m) o) ae) af) ag) aj) ap), (bO).drop, rfl⟩
 refine W_cond_f rfl bo ?_
 replace bo := Zk bo
 refine W_skip (Ze (Zc (Zd (Za rfl rfl (Exec.load_box_agg (ds := [x, y, z, aa]) (bO) A26 rfl cc rfl (Za rfl rfl (Zm (v := ak) rfl e3 ?_)))))))
 obtain ⟨fR, fh, hm⟩ := Zg hm
 obtain ⟨dk, b1⟩ := fR
 replace hm := un2_eq hm
 refine Za rfl rfl (Tc rfl rfl rfl (Zi rfl (Zi rfl args_nil)) (temporal_States_sim fh bO (a0.mono (Zt (Zt (Zt (Zt (Zt (Zt (Zt (Zt (Zt a g) h) m) o) ae) af) ag) aj) ap)) (a1.mono (Zt (Zt (Zt (Zt (Zt (Zt (Zt (Zt (Zt a g) h) m) o) ae) af) ag) aj) ap)) (a2.mono (Zt (Zt (Zt (Zt (Zt (Zt (Zt (Zt (Zt a g) h) m) o) ae) af) ag) aj) ap)) (a3.mono (Zt (Zt (Zt (Zt (Zt (Zt (Zt (Zt (Zt a g) h) m) o) ae) af) ag) aj) ap)) (aG.mono (Zt (Zt (Zt (Zt (Zt (Zt (Zt (Zt (Zt a g) h) m) o) ae) af) ag) aj) ap))).r ?_)
 rintro _ iG ⟨hR, bx, aY, c1, rfl, cS⟩
 refine Za rfl rfl (Zm (v := Value.tuple #[bx, errV 45 (b1)]) rfl rfl (Za rfl rfl (Exec.extract (v := bx) rfl rfl rfl (Za rfl rfl (Exec.extract (v := errV 45 (b1)) rfl rfl rfl (Za rfl rfl (Zo (v := bx) rfl rfl (Za rfl rfl (Zo (v := errV 45 (b1)) rfl rfl (Zb (Ze (Zc (Zd (Za rfl rfl (Exec.load_box_agg (ds := [x, y, z, aa]) (c1) A26 rfl cc rfl (Za rfl rfl (Zm (v := a7) rfl cN ?_)))))))))))))))))
 obtain ⟨fS, fi, hm⟩ := Zg hm
 obtain ⟨dl, bF⟩ := fS
 replace hm := un2_eq hm
 refine Za rfl rfl (Tc rfl rfl rfl (Zi rfl (Zi rfl args_nil)) (temporal_States_sim fi c1 (a0.mono (Zt (Zt (Zt (Zt (Zt (Zt (Zt (Zt (Zt (Zt a g) h) m) o) ae) af) ag) aj) ap) aY)) (a1.mono (Zt (Zt (Zt (Zt (Zt (Zt (Zt (Zt (Zt (Zt a g) h) m) o) ae) af) ag) aj) ap) aY)) (a2.mono (Zt (Zt (Zt (Zt (Zt (Zt (Zt (Zt (Zt (Zt a g) h) m) o) ae) af) ag) aj) ap) aY)) (a3.mono (Zt (Zt (Zt (Zt (Zt (Zt (Zt (Zt (Zt (Zt a g) h) m) o) ae) af) ag) aj) ap) aY)) (cR.mono (Zt ap aY))).r ?_)
 rintro _ iH ⟨bt, bz, bT, aI, rfl, cT⟩
 refine Za rfl rfl (Zm (v := Value.tuple #[bz, errV 45 (bF)]) rfl rfl (Za rfl rfl (Exec.extract (v := bz) rfl rfl rfl (Za rfl rfl (Exec.extract (v := errV 45 (bF)) rfl rfl rfl (Za rfl rfl (Zo (v := bz) rfl rfl (Za rfl rfl (Zo (v := errV 45 (bF)) rfl rfl (Zb (Ze (Zc ?_))))))))))))
 obtain ⟨aF, j, hm⟩ := Zg hm
 refine W_mid (M := fun f' w' => (fun (aF : Bool) => ∃ (de : PHeap) , PHeap.le bt de ∧ St w0 de (H) w' ∧ f' 6 = Value.bool (aF)) aF) ?_ ?_
 ·refine W_dl (n0 := 31) (qs 0 29 (.e 29 [] (.q 30 .done))) hmix (by kernel_rfl) (by kernel_rfl) (DL_q rfl rfl (Zm (v := errV 45 (b1)) rfl rfl ⟨rfl, ?_⟩))
  refine DL_q rfl rfl (Exec.err_eql_nil (T := 45) Try.underlying31 rfl rfl rfl ⟨rfl, ?_⟩)
  refine DL_q rfl rfl (Zm (v := Value.bool (b1.isNone)) rfl rfl ⟨rfl, ?_⟩)
  rcases ite_some j with ⟨aK, j⟩ | ⟨aK, j⟩
  ·refine DL_qg rfl rfl (Zf rfl (Zx aK)) (Zm (v := errV 45 (bF)) rfl rfl ⟨rfl, ?_⟩)
   refine DL_qg rfl rfl (Zf rfl (Zx aK)) (Exec.err_eql_nil (T := 45) Try.underlying31 rfl rfl rfl ⟨rfl, ?_⟩)
   refine DL_passes 2 (by rw [aK]; rfl) ?_
   rcases ite_some j with ⟨aw, j⟩ | ⟨aw, j⟩
   ·refine DL_qg rfl rfl (Zf rfl (Zx aw)) (Zm (v := bx) rfl rfl ⟨rfl, ?_⟩)
    refine DL_qg rfl rfl (Zf rfl (Zx aw)) (Zr S53 rfl rfl (cS.mono bT) ⟨rfl, ?_⟩)
    refine DL_qg rfl rfl (Zf rfl (Zx aw)) (Zm (v := Vi (u)) rfl cM ⟨rfl, ?_⟩)
    refine DL_qg rfl rfl (Zf rfl (Zx aw)) (Exec.add rfl rfl rfl ⟨rfl, ?_⟩)
    refine DL_qg rfl rfl (Zf rfl (Zx aw)) (Exec.eql rfl rfl rfl ⟨rfl, ?_⟩)
    refine DL_q rfl rfl (Zs (v := Value.bool (decide ((dk.length : Int) = (IntKind.i64.wrap (u + 1))))) rfl (Zx aw) rfl ⟨rfl, ?_⟩)
    refine DL_q rfl rfl (Zm (v := Value.bool (decide ((dk.length : Int) = (IntKind.i64.wrap (u + 1))))) rfl rfl ⟨rfl, ?_⟩)
    rcases ite_some j with ⟨ax, j⟩ | ⟨ax, j⟩
    ·refine DL_qg rfl rfl (Zf rfl (Zx ax)) (Zm (v := bz) rfl rfl ⟨rfl, ?_⟩)
     refine DL_qg rfl rfl (Zf rfl (Zx ax)) (Zr S53 rfl rfl cT ⟨rfl, ?_⟩)
     refine DL_qg rfl rfl (Zf rfl (Zx ax)) (Zm (v := Vi (aU)) rfl rfl ⟨rfl, ?_⟩)
     refine DL_qg rfl rfl (Zf rfl (Zx ax)) (Exec.add rfl rfl rfl ⟨rfl, ?_⟩)
     refine DL_qg rfl rfl (Zf rfl (Zx ax)) (Exec.eql rfl rfl rfl ⟨rfl, ?_⟩)
     refine DL_q rfl rfl (Zs (v := Value.bool (decide ((dl.length : Int) = (IntKind.i64.wrap (aU + 1))))) rfl (Zx ax) rfl ⟨rfl, ?_⟩)
     refine DL_q rfl rfl (Zm (v := Value.bool (decide ((dl.length : Int) = (IntKind.i64.wrap (aU + 1))))) rfl rfl ⟨rfl, ?_⟩)
     rcases ite_some j with ⟨am, j⟩ | ⟨am, j⟩
     ·refine DL_qg rfl rfl (Zf rfl (Zx am)) (Zm (v := bx) rfl rfl ⟨rfl, ?_⟩)
      refine DL_qg rfl rfl (Zf rfl (Zx am)) (Zm (v := Vi (u)) rfl cM ⟨rfl, ?_⟩)
      obtain ⟨iS, fj, j⟩ := Zg j
      refine DL_qg rfl rfl (Zf rfl (Zx am)) (Exec.index_repE S53 rfl rfl rfl (cS.mono bT) fj ?_)
      intro gm hE dx gV
      refine ⟨rfl, ?_⟩
      refine DL_qg rfl rfl (Zf rfl (Zx am)) (Zw (E := (encSlice (encInt .i64))) aI.drew A22 rfl rfl rfl dx ?_)
      intro ih fk
      have fs := encSlice_val.1 fk
      refine ⟨rfl, ?_⟩
      refine DL_qg rfl rfl (Zf rfl (Zx am)) (Zm (v := bz) rfl rfl ⟨rfl, ?_⟩)
      refine DL_qg rfl rfl (Zf rfl (Zx am)) (Zm (v := Vi (aU)) rfl rfl ⟨rfl, ?_⟩)
      obtain ⟨iT, fl, j⟩ := Zg j
      refine DL_qg rfl rfl (Zf rfl (Zx am)) (Exec.index_repE S53 rfl rfl rfl cT fl ?_)
      intro gn hF dy gW
      refine ⟨rfl, ?_⟩
      refine DL_qg rfl rfl (Zf rfl (Zx am)) (Zw (E := (encSlice (encInt .i64))) aI.drew A22 rfl rfl rfl dy ?_)
      intro ii fm
      have ft := encSlice_val.1 fm
      refine ⟨rfl, ?_⟩
      obtain ⟨dm, fn, j⟩ := Zg j
      refine DL_eg rfl rfl (Zf rfl (Zx am)) (Tc rfl rfl rfl (Zi rfl (Zi rfl args_nil)) (base_Ints_sim fn aI.drew fs ft).r ?_)
      rintro _ iI ⟨fF, ed, dS, rfl⟩
      refine ⟨ag_nil, ?_⟩
      refine DL_q rfl rfl (Zs (v := Value.bool (dm)) rfl (Zx am) rfl ⟨rfl, ?_⟩)
      refine DL_done (Za rfl rfl (Zo (v := Value.bool (dm)) rfl rfl (Zb (Ze ?_))))
      have gX := Zu j
      subst aF
      exact ⟨fF, ed, (dS).drop, rfl⟩
     replace am := Zk am
     refine DL_passes 10 (by rw [am]; rfl) ?_
     refine DL_done (Za rfl rfl (Zo (v := Value.bool (false)) rfl rfl (Zb (Ze ?_))))
     have gY := Zu j
     subst aF
     exact ⟨bt, (Zv _), (aI.drew).drop, rfl⟩
    replace ax := Zk ax
    refine DL_passes 17 (by rw [ax]; rfl) ?_
    refine DL_done (Za rfl rfl (Zo (v := Value.bool (false)) rfl rfl (Zb (Ze ?_))))
    have gZ := Zu j
    subst aF
    exact ⟨bt, (Zv _), (aI.drew).drop, rfl⟩
   replace aw := Zk aw
   refine DL_passes 24 (by rw [aw]; rfl) ?_
   refine DL_done (Za rfl rfl (Zo (v := Value.bool (false)) rfl rfl (Zb (Ze ?_))))
   have ha := Zu j
   subst aF
   exact ⟨bt, (Zv _), (aI.drew).drop, rfl⟩
  replace aK := Zk aK
  refine DL_passes 28 (by rw [aK]; rfl) ?_
  refine DL_done (Za rfl rfl (Zo (v := Value.bool (false)) rfl rfl (Zb (Ze ?_))))
  have hb := Zu j
  subst aF
  exact ⟨bt, (Zv _), (aI.drew).drop, rfl⟩
 intro hn iJ dA
 obtain ⟨fG, ee, dT, e7⟩ := dA
 refine (Ze (W_ret ?_))
 have hc := Zu hm
 subst r
 refine ⟨_, ret1 rfl, ?_⟩
 exact ⟨fG, (Zt (Zt (Zt (Zt (Zt (Zt (Zt (Zt (Zt (Zt (Zt (Zt a g) h) m) o) ae) af) ag) aj) ap) aY) bT) ee), dT, e7⟩
end Go.Pw
