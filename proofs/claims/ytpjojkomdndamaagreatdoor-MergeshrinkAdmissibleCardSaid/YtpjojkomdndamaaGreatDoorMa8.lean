/- -/
import Derived.Test.YtpjojkomdndamaaGreatDoorL27
import Derived.Test.YtpjojkomdndamaaGreatDoorMa7
import Derived.Test.YtpjojkomdndamaaGreatDoorMaX2
set_option maxRecDepth 100000
set_option maxHeartbeats 4000000
set_option linter.unusedVariables false
namespace Go.Pw
open Go.Proofs
theorem N59 : (Tryz.f59.name == "runtime.NumGoroutine") = false := by kernel_rfl
theorem Qdy {w0 w : World} {s : PHeap} {H : List Res} {b : System} {a : System} {ag : Value} {ah : Value} {ai : Value} {y : Value} {z : Value} {aa : Value} {r : (Option Int) × System} (hm : KN b a = some r) (hS : St w0 s (H) w) (aB : SliceRep (Qa .i64) s ag b.Costs) (bH : SliceRep encEdge s ah b.Edges) (ba : SliceRep encBool s ai b.Goals) (bb : SliceRep (Qa .i64) s y a.Costs) (bI : SliceRep encEdge s z a.Edges) (bc : SliceRep encBool s aa a.Goals) :
  Calls Tryz.prog 59 #[Value.agg #[U (b.States), U (b.Init), ag, ah, ai], Value.agg #[U (a.States), U (a.Init), y, z, aa]] w fun e w' => ∃ v, e = .returned v ∧ ((J2 fun (i6 : (Option Int)) (aT : System) => ∃ (aO : PHeap) (cI : Value) (cJ : Value) (cK : Value), PHeap.le s aO ∧ St w0 aO (H) w' ∧ v = Value.tuple #[Value.agg #[U (aT.States), U (aT.Init), cI, cJ, cK], QG 50 (i6)] ∧ SliceRep (Qa .i64) aO cI aT.Costs ∧ SliceRep encEdge aO cJ aT.Edges ∧ SliceRep encBool aO cK aT.Goals) r) := by
 unfold KN at hm
 refine Qy Tryz.func59 Z Z (Zc (Zd (O Z Z (Exec.box (cs := [U (b.States), U (b.Init), ag, ah, ai]) hS Z Z Z ?_))))
 intro ae jR du
 refine O Z Z (Exec.box (cs := [U (a.States), U (a.Init), y, z, aa]) du Z Z Z ?_)
 intro j jS dv
 refine O Z Z (Exec.alloc (cs := [U 0, U 0, Vs none 0 0, Vs none 0 0, Vs none 0 0]) dv Z38 Z Z ?_)
 intro l jT bK
 refine O Z Z (Zo (v := QG 50 (none)) Z Z (Zb (V (Zc (Zc ?_)))))
 obtain ⟨aA, u, hm⟩ := Zg hm
 refine QJ (M := fun f' w' => (fun (aA : Bool) => ∃ (c4 : PHeap) , PHeap.le s c4 ∧ St w0 c4 (Res.box ae 38 [U (b.States), U (b.Init), ag, ah, ai] :: Res.box j 38 [U (a.States), U (a.Init), y, z, aa] :: Res.box l 38 [U 0, U 0, Vs none 0 0, Vs none 0 0, Vs none 0 0] :: H) w' ∧ f' 2 = Vp (some ⟨ae, 0, none⟩) ∧ f' 3 = Vp (some ⟨j, 0, none⟩) ∧ f' 4 = Vp (some ⟨l, 0, none⟩) ∧ f' 33 = Vb aA) aA) ?_ ?_
 ·refine Zd (O Z Z (Qn (ds := [U (b.States), U (b.Init), ag, ah, ai]) (bK.f2) KH Z Z Z ?_))
  obtain ⟨i7, h2, u⟩ := Zg u
  refine O Z Z (Exec.call Z Z Tryz.func60 Z N60 (Zi Z Qk) ((KM h2 bK aB bH ba).mono ?_))
  rintro _ jU ⟨_, rfl, ⟨hZ, aq, bd, rfl⟩⟩
  refine ⟨_, Z, ?_⟩
  refine O Z Z (Exec.not Z Z (O Z Z (Zm (v := Vb (!i7)) Z Z ?_)))
  rcases Qg u with ⟨ao, u⟩ | ⟨ao, u⟩
  ·refine Q0 12 (by rw [ao]; rfl) ?_
   refine Zb (V ?_)
   have iL := Zu u
   subst aA
   have dw := bd.f1
   have dx := dw.f2
   exact ⟨hZ, aq, dx, Z, Z, Z, Z⟩
  replace ao := Zk ao
  refine Qo Z (Zf Z (Zx ao)) Z (Qn (ds := [U (a.States), U (a.Init), y, z, aa]) (bd.f1) KH Z Z Z ?_)
  obtain ⟨kC, h3, u⟩ := Zg u
  refine Qo Z (Zf Z (Zx ao)) Z (Exec.call Z Z Tryz.func60 Z N60 (Zi Z Qk) ((KM h3 bd (bb.mono aq) (bI.mono aq) (bc.mono aq)).mono ?_))
  rintro _ jV ⟨_, rfl, ⟨ia, aW, aU, rfl⟩⟩
  refine ⟨_, Z, ?_⟩
  refine Qo Z (Zf Z (Zx ao)) Z (Exec.not Z Z ?_)
  refine Q0 2 (by rw [ao]; rfl) ?_
  rcases Qg u with ⟨ad, u⟩ | ⟨ad, u⟩
  ·refine Q0 7 (by rw [ad]; rfl) ?_
   refine Zb (V ?_)
   have iM := Zu u
   subst aA
   have dy := aU.f1
   have dz := dy.f2
   exact ⟨ia, (Zt aq aW), dz, Z, Z, Z, Z⟩
  replace ad := Zk ad
  refine Qo Z (Zf Z (Zx ad)) Z (Zp QaQ Z Z Z (Qo Z (Zf Z (Zx ad)) Z (Zn (aU.f2) A22 Z Z Z (Qo Z (Zf Z (Zx ad)) Z (Zp QaQ Z Z Z (Qo Z (Zf Z (Zx ad)) Z (Zn (aU.f1) A22 Z Z Z ?_)))))))
  obtain ⟨i8, h4, u⟩ := Zg u
  refine Qo Z (Zf Z (Zx ad)) Z (Exec.call Z Z Tryz.func34 Z N34 (Zi Z (Zi Z Qk)) ((Y1 h4 aU (aB.mono (Zt aq aW)) (bb.mono (Zt aq aW))).mono ?_))
  rintro _ jW ⟨_, rfl, ⟨ib, gd, d0, rfl⟩⟩
  refine ⟨_, Z, ?_⟩
  refine Qo Z (Zf Z (Zx ad)) Z (Exec.not Z Z (O Z Z (Q5 (v := Vb (!i8)) Z (Zx ad) Z (Zb (V ?_)))))
  have iN := Zu u
  subst aA
  have d1 := d0.f1
  have d2 := d1.f2
  exact ⟨ib, (Zt (Zt aq aW) gd), d2, Z, Z, Z, Z⟩
 intro je jX dq
 obtain ⟨b5, ab, aC, x, n, a7, cf⟩ := dq
 refine (V ?_)
 rcases Qg hm with ⟨aD, hm⟩ | ⟨aD, hm⟩
 ·refine Qv cf aD (Zc (Zd (O Z Z (Exec.build Z Qx (v := Value.agg #[U 0, U 0, Vs none 0 0, Vs none 0 0, Vs none 0 0]) (fun _ => by kernel_rfl) (O Z Z (Exec.makeInterface C50 Z Z ?_))))))
  have d3 := aC.f2
  refine O Z Z (Qf (ds := [U 0, U 0, Vs none 0 0, Vs none 0 0, Vs none 0 0]) (es := [U 0, U 0, Vs none 0 0, Vs none 0 0, Vs none 0 0]) d3 KH Z a7 Z Z (Zj Z (Zj Z (Zj Z (Zj Z (Zj Z Q6))))) (Nat.le_of_ble_eq_true Z) Z ?_)
  intro jY bL
  refine O Z Z (Zo (v := QG 50 (some 2)) Z Z (Zb (V (Q1 (Qj ?_)))))
  have iO := Zu hm
  subst r
  refine ⟨_, Qak Z ⟨_, _, a7, JY (bL) KH⟩ Z, ?_⟩
  have d4 := bL.drop
  have d5 := d4.drop
  have d6 := d5.drop
  exact ⟨b5, (Vs none 0 0), (Vs none 0 0), (Vs none 0 0), ab, d6, (KX Z Z), (SliceRep.nil _ _), (SliceRep.nil _ _), (SliceRep.nil _ _)⟩
 refine Qw cf aD ?_
 replace aD := Zk aD
 refine Qp (V (Zc (Zc (Zd (O Z Z (Zp JL Z x Z (O Z Z (Zn (aC) A3 Z Z Z (O Z Z (Zp JL Z n Z (O Z Z (Zn (aC.f1) A3 Z Z Z (O Z Z (Exec.mul Z Z Z (O Z Z (Exec.gtr Z Z Z (Zb (V ?_))))))))))))))))))
 rcases Qg hm with ⟨aE, hm⟩ | ⟨aE, hm⟩
 ·refine Qv Z aE (Zc (Zd (O Z Z (Exec.build Z Qx (v := Value.agg #[U 0, U 0, Vs none 0 0, Vs none 0 0, Vs none 0 0]) (fun _ => by kernel_rfl) (O Z Z (Exec.makeInterface C50 Z Z ?_))))))
  have d7 := aC.f2
  refine O Z Z (Qf (ds := [U 0, U 0, Vs none 0 0, Vs none 0 0, Vs none 0 0]) (es := [U 0, U 0, Vs none 0 0, Vs none 0 0, Vs none 0 0]) d7 KH Z a7 Z Z (Zj Z (Zj Z (Zj Z (Zj Z (Zj Z Q6))))) (Nat.le_of_ble_eq_true Z) Z ?_)
  intro jZ bM
  refine O Z Z (Zo (v := QG 50 (some 5)) Z Z (Zb (V (Q1 (Qj ?_)))))
  have iP := Zu hm
  subst r
  refine ⟨_, Qak Z ⟨_, _, a7, JY (bM) KH⟩ Z, ?_⟩
  have d8 := bM.drop
  have d9 := d8.drop
  have dA := d9.drop
  exact ⟨b5, (Vs none 0 0), (Vs none 0 0), (Vs none 0 0), ab, dA, (KX Z Z), (SliceRep.nil _ _), (SliceRep.nil _ _), (SliceRep.nil _ _)⟩
 refine Qw Z aE ?_
 replace aE := Zk aE
 refine Qp (V (Zc ?_))
 obtain ⟨av, c2, hm⟩ := Zg hm
 refine QJ (M := fun f' w' => ∃ (c5 : PHeap) (p : Nat) (d : Value), PHeap.le b5 c5 ∧ St w0 c5 (Res.box ae 38 [U (b.States), U (b.Init), ag, ah, ai] :: Res.box j 38 [U (a.States), U (a.Init), y, z, aa] :: Res.box l 38 [U 0, U 0, Vs none 0 0, Vs none 0 0, Vs none 0 0] :: Res.box p 38 [U (IntKind.i64.wrap (b.States * a.States)), U (IntKind.i64.wrap ((IntKind.i64.wrap (b.Init * a.States)) + a.Init)), d, Vs none 0 0, Vs none 0 0] :: Res.arr (Qa .i64) 3 d av :: H) w' ∧ f' 2 = Vp (some ⟨ae, 0, none⟩) ∧ f' 3 = Vp (some ⟨j, 0, none⟩) ∧ f' 4 = Vp (some ⟨l, 0, none⟩) ∧ f' 6 = Vp (some ⟨p, 0, none⟩)) ?_ ?_
 ·refine K3 (n0 := 18) (.q 0 (.q 1 (.q 2 (.q 3 (.q 4 (.q 5 (.q 6 (.q 7 (.q 8 (.q 9 (.q 10 (.q 11 (.q 12 (.q 13 (.q 14 (.alt (.e 15 [0, 1, 2, 3, 4, 5, 6, 7, 8, 9, 10, 11, 12] (.q 16 (.e 17 [0, 1, 2, 3, 4, 5, 6, 7, 8, 9, 10, 11, 12, 16] .done))) (.e 17 [0, 1, 2, 3, 4, 5, 6, 7, 8, 9, 10, 11, 12, 13, 14] (.e 15 [0, 1, 2, 3, 4, 5, 6, 7, 8, 9, 10, 11, 12] (.q 16 .done))))))))))))))))))) K8 (by kernel_rfl) (by kernel_rfl) ?_
  have al := aC.drew
  refine Qh Z Z (Zp JL Z x Z ⟨Z, ?_⟩)
  refine Qh Z Z (Zn (al) A3 Z Z Z ⟨Z, ?_⟩)
  refine Qh Z Z (Zp JL Z n Z ⟨Z, ?_⟩)
  refine Qh Z Z (Zn (al.f1) A3 Z Z Z ⟨Z, ?_⟩)
  refine Qh Z Z (Exec.mul Z Z Z ⟨Z, ?_⟩)
  refine Qh Z Z (Zp KW Z x Z ⟨Z, ?_⟩)
  refine Qh Z Z (Zn (al) A3 Z Z Z ⟨Z, ?_⟩)
  refine Qh Z Z (Zp JL Z n Z ⟨Z, ?_⟩)
  refine Qh Z Z (Zn (al.f1) A3 Z Z Z ⟨Z, ?_⟩)
  refine Qh Z Z (Exec.mul Z Z Z ⟨Z, ?_⟩)
  refine Qh Z Z (Zp KW Z n Z ⟨Z, ?_⟩)
  refine Qh Z Z (Zn (al.f1) A3 Z Z Z ⟨Z, ?_⟩)
  refine Qh Z Z (Exec.add Z Z Z ⟨Z, ?_⟩)
  refine Qh Z Z (Zp QaQ Z x Z ⟨Z, ?_⟩)
  refine Qh Z Z (Zn (al) A22 Z Z Z ⟨Z, ?_⟩)
  refine QeC ?_ ?_
  ·refine JH Z Z (Exec.call Z Z Tryz.func36 Z N36 (Zi Z Qk) ((Jc c2 al (aB.mono ab)).mono ?_))
   rintro _ ka ⟨a2, rfl, ⟨ic, _, gf, aw, rfl⟩⟩
   refine ⟨_, Z, ?_⟩
   refine ⟨(Qd (Q4 Z Z (Zp JL Z x Z ⟨Z, Z⟩)) (Qd (Q4 Z Z (Zn (aw.f1) A3 Z Z Z ⟨Z, Z⟩)) (Qd (Q4 Z Z (Zp JL Z n Z ⟨Z, Z⟩)) (Qd (Q4 Z Z (Zn (aw.f2) A3 Z Z Z ⟨Z, Z⟩)) (Qd (Q4 Z Z (Exec.mul Z Z Z ⟨Z, Z⟩)) (Qd (Q4 Z Z (Zp KW Z x Z ⟨Z, Z⟩)) (Qd (Q4 Z Z (Zn (aw.f1) A3 Z Z Z ⟨Z, Z⟩)) (Qd (Q4 Z Z (Zp JL Z n Z ⟨Z, Z⟩)) (Qd (Q4 Z Z (Zn (aw.f2) A3 Z Z Z ⟨Z, Z⟩)) (Qd (Q4 Z Z (Exec.mul Z Z Z ⟨Z, Z⟩)) (Qd (Q4 Z Z (Zp KW Z n Z ⟨Z, Z⟩)) (Qd (Q4 Z Z (Zn (aw.f2) A3 Z Z Z ⟨Z, Z⟩)) (Qd (Q4 Z Z (Exec.add Z Z Z ⟨Z, Z⟩)) QY))))))))))))), ?_⟩
   refine Qh Z Z (Exec.build Z (Qb (c := [U (IntKind.i64.wrap (b.States * a.States))]) (Qi Z Z) (Qb (c := [U (IntKind.i64.wrap ((IntKind.i64.wrap (b.Init * a.States)) + a.Init))]) (Qi Z Z) (Qb (c := [a2]) (Qi Z (QV aw.arr_one)) Qx))) (v := Value.agg #[U (IntKind.i64.wrap (b.States * a.States)), U (IntKind.i64.wrap ((IntKind.i64.wrap (b.Init * a.States)) + a.Init)), a2, Vs none 0 0, Vs none 0 0]) (fun _ => by kernel_rfl) ⟨Z, ?_⟩)
   refine JH Z Z (Exec.alloc (cs := [U 0, U 0, Vs none 0 0, Vs none 0 0, Vs none 0 0]) aw Z38 Z Z ?_)
   intro cV kb am
   refine ⟨(Qd (Q4 Z Z (Zp JL Z x Z ⟨Z, Z⟩)) (Qd (Q4 Z Z (Zn (am.f2) A3 Z Z Z ⟨Z, Z⟩)) (Qd (Q4 Z Z (Zp JL Z n Z ⟨Z, Z⟩)) (Qd (Q4 Z Z (Zn (am.f3) A3 Z Z Z ⟨Z, Z⟩)) (Qd (Q4 Z Z (Exec.mul Z Z Z ⟨Z, Z⟩)) (Qd (Q4 Z Z (Zp KW Z x Z ⟨Z, Z⟩)) (Qd (Q4 Z Z (Zn (am.f2) A3 Z Z Z ⟨Z, Z⟩)) (Qd (Q4 Z Z (Zp JL Z n Z ⟨Z, Z⟩)) (Qd (Q4 Z Z (Zn (am.f3) A3 Z Z Z ⟨Z, Z⟩)) (Qd (Q4 Z Z (Exec.mul Z Z Z ⟨Z, Z⟩)) (Qd (Q4 Z Z (Zp KW Z n Z ⟨Z, Z⟩)) (Qd (Q4 Z Z (Zn (am.f3) A3 Z Z Z ⟨Z, Z⟩)) (Qd (Q4 Z Z (Exec.add Z Z Z ⟨Z, Z⟩)) (Qd (Q4 Z Z (Exec.build Z (Qb (c := [U (IntKind.i64.wrap (b.States * a.States))]) (Qi Z Z) (Qb (c := [U (IntKind.i64.wrap ((IntKind.i64.wrap (b.Init * a.States)) + a.Init))]) (Qi Z Z) (Qb (c := [a2]) (Qi Z (QV (am.f1).arr_one)) Qx))) (v := Value.agg #[U (IntKind.i64.wrap (b.States * a.States)), U (IntKind.i64.wrap ((IntKind.i64.wrap (b.Init * a.States)) + a.Init)), a2, Vs none 0 0, Vs none 0 0]) (fun _ => by kernel_rfl) ⟨Z, Z⟩)) QY)))))))))))))), ?_⟩
   refine QC (O Z Z (Qf (ds := [U (IntKind.i64.wrap (b.States * a.States)), U (IntKind.i64.wrap ((IntKind.i64.wrap (b.Init * a.States)) + a.Init)), a2, Vs none 0 0, Vs none 0 0]) (es := [U (IntKind.i64.wrap (b.States * a.States)), U (IntKind.i64.wrap ((IntKind.i64.wrap (b.Init * a.States)) + a.Init)), a2, Vs none 0 0, Vs none 0 0]) am KH Z Z Z Z (Zj Z (Zj Z (Zj (am.f1).arr_one (Zj Z (Zj Z Q6))))) (Nat.le_of_ble_eq_true Z) Z ?_))
   intro kc dB
   refine Zb (V ?_)
   have dC := dB.f1
   have dD := dC.f1
   have dE := dD.f4
   have dF := dE.f4
   have dG := dF.f4
   exact ⟨ic, cV, a2, gf, dG, x, n, a7, Z⟩
  refine JH Z Z (Exec.alloc (cs := [U 0, U 0, Vs none 0 0, Vs none 0 0, Vs none 0 0]) al Z38 Z Z ?_)
  intro cW kd ax
  refine ⟨(Qd (Q4 Z Z (Zp JL Z x Z ⟨Z, Z⟩)) (Qd (Q4 Z Z (Zn (ax.f1) A3 Z Z Z ⟨Z, Z⟩)) (Qd (Q4 Z Z (Zp JL Z n Z ⟨Z, Z⟩)) (Qd (Q4 Z Z (Zn (ax.f2) A3 Z Z Z ⟨Z, Z⟩)) (Qd (Q4 Z Z (Exec.mul Z Z Z ⟨Z, Z⟩)) (Qd (Q4 Z Z (Zp KW Z x Z ⟨Z, Z⟩)) (Qd (Q4 Z Z (Zn (ax.f1) A3 Z Z Z ⟨Z, Z⟩)) (Qd (Q4 Z Z (Zp JL Z n Z ⟨Z, Z⟩)) (Qd (Q4 Z Z (Zn (ax.f2) A3 Z Z Z ⟨Z, Z⟩)) (Qd (Q4 Z Z (Exec.mul Z Z Z ⟨Z, Z⟩)) (Qd (Q4 Z Z (Zp KW Z n Z ⟨Z, Z⟩)) (Qd (Q4 Z Z (Zn (ax.f2) A3 Z Z Z ⟨Z, Z⟩)) (Qd (Q4 Z Z (Exec.add Z Z Z ⟨Z, Z⟩)) (Qd (Q4 Z Z (Zp QaQ Z x Z ⟨Z, Z⟩)) (Qd (Q4 Z Z (Zn (ax.f1) A22 Z Z Z ⟨Z, Z⟩)) QY))))))))))))))), ?_⟩
  refine JH Z Z (Exec.call Z Z Tryz.func36 Z N36 (Zi Z Qk) ((Jc c2 ax (aB.mono ab)).mono ?_))
  rintro _ ke ⟨aP, rfl, ⟨ie, _, gg, ay, rfl⟩⟩
  refine ⟨_, Z, ?_⟩
  refine ⟨(Qd (Q4 Z Z (Zp JL Z x Z ⟨Z, Z⟩)) (Qd (Q4 Z Z (Zn (ay.f2) A3 Z Z Z ⟨Z, Z⟩)) (Qd (Q4 Z Z (Zp JL Z n Z ⟨Z, Z⟩)) (Qd (Q4 Z Z (Zn (ay.f3) A3 Z Z Z ⟨Z, Z⟩)) (Qd (Q4 Z Z (Exec.mul Z Z Z ⟨Z, Z⟩)) (Qd (Q4 Z Z (Zp KW Z x Z ⟨Z, Z⟩)) (Qd (Q4 Z Z (Zn (ay.f2) A3 Z Z Z ⟨Z, Z⟩)) (Qd (Q4 Z Z (Zp JL Z n Z ⟨Z, Z⟩)) (Qd (Q4 Z Z (Zn (ay.f3) A3 Z Z Z ⟨Z, Z⟩)) (Qd (Q4 Z Z (Exec.mul Z Z Z ⟨Z, Z⟩)) (Qd (Q4 Z Z (Zp KW Z n Z ⟨Z, Z⟩)) (Qd (Q4 Z Z (Zn (ay.f3) A3 Z Z Z ⟨Z, Z⟩)) (Qd (Q4 Z Z (Exec.add Z Z Z ⟨Z, Z⟩)) QY))))))))))))), ?_⟩
  refine Qh Z Z (Exec.build Z (Qb (c := [U (IntKind.i64.wrap (b.States * a.States))]) (Qi Z Z) (Qb (c := [U (IntKind.i64.wrap ((IntKind.i64.wrap (b.Init * a.States)) + a.Init))]) (Qi Z Z) (Qb (c := [aP]) (Qi Z (QV ay.arr_one)) Qx))) (v := Value.agg #[U (IntKind.i64.wrap (b.States * a.States)), U (IntKind.i64.wrap ((IntKind.i64.wrap (b.Init * a.States)) + a.Init)), aP, Vs none 0 0, Vs none 0 0]) (fun _ => by kernel_rfl) ⟨Z, ?_⟩)
  refine QC ?_
  have bN := ay.f1
  refine O Z Z (Qf (ds := [U (IntKind.i64.wrap (b.States * a.States)), U (IntKind.i64.wrap ((IntKind.i64.wrap (b.Init * a.States)) + a.Init)), aP, Vs none 0 0, Vs none 0 0]) (es := [U (IntKind.i64.wrap (b.States * a.States)), U (IntKind.i64.wrap ((IntKind.i64.wrap (b.Init * a.States)) + a.Init)), aP, Vs none 0 0, Vs none 0 0]) bN KH Z Z Z Z (Zj Z (Zj Z (Zj (bN.f1).arr_one (Zj Z (Zj Z Q6))))) (Nat.le_of_ble_eq_true Z) Z ?_)
  intro kf dH
  refine Zb (V ?_)
  have dI := dH.f1
  have dJ := dI.f1
  have dK := dJ.f4
  have dL := dK.f4
  have dM := dL.f4
  exact ⟨ie, cW, aP, gg, dM, x, n, a7, Z⟩
 intro jf kg dr
 obtain ⟨c6, p, d, af, bO, cg, go, gp, gq⟩ := dr
 refine (V (Zc (Zc (Zd (O Z Z (Zp JL Z cg Z (O Z Z (Zn (bO) A3 Z Z Z (O Z Z (Zm (v := U 0) Z Z (Zb (V ?_))))))))))))
 obtain ⟨jJ, h5, hm⟩ := Zg hm
 obtain ⟨a4, cX, hm⟩ := Zg hm
 refine Qm (J3 (fun k' s' f' w' => (fun (a4 : (List Bool)) => ∃ (c7 : PHeap) (o : Value), PHeap.le c6 c7 ∧ St w0 c7 (Res.box ae 38 [U (b.States), U (b.Init), ag, ah, ai] :: Res.box j 38 [U (a.States), U (a.Init), y, z, aa] :: Res.box l 38 [U 0, U 0, Vs none 0 0, Vs none 0 0, Vs none 0 0] :: Res.box p 38 [U (IntKind.i64.wrap (b.States * a.States)), U (IntKind.i64.wrap ((IntKind.i64.wrap (b.Init * a.States)) + a.Init)), d, Vs none 0 0, o] :: Res.arr (Qa .i64) 3 d av :: Res.arr encBool 4 o a4 :: H) w' ∧ f' 2 = Vp (some ⟨ae, 0, none⟩) ∧ f' 3 = Vp (some ⟨j, 0, none⟩) ∧ f' 4 = Vp (some ⟨l, 0, none⟩) ∧ f' 6 = Vp (some ⟨p, 0, none⟩) ∧ f' 62 = U (b.States) ∧ f' 63 = U (k' : Int)) s') cX ?_ ?_ ?_)
 ·have dN := bO.nilArr encBool 4
  have dO := dN.f5
  have dP := dO.f5
  have dQ := dP.f5
  have dR := dQ.f5
  have dS := dR.f5
  exact ⟨c6, (Vs none 0 0), (Zv _), dS, cg, go, gp, gq, Z, Z⟩
 ·intro ap a4 ig jg kh fW dd aG
  obtain ⟨c8, o, bk, bP, gr, ch, gs, gu, ci, bB⟩ := dd
  refine Zc (Zd (O Z Z (Zq Z bB ci (Zb (V (Zc (QK (Zx (decide_eq_true (by omega))) (Qp (V (Zc (Qm (Zc (Zd (O Z Z (Zm (v := U ((ap : Int))) Z bB (O Z Z (Zo (v := U ((ap : Int))) Z Z (Zb (V (Zc (Zd (O Z Z (Zp JL Z ch Z (O Z Z (Zn (bP.f1) A3 Z Z Z (O Z Z (Zm (v := U 0) Z Z (Zb (V ?_)))))))))))))))))))))))))))))
  obtain ⟨jK, h6, aG⟩ := Zg aG
  obtain ⟨bl, cY, aG⟩ := Zg aG
  refine Qm (J3 (fun k' s' f' w' => (fun (bl : (List Bool)) => ∃ (c9 : PHeap) (aQ : Value), PHeap.le c8 c9 ∧ St w0 c9 (Res.box ae 38 [U (b.States), U (b.Init), ag, ah, ai] :: Res.box j 38 [U (a.States), U (a.Init), y, z, aa] :: Res.box l 38 [U 0, U 0, Vs none 0 0, Vs none 0 0, Vs none 0 0] :: Res.box p 38 [U (IntKind.i64.wrap (b.States * a.States)), U (IntKind.i64.wrap ((IntKind.i64.wrap (b.Init * a.States)) + a.Init)), d, Vs none 0 0, aQ] :: Res.arr (Qa .i64) 3 d av :: Res.arr encBool 4 aQ bl :: H) w' ∧ f' 2 = Vp (some ⟨ae, 0, none⟩) ∧ f' 3 = Vp (some ⟨j, 0, none⟩) ∧ f' 4 = Vp (some ⟨l, 0, none⟩) ∧ f' 6 = Vp (some ⟨p, 0, none⟩) ∧ f' 7 = U ((ap : Int)) ∧ f' 62 = U (b.States) ∧ f' 63 = U ((ap : Int)) ∧ f' 67 = U (a.States) ∧ f' 68 = U (k' : Int)) s') cY ?_ ?_ ?_)
  ·have dT := bP.f5
   have dU := dT.f5
   have dV := dU.f5
   have dW := dV.f5
   have dX := dW.f5
   have dY := dX.f5
   exact ⟨c8, o, (Zv _), dY, gr, ch, gs, gu, Z, ci, bB, Z, Z⟩
  ·intro aK bl ih jh ki fX de bj
   obtain ⟨b6, aQ, bm, dZ, bt, bu, cj, a1, bv, ck, cl, bw, aY⟩ := de
   refine Zc (Zd (O Z Z (Zq Z aY bw (Zb (V (Zc (QK (Zx (decide_eq_true (by omega))) (Qp (V (Zc (Qm (Zc (Zd (O Z Z (Zm (v := U ((aK : Int))) Z aY (O Z Z (Zo (v := U ((aK : Int))) Z Z (Zb (V ?_)))))))))))))))))))
   obtain ⟨aM, ac, bj⟩ := Zg bj
   refine QJ (M := fun f' w' => (fun (aM : (List Bool)) => ∃ (cA : PHeap) (aX : Value), PHeap.le b6 cA ∧ St w0 cA (Res.box ae 38 [U (b.States), U (b.Init), ag, ah, ai] :: Res.box j 38 [U (a.States), U (a.Init), y, z, aa] :: Res.box l 38 [U 0, U 0, Vs none 0 0, Vs none 0 0, Vs none 0 0] :: Res.box p 38 [U (IntKind.i64.wrap (b.States * a.States)), U (IntKind.i64.wrap ((IntKind.i64.wrap (b.Init * a.States)) + a.Init)), d, Vs none 0 0, aX] :: Res.arr (Qa .i64) 3 d av :: Res.arr encBool 4 aX aM :: H) w' ∧ f' 2 = Vp (some ⟨ae, 0, none⟩) ∧ f' 3 = Vp (some ⟨j, 0, none⟩) ∧ f' 4 = Vp (some ⟨l, 0, none⟩) ∧ f' 6 = Vp (some ⟨p, 0, none⟩) ∧ f' 7 = U ((ap : Int)) ∧ f' 62 = U (b.States) ∧ f' 63 = U ((ap : Int)) ∧ f' 67 = U (a.States) ∧ f' 68 = U ((aK : Int))) aM) ?_ ?_
   ·refine K3 (n0 := 16) (.q 0 (.q 1 (.q 2 (.q 3 (.q 4 (.q 5 (.q 6 (.q 7 (.q 8 (.q 9 (.q 10 (.q 11 (.q 12 (.q 13 (.e 14 [0, 1] (.e 15 [] .done)))))))))))))))) K8 (by kernel_rfl) (by kernel_rfl) ?_
    have az := dZ.drew
    refine Qh Z Z (Zp Qbo Z a1 Z ⟨Z, ?_⟩)
    refine Qh Z Z (Zn (az.f3) A36 Z Z Z ⟨Z, ?_⟩)
    refine Qh Z Z (Zp Qbo Z bt Z ⟨Z, ?_⟩)
    refine Qh Z Z (Zn (az) A36 Z Z Z ⟨Z, ?_⟩)
    refine Qh Z Z (Zm (v := U ((ap : Int))) Z bv ⟨Z, ?_⟩)
    obtain ⟨iw, h7, ac⟩ := Zg ac
    refine Qh Z Z (QP S36 Z Z Z (ba.mono (Zt (Zt (Zt ab af) bk) bm)) h7 ?_)
    intro i9 jx cN iQ
    refine ⟨Z, ?_⟩
    refine Qh Z Z (Zw (E := encBool) az A4 Z Z Z cN ?_)
    intro jL h8
    obtain rfl := Ju.1 h8
    refine ⟨Z, ?_⟩
    refine Qh Z Z (Zm (v := Vb iw) Z Z ⟨Z, ?_⟩)
    rcases Qg ac with ⟨t, ac⟩ | ⟨t, ac⟩
    ·refine Q9 Z Z (Zf Z (Zx t)) (Zp Qbo Z bu Z ⟨Z, ?_⟩)
     refine Q9 Z Z (Zf Z (Zx t)) (Zn (az.f1) A36 Z Z Z ⟨Z, ?_⟩)
     refine Q9 Z Z (Zf Z (Zx t)) (Zm (v := U ((aK : Int))) Z Z ⟨Z, ?_⟩)
     obtain ⟨aS, h9, ac⟩ := Zg ac
     refine Q9 Z Z (Zf Z (Zx t)) (QP S36 Z Z Z (bc.mono (Zt (Zt (Zt ab af) bk) bm)) h9 ?_)
     intro iA jy cO iR
     refine ⟨Z, ?_⟩
     refine Q9 Z Z (Zf Z (Zx t)) (Zw (E := encBool) az A4 Z Z Z cO ?_)
     intro jM hA
     obtain rfl := Ju.1 hA
     refine ⟨Z, ?_⟩
     refine Qh Z Z (Zs (v := Vb aS) Z (Zx t) Z ⟨Z, ?_⟩)
     refine JH Z Z (Exec.buildSlice (Te := 4) (cs := [Vb aS]) az Z (Qb (c := [Vb aS]) (Qi Z Z) Qx) (fun _ => by kernel_rfl) ?_)
     intro iB kj bQ
     refine ⟨(Qd (Q4 Z Z (Zp Qbo Z a1 Z ⟨Z, Z⟩)) (Qd (Q4 Z Z (Zn (bQ.f4) A36 Z Z Z ⟨Z, Z⟩)) QY)), ?_⟩
     obtain ⟨jt, hB, ac⟩ := Zg ac
     have ea := bQ.f6
     refine JH Z Z (QR (E := encBool) (ys := [aS]) ea S36 Z4 Z (by decide) Z Z Z Z ⟨[Vb aS], [], Z, Z, Z⟩ Z hB ?_)
     intro b8 kk eb
     refine ⟨QY, ?_⟩
     refine QC (O Z Z (Zp Qbo Z a1 Z ?_))
     have be := eb.f4
     refine O Z Z (Qf (ds := [b8]) (es := [U (IntKind.i64.wrap (b.States * a.States)), U (IntKind.i64.wrap ((IntKind.i64.wrap (b.Init * a.States)) + a.Init)), d, Vs none 0 0, b8]) be A36 Z Z Z (QV (be.f1).arr_one) (Zj (be.f1).arr_one Q6) (Nat.le_of_ble_eq_true Z) Z ?_)
     intro kl ec
     refine Zb (V ?_)
     have iS := Zu ac
     subst aM
     have ed := ec.f1
     have ee := ed.f5
     have ef := ee.f2
     have eg := ef.f5
     have eh := eg.f5
     have ei := eh.f5
     exact ⟨b6, b8, (Zv _), ei, bt, bu, cj, a1, bv, ck, cl, bw, aY⟩
    replace t := Zk t
    refine Qq Z Z (Zf Z (Zx t)) Z (Qq Z Z (Zf Z (Zx t)) Z (Qq Z Z (Zf Z (Zx t)) Z (Qq Z Z (Zf Z (Zx t)) Z (Qq Z Z (Zf Z (Zx t)) Z (Qh Z Z (Q5 (v := Vb false) Z (Zx t) Z ⟨Z, ?_⟩))))))
    refine JH Z Z (Exec.buildSlice (Te := 4) (cs := [Vb false]) az Z (Qb (c := [Vb false]) (Qi Z Z) Qx) (fun _ => by kernel_rfl) ?_)
    intro iC km bR
    refine ⟨(Qd (Q4 Z Z (Zp Qbo Z a1 Z ⟨Z, Z⟩)) (Qd (Q4 Z Z (Zn (bR.f4) A36 Z Z Z ⟨Z, Z⟩)) QY)), ?_⟩
    obtain ⟨ju, hC, ac⟩ := Zg ac
    have ej := bR.f6
    refine JH Z Z (QR (E := encBool) (ys := [false]) ej S36 Z4 Z (by decide) Z Z Z Z ⟨[Vb false], [], Z, Z, Z⟩ Z hC ?_)
    intro b9 kn ek
    refine ⟨QY, ?_⟩
    refine QC (O Z Z (Zp Qbo Z a1 Z ?_))
    have bf := ek.f4
    refine O Z Z (Qf (ds := [b9]) (es := [U (IntKind.i64.wrap (b.States * a.States)), U (IntKind.i64.wrap ((IntKind.i64.wrap (b.Init * a.States)) + a.Init)), d, Vs none 0 0, b9]) bf A36 Z Z Z (QV (bf.f1).arr_one) (Zj (bf.f1).arr_one Q6) (Nat.le_of_ble_eq_true Z) Z ?_)
    intro ko el
    refine Zb (V ?_)
    have iT := Zu ac
    subst aM
    have em := el.f1
    have en := em.f5
    have eo := en.f2
    have ep := eo.f5
    have er := ep.f5
    have et := er.f5
    exact ⟨b6, b9, (Zv _), et, bt, bu, cj, a1, bv, ck, cl, bw, aY⟩
   intro ji kp dt
   obtain ⟨ii, aX, gh, eu, gv, gw, gx, gy, gz, g0, g1, g2, g3⟩ := dt
   refine (Qz (V (Zd (O Z Z (Exec.add Z g3 Z (O Z Z (Zm (v := U (IntKind.i64.wrap ((aK : Int) + 1))) Z Z (Zb (V ?_)))))))))
   have iU := Zu bj
   subst ih
   have ev := eu.f5
   have ew := ev.f5
   have ex := ew.f5
   have ey := ex.f5
   have ez := ey.f5
   have e0 := ez.f5
   exact ⟨ii, aX, (Zt bm gh), e0, gv, gw, gx, gy, gz, g0, g1, g2, (Eq.trans Z (QB fX (by have h := QT h6; simp at h; simp only [maxLen]; omega)))⟩
  intro jj kq df
  obtain ⟨ij, aQ, gi, e1, g4, g5, g6, g7, j5, g8, g9, gA, ix⟩ := df
  refine Zc (Zd (O Z Z (Zq Z ix gA (Zb (V (Zc (QA (Zx (decide_eq_false (by omega))) (QF (Ql (Ql (Q7 (Qz (V (Zd (O Z Z (Exec.add Z g9 Z (O Z Z (Zm (v := U (IntKind.i64.wrap ((ap : Int) + 1))) Z Z (Zb (V ?_))))))))))))))))))))
  have iV := Zu aG
  subst ig
  have e2 := e1.f5
  have e3 := e2.f5
  have e4 := e3.f5
  have e5 := e4.f5
  have e6 := e5.f5
  have e7 := e6.f5
  exact ⟨ij, aQ, (Zt bk gi), e7, g4, g5, g6, g7, g8, (Eq.trans Z (QB fW (by have h := QT h5; simp at h; simp only [maxLen]; omega)))⟩
 intro jk kr dg
 obtain ⟨jD, o, ar, e8, gB, bx, gC, gD, gE, iy⟩ := dg
 refine Zc (Zd (O Z Z (Zq Z iy gE (Zb (V (Zc (QA (Zx (decide_eq_false (by omega))) (QF (Ql (Ql (Q7 (V (Zc (K3 (n0 := 5) (.q 0 (.q 2 (.e 1 [2] (.e 3 [] (.q 4 .done))))) K8 (by kernel_rfl) (by kernel_rfl) ?_))))))))))))))
 have bg := e8.drew
 refine Qh Z Z (Qn (ds := [U (b.States), U (b.Init), ag, ah, ai]) (bg) KH Z gB Z ⟨Z, ?_⟩)
 refine Qh Z Z (Qn (ds := [U (a.States), U (a.Init), y, z, aa]) (bg.f1) KH Z bx Z ⟨Z, ?_⟩)
 obtain ⟨aZ, hD, hm⟩ := Zg hm
 refine JH Z Z (Exec.call Z Z Tryz.func86 Z N86 (Zi Z Qk) ((Qba hD bg (aB.mono (Zt (Zt ab af) ar)) (bH.mono (Zt (Zt ab af) ar)) (ba.mono (Zt (Zt ab af) ar))).mono ?_))
 rintro _ ks ⟨aj, rfl, ⟨jE, _, aN, bS, rfl, a8⟩⟩
 refine ⟨_, Z, ?_⟩
 refine ⟨(Qd (Q4 Z Z (Qn (ds := [U (a.States), U (a.Init), y, z, aa]) (bS.f1) KH Z bx Z ⟨Z, Z⟩)) QY), ?_⟩
 obtain ⟨kD, hE, hm⟩ := Zg hm
 refine JH Z Z (Exec.call Z Z Tryz.func86 Z N86 (Zi Z Qk) ((Qba hE bS (bb.mono (Zt (Zt (Zt ab af) ar) aN)) (bI.mono (Zt (Zt (Zt ab af) ar) aN)) (bc.mono (Zt (Zt (Zt ab af) ar) aN))).mono ?_))
 rintro _ kt ⟨a3, rfl, ⟨cB, _, au, e9, rfl, c3⟩⟩
 refine ⟨_, Z, ?_⟩
 refine ⟨QY, ?_⟩
 refine Qh Z Z (Zo (v := aj) Z Z ⟨Z, ?_⟩)
 refine QC (O Z Z (Zo (v := a3) Z Z (Zb (V (Zc (Zd (O Z Z (Zo (v := U 0) Z Z (Zb (V (Zc (Zc (Zd (O Z Z (Zm (v := aj) Z Z (O Z Z (Zr Qg8 Z Z (a8.mono au) (O Z Z (Zm (v := U 0) Z Z (Zb (V ?_)))))))))))))))))))))
 obtain ⟨a6, cZ, hm⟩ := Zg hm
 refine Qm (J3 (fun k' s' f' w' => (fun (a6 : Int) => ∃ (cC : PHeap) , PHeap.le cB cC ∧ St w0 cC (Res.box j 38 [U (a.States), U (a.Init), y, z, aa] :: Res.box l 38 [U 0, U 0, Vs none 0 0, Vs none 0 0, Vs none 0 0] :: Res.box p 38 [U (IntKind.i64.wrap (b.States * a.States)), U (IntKind.i64.wrap ((IntKind.i64.wrap (b.Init * a.States)) + a.Init)), d, Vs none 0 0, o] :: Res.arr (Qa .i64) 3 d av :: Res.arr encBool 4 o a4 :: H) w' ∧ f' 3 = Vp (some ⟨j, 0, none⟩) ∧ f' 4 = Vp (some ⟨l, 0, none⟩) ∧ f' 6 = Vp (some ⟨p, 0, none⟩) ∧ f' 9 = aj ∧ f' 10 = a3 ∧ f' 11 = U a6 ∧ f' 95 = U ((aZ.length : Int)) ∧ f' 96 = U (k' : Int)) s') cZ ?_ ?_ ?_)
 ·have eA := e9.drop
  have eB := eA.f4
  have eC := eB.f4
  have eD := eC.f4
  have eE := eD.f4
  have eF := eE.f4
  exact ⟨cB, (Zv _), eF, bx, gC, gD, Z, Z, Z, Z, Z⟩
 ·intro aL a6 ik jl ku fY dh aH
  obtain ⟨il, bn, eG, gF, gG, gH, cm, cn, gI, co, bC⟩ := dh
  refine Zc (Zd (O Z Z (Zq Z bC co (Zb (V (Zc (QK (Zx (decide_eq_true (by omega))) (Qp (V (Zc (Qm (Zc (Zd (O Z Z (Zm (v := U ((aL : Int))) Z bC (O Z Z (Zo (v := U ((aL : Int))) Z Z (Zb (V (K3 (n0 := 13) (.q 0 (.q 1 (.q 2 (.q 3 (.q 4 (.q 5 (.q 6 (.q 7 (.q 8 (.q 9 (.q 10 (.q 11 (.q 12 .done))))))))))))) K8 (by kernel_rfl) (by kernel_rfl) ?_))))))))))))))))))))
  have bh := eG.drew
  refine Qh Z Z (Zm (v := U a6) Z gI ⟨Z, ?_⟩)
  refine Qh Z Z (Zm (v := aj) Z cm ⟨Z, ?_⟩)
  refine Qh Z Z (Zm (v := U ((aL : Int))) Z Z ⟨Z, ?_⟩)
  obtain ⟨iz, hF, aH⟩ := Zg aH
  refine Qh Z Z (QP Qg8 Z Z Z (a8.mono (Zt au bn)) hF ?_)
  intro iD jz cP iW
  refine ⟨Z, ?_⟩
  refine Qh Z Z (Zw (E := (QE encEdge)) bh A35 Z Z Z cP ?_)
  intro jN hG
  have hU := Jw.1 hG
  refine ⟨Z, ?_⟩
  refine Qh Z Z (Zr S35 Z Z hU ⟨Z, ?_⟩)
  refine Qh Z Z (Zm (v := a3) Z cn ⟨Z, ?_⟩)
  refine Qh Z Z (Zm (v := U ((aL : Int))) Z Z ⟨Z, ?_⟩)
  obtain ⟨i0, hH, aH⟩ := Zg aH
  refine Qh Z Z (QP Qg8 Z Z Z (c3.mono bn) hH ?_)
  intro iE j0 cQ iX
  refine ⟨Z, ?_⟩
  refine Qh Z Z (Zw (E := (QE encEdge)) bh A35 Z Z Z cQ ?_)
  intro jO hI
  have hV := Jw.1 hI
  refine ⟨Z, ?_⟩
  refine Qh Z Z (Zr S35 Z Z hV ⟨Z, ?_⟩)
  refine Qh Z Z (Exec.mul Z Z Z ⟨Z, ?_⟩)
  refine Qh Z Z (Exec.add Z Z Z ⟨Z, ?_⟩)
  refine QC (O Z Z (Zo (v := U (IntKind.i64.wrap (a6 + (IntKind.i64.wrap ((iz.length : Int) * (i0.length : Int)))))) Z Z (Zb (Qz (V (Zd (O Z Z (Exec.add Z bC Z (O Z Z (Zm (v := U (IntKind.i64.wrap ((aL : Int) + 1))) Z Z (Zb (V ?_))))))))))))
  have iY := Zu aH
  subst ik
  have eH := bh.f4
  have eI := eH.f4
  have eJ := eI.f4
  have eK := eJ.f4
  have eL := eK.f4
  exact ⟨il, bn, eL, gF, gG, gH, cm, cn, Z, co, (Eq.trans Z (QB fY (SliceRep.le (a8.mono au))))⟩
 intro jm kv di
 obtain ⟨b7, a5, bT, gJ, bz, gK, cp, gL, gM, gN, i1⟩ := di
 refine Zc (Zd (O Z Z (Zq Z i1 gN (Zb (V (Zc (QA (Zx (decide_eq_false (by omega))) (QF (Ql (Ql (Q7 (V (Zc (Zc (Zd (O Z Z (Zm (v := U a6) Z gM (O Z Z (Exec.gtr Z Z Z (Zb (V ?_)))))))))))))))))))))
 rcases Qg hm with ⟨aF, hm⟩ | ⟨aF, hm⟩
 ·refine Qv Z aF (Zc (Zd (O Z Z (Exec.build Z Qx (v := Value.agg #[U 0, U 0, Vs none 0 0, Vs none 0 0, Vs none 0 0]) (fun _ => by kernel_rfl) (O Z Z (Exec.makeInterface C50 Z Z ?_))))))
  have eM := bT.f1
  refine O Z Z (Qf (ds := [U 0, U 0, Vs none 0 0, Vs none 0 0, Vs none 0 0]) (es := [U 0, U 0, Vs none 0 0, Vs none 0 0, Vs none 0 0]) eM KH Z bz Z Z (Zj Z (Zj Z (Zj Z (Zj Z (Zj Z Q6))))) (Nat.le_of_ble_eq_true Z) Z ?_)
  intro kw bU
  refine O Z Z (Zo (v := QG 50 (some 5)) Z Z (Zb (V (Q1 (Qj ?_)))))
  have iZ := Zu hm
  subst r
  refine ⟨_, Qak Z ⟨_, _, bz, JY (bU) KH⟩ Z, ?_⟩
  have eN := bU.drop
  have eO := eN.drop
  have eP := eO.drop
  have eQ := eP.drop
  have eR := eQ.drop
  exact ⟨b7, (Vs none 0 0), (Vs none 0 0), (Vs none 0 0), (Zt (Zt (Zt (Zt (Zt ab af) ar) aN) au) a5), eR, (KX Z Z), (SliceRep.nil _ _), (SliceRep.nil _ _), (SliceRep.nil _ _)⟩
 refine Qw Z aF ?_
 replace aF := Zk aF
 refine Qp (V (Zc (Zc (Zd (O Z Z (Zm (v := aj) Z cp (O Z Z (Zr Qg8 Z Z (a8.mono (Zt au a5)) (O Z Z (Zm (v := U 0) Z Z (Zb (V ?_))))))))))))
 obtain ⟨bG, da, hm⟩ := Zg hm
 refine Qm (J3 (fun k' s' f' w' => (fun (bG : (List Edge)) => ∃ (cD : PHeap) (ak : Value), PHeap.le b7 cD ∧ St w0 cD (Res.box j 38 [U (a.States), U (a.Init), y, z, aa] :: Res.box l 38 [U 0, U 0, Vs none 0 0, Vs none 0 0, Vs none 0 0] :: Res.box p 38 [U (IntKind.i64.wrap (b.States * a.States)), U (IntKind.i64.wrap ((IntKind.i64.wrap (b.Init * a.States)) + a.Init)), d, ak, o] :: Res.arr (Qa .i64) 3 d av :: Res.arr encEdge 85 ak bG :: Res.arr encBool 4 o a4 :: H) w' ∧ f' 3 = Vp (some ⟨j, 0, none⟩) ∧ f' 4 = Vp (some ⟨l, 0, none⟩) ∧ f' 6 = Vp (some ⟨p, 0, none⟩) ∧ f' 9 = aj ∧ f' 10 = a3 ∧ f' 118 = U ((aZ.length : Int)) ∧ f' 119 = U (k' : Int)) s') da ?_ ?_ ?_)
 ·have eS := bT.nilArr encEdge 85
  have eT := eS.f5
  have eU := eT.f1
  have eV := eU.f5
  have eW := eV.f5
  have eX := eW.f5
  have eY := eX.f5
  exact ⟨b7, (Vs none 0 0), (Zv _), eY, gJ, bz, gK, cp, gL, Z, Z⟩
 ·intro m bG im jn kx fZ dj aI
  obtain ⟨cE, ak, bo, bV, gO, gP, gQ, cq, gR, cr, bD⟩ := dj
  refine Zc (Zd (O Z Z (Zq Z bD cr (Zb (V (Zc (QK (Zx (decide_eq_true (by omega))) (Qp (V (Zc (Qm (Zc (Zd (O Z Z (Zm (v := U ((m : Int))) Z bD (O Z Z (Zo (v := U ((m : Int))) Z Z (Zb (V (Zc (Zd (O Z Z (Zm (v := aj) Z cq (O Z Z (Zm (v := U ((m : Int))) Z Z ?_)))))))))))))))))))))))))
  obtain ⟨cM, hJ, aI⟩ := Zg aI
  refine O Z Z (Qu Qg8 Z Z Z (a8.mono (Zt (Zt au a5) bo)) hJ ?_)
  intro iF j1 cR
  refine O Z Z (Zw (E := (QE encEdge)) bV A35 Z Z Z cR ?_)
  intro cL hK
  have b3 := Jw.1 hK
  refine O Z Z (Zr S35 Z Z b3 (O Z Z (Zm (v := U 0) Z Z (Zb (V ?_)))))
  obtain ⟨bp, db, aI⟩ := Zg aI
  refine Qm (J3 (fun k' s' f' w' => (fun (bp : (List Edge)) => ∃ (cF : PHeap) (a9 : Value), PHeap.le cE cF ∧ St w0 cF (Res.box j 38 [U (a.States), U (a.Init), y, z, aa] :: Res.box l 38 [U 0, U 0, Vs none 0 0, Vs none 0 0, Vs none 0 0] :: Res.box p 38 [U (IntKind.i64.wrap (b.States * a.States)), U (IntKind.i64.wrap ((IntKind.i64.wrap (b.Init * a.States)) + a.Init)), d, a9, o] :: Res.arr (Qa .i64) 3 d av :: Res.arr encEdge 85 a9 bp :: Res.arr encBool 4 o a4 :: H) w' ∧ f' 3 = Vp (some ⟨j, 0, none⟩) ∧ f' 4 = Vp (some ⟨l, 0, none⟩) ∧ f' 6 = Vp (some ⟨p, 0, none⟩) ∧ f' 9 = aj ∧ f' 10 = a3 ∧ f' 13 = U ((m : Int)) ∧ f' 118 = U ((aZ.length : Int)) ∧ f' 119 = U ((m : Int)) ∧ f' 125 = cL ∧ f' 126 = U ((cM.length : Int)) ∧ f' 127 = U (k' : Int)) s') db ?_ ?_ ?_)
  ·have eZ := bV.f5
   have fa := eZ.f5
   have fb := fa.f5
   have fc := fb.f5
   have fd := fc.f5
   have fe := fd.f5
   exact ⟨cE, ak, (Zv _), fe, gO, gP, gQ, cq, gR, Z, cr, bD, Z, Z, Z⟩
  ·intro cc bp io jo ky ga dk a0
   obtain ⟨cG, a9, bq, bW, gS, gT, gU, gV, ct, cu, gW, gX, cv, cw, bE⟩ := dk
   refine Zc (Zd (O Z Z (Zq Z bE cw (Zb (V (Zc (QK (Zx (decide_eq_true (by omega))) (Qp (V (Zc (Qm (Zc (Zd ?_)))))))))))))
   obtain ⟨g, hL, a0⟩ := Zg a0
   refine O Z Z (Qu S35 Z cv bE (b3.mono bq) hL ?_)
   intro iG j2 cS
   refine O Z Z (Zw (E := encEdge) bW A85 Z Z Z cS ?_)
   intro jP hM
   obtain rfl := JM.1 hM
   refine O Z Z (Exec.alloc (cs := [U 0, U 0, U 0]) bW Z85 Z Z ?_)
   intro bJ kz ff
   refine O Z Z (Qf (ds := [U (g.From), U (g.Label), U (g.To)]) (es := [U (g.From), U (g.Label), U (g.To)]) ff A85 Z Z Z Z (Zj Z (Zj Z (Zj Z Q6))) (Nat.le_of_ble_eq_true Z) Z ?_)
   intro k0 bX
   refine Zb (V (Zc (Zd (O Z Z (Zm (v := a3) Z ct (O Z Z (Zm (v := U ((m : Int))) Z cu ?_)))))))
   obtain ⟨i2, hN, a0⟩ := Zg a0
   refine O Z Z (Qu Qg8 Z Z Z (c3.mono (Zt (Zt a5 bo) bq)) hN ?_)
   intro iH j3 cT
   refine O Z Z (Zw (E := (QE encEdge)) bX A35 Z Z Z cT ?_)
   intro iv hO
   have b4 := Jw.1 hO
   refine O Z Z (Zr S35 Z Z b4 (O Z Z (Zm (v := U 0) Z Z (Zb (V ?_)))))
   obtain ⟨br, dc, a0⟩ := Zg a0
   refine Qm (J3 (fun k' s' f' w' => (fun (br : (List Edge)) => ∃ (cH : PHeap) (aR : Value), PHeap.le cG cH ∧ St w0 cH (Res.box j 38 [U (a.States), U (a.Init), y, z, aa] :: Res.box l 38 [U 0, U 0, Vs none 0 0, Vs none 0 0, Vs none 0 0] :: Res.box p 38 [U (IntKind.i64.wrap (b.States * a.States)), U (IntKind.i64.wrap ((IntKind.i64.wrap (b.Init * a.States)) + a.Init)), d, aR, o] :: Res.box bJ 85 [U (g.From), U (g.Label), U (g.To)] :: Res.arr (Qa .i64) 3 d av :: Res.arr encEdge 85 aR br :: Res.arr encBool 4 o a4 :: H) w' ∧ f' 3 = Vp (some ⟨j, 0, none⟩) ∧ f' 4 = Vp (some ⟨l, 0, none⟩) ∧ f' 6 = Vp (some ⟨p, 0, none⟩) ∧ f' 9 = aj ∧ f' 10 = a3 ∧ f' 13 = U ((m : Int)) ∧ f' 15 = Vp (some ⟨bJ, 0, none⟩) ∧ f' 118 = U ((aZ.length : Int)) ∧ f' 119 = U ((m : Int)) ∧ f' 125 = cL ∧ f' 126 = U ((cM.length : Int)) ∧ f' 127 = U ((cc : Int)) ∧ f' 134 = iv ∧ f' 135 = U ((i2.length : Int)) ∧ f' 136 = U (k' : Int)) s') dc ?_ ?_ ?_)
   ·have fg := bX.f6
    have fh := fg.f6
    have fi := fh.f6
    have fj := fi.f3
    have fk := fj.f6
    have fl := fk.f6
    have fm := fl.f6
    exact ⟨cG, a9, (Zv _), fm, gS, gT, gU, gV, ct, cu, Z, gW, gX, cv, cw, bE, Z, Z, Z⟩
   ·intro gc br ip jp k1 gb dl aJ
    obtain ⟨iq, aR, cd, bY, b0, gY, b1, gZ, ha, cx, b2, hb, hc, hd, he, hf, cy, cz, bF⟩ := dl
    refine Zc (Zd (O Z Z (Zq Z bF cz (Zb (V (Zc (QK (Zx (decide_eq_true (by omega))) (Qp (V (Zc (Qm (Zc (Zd ?_)))))))))))))
    obtain ⟨i, hP, aJ⟩ := Zg aJ
    refine O Z Z (Qu S35 Z cy bF (b4.mono cd) hP ?_)
    intro iI j4 cU
    refine O Z Z (Zw (E := encEdge) bY A85 Z Z Z cU ?_)
    intro jQ hQ
    obtain rfl := JM.1 hQ
    refine O Z Z (Exec.alloc (cs := [U 0, U 0, U 0]) bY Z85 Z Z ?_)
    intro iJ k2 fn
    refine O Z Z (Qf (ds := [U (i.From), U (i.Label), U (i.To)]) (es := [U (i.From), U (i.Label), U (i.To)]) fn A85 Z Z Z Z (Zj Z (Zj Z (Zj Z Q6))) (Nat.le_of_ble_eq_true Z) Z ?_)
    intro k3 an
    refine Zb (V (Zd (O Z Z (Zp QaF Z b1 Z (O Z Z (Zn (an.f3) A35 Z Z Z (O Z Z (Zp Qbn Z b2 Z (O Z Z (Zn (an.f4) A3 Z Z Z (O Z Z (Zp JL Z b0 Z (O Z Z (Zn (an.f1) A3 Z Z Z (O Z Z (Exec.mul Z Z Z (O Z Z (Zp Qbn Z Z Z (O Z Z (Zn (an) A3 Z Z Z (O Z Z (Exec.add Z Z Z (O Z Z (Zm (v := U ((m : Int))) Z cx (O Z Z (Zp YZ Z b2 Z (O Z Z (Zn (an.f4) A3 Z Z Z (O Z Z (Zp JL Z b0 Z (O Z Z (Zn (an.f1) A3 Z Z Z (O Z Z (Exec.mul Z Z Z (O Z Z (Zp YZ Z Z Z (O Z Z (Zn (an) A3 Z Z Z (O Z Z (Exec.add Z Z Z (O Z Z (Exec.build Z (Qb (c := [U (IntKind.i64.wrap ((IntKind.i64.wrap (g.From * a.States)) + i.From))]) (Qi Z Z) (Qb (c := [U ((m : Int))]) (Qi Z Z) (Qb (c := [U (IntKind.i64.wrap ((IntKind.i64.wrap (g.To * a.States)) + i.To))]) (Qi Z Z) Qx))) (v := Value.agg #[U (IntKind.i64.wrap ((IntKind.i64.wrap (g.From * a.States)) + i.From)), U ((m : Int)), U (IntKind.i64.wrap ((IntKind.i64.wrap (g.To * a.States)) + i.To))]) (fun _ => by kernel_rfl) (O Z Z (Exec.buildSlice (Te := 85) (cs := [U (IntKind.i64.wrap ((IntKind.i64.wrap (g.From * a.States)) + i.From)), U ((m : Int)), U (IntKind.i64.wrap ((IntKind.i64.wrap (g.To * a.States)) + i.To))]) an Z (Qb (c := [U (IntKind.i64.wrap ((IntKind.i64.wrap (g.From * a.States)) + i.From)), U ((m : Int)), U (IntKind.i64.wrap ((IntKind.i64.wrap (g.To * a.States)) + i.To))]) (Qi Z Z) Qx) (fun _ => by kernel_rfl) ?_))))))))))))))))))))))))))))))))))))))))))))
    intro iK k4 fo
    obtain ⟨jv, hR, aJ⟩ := Zg aJ
    have fp := fo.f7
    refine O Z Z (QR (E := encEdge) (ys := [(⟨IntKind.i64.wrap ((IntKind.i64.wrap (g.From * a.States)) + i.From), (m : Int), IntKind.i64.wrap ((IntKind.i64.wrap (g.To * a.States)) + i.To)⟩ : Edge)]) fp S35 Z85 Z (by decide) Z Z Z Z ⟨[U (IntKind.i64.wrap ((IntKind.i64.wrap (g.From * a.States)) + i.From)), U ((m : Int)), U (IntKind.i64.wrap ((IntKind.i64.wrap (g.To * a.States)) + i.To))], [], Z, ⟨[U (IntKind.i64.wrap ((IntKind.i64.wrap (g.From * a.States)) + i.From))], [U ((m : Int)), U (IntKind.i64.wrap ((IntKind.i64.wrap (g.To * a.States)) + i.To))], Z, Z, ⟨[U ((m : Int))], [U (IntKind.i64.wrap ((IntKind.i64.wrap (g.To * a.States)) + i.To))], Z, Z, Z⟩⟩, Z⟩ Z hR ?_)
    intro bA k5 fq
    refine O Z Z (Zp QaF Z b1 Z ?_)
    have bi := fq.f4
    refine O Z Z (Qf (ds := [bA]) (es := [U (IntKind.i64.wrap (b.States * a.States)), U (IntKind.i64.wrap ((IntKind.i64.wrap (b.Init * a.States)) + a.Init)), d, bA, o]) bi A35 Z Z Z (QV (bi.f1).arr_one) (Zj (bi.f1).arr_one Q6) (Nat.le_of_ble_eq_true Z) Z ?_)
    intro k6 fr
    refine Zb (Qz (V (Zd (O Z Z (Exec.add Z bF Z (O Z Z (Zm (v := U (IntKind.i64.wrap ((gc : Int) + 1))) Z Z (Zb (V ?_)))))))))
    have ja := Zu aJ
    subst ip
    have fs := (fr.f2).drop
    have ft := fs.f6
    have fu := ft.f2
    have fv := fu.f6
    have fw := fv.f6
    have fx := fw.f4
    have fy := fx.f6
    have fz := fy.f6
    exact ⟨iq, bA, cd, fz, b0, gY, b1, gZ, ha, cx, b2, hb, hc, hd, he, hf, cy, cz, (Eq.trans Z (QB gb (SliceRep.le b4)))⟩
   intro jq k7 dm
   obtain ⟨ir, aR, gj, f0, hg, hh, hi, hj, hk, hl, j6, hn, ho, hp, hq, hr, j7, hs, i3⟩ := dm
   refine Zc (Zd (O Z Z (Zq Z i3 hs (Zb (V (Zc (QA (Zx (decide_eq_false (by omega))) (QF (Ql (Ql (Q7 (Qz (V (Zd (O Z Z (Exec.add Z hr Z (O Z Z (Zm (v := U (IntKind.i64.wrap ((cc : Int) + 1))) Z Z (Zb (V ?_))))))))))))))))))))
   have jb := Zu a0
   subst io
   have f8 := (f0.f3).drop
   have f9 := f8.f5
   have fA := f9.f5
   have fB := fA.f5
   have fC := fB.f5
   have fD := fC.f5
   have fE := fD.f5
   exact ⟨ir, aR, (Zt bq gj), fE, hg, hh, hi, hj, hk, hl, hn, ho, hp, hq, (Eq.trans Z (QB ga (SliceRep.le b3)))⟩
  intro jr k8 dn
  obtain ⟨it, a9, gk, fF, ht, hu, hv, hw, hx, j8, hy, hz, j9, h0, i4⟩ := dn
  refine Zc (Zd (O Z Z (Zq Z i4 h0 (Zb (V (Zc (QA (Zx (decide_eq_false (by omega))) (QF (Ql (Ql (Q7 (Qz (V (Zd (O Z Z (Exec.add Z hz Z (O Z Z (Zm (v := U (IntKind.i64.wrap ((m : Int) + 1))) Z Z (Zb (V ?_))))))))))))))))))))
  have jc := Zu aI
  subst im
  have fG := fF.f5
  have fH := fG.f5
  have fI := fH.f5
  have fJ := fI.f5
  have fK := fJ.f5
  have fL := fK.f5
  exact ⟨it, a9, (Zt bo gk), fL, ht, hu, hv, hw, hx, hy, (Eq.trans Z (QB fZ (SliceRep.le (a8.mono (Zt au a5)))))⟩
 intro js k9 dp
 obtain ⟨jF, ak, gl, bZ, jA, c0, c1, jB, jC, h1, i5⟩ := dp
 refine Zc (Zd (O Z Z (Zq Z i5 h1 (Zb (V (Zc (QA (Zx (decide_eq_false (by omega))) (QF (Ql (Ql (Q7 (V (Zc (Zd (O Z Z (Zp QaF Z c1 Z (O Z Z (Zn (bZ.f2) A35 Z Z Z ?_))))))))))))))))))
 obtain ⟨jw, hT, hm⟩ := Zg hm
 have fM := bZ.f4
 refine O Z Z (Exec.call Z Z Tryz.func87 Z N87 (Zi Z (Zi Z Qk)) ((QhE hT fM).mono ?_))
 rintro _ kA ⟨_, rfl, ⟨jG, gm, ca, rfl⟩⟩
 refine ⟨_, Z, ?_⟩
 refine Zb (V (Zc (Zd (O Z Z (Qn (ds := [U (IntKind.i64.wrap (b.States * a.States)), U (IntKind.i64.wrap ((IntKind.i64.wrap (b.Init * a.States)) + a.Init)), d, ak, o]) (ca.f3) KH Z c1 Z ?_)))))
 have aV := ca.f2
 refine O Z Z (Qf (ds := [U (IntKind.i64.wrap (b.States * a.States)), U (IntKind.i64.wrap ((IntKind.i64.wrap (b.Init * a.States)) + a.Init)), d, ak, o]) (es := [U (IntKind.i64.wrap (b.States * a.States)), U (IntKind.i64.wrap ((IntKind.i64.wrap (b.Init * a.States)) + a.Init)), d, ak, o]) aV KH Z c0 Z Z (Zj Z (Zj Z (Zj (aV.f4).arr_one (Zj (aV.f1).arr_one (Zj (aV.f5).arr_one Q6))))) (Nat.le_of_ble_eq_true Z) Z ?_)
 intro kB cb
 refine O Z Z (Zo (v := QG 50 (none)) Z Z (Zb (V (Q1 ?_))))
 have jd := Zu hm
 subst r
 refine ⟨_, Qak Z ⟨_, _, c0, JY (cb) KH⟩ Z, ?_⟩
 have fN := cb.f4
 obtain ⟨jH, gn, fO, hW⟩ := fN.freezeArr
 have fP := fO.f1
 obtain ⟨jI, ce, fQ, hX⟩ := fP.freezeArr
 have fR := fQ.f3
 obtain ⟨iu, bs, fS, hY⟩ := fR.freezeArr
 have fT := fS.drop
 have fU := fT.drop
 have fV := fU.drop
 exact ⟨iu, d, ak, o, (Zt (Zt (Zt (Zt (Zt (Zt (Zt (Zt (Zt (Zt ab af) ar) aN) au) a5) gl) gm) gn) ce) bs), fV, (KX Z Z), (hW.mono (Zt ce bs)), (hX.mono bs), hY⟩
theorem N37 : (Tryz.f37.name == "runtime.NumGoroutine") = false := by kernel_rfl
theorem YG {w0 w : World} {s : PHeap} {H : List Res} {ao : mergeshrink_Abstraction} {bl : Task} {aB : (List Int)} {o : Int} {d : Nat} {l : Value} {aj : Value} {ak : Value} {al : Value} {am : Value} {av : Value} {r : (Option Int) × System × (List mergeshrink_stage) × Bool} (hm : Jm ao bl aB o = some r) (hS : St w0 s (Res.box d 74 [l, Value.slice none 0 0, Value.slice none 0 0, Value.bool (ao.exact)] :: Res.arr (Qa .i64) 3 l ao.vars :: H) w) (cd : SliceRep (Qa .i64) s aj bl.Vars) (ce : SliceRep (Qa .i64) s ak bl.Init) (cf : SliceRep encFact s al bl.Goal) (cg : SliceRep encOp s am bl.Ops) (aU : SliceRep (Qa .i64) s av aB) :
  Calls Tryz.prog 37 #[Value.pointer (some ⟨d, 0, none⟩), Value.agg #[aj, ak, al, am], av, U o] w fun e w' => ∃ v, e = .returned v ∧ ((un4 fun (h2 : (Option Int)) (bz : System) (h6 : (List mergeshrink_stage)) (h7 : Bool) => ∃ (bi : PHeap) (cT : Value) (cU : Value) (cV : Value) (cW : Value), PHeap.le s bi ∧ St w0 bi (Res.box d 74 [l, cW, Value.slice none 0 0, Value.bool (h7)] :: Res.arr (Qa .i64) 3 l ao.vars :: Res.arr encmergeshrink_stage 87 cW h6 :: H) w' ∧ v = Value.tuple #[Value.agg #[U (bz.States), U (bz.Init), cT, cU, cV], QG 50 (h2)] ∧ SliceRep (Qa .i64) bi cT bz.Costs ∧ SliceRep encEdge bi cU bz.Edges ∧ SliceRep encBool bi cV bz.Goals) r) := by
 unfold Jm at hm
 refine Qy Tryz.func37 Z Z (Zc (Zd (O Z Z (Exec.box (cs := [aj, ak, al, am]) hS Z Z Z ?_))))
 intro ac iw dl
 refine O Z Z (Exec.alloc (cs := [U 0, U 0, Vs none 0 0, Vs none 0 0, Vs none 0 0]) dl Z38 Z Z ?_)
 intro ad ix bC
 refine O Z Z (Zo (v := QG 50 (none)) Z Z (Zb (V (Zc (Zc (Zd (O Z Z (Zm (v := av) Z Z (O Z Z (Zr Jt Z Z aU (O Z Z (Exec.eql Z Z Z (Zb (V ?_))))))))))))))
 rcases Qg hm with ⟨aV, hm⟩ | ⟨aV, hm⟩
 ·refine Qv Z aV (Zc (Zd (O Z Z (Qn (ds := [aj, ak, al, am]) (bC.f1) A26 Z Z Z ?_))))
  obtain ⟨hs, gX, hm⟩ := Zg hm
  obtain ⟨cX, aM⟩ := hs
  replace hm := Jf hm
  refine O Z Z (Exec.call Z Z Tryz.func55 Z N55 (Zi Z (Zi Z Qk)) ((Qbs gX bC cd ce cf cg (SliceRep.nil _ _)).mono ?_))
  rintro _ iy ⟨_, rfl, ⟨hk, b7, b8, b9, gl, dm, rfl, c7, c8, c9⟩⟩
  refine ⟨_, Z, ?_⟩
  refine O Z Z (Exec.extract (v := Value.agg #[U (aM.States), U (aM.Init), b7, b8, b9]) Z Z Z (O Z Z (Exec.extract (v := QG 50 (cX)) Z Z Z (O Z Z (Qf (ds := [U (aM.States), U (aM.Init), b7, b8, b9]) (es := [U (aM.States), U (aM.Init), b7, b8, b9]) dm KH Z Z Z Z (Zj Z (Zj Z (Zj c7.one (Zj c8.one (Zj c9.one Q6))))) (Nat.le_of_ble_eq_true Z) Z ?_)))))
  intro iz ci
  refine O Z Z (Zo (v := QG 50 (cX)) Z Z (Zb (V (Q1 (Qj ?_)))))
  have hD := Zu hm
  subst r
  refine ⟨_, Qak Z ⟨_, _, Z, JY (ci) KH⟩ Z, ?_⟩
  have dn := ci.nilArr encmergeshrink_stage 87
  have dp := (dn.f1).drop
  have dq := (dp.f1).drop
  have dr := dq.f2
  have dt := dr.f2
  exact ⟨hk, b7, b8, b9, (Vs none 0 0), gl, dt, (KX Z Z), c7, c8, c9⟩
 refine Qw Z aV ?_
 replace aV := Zk aV
 refine Qp (V (Zc (Zd (O Z Z (Zm (v := U o) Z Z ?_)))))
 obtain ⟨p, gY, hm⟩ := Zg hm
 refine O Z Z (Exec.call Z Z Tryz.func56 Z N56 (Zi Z Qk) ((Qdh gY bC).mono ?_))
 rintro _ i0 ⟨_, rfl, ⟨bY, n, du, rfl⟩⟩
 refine ⟨_, Z, ?_⟩
 refine O Z Z (Zo (v := U p) Z Z (Zb (V (Zc (Zd (O Z Z (Exec.alloc (cs := [U 0, U 0, Vs none 0 0, Vs none 0 0, Vs none 0 0]) du Z38 Z Z ?_)))))))
 intro ae i1 dv
 refine Zb (V (Zc (Zc (Zd (O Z Z (Zm (v := av) Z Z (O Z Z (Zr Jt Z Z (aU.mono n) (O Z Z (Zm (v := U 0) Z Z (Zb (V ?_))))))))))))
 obtain ⟨ch, de, bf, gd, gc⟩ := QO hm
 refine QJ (M := fun f' w' => ∃ s', (ch = .next s' ∨ ch = .brk s') ∧ (un7 fun (cY : (List mergeshrink_stage)) (cZ : Bool) (b0 : Int) (b1 : Int) (da : (List Int)) (db : (List Edge)) (dc : (List Bool)) => ∃ (bj : PHeap) (aD : Value) (aE : Value) (aF : Value) (bA : Value), PHeap.le bY bj ∧ St w0 bj (Res.box d 74 [l, bA, Vs none 0 0, Vb cZ] :: Res.arr (Qa .i64) 3 l ao.vars :: Res.box ac 26 [aj, ak, al, am] :: Res.box ad 38 [U 0, U 0, Vs none 0 0, Vs none 0 0, Vs none 0 0] :: Res.box ae 38 [U b0, U b1, aD, aE, aF] :: Res.arr encmergeshrink_stage 87 bA cY :: H) w' ∧ f' 0 = Vp (some ⟨d, 0, none⟩) ∧ f' 3 = U o ∧ f' 5 = Vp (some ⟨ac, 0, none⟩) ∧ f' 8 = Vp (some ⟨ad, 0, none⟩) ∧ f' 10 = U p ∧ f' 11 = Vp (some ⟨ae, 0, none⟩) ∧ f' 28 = av ∧ f' 29 = U ((aB.length : Int)) ∧ SliceRep (Qa .i64) bj aD da ∧ SliceRep encEdge bj aE db ∧ SliceRep encBool bj aF dc) s') ?_ ?_
 ·refine Qm (J4 (fun k' s' f' w' => (un7 fun (aS : (List mergeshrink_stage)) (aT : Bool) (ab : Int) (aG : Int) (ca : (List Int)) (cb : (List Edge)) (cc : (List Bool)) => ∃ (bk : PHeap) (aw : Value) (ax : Value) (ay : Value) (m : Value), PHeap.le bY bk ∧ St w0 bk (Res.box d 74 [l, m, Vs none 0 0, Vb aT] :: Res.arr (Qa .i64) 3 l ao.vars :: Res.box ac 26 [aj, ak, al, am] :: Res.box ad 38 [U 0, U 0, Vs none 0 0, Vs none 0 0, Vs none 0 0] :: Res.box ae 38 [U ab, U aG, aw, ax, ay] :: Res.arr encmergeshrink_stage 87 m aS :: H) w' ∧ f' 0 = Vp (some ⟨d, 0, none⟩) ∧ f' 3 = U o ∧ f' 5 = Vp (some ⟨ac, 0, none⟩) ∧ f' 8 = Vp (some ⟨ad, 0, none⟩) ∧ f' 10 = U p ∧ f' 11 = Vp (some ⟨ae, 0, none⟩) ∧ f' 28 = av ∧ f' 29 = U ((aB.length : Int)) ∧ f' 30 = U (k' : Int) ∧ SliceRep (Qa .i64) bk aw ca ∧ SliceRep encEdge bk ax cb ∧ SliceRep encBool bk ay cc) s') de ?_ ?_ ?_)
  ·have dw := dv.nilArr encmergeshrink_stage 87
   have dx := dw.f1
   have dy := dx.f2
   have dz := dy.f3
   have d0 := dz.f5
   have d1 := d0.f5
   exact ⟨bY, (Vs none 0 0), (Vs none 0 0), (Vs none 0 0), (Vs none 0 0), (Zv _), d1, Z, Z, Z, Z, Z, Z, Z, Z, Z, (SliceRep.nil _ _), (SliceRep.nil _ _), (SliceRep.nil _ _)⟩
  ·intro a2 ht a7 hY i2 cx df a bg
   obtain ⟨aS, aT, ab, aG, ca, cb, cc⟩ := ht
   replace a := Qlh a
   obtain ⟨iq, aw, ax, ay, m, u, bD, y, aq, aJ, ar, au, ai, aK, aL, a5, bN, bO, bP⟩ := df
   refine Zc (Zd (O Z Z (Zq Z a5 aL (Zb (V (Zc (QK (Zx (decide_eq_true (by omega))) (Qp (V (Zc (Qm (Zc (Zd (O Z Z (Zm (v := U ((a2 : Int))) Z a5 ?_)))))))))))))))
   obtain ⟨b, gZ, a⟩ := Zg a
   refine O Z Z (Qu Jt Z aK a5 (aU.mono (Zt n u)) gZ ?_)
   intro hA ii dd
   refine O Z Z (Zw (E := (Qa .i64)) bD A3 Z Z Z dd ?_)
   intro iv ha
   obtain rfl := Qs.1 ha
   refine O Z Z (Zo (v := U ((a2 : Int))) Z Z (O Z Z (Zo (v := U b) Z Z (Zb (V (Zc (Zd (O Z Z (Qn (ds := [aj, ak, al, am]) (bD.f2) A26 Z aJ Z (O Z Z (Zm (v := U b) Z Z ?_)))))))))))
   obtain ⟨hu, hb, a⟩ := Zg a
   obtain ⟨aN, g⟩ := hu
   replace a := Jf a
   refine O Z Z (Exec.call Z Z Tryz.func57 Z N57 (Zi Z (Zi Z Qk)) ((QdO hb bD (cd.mono (Zt n u)) (ce.mono (Zt n u)) (cf.mono (Zt n u)) (cg.mono (Zt n u))).mono ?_))
   rintro _ i3 ⟨_, rfl, ⟨a4, az, a0, a1, ag, d2, rfl, bR, bS, bT⟩⟩
   refine ⟨_, Z, ?_⟩
   refine O Z Z (Zm (v := Value.tuple #[Value.agg #[U (g.States), U (g.Init), az, a0, a1], QG 50 (aN)]) Z Z (O Z Z (Exec.extract (v := Value.agg #[U (g.States), U (g.Init), az, a0, a1]) Z Z Z (O Z Z (Exec.extract (v := QG 50 (aN)) Z Z Z (O Z Z (Exec.alloc (cs := [U 0, U 0, Vs none 0 0, Vs none 0 0, Vs none 0 0]) d2 Z38 Z Z ?_)))))))
   intro aH i4 d3
   refine O Z Z (Qf (ds := [U (g.States), U (g.Init), az, a0, a1]) (es := [U (g.States), U (g.Init), az, a0, a1]) d3 KH Z Z Z Z (Zj Z (Zj Z (Zj bR.one (Zj bS.one (Zj bT.one Q6))))) (Nat.le_of_ble_eq_true Z) Z ?_)
   intro i5 cj
   refine O Z Z (Zo (v := QG 50 (aN)) Z Z (Zb (V (Zc (Zc (Zd (O Z Z (Zm (v := QG 50 (aN)) Z Z (O Z Z (Je (T := 50) Tryz.underlying32 Z Z Z (Zb (V ?_))))))))))))
   rcases Qg a with ⟨aW, a⟩ | ⟨aW, a⟩
   ·refine Qv Z aW (Zc (Zd (O Z Z (Exec.build Z Qx (v := Value.agg #[U 0, U 0, Vs none 0 0, Vs none 0 0, Vs none 0 0]) (fun _ => by kernel_rfl) (O Z Z (Zm (v := QG 50 (aN)) Z Z ?_))))))
    have d4 := cj.f4
    refine O Z Z (Qf (ds := [U 0, U 0, Vs none 0 0, Vs none 0 0, Vs none 0 0]) (es := [U 0, U 0, Vs none 0 0, Vs none 0 0, Vs none 0 0]) d4 KH Z ar Z Z (Zj Z (Zj Z (Zj Z (Zj Z (Zj Z Q6))))) (Nat.le_of_ble_eq_true Z) Z ?_)
    intro i6 ck
    refine O Z Z (Zo (v := QG 50 (aN)) Z Z (Zb (V (Q1 (Qj (QD (Qj (Qj (QD (Qj (Qj ?_)))))))))))
    have hE := Zu a
    subst a7
    have gf := bf _ (bg (by intro _ h; cases h))
    have hF := Zu gf
    subst r
    refine ⟨_, Qak Z ⟨_, _, ar, JY (ck) KH⟩ Z, ?_⟩
    have d5 := ck.drop
    have d6 := d5.drop
    have d7 := (d6.f2).drop
    have d8 := (d7.f2).drop
    have d9 := d8.f2
    have dA := d9.f2
    have dB := dA.f2
    exact ⟨a4, (Vs none 0 0), (Vs none 0 0), (Vs none 0 0), m, (Zt (Zt n u) ag), dB, (KX Z Z), (SliceRep.nil _ _), (SliceRep.nil _ _), (SliceRep.nil _ _)⟩
   refine Qw Z aW ?_
   replace aW := Zk aW
   refine Qp (V (Zc (Zd (O Z Z (Zm (v := U b) Z Z (O Z Z (Exec.build Z (Qb (c := [U b]) (Qi Z Z) Qx) (v := Value.agg #[U b, Vs none 0 0, Vs none 0 0, U 0]) (fun _ => by kernel_rfl) (O Z Z (Exec.alloc (cs := [U 0, Vs none 0 0, Vs none 0 0, U 0]) cj Z87 Z Z ?_)))))))))
   intro aI i7 dC
   refine O Z Z (Qf (ds := [U b, Vs none 0 0, Vs none 0 0, U 0]) (es := [U b, Vs none 0 0, Vs none 0 0, U 0]) dC A87 Z Z Z Z (Zj Z (Zj Z (Zj Z (Zj Z Q6)))) (Nat.le_of_ble_eq_true Z) Z ?_)
   intro i8 bE
   refine Zb (V (Zc (Zc (Zd (O Z Z (Zm (v := U ((a2 : Int))) Z Z (O Z Z (Exec.eql Z Z Z (Zb (V ?_))))))))))
   rcases Qg a with ⟨aX, a⟩ | ⟨aX, a⟩
   ·refine Qv Z aX (Zc (Zc (Zd (O Z Z (Zm (v := Vp (some ⟨d, 0, none⟩)) Z y (O Z Z (Qn (ds := [U (g.States), U (g.Init), az, a0, a1]) (bE.f1) KH Z Z Z (O Z Z (Zm (v := U o) Z aq ?_)))))))))
    obtain ⟨hv, hc, a⟩ := Zg a
    obtain ⟨h3, aO, j, h8⟩ := hv
    replace a := Qhr a
    have dD := bE.f2
    refine O Z Z (Exec.call Z Z Tryz.func58 Z N58 (Zi Z (Zi Z (Zi Z Qk))) ((Ka hc dD bR bS bT).mono ?_))
    rintro _ i9 ⟨_, rfl, ⟨cO, z, bm, bn, bo, c1, dE, rfl, bU, cA, cB, cC⟩⟩
    refine ⟨_, Z, ?_⟩
    refine O Z Z (Zm (v := Value.tuple #[Value.agg #[U (j.States), U (j.Init), bm, bn, bo], z, QG 50 (aO)]) Z Z (O Z Z (Exec.extract (v := Value.agg #[U (j.States), U (j.Init), bm, bn, bo]) Z Z Z (O Z Z (Exec.extract (v := z) Z Z Z (O Z Z (Exec.extract (v := QG 50 (aO)) Z Z Z ?_)))))))
    have dF := dE.f6
    refine O Z Z (Qf (ds := [U (j.States), U (j.Init), bm, bn, bo]) (es := [U (j.States), U (j.Init), bm, bn, bo]) dF KH Z ai Z Z (Zj Z (Zj Z (Zj cA.one (Zj cB.one (Zj cC.one Q6))))) (Nat.le_of_ble_eq_true Z) Z ?_)
    intro iA dG
    refine O Z Z (Zp Qld Z Z Z ?_)
    have dH := dG.f2
    refine O Z Z (Qf (ds := [z]) (es := [U b, z, Vs none 0 0, U 0]) dH A22 Z Z Z (QV bU.one) (Zj bU.one Q6) (Nat.le_of_ble_eq_true Z) Z ?_)
    intro iB bF
    refine O Z Z (Zo (v := QG 50 (aO)) Z Z (Zb (V (Zc (Zd (O Z Z (Zm (v := QG 50 (aO)) Z Z (O Z Z (Je (T := 50) Tryz.underlying32 Z Z Z (Zb (V ?_)))))))))))
    rcases Qg a with ⟨aY, a⟩ | ⟨aY, a⟩
    ·refine Qv Z aY (Zc (Zd (O Z Z (Exec.build Z Qx (v := Value.agg #[U 0, U 0, Vs none 0 0, Vs none 0 0, Vs none 0 0]) (fun _ => by kernel_rfl) (O Z Z (Zm (v := QG 50 (aO)) Z Z ?_))))))
     have dI := bF.f6
     refine O Z Z (Qf (ds := [U 0, U 0, Vs none 0 0, Vs none 0 0, Vs none 0 0]) (es := [U 0, U 0, Vs none 0 0, Vs none 0 0, Vs none 0 0]) dI KH Z ar Z Z (Zj Z (Zj Z (Zj Z (Zj Z (Zj Z Q6))))) (Nat.le_of_ble_eq_true Z) Z ?_)
     intro iC cl
     refine O Z Z (Zo (v := QG 50 (aO)) Z Z (Zb (V (Q1 (Qj (Qj (QD (Qj (Qj (QD (Qj (Qj ?_))))))))))))
     have hG := Zu a
     subst a7
     have gg := bf _ (bg (by intro _ h; cases h))
     have hH := Zu gg
     subst r
     refine ⟨_, Qak Z ⟨_, _, ar, JY (cl) KH⟩ Z, ?_⟩
     have dJ := cl.drop
     have dK := dJ.drop
     have dL := dK.drop
     have dM := (dL.f1).drop
     have dN := (dM.f2).drop
     have dO := dN.f2
     have dP := dO.f2
     have dQ := dP.f2
     exact ⟨cO, (Vs none 0 0), (Vs none 0 0), (Vs none 0 0), m, (Zt (Zt (Zt n u) ag) c1), dQ, (KX Z Z), (SliceRep.nil _ _), (SliceRep.nil _ _), (SliceRep.nil _ _)⟩
    refine Qw Z aY ?_
    replace aY := Zk aY
    refine Qp (V (Zc (Zd (O Z Z (Zp JL Z ai Z (O Z Z (Zn (bF.f1) A3 Z Z Z (O Z Z (Zp Qlc Z Z Z (O Z Z (Qf (ds := [U (j.States)]) (es := [U b, z, Vs none 0 0, U (j.States)]) bF A3 Z Z Z Z (Zj Z Q6) (Nat.le_of_ble_eq_true Z) Z ?_)))))))))))
    intro iD dR
    refine Zb (V (Zc (K3 (n0 := 8) (.q 0 (.q 1 (.q 2 (.q 3 (.q 4 (.q 5 (.e 6 [0, 1, 2, 3, 4] (.e 7 [0] .done)))))))) K8 (by kernel_rfl) (by kernel_rfl) ?_)))
    have bG := dR.drew
    refine Qh Z Z (Zm (v := Vp (some ⟨d, 0, none⟩)) Z y ⟨Z, ?_⟩)
    refine Qh Z Z (Zm (v := Vp (some ⟨d, 0, none⟩)) Z y ⟨Z, ?_⟩)
    refine Qh Z Z (QH Z Z ⟨Z, ?_⟩)
    refine Qh Z Z (Zp Qf8 Z Z Z ⟨Z, ?_⟩)
    refine Qh Z Z (Zn (bG.f2) A72 Z Z Z ⟨Z, ?_⟩)
    refine Qh Z Z (Qn (ds := [U b, z, Vs none 0 0, U (j.States)]) (bG) A87 Z Z Z ⟨Z, ?_⟩)
    refine JH Z Z (Exec.buildSlice (Te := 87) (cs := [U b, z, Vs none 0 0, U (j.States)]) bG Z (Qb (c := [U b, z, Vs none 0 0, U (j.States)]) (Qi Z Z) Qx) (fun _ => by kernel_rfl) ?_)
    intro hB iE cm
    refine ⟨(Qd (Q4 Z Z (Zm (v := Vp (some ⟨d, 0, none⟩)) Z y ⟨Z, Z⟩)) (Qd (Q4 Z Z (Zm (v := Vp (some ⟨d, 0, none⟩)) Z y ⟨Z, Z⟩)) (Qd (Q4 Z Z (QH Z Z ⟨Z, Z⟩)) (Qd (Q4 Z Z (Zp Qf8 Z Z Z ⟨Z, Z⟩)) (Qd (Q4 Z Z (Zn (cm.f3) A72 Z Z Z ⟨Z, Z⟩)) QY))))), ?_⟩
    obtain ⟨ig, hd, a⟩ := Zg a
    have dS := cm.f8
    refine JH Z Z (QR (E := encmergeshrink_stage) (ys := [(⟨b, h3, [], j.States⟩ : mergeshrink_stage)]) dS S72 Z87 Z (by decide) Z Z Z Z ⟨[U b, z, Vs none 0 0, U (j.States)], [], Z, ⟨[U b], [z, Vs none 0 0, U (j.States)], Z, Z, ⟨[z], [Vs none 0 0, U (j.States)], Z, ⟨_, Z, bU⟩, ⟨[Vs none 0 0], [U (j.States)], Z, ⟨_, Z, (SliceRep.nil _ _)⟩, Z⟩⟩⟩, Z⟩ Z hd ?_)
    intro bZ iF dT
    refine ⟨(Qd (Q4 Z Z (Zm (v := Vp (some ⟨d, 0, none⟩)) Z y ⟨Z, Z⟩)) QY), ?_⟩
    refine QC (O Z Z (QH Z Z (O Z Z (Zp Qf8 Z Z Z ?_))))
    have bH := dT.f3
    refine O Z Z (Qf (ds := [bZ]) (es := [l, bZ, Vs none 0 0, Vb h8]) bH A72 Z Z Z (QV (bH.f1).arr_one) (Zj (bH.f1).arr_one Q6) (Nat.le_of_ble_eq_true Z) Z ?_)
    intro iG dU
    refine Zb (V (QF (Ql (Q7 (V (Zd (O Z Z (Exec.add Z a5 Z (O Z Z (Zm (v := U (IntKind.i64.wrap ((a2 : Int) + 1))) Z Z (Zb (V ?_))))))))))))
    have hI := Zu a
    subst a7
    have dV := (dU.f2).drop
    have dW := (dV.f3).drop
    have dX := dW.f1
    have dY := dX.f2
    have dZ := dY.f5
    have ea := dZ.f5
    have eb := ea.f5
    have ec := eb.f5
    refine ⟨_, Z, ?_⟩; exact ⟨cO, bm, bn, bo, bZ, (Zt (Zt u ag) c1), ec, y, aq, aJ, ar, au, ai, aK, aL, (Eq.trans Z (QB cx (SliceRep.le (aU.mono n)))), cA, cB, cC⟩
   refine Qw Z aX ?_
   replace aX := Zk aX
   refine Qp (V (Zc (K3 (n0 := 5) (.q 0 (.q 1 (.q 2 (.q 3 (.q 4 .done))))) K8 (by kernel_rfl) (by kernel_rfl) ?_)))
   have af := bE.drew
   refine Qh Z Z (Zp JL Z ai Z ⟨Z, ?_⟩)
   refine Qh Z Z (Zn (af.f6) A3 Z Z Z ⟨Z, ?_⟩)
   refine Qh Z Z (Zp JL Z Z Z ⟨Z, ?_⟩)
   refine Qh Z Z (Zn (af.f1) A3 Z Z Z ⟨Z, ?_⟩)
   refine Qh Z Z (Zo (v := U ab) Z Z ⟨Z, ?_⟩)
   refine QC (O Z Z (Zo (v := U (g.States)) Z Z (Zb (V (Zc (Zc (Zd (O Z Z (Zm (v := U ab) Z Z (O Z Z (Zm (v := U (g.States)) Z Z (O Z Z (Exec.mul Z Z Z (O Z Z (Zm (v := U o) Z aq (O Z Z (Exec.gtr Z Z Z (Zb (V ?_)))))))))))))))))))
   obtain ⟨b4, ap, a⟩ := Zg a
   refine QJ (M := fun f' w' => (J2 fun (bQ : Int) (bX : Int) => ∃ (cP : PHeap) , PHeap.le a4 cP ∧ St w0 cP (Res.box d 74 [l, m, Vs none 0 0, Vb aT] :: Res.arr (Qa .i64) 3 l ao.vars :: Res.box ac 26 [aj, ak, al, am] :: Res.box ad 38 [U 0, U 0, Vs none 0 0, Vs none 0 0, Vs none 0 0] :: Res.box ae 38 [U ab, U aG, aw, ax, ay] :: Res.box aH 38 [U (g.States), U (g.Init), az, a0, a1] :: Res.box aI 87 [U b, Vs none 0 0, Vs none 0 0, U 0] :: Res.arr encmergeshrink_stage 87 m aS :: H) w' ∧ f' 0 = Vp (some ⟨d, 0, none⟩) ∧ f' 3 = U o ∧ f' 5 = Vp (some ⟨ac, 0, none⟩) ∧ f' 8 = Vp (some ⟨ad, 0, none⟩) ∧ f' 10 = U p ∧ f' 11 = Vp (some ⟨ae, 0, none⟩) ∧ f' 14 = Vp (some ⟨aH, 0, none⟩) ∧ f' 16 = Vp (some ⟨aI, 0, none⟩) ∧ f' 17 = U bQ ∧ f' 18 = U bX ∧ f' 28 = av ∧ f' 29 = U ((aB.length : Int)) ∧ f' 30 = U ((a2 : Int))) b4) ?_ ?_
   ·rcases Qg ap with ⟨aZ, ap⟩ | ⟨aZ, ap⟩
    ·refine Qv Z aZ (Qm (Zc (Zd (O Z Z (Zp JL Z ai Z (O Z Z (Zn (af.f6) A3 Z Z Z (O Z Z (Zm (v := U p) Z au (O Z Z (Exec.leq Z Z Z (O Z Z (Zo (v := Vb (decide (ab ≤ p))) Z Z (Zb (V ?_)))))))))))))))
     obtain ⟨b5, x, ap⟩ := Zg ap
     refine QJ (M := fun f' w' => (J2 fun (c3 : Int) (cM : Int) => ∃ (cQ : PHeap) , PHeap.le a4 cQ ∧ St w0 cQ (Res.box d 74 [l, m, Vs none 0 0, Vb aT] :: Res.arr (Qa .i64) 3 l ao.vars :: Res.box ac 26 [aj, ak, al, am] :: Res.box ad 38 [U 0, U 0, Vs none 0 0, Vs none 0 0, Vs none 0 0] :: Res.box ae 38 [U ab, U aG, aw, ax, ay] :: Res.box aH 38 [U (g.States), U (g.Init), az, a0, a1] :: Res.box aI 87 [U b, Vs none 0 0, Vs none 0 0, U 0] :: Res.arr encmergeshrink_stage 87 m aS :: H) w' ∧ f' 0 = Vp (some ⟨d, 0, none⟩) ∧ f' 3 = U o ∧ f' 5 = Vp (some ⟨ac, 0, none⟩) ∧ f' 8 = Vp (some ⟨ad, 0, none⟩) ∧ f' 10 = U p ∧ f' 11 = Vp (some ⟨ae, 0, none⟩) ∧ f' 14 = Vp (some ⟨aH, 0, none⟩) ∧ f' 16 = Vp (some ⟨aI, 0, none⟩) ∧ f' 17 = U c3 ∧ f' 18 = U cM ∧ f' 28 = av ∧ f' 29 = U ((aB.length : Int)) ∧ f' 30 = U ((a2 : Int))) b5) ?_ ?_
     ·rcases Qg x with ⟨ba, x⟩ | ⟨ba, x⟩
      ·refine Qv Z ba (Zd (O Z Z (Zm (v := U o) Z aq (O Z Z (Zp JL Z ai Z (O Z Z (Zn (af.f6) A3 Z Z Z ?_)))))))
       obtain ⟨it, he, x⟩ := Zg x
       refine O Z Z (Exec.quo Z Z Z (by simpa using QT he) (O Z Z (Zo (v := U (IntKind.i64.wrap (o.tdiv ab))) Z Z (Zb (V ?_)))))
       have hJ := Zu x
       subst b5
       have ed := af.f7
       have ee := ed.f1
       have ef := ee.f2
       have eg := ef.f7
       have eh := eg.f7
       have ei := eh.f7
       have ej := ei.f7
       have ek := ej.f7
       exact ⟨a4, (Zv _), ek, y, aq, aJ, ar, au, ai, Z, Z, Z, Z, aK, aL, a5⟩
      refine Qw Z ba ?_
      replace ba := Zk ba
      refine Zc (Zd (O Z Z (Zp JL Z Z Z (O Z Z (Zn (af.f1) A3 Z Z Z (O Z Z (Zm (v := U p) Z au (O Z Z (Exec.leq Z Z Z (O Z Z (Zo (v := Vb (decide (g.States ≤ p))) Z Z (Zb (V ?_)))))))))))))
      obtain ⟨b6, a8, x⟩ := Zg x
      refine QJ (M := fun f' w' => (J2 fun (c4 : Int) (cN : Int) => ∃ (cR : PHeap) , PHeap.le a4 cR ∧ St w0 cR (Res.box d 74 [l, m, Vs none 0 0, Vb aT] :: Res.arr (Qa .i64) 3 l ao.vars :: Res.box ac 26 [aj, ak, al, am] :: Res.box ad 38 [U 0, U 0, Vs none 0 0, Vs none 0 0, Vs none 0 0] :: Res.box ae 38 [U ab, U aG, aw, ax, ay] :: Res.box aH 38 [U (g.States), U (g.Init), az, a0, a1] :: Res.box aI 87 [U b, Vs none 0 0, Vs none 0 0, U 0] :: Res.arr encmergeshrink_stage 87 m aS :: H) w' ∧ f' 0 = Vp (some ⟨d, 0, none⟩) ∧ f' 3 = U o ∧ f' 5 = Vp (some ⟨ac, 0, none⟩) ∧ f' 8 = Vp (some ⟨ad, 0, none⟩) ∧ f' 10 = U p ∧ f' 11 = Vp (some ⟨ae, 0, none⟩) ∧ f' 14 = Vp (some ⟨aH, 0, none⟩) ∧ f' 16 = Vp (some ⟨aI, 0, none⟩) ∧ f' 17 = U c4 ∧ f' 18 = U cN ∧ f' 28 = av ∧ f' 29 = U ((aB.length : Int)) ∧ f' 30 = U ((a2 : Int))) b6) ?_ ?_
      ·rcases Qg a8 with ⟨bb, a8⟩ | ⟨bb, a8⟩
       ·refine Qv Z bb (Zd (O Z Z (Zm (v := U o) Z aq (O Z Z (Zp JL Z Z Z (O Z Z (Zn (af.f1) A3 Z Z Z ?_)))))))
        obtain ⟨iu, hf, a8⟩ := Zg a8
        refine O Z Z (Exec.quo Z Z Z (by simpa using QT hf) (O Z Z (Zo (v := U (IntKind.i64.wrap (o.tdiv g.States))) Z Z (Zb (V ?_)))))
        have hK := Zu a8
        subst b6
        have el := af.f7
        have em := el.f1
        have en := em.f2
        have eo := en.f7
        have ep := eo.f7
        have er := ep.f7
        have et := er.f7
        have eu := et.f7
        exact ⟨a4, (Zv _), eu, y, aq, aJ, ar, au, ai, Z, Z, Z, Z, aK, aL, a5⟩
       refine Qw Z bb ?_
       replace bb := Zk bb
       refine Zd (O Z Z (Zm (v := U p) Z au (O Z Z (Zm (v := U p) Z au (O Z Z (Zo (v := U p) Z Z (O Z Z (Zo (v := U p) Z Z (Zb (V ?_))))))))))
       have hL := Zu a8
       subst b6
       have ev := af.f7
       have ew := ev.f1
       have ex := ew.f2
       have ey := ex.f7
       have ez := ey.f7
       have e0 := ez.f7
       have e1 := e0.f7
       have e2 := e1.f7
       exact ⟨a4, (Zv _), e2, y, aq, aJ, ar, au, ai, Z, Z, Z, Z, aK, aL, a5⟩
      intro hZ iH dh
      obtain ⟨c4, cN⟩ := b6
      replace x := Jf x
      obtain ⟨hl, gm, e3, gq, gr, gs, gu, gv, gw, gx, gy, gz, g0, g1, g2, g3⟩ := dh
      refine (V ?_)
      have hM := Zu x
      subst b5
      have e4 := e3.f7
      have e5 := e4.f7
      have e6 := e5.f7
      have e7 := e6.f7
      have e8 := e7.f7
      have e9 := e8.f7
      have eA := e9.f7
      have eB := eA.f7
      exact ⟨hl, gm, eB, gq, gr, gs, gu, gv, gw, gx, gy, gz, g0, g1, g2, g3⟩
     intro ia iI di
     obtain ⟨c3, cM⟩ := b5
     replace ap := Jf ap
     obtain ⟨hn, gn, eC, g4, g5, g6, g7, g8, g9, gA, gB, gC, gD, gE, gF, gG⟩ := di
     refine (Qz (V ?_))
     have hN := Zu ap
     subst b4
     have eD := eC.f7
     have eE := eD.f7
     have eF := eE.f7
     have eG := eF.f7
     have eH := eG.f7
     have eI := eH.f7
     have eJ := eI.f7
     have eK := eJ.f7
     exact ⟨hn, gn, eK, g4, g5, g6, g7, g8, g9, gA, gB, gC, gD, gE, gF, gG⟩
    refine Qw Z aZ ?_
    replace aZ := Zk aZ
    refine Qp (V ?_)
    have hO := Zu ap
    subst b4
    have eL := af.f7
    have eM := eL.f1
    have eN := eM.f2
    have eO := eN.f7
    have eP := eO.f7
    have eQ := eP.f7
    have eR := eQ.f7
    have eS := eR.f7
    exact ⟨a4, (Zv _), eS, y, aq, aJ, ar, au, ai, Z, Z, Z, Z, aK, aL, a5⟩
   intro ib iJ dj
   obtain ⟨bQ, bX⟩ := b4
   replace a := Jf a
   obtain ⟨ir, ah, cn, a3, gH, gI, aC, gJ, bh, b2, b3, gK, gL, gM, gN, gO⟩ := dj
   refine (V (Zc (Zc (Zd (O Z Z (Zm (v := Vp (some ⟨d, 0, none⟩)) Z a3 (O Z Z (Qn (ds := [U ab, U aG, aw, ax, ay]) (cn.f4) KH Z bh Z (O Z Z (Zm (v := U bQ) Z gK ?_))))))))))
   obtain ⟨hw, hg, a⟩ := Zg a
   obtain ⟨h4, aP, an, jc⟩ := hw
   replace a := Qhr a
   refine O Z Z (Exec.call Z Z Tryz.func58 Z N58 (Zi Z (Zi Z (Zi Z Qk))) ((Ka hg cn (bN.mono (Zt ag ah)) (bO.mono (Zt ag ah)) (bP.mono (Zt ag ah))).mono ?_))
   rintro _ iK ⟨_, rfl, ⟨ho, t, bp, bq, br, a9, eT, rfl, bV, cD, cE, cF⟩⟩
   refine ⟨_, Z, ?_⟩
   refine O Z Z (Zm (v := Value.tuple #[Value.agg #[U (an.States), U (an.Init), bp, bq, br], t, QG 50 (aP)]) Z Z (O Z Z (Exec.extract (v := Value.agg #[U (an.States), U (an.Init), bp, bq, br]) Z Z Z (O Z Z (Exec.extract (v := t) Z Z Z (O Z Z (Exec.extract (v := QG 50 (aP)) Z Z Z ?_)))))))
   have eU := eT.f4
   refine O Z Z (Qf (ds := [U (an.States), U (an.Init), bp, bq, br]) (es := [U (an.States), U (an.Init), bp, bq, br]) eU KH Z bh Z Z (Zj Z (Zj Z (Zj cD.one (Zj cE.one (Zj cF.one Q6))))) (Nat.le_of_ble_eq_true Z) Z ?_)
   intro iL eV
   refine O Z Z (Zp Qna Z b3 Z ?_)
   have eW := eV.f6
   refine O Z Z (Qf (ds := [t]) (es := [U b, Vs none 0 0, t, U 0]) eW A22 Z Z Z (QV bV.one) (Zj bV.one Q6) (Nat.le_of_ble_eq_true Z) Z ?_)
   intro iM bI
   refine O Z Z (Zo (v := QG 50 (aP)) Z Z (Zb (V (Zc (Zd (O Z Z (Zm (v := QG 50 (aP)) Z Z (O Z Z (Je (T := 50) Tryz.underlying32 Z Z Z (Zb (V ?_)))))))))))
   rcases Qg a with ⟨bc, a⟩ | ⟨bc, a⟩
   ·refine Qv Z bc (Zc (Zd (O Z Z (Exec.build Z Qx (v := Value.agg #[U 0, U 0, Vs none 0 0, Vs none 0 0, Vs none 0 0]) (fun _ => by kernel_rfl) (O Z Z (Zm (v := QG 50 (aP)) Z Z ?_))))))
    have eX := bI.f5
    refine O Z Z (Qf (ds := [U 0, U 0, Vs none 0 0, Vs none 0 0, Vs none 0 0]) (es := [U 0, U 0, Vs none 0 0, Vs none 0 0, Vs none 0 0]) eX KH Z aC Z Z (Zj Z (Zj Z (Zj Z (Zj Z (Zj Z Q6))))) (Nat.le_of_ble_eq_true Z) Z ?_)
    intro iN co
    refine O Z Z (Zo (v := QG 50 (aP)) Z Z (Zb (V (Q1 (Qj (QD (Qj (Qj (QD (Qj (Qj ?_)))))))))))
    have hP := Zu a
    subst a7
    have gh := bf _ (bg (by intro _ h; cases h))
    have hQ := Zu gh
    subst r
    refine ⟨_, Qak Z ⟨_, _, aC, JY (co) KH⟩ Z, ?_⟩
    have eY := co.drop
    have eZ := eY.drop
    have fa := eZ.drop
    have fb := (fa.f2).drop
    have fc := (fb.f2).drop
    have fd := fc.f2
    have fe := fd.f2
    have ff := fe.f2
    exact ⟨ho, (Vs none 0 0), (Vs none 0 0), (Vs none 0 0), m, (Zt (Zt (Zt (Zt n u) ag) ah) a9), ff, (KX Z Z), (SliceRep.nil _ _), (SliceRep.nil _ _), (SliceRep.nil _ _)⟩
   refine Qw Z bc ?_
   replace bc := Zk bc
   refine Qp (V (Zc (Zc (Zd (O Z Z (Zm (v := Vp (some ⟨d, 0, none⟩)) Z a3 (O Z Z (Qn (ds := [U (g.States), U (g.Init), az, a0, a1]) (bI.f6) KH Z b2 Z (O Z Z (Zm (v := U bX) Z gL ?_))))))))))
   obtain ⟨hx, hh, a⟩ := Zg a
   obtain ⟨h5, aQ, i, h9⟩ := hx
   replace a := Qhr a
   have fg := bI.f2
   refine O Z Z (Exec.call Z Z Tryz.func58 Z N58 (Zi Z (Zi Z (Zi Z Qk))) ((Ka hh fg (bR.mono (Zt ah a9)) (bS.mono (Zt ah a9)) (bT.mono (Zt ah a9))).mono ?_))
   rintro _ iO ⟨_, rfl, ⟨hp, aa, bs, bt, bu, aA, fh, rfl, bW, cG, cH, cI⟩⟩
   refine ⟨_, Z, ?_⟩
   refine O Z Z (Zm (v := Value.tuple #[Value.agg #[U (i.States), U (i.Init), bs, bt, bu], aa, QG 50 (aQ)]) Z Z (O Z Z (Exec.extract (v := Value.agg #[U (i.States), U (i.Init), bs, bt, bu]) Z Z Z (O Z Z (Exec.extract (v := aa) Z Z Z (O Z Z (Exec.extract (v := QG 50 (aQ)) Z Z Z ?_)))))))
   have fi := fh.f6
   refine O Z Z (Qf (ds := [U (i.States), U (i.Init), bs, bt, bu]) (es := [U (i.States), U (i.Init), bs, bt, bu]) fi KH Z b2 Z Z (Zj Z (Zj Z (Zj cG.one (Zj cH.one (Zj cI.one Q6))))) (Nat.le_of_ble_eq_true Z) Z ?_)
   intro iP fj
   refine O Z Z (Zp Qld Z b3 Z ?_)
   have fk := fj.f2
   refine O Z Z (Qf (ds := [aa]) (es := [U b, aa, t, U 0]) fk A22 Z Z Z (QV bW.one) (Zj bW.one Q6) (Nat.le_of_ble_eq_true Z) Z ?_)
   intro iQ bJ
   refine O Z Z (Zo (v := QG 50 (aQ)) Z Z (Zb (V (Zc (Zd (O Z Z (Zm (v := QG 50 (aQ)) Z Z (O Z Z (Je (T := 50) Tryz.underlying32 Z Z Z (Zb (V ?_)))))))))))
   rcases Qg a with ⟨bd, a⟩ | ⟨bd, a⟩
   ·refine Qv Z bd (Zc (Zd (O Z Z (Exec.build Z Qx (v := Value.agg #[U 0, U 0, Vs none 0 0, Vs none 0 0, Vs none 0 0]) (fun _ => by kernel_rfl) (O Z Z (Zm (v := QG 50 (aQ)) Z Z ?_))))))
    have fl := bJ.f6
    refine O Z Z (Qf (ds := [U 0, U 0, Vs none 0 0, Vs none 0 0, Vs none 0 0]) (es := [U 0, U 0, Vs none 0 0, Vs none 0 0, Vs none 0 0]) fl KH Z aC Z Z (Zj Z (Zj Z (Zj Z (Zj Z (Zj Z Q6))))) (Nat.le_of_ble_eq_true Z) Z ?_)
    intro iR cp
    refine O Z Z (Zo (v := QG 50 (aQ)) Z Z (Zb (V (Q1 (Qj (QD (Qj (Qj (QD (Qj (Qj ?_)))))))))))
    have hR := Zu a
    subst a7
    have gi := bf _ (bg (by intro _ h; cases h))
    have hT := Zu gi
    subst r
    refine ⟨_, Qak Z ⟨_, _, aC, JY (cp) KH⟩ Z, ?_⟩
    have fm := cp.drop
    have fn := fm.drop
    have fo := fn.drop
    have fp := (fo.f1).drop
    have fq := (fp.f2).drop
    have fr := fq.f2
    have fs := fr.f2
    have ft := fs.f2
    exact ⟨hp, (Vs none 0 0), (Vs none 0 0), (Vs none 0 0), m, (Zt (Zt (Zt (Zt (Zt n u) ag) ah) a9) aA), ft, (KX Z Z), (SliceRep.nil _ _), (SliceRep.nil _ _), (SliceRep.nil _ _)⟩
   refine Qw Z bd ?_
   replace bd := Zk bd
   refine Qp (V (Zc (Zd (O Z Z (Zp JL Z b2 Z (O Z Z (Zn (bJ.f1) A3 Z Z Z (O Z Z (Zp Qlc Z b3 Z (O Z Z (Qf (ds := [U (i.States)]) (es := [U b, aa, t, U (i.States)]) bJ A3 Z Z Z Z (Zj Z Q6) (Nat.le_of_ble_eq_true Z) Z ?_)))))))))))
   intro iS fu
   refine Zb (V (Zc (K3 (n0 := 8) (.q 0 (.q 1 (.q 2 (.q 3 (.q 4 (.q 5 (.e 6 [0, 1, 2, 3, 4] (.e 7 [0] .done)))))))) K8 (by kernel_rfl) (by kernel_rfl) ?_)))
   have bK := fu.drew
   refine Qh Z Z (Zm (v := Vp (some ⟨d, 0, none⟩)) Z a3 ⟨Z, ?_⟩)
   refine Qh Z Z (Zm (v := Vp (some ⟨d, 0, none⟩)) Z a3 ⟨Z, ?_⟩)
   refine Qh Z Z (QH Z Z ⟨Z, ?_⟩)
   refine Qh Z Z (Zp Qf8 Z Z Z ⟨Z, ?_⟩)
   refine Qh Z Z (Zn (bK.f2) A72 Z Z Z ⟨Z, ?_⟩)
   refine Qh Z Z (Qn (ds := [U b, aa, t, U (i.States)]) (bK) A87 Z b3 Z ⟨Z, ?_⟩)
   refine JH Z Z (Exec.buildSlice (Te := 87) (cs := [U b, aa, t, U (i.States)]) bK Z (Qb (c := [U b, aa, t, U (i.States)]) (Qi Z Z) Qx) (fun _ => by kernel_rfl) ?_)
   intro hC iT cq
   refine ⟨(Qd (Q4 Z Z (Zm (v := Vp (some ⟨d, 0, none⟩)) Z a3 ⟨Z, Z⟩)) (Qd (Q4 Z Z (Zm (v := Vp (some ⟨d, 0, none⟩)) Z a3 ⟨Z, Z⟩)) (Qd (Q4 Z Z (QH Z Z ⟨Z, Z⟩)) (Qd (Q4 Z Z (Zp Qf8 Z Z Z ⟨Z, Z⟩)) (Qd (Q4 Z Z (Zn (cq.f3) A72 Z Z Z ⟨Z, Z⟩)) QY))))), ?_⟩
   obtain ⟨ih, hi, a⟩ := Zg a
   have fv := cq.f8
   refine JH Z Z (QR (E := encmergeshrink_stage) (ys := [(⟨b, h5, h4, i.States⟩ : mergeshrink_stage)]) fv S72 Z87 Z (by decide) Z Z Z Z ⟨[U b, aa, t, U (i.States)], [], Z, ⟨[U b], [aa, t, U (i.States)], Z, Z, ⟨[aa], [t, U (i.States)], Z, ⟨_, Z, bW⟩, ⟨[t], [U (i.States)], Z, ⟨_, Z, (bV.mono aA)⟩, Z⟩⟩⟩, Z⟩ Z hi ?_)
   intro bB iU fw
   refine ⟨(Qd (Q4 Z Z (Zm (v := Vp (some ⟨d, 0, none⟩)) Z a3 ⟨Z, Z⟩)) QY), ?_⟩
   refine QC (O Z Z (QH Z Z (O Z Z (Zp Qf8 Z Z Z ?_))))
   have bL := fw.f3
   refine O Z Z (Qf (ds := [bB]) (es := [l, bB, Vs none 0 0, Vb h9]) bL A72 Z Z Z (QV (bL.f1).arr_one) (Zj (bL.f1).arr_one Q6) (Nat.le_of_ble_eq_true Z) Z ?_)
   intro iV bM
   refine Zb (V (Zc (Zd (O Z Z (Qn (ds := [U (an.States), U (an.Init), bp, bq, br]) (bM.f4) KH Z bh Z (O Z Z (Qn (ds := [U (i.States), U (i.Init), bs, bt, bu]) (bM.f3) KH Z b2 Z ?_)))))))
   obtain ⟨hy, hj, a⟩ := Zg a
   obtain ⟨aR, a6⟩ := hy
   replace a := Jf a
   refine O Z Z (Exec.call Z Z Tryz.func59 Z N59 (Zi Z (Zi Z Qk)) ((Qdy hj bM (cD.mono aA) (cE.mono aA) (cF.mono aA) cG cH cI).mono ?_))
   rintro _ iW ⟨_, rfl, ⟨cS, bv, bw, bx, c2, fx, rfl, cJ, cK, cL⟩⟩
   refine ⟨_, Z, ?_⟩
   refine O Z Z (Zm (v := Value.tuple #[Value.agg #[U (a6.States), U (a6.Init), bv, bw, bx], QG 50 (aR)]) Z Z (O Z Z (Exec.extract (v := Value.agg #[U (a6.States), U (a6.Init), bv, bw, bx]) Z Z Z (O Z Z (Exec.extract (v := QG 50 (aR)) Z Z Z ?_)))))
   have fy := fx.f4
   refine O Z Z (Qf (ds := [U (a6.States), U (a6.Init), bv, bw, bx]) (es := [U (a6.States), U (a6.Init), bv, bw, bx]) fy KH Z bh Z Z (Zj Z (Zj Z (Zj cJ.one (Zj cK.one (Zj cL.one Q6))))) (Nat.le_of_ble_eq_true Z) Z ?_)
   intro iX cr
   refine O Z Z (Zo (v := QG 50 (aR)) Z Z (Zb (V (Zc (Zd (O Z Z (Zm (v := QG 50 (aR)) Z Z (O Z Z (Je (T := 50) Tryz.underlying32 Z Z Z (Zb (V ?_)))))))))))
   rcases Qg a with ⟨be, a⟩ | ⟨be, a⟩
   ·refine Qv Z be (Zc (Zd (O Z Z (Exec.build Z Qx (v := Value.agg #[U 0, U 0, Vs none 0 0, Vs none 0 0, Vs none 0 0]) (fun _ => by kernel_rfl) (O Z Z (Zm (v := QG 50 (aR)) Z Z ?_))))))
    have fz := cr.f7
    refine O Z Z (Qf (ds := [U 0, U 0, Vs none 0 0, Vs none 0 0, Vs none 0 0]) (es := [U 0, U 0, Vs none 0 0, Vs none 0 0, Vs none 0 0]) fz KH Z aC Z Z (Zj Z (Zj Z (Zj Z (Zj Z (Zj Z Q6))))) (Nat.le_of_ble_eq_true Z) Z ?_)
    intro iY ct
    refine O Z Z (Zo (v := QG 50 (aR)) Z Z (Zb (V (Q1 (QD (Qj (Qj (QD (Qj (Qj ?_))))))))))
    have hU := Zu a
    subst a7
    have gj := bf _ (bg (by intro _ h; cases h))
    have hV := Zu gj
    subst r
    refine ⟨_, Qak Z ⟨_, _, aC, JY (ct) KH⟩ Z, ?_⟩
    have f0 := ct.drop
    have f9 := f0.drop
    have fA := (f9.f2).drop
    have fB := (fA.f2).drop
    have fC := (fB.f3).drop
    have fD := fC.f1
    have fE := fD.f2
    have fF := fE.f2
    exact ⟨cS, (Vs none 0 0), (Vs none 0 0), (Vs none 0 0), bB, (Zt (Zt (Zt (Zt (Zt (Zt n u) ag) ah) a9) aA) c2), fF, (KX Z Z), (SliceRep.nil _ _), (SliceRep.nil _ _), (SliceRep.nil _ _)⟩
   refine Qw Z be ?_
   replace be := Zk be
   refine Qp (Qz (V (Zd (O Z Z (Exec.add Z gO Z (O Z Z (Zm (v := U (IntKind.i64.wrap ((a2 : Int) + 1))) Z Z (Zb (V ?_)))))))))
   have hW := Zu a
   subst a7
   have fG := (cr.f3).drop
   have fH := (fG.f3).drop
   have fI := fH.f2
   have fJ := fI.f1
   have fK := fJ.f5
   have fL := fK.f5
   have fM := fL.f5
   have fN := fM.f5
   refine ⟨_, Z, ?_⟩; exact ⟨cS, bv, bw, bx, bB, (Zt (Zt (Zt (Zt (Zt u ag) ah) a9) aA) c2), fN, a3, gH, gI, aC, gJ, bh, gM, gN, (Eq.trans Z (QB cx (SliceRep.le (aU.mono n)))), cJ, cK, cL⟩
  intro hz ic iZ dg gk
  obtain ⟨aS, aT, ab, aG, ca, cb, cc⟩ := hz
  obtain ⟨hq, aw, ax, ay, m, go, fO, gP, gQ, gR, gS, gT, gU, gV, c5, h1, bN, bO, bP⟩ := dg
  refine Zc (Zd (O Z Z (Zq Z h1 c5 (Zb (V (Zc (QA (Zx (decide_eq_false (by omega))) (QF (Ql (Ql (Q7 (V ?_))))))))))))
  have fP := fO.f5
  have fQ := fP.f5
  have fR := fQ.f5
  have fS := fR.f5
  have fT := fS.f5
  have fU := fT.f5
  refine ⟨_, .inl gk, ?_⟩; exact ⟨hq, aw, ax, ay, m, go, fU, gP, gQ, gR, gS, gT, gU, gV, c5, bN, bO, bP⟩
 rintro ie ja ⟨h0, cw, dk⟩
 have hm := cw.elim (gd _) (gc _)
 clear cw
 obtain ⟨cY, cZ, b0, b1, da, db, dc⟩ := h0
 replace hm := Qlh hm
 obtain ⟨hr, aD, aE, aF, bA, gp, cu, ij, ik, il, c6, im, gW, io, ip, cy, cz, c0⟩ := dk
 refine (V (Zc (Zd (O Z Z (Qn (ds := [U b0, U b1, aD, aE, aF]) (cu.f4) KH Z gW Z ?_)))))
 have fV := cu.f3
 refine O Z Z (Qf (ds := [U b0, U b1, aD, aE, aF]) (es := [U b0, U b1, aD, aE, aF]) fV KH Z c6 Z Z (Zj Z (Zj Z (Zj cy.one (Zj cz.one (Zj c0.one Q6))))) (Nat.le_of_ble_eq_true Z) Z ?_)
 intro jb cv
 refine O Z Z (Zo (v := QG 50 (none)) Z Z (Zb (V (Q1 ?_))))
 have hX := Zu hm
 subst r
 refine ⟨_, Qak Z ⟨_, _, c6, JY (cv) KH⟩ Z, ?_⟩
 have fW := cv.drop
 have fX := (fW.f2).drop
 have fY := (fX.f2).drop
 have fZ := fY.f2
 have ga := fZ.f2
 have gb := ga.f2
 exact ⟨hr, aD, aE, aF, bA, (Zt n gp), gb, (KX Z Z), cy, cz, c0⟩
theorem N62 : (Tryz.f62.name == "runtime.NumGoroutine") = false := by kernel_rfl
theorem Qex {w0 w : World} {s : PHeap} {H : List Res} {a : System} {z : Value} {aa : Value} {l : Value} {r : (List Int)} (hm : Yl a = some r) (hS : St w0 s (H) w) (aH : SliceRep (Qa .i64) s z a.Costs) (aI : SliceRep encEdge s aa a.Edges) (o : SliceRep encBool s l a.Goals) :
  Calls Tryz.prog 62 #[Value.agg #[U (a.States), U (a.Init), z, aa, l]] w fun e w' => ∃ v, e = .returned v ∧ ((fun (aG : (List Int)) => ∃ (x : PHeap) (ag : Value), PHeap.le s x ∧ St w0 x (H) w' ∧ v = ag ∧ SliceRep (Qa .i64) x ag aG) r) := by
 unfold Yl at hm
 refine Qy Tryz.func62 Z Z (Zc (Zd (O Z Z (Exec.box (cs := [U (a.States), U (a.Init), z, aa, l]) hS Z Z Z ?_))))
 intro aJ aY ab
 refine O Z Z (Zo (v := Vs none 0 0) Z Z (Zb (V (Zc (Zd (O Z Z (Zo (v := Vs none 0 0) Z Z (Zb (V (Zc (Zc (Zd (O Z Z (Zp Qbo Z Z Z (O Z Z (Zn (ab) A36 Z Z Z (O Z Z (Zr S36 Z Z o (O Z Z (Zm (v := U 0) Z Z (Zb (V ?_))))))))))))))))))))))
 obtain ⟨q, ak, hm⟩ := Zg hm
 refine Qm (J3 (fun k' s' f' w' => (fun (q : (List Int)) => ∃ (ae : PHeap) (d : Value), PHeap.le s ae ∧ St w0 ae (Res.arr (Qa .i64) 3 d q :: H) w' ∧ f' 3 = d ∧ f' 7 = l ∧ f' 8 = U ((a.Goals.length : Int)) ∧ f' 9 = U (k' : Int)) s') ak ?_ ?_ ?_)
 ·have ao := ab.nilArr (Qa .i64) 3
  have ap := (ao.f1).drop
  exact ⟨s, (Vs none 0 0), (Zv _), ap, Z, Z, Z, Z⟩
 ·intro b q aC aQ aZ ay al i
  obtain ⟨y, d, ac, p, ad, t, u, m⟩ := al
  refine Zc (Zd (O Z Z (Zq Z m u (Zb (V (Zc (QK (Zx (decide_eq_true (by omega))) (Qp (V (Zc (Qm (Zc (Zd (O Z Z (Zm (v := U ((b : Int))) Z m ?_)))))))))))))))
  obtain ⟨ai, a8, i⟩ := Zg i
  refine O Z Z (Qu S36 Z t m (o.mono ac) a8 ?_)
  intro aK aU aj
  refine O Z Z (Zw (E := encBool) p A4 Z Z Z aj ?_)
  intro aX a9
  obtain rfl := Ju.1 a9
  refine O Z Z (Zo (v := U ((b : Int))) Z Z (O Z Z (Zo (v := Vb ai) Z Z (Zb (V (Zc (Zd (O Z Z (Zm (v := Vb ai) Z Z (Zb (V ?_)))))))))))
  obtain ⟨j, g, i⟩ := Zg i
  refine QJ (M := fun f' w' => (fun (j : (List Int)) => ∃ (af : PHeap) (n : Value), PHeap.le y af ∧ St w0 af (Res.arr (Qa .i64) 3 n j :: H) w' ∧ f' 3 = n ∧ f' 7 = l ∧ f' 8 = U ((a.Goals.length : Int)) ∧ f' 9 = U ((b : Int))) j) ?_ ?_
  ·rcases Qg g with ⟨h, g⟩ | ⟨h, g⟩
   ·refine Qv Z h (Zd (O Z Z (Zm (v := d) Z ad (O Z Z (Zm (v := U ((b : Int))) Z Z (O Z Z (Exec.buildSlice (Te := 3) (cs := [U ((b : Int))]) p Z (Qb (c := [U ((b : Int))]) (Qi Z Z) Qx) (fun _ => by kernel_rfl) ?_)))))))
    intro aL ba aq
    obtain ⟨aT, aA, g⟩ := Zg g
    have ar := aq.f1
    refine O Z Z (QR (E := (Qa .i64)) (ys := [(b : Int)]) ar Jt Z3 Z (by decide) Z Z Z Z ⟨[U ((b : Int))], [], Z, Z, Z⟩ Z aA ?_)
    intro ah bb au
    refine O Z Z (Zo (v := ah) Z Z (Zb (V ?_)))
    have aM := Zu g
    subst j
    exact ⟨y, ah, (Zv _), au, Z, t, u, m⟩
   refine Qw Z h ?_
   replace h := Zk h
   refine Qp (V ?_)
   have aN := Zu g
   subst j
   exact ⟨y, d, (Zv _), p, ad, t, u, m⟩
  intro aR bc an
  obtain ⟨aD, n, az, av, a2, a3, a4, a5⟩ := an
  refine (Qz (V (Zd (O Z Z (Exec.add Z a5 Z (O Z Z (Zm (v := U (IntKind.i64.wrap ((b : Int) + 1))) Z Z (Zb (V ?_)))))))))
  have aO := Zu i
  subst aC
  exact ⟨aD, n, (Zt ac az), av, a2, a3, a4, (Eq.trans Z (QB ay (SliceRep.le o)))⟩
 intro aS bd am
 obtain ⟨aW, d, a0, aw, a6, aV, a7, aF⟩ := am
 refine Zc (Zd (O Z Z (Zq Z aF a7 (Zb (V (Zc (QA (Zx (decide_eq_false (by omega))) (QF (Ql (Ql (Q7 (V (Zc (Zd (O Z Z (Zm (v := d) Z a6 (O Z Z (Zo (v := d) Z Z (Zb (V (Q1 ?_)))))))))))))))))))))
 have aP := Zu hm
 subst r
 refine ⟨_, QX Z, ?_⟩
 obtain ⟨aE, a1, ax, aB⟩ := aw.freezeArr
 exact ⟨aE, d, (Zt a0 a1), ax, Z, aB⟩
theorem QkT : Jb Tryz.prog 135 = some (138, 1, 24) := by kernel_rfl
theorem Qou : JA Tryz.prog 138 = some (Value.slice none 0 0) := by kernel_rfl
theorem Qnk : JA Tryz.prog 137 = some (Value.agg #[U 0, U 0, U 0]) := by kernel_rfl
theorem Qmn : JI Tryz.prog 137 = some (true, 3) := by kernel_rfl
theorem Qcb : Jk Tryz.prog 137 1 = some 1 := by kernel_rfl
theorem QdH : Jk Tryz.prog 137 0 = some 0 := by kernel_rfl
theorem Qmm : JI Tryz.prog 138 = some (false, 1) := by kernel_rfl
theorem Qnn : Jb Tryz.prog 138 = some (137, 3, 24) := by kernel_rfl
theorem Qlr : Jk Tryz.prog 137 2 = some 2 := by kernel_rfl
theorem N61 : (Tryz.f61.name == "runtime.NumGoroutine") = false := by kernel_rfl
theorem Qdd {w0 w : World} {s : PHeap} {H : List Res} {m : System} {aY : (List Int)} {ay : Bool} {aw : Value} {ae : Value} {ax : Value} {af : Value} {r : (List Int)} (hm : KC m aY ay = some r) (hS : St w0 s (H) w) (cF : SliceRep (Qa .i64) s aw m.Costs) (aW : SliceRep encEdge s ae m.Edges) (gz : SliceRep encBool s ax m.Goals) (aB : SliceRep (Qa .i64) s af aY) :
  Calls Tryz.prog 61 #[Value.agg #[U (m.States), U (m.Init), aw, ae, ax], af, Value.bool (ay)] w fun e w' => ∃ v, e = .returned v ∧ ((fun (gx : (List Int)) => ∃ (bv : PHeap) (cC : Value), PHeap.le s bv ∧ St w0 bv (H) w' ∧ v = cC ∧ SliceRep (Qa .i64) bv cC gx) r) := by
 unfold KC at hm
 refine Qy Tryz.func61 Z Z (Zc (Zd (O Z Z (Exec.box (cs := [U (m.States), U (m.Init), aw, ae, ax]) hS Z Z Z ?_))))
 intro an ib bM
 refine O Z Z (Zo (v := Vs none 0 0) Z Z (Zb (V (Zc (Zd (O Z Z (Zp JL Z Z Z (O Z Z (Zn (bM) A3 Z Z Z ?_)))))))))
 obtain ⟨h0, f8, hm⟩ := Zg hm
 refine O Z Z (QbG (F := encArc) (T2 := 137) bM QkT Qou Z Z Z f8 ?_)
 intro d eF ic bN
 refine O Z Z (Zo (v := d) Z Z (Zb (V (Zc (Zc (Zd (O Z Z (Zp QaF Z Z Z (O Z Z (Zn (bN.f2) A35 Z Z Z (O Z Z (Zr S35 Z Z aW (O Z Z (Zm (v := U 0) Z Z (Zb (V ?_))))))))))))))))
 obtain ⟨t, cK, hm⟩ := Zg hm
 refine Qm (J3 (fun k' s' f' w' => (fun (t : (List (List Arc))) => ∃ (c1 : PHeap) (j : List Value), PHeap.le s c1 ∧ St w0 c1 (Res.box an 38 [U (m.States), U (m.Init), aw, ae, ax] :: Res.arr encRaw 138 d j :: Res.rows encArc 137 j t :: H) w' ∧ f' 1 = af ∧ f' 2 = Vb ay ∧ f' 3 = Vp (some ⟨an, 0, none⟩) ∧ f' 7 = d ∧ f' 24 = ae ∧ f' 25 = U ((m.Edges.length : Int)) ∧ f' 26 = U (k' : Int)) s') cK ?_ ?_ ?_)
 ·have db := bN.f2
  exact ⟨s, eF, (Zv _), db, Z, Z, Z, Z, Z, Z, Z⟩
 ·intro bY t ga gY ie eA cP o
  obtain ⟨bw, j, be, bO, ck, bl, aJ, cl, bm, bn, aV⟩ := cP
  refine Zc (Zd (O Z Z (Zq Z aV bn (Zb (V (Zc (QK (Zx (decide_eq_true (by omega))) (Qp (V (Zc (Qm (Zc (Zd ?_)))))))))))))
  obtain ⟨a, f9, o⟩ := Zg o
  refine O Z Z (Qu S35 Z bm aV (aW.mono be) f9 ?_)
  intro g0 hA cG
  refine O Z Z (Zw (E := encEdge) bO A85 Z Z Z cG ?_)
  intro hQ fA
  obtain rfl := JM.1 fA
  refine O Z Z (Exec.alloc (cs := [U 0, U 0, U 0]) bO Z85 Z Z ?_)
  intro g1 ig dc
  refine O Z Z (Qf (ds := [U (a.From), U (a.Label), U (a.To)]) (es := [U (a.From), U (a.Label), U (a.To)]) dc A85 Z Z Z Z (Zj Z (Zj Z (Zj Z Q6))) (Nat.le_of_ble_eq_true Z) Z ?_)
  intro ih dd
  refine Zb (V (Zc (K3 (n0 := 12) (.q 0 (.q 1 (.q 2 (.q 3 (.q 4 (.q 5 (.q 6 (.q 7 (.q 8 (.q 9 (.q 10 (.e 11 [0, 1, 2, 3, 4, 5, 6, 7, 8, 9, 10] .done)))))))))))) K8 (by kernel_rfl) (by kernel_rfl) ?_)))
  have ap := dd.drew
  refine Qh Z Z (Zp Qbn Z Z Z ⟨Z, ?_⟩)
  refine Qh Z Z (Zn (ap) A3 Z Z Z ⟨Z, ?_⟩)
  refine Qh Z Z (Zp YZ Z Z Z ⟨Z, ?_⟩)
  refine Qh Z Z (Zn (ap) A3 Z Z Z ⟨Z, ?_⟩)
  refine Qh Z Z (Zp QaQ Z aJ Z ⟨Z, ?_⟩)
  refine Qh Z Z (Zn (ap.f1) A22 Z Z Z ⟨Z, ?_⟩)
  refine Qh Z Z (Zp Qan Z Z Z ⟨Z, ?_⟩)
  refine Qh Z Z (Zn (ap) A3 Z Z Z ⟨Z, ?_⟩)
  obtain ⟨n, fB, o⟩ := Zg o
  refine Qh Z Z (QP Jt Z Z Z (cF.mono be) fB ?_)
  intro g2 hB b4 cJ
  refine ⟨Z, ?_⟩
  refine Qh Z Z (Zw (E := (Qa .i64)) ap A3 Z Z Z b4 ?_)
  intro hR fC
  obtain rfl := Qs.1 fC
  refine ⟨Z, ?_⟩
  refine Qh Z Z (Exec.build Z (Qb (c := [U (a.From)]) (Qi Z Z) (Qb (c := [U (a.To)]) (Qi Z Z) (Qb (c := [U n]) (Qi Z Z) Qx))) (v := Value.agg #[U (a.From), U (a.To), U n]) (fun _ => by kernel_rfl) ⟨Z, ?_⟩)
  refine JH Z Z (Exec.alloc (cs := [U 0, U 0, U 0]) ap Qnk Z Z ?_)
  intro b5 ii aq
  refine ⟨(Qd (Q4 Z Z (Zp Qbn Z Z Z ⟨Z, Z⟩)) (Qd (Q4 Z Z (Zn (aq.f1) A3 Z Z Z ⟨Z, Z⟩)) (Qd (Q4 Z Z (Zp YZ Z Z Z ⟨Z, Z⟩)) (Qd (Q4 Z Z (Zn (aq.f1) A3 Z Z Z ⟨Z, Z⟩)) (Qd (Q4 Z Z (Zp QaQ Z aJ Z ⟨Z, Z⟩)) (Qd (Q4 Z Z (Zn (aq.f2) A22 Z Z Z ⟨Z, Z⟩)) (Qd (Q4 Z Z (Zp Qan Z Z Z ⟨Z, Z⟩)) (Qd (Q4 Z Z (Zn (aq.f1) A3 Z Z Z ⟨Z, Z⟩)) (Qd (Q4 Z Z (Qg0 Z Z Z cJ ⟨Z, Z⟩)) (Qd (Q4 Z Z (Zw (E := (Qa .i64)) aq A3 Z Z Z b4 (fun _ q => ⟨Z, Qs.1 q⟩))) (Qd (Q4 Z Z (Exec.build Z (Qb (c := [U (a.From)]) (Qi Z Z) (Qb (c := [U (a.To)]) (Qi Z Z) (Qb (c := [U n]) (Qi Z Z) Qx))) (v := Value.agg #[U (a.From), U (a.To), U n]) (fun _ => by kernel_rfl) ⟨Z, Z⟩)) QY))))))))))), ?_⟩
  refine QC (O Z Z (Qf (ds := [U (a.From), U (a.To), U n]) (es := [U (a.From), U (a.To), U n]) aq Qmn Z Z Z Z (Zj Z (Zj Z (Zj Z Q6))) (Nat.le_of_ble_eq_true Z) Z ?_))
  intro ij aD
  refine Zb (V (Zc (Zc (Zd (O Z Z (Zm (v := Vb ay) Z bl (Zb (V ?_))))))))
  obtain ⟨aR, a6, o⟩ := Zg o
  refine QJ (M := fun f' w' => (J2 fun (ag : Int) (aa : Int) => ∃ (c2 : PHeap) , PHeap.le bw c2 ∧ St w0 c2 (Res.box an 38 [U (m.States), U (m.Init), aw, ae, ax] :: Res.arr encRaw 138 d j :: Res.rows encArc 137 j t :: Res.box b5 137 [U ag, U aa, U n] :: H) w' ∧ f' 1 = af ∧ f' 2 = Vb ay ∧ f' 3 = Vp (some ⟨an, 0, none⟩) ∧ f' 7 = d ∧ f' 10 = Vp (some ⟨b5, 0, none⟩) ∧ f' 24 = ae ∧ f' 25 = U ((m.Edges.length : Int)) ∧ f' 26 = U ((bY : Int))) aR) ?_ ?_
  ·rcases Qg a6 with ⟨a1, a6⟩ | ⟨a1, a6⟩
   ·refine Qv Z a1 (Zd (O Z Z (Zp Qcb Z Z Z (O Z Z (Zn (aD) A3 Z Z Z (O Z Z (Zp QdH Z Z Z (O Z Z (Zn (aD) A3 Z Z Z (O Z Z (Zp QdH Z Z Z (O Z Z (Qf (ds := [U (a.To)]) (es := [U (a.To), U (a.To), U n]) aD A3 Z Z Z Z (Zj Z Q6) (Nat.le_of_ble_eq_true Z) Z ?_)))))))))))))
    intro ik de
    refine O Z Z (Zp Qcb Z Z Z (O Z Z (Qf (ds := [U (a.From)]) (es := [U (a.To), U (a.From), U n]) de A3 Z Z Z Z (Zj Z Q6) (Nat.le_of_ble_eq_true Z) Z ?_)))
    intro il df
    refine Zb (V ?_)
    have gM := Zu a6
    subst aR
    have dg := (df.f1).drop
    have dh := (dg.f3).f3
    have di := dh.f3
    exact ⟨bw, (Zv _), di, ck, bl, aJ, cl, Z, bm, bn, aV⟩
   refine Qw Z a1 ?_
   replace a1 := Zk a1
   refine Qp (V ?_)
   have gN := Zu a6
   subst aR
   have dj := (aD.f1).drop
   have dk := (dj.f3).f3
   have dl := dk.f3
   exact ⟨bw, (Zv _), dl, ck, bl, aJ, cl, Z, bm, bn, aV⟩
  intro gZ im cY
  obtain ⟨ag, aa⟩ := aR
  replace o := Jf o
  obtain ⟨gb, eI, dm, eR, eS, eT, au, av, eU, eV, eW⟩ := cY
  refine (V (K3 (n0 := 11) (.q 0 (.q 1 (.q 2 (.q 3 (.q 4 (.q 5 (.q 6 (.q 7 (.q 8 (.e 9 [0, 1, 2, 3, 4, 5, 6, 7] (.e 10 [0, 1, 2] .done))))))))))) K8 (by kernel_rfl) (by kernel_rfl) ?_))
  have ah := dm.drew
  refine Qh Z Z (Zm (v := d) Z au ⟨Z, ?_⟩)
  refine Qh Z Z (Zp QdH Z av Z ⟨Z, ?_⟩)
  refine Qh Z Z (Zn (ah.f3) A3 Z Z Z ⟨Z, ?_⟩)
  refine Qh Z Z (Zm (v := d) Z au ⟨Z, ?_⟩)
  refine Qh Z Z (Zp QdH Z av Z ⟨Z, ?_⟩)
  refine Qh Z Z (Zn (ah.f3) A3 Z Z Z ⟨Z, ?_⟩)
  obtain ⟨hM, cw, o⟩ := Zg o
  obtain ⟨hy, x, b8, _⟩ := (((ah.f2).f2).f1).rows_at cw
  obtain ⟨hk, g8, ao⟩ := ((ah.f2).f2).arr_at x
  refine Qh Z Z (Qc QkT Z ao Z (Qe x).1 (Qe x).2.1 ⟨Z, ?_⟩)
  refine Qh Z Z (Qt (F := encRaw) ((ah.f2).f2) ao Qmm Z Z Z x (Sub.refl _) ?_)
  intro gq cx
  replace cx := (Yf.1 cx).1
  subst gq
  refine ⟨Z, ?_⟩
  refine Qh Z Z (Qn (ds := [U ag, U aa, U n]) (ah.f3) Qmn Z av Z ⟨Z, ?_⟩)
  refine JH Z Z (Exec.buildSlice (Te := 137) (cs := [U ag, U aa, U n]) ah Z (Qb (c := [U ag, U aa, U n]) (Qi Z Z) Qx) (fun _ => by kernel_rfl) ?_)
  intro g3 io aE
  refine ⟨(Qd (Q4 Z Z (Zm (v := d) Z au ⟨Z, Z⟩)) (Qd (Q4 Z Z (Zp QdH Z av Z ⟨Z, Z⟩)) (Qd (Q4 Z Z (Zn (aE.f4) A3 Z Z Z ⟨Z, Z⟩)) (Qd (Q4 Z Z (Zm (v := d) Z au ⟨Z, Z⟩)) (Qd (Q4 Z Z (Zp QdH Z av Z ⟨Z, Z⟩)) (Qd (Q4 Z Z (Zn (aE.f4) A3 Z Z Z ⟨Z, Z⟩)) (Qd (Q4 Z Z (Qc QkT Z ao Z (Qe x).1 (Qe x).2.1 ⟨Z, Z⟩)) (Qd (Q4 Z Z (Qt (F := encRaw) ((aE.f3).f3) ao Qmm Z Z Z x (Sub.refl _) (fun _ q => ⟨Z, (Yf.1 q).1⟩))) QY)))))))), ?_⟩
  have dn := (((aE.f3).f3).f1).rows_split b8 (Qe cw).2.2
  obtain ⟨h1, fD, o⟩ := Zg o
  have dp := dn.f3
  have dq := dp.f1
  refine JH Z Z (QR (E := encArc) (ys := [(⟨ag, aa, n⟩ : Arc)]) dq Qnn Qnk Z (by decide) Z Z Z Z ⟨[U ag, U aa, U n], [], Z, ⟨[U ag], [U aa, U n], Z, Z, ⟨[U aa], [U n], Z, Z, Z⟩⟩, Z⟩ Z fD ?_)
  intro hT ip bP
  refine ⟨(Qd (Q4 Z Z (Zm (v := d) Z au ⟨Z, Z⟩)) (Qd (Q4 Z Z (Zp QdH Z av Z ⟨Z, Z⟩)) (Qd (Q4 Z Z (Zn (bP.f4) A3 Z Z Z ⟨Z, Z⟩)) QY))), ?_⟩
  refine QC (O Z Z (Qc QkT Z ao Z (Qe x).1 (Qe x).2.1 ?_))
  obtain ⟨h2, fE, o⟩ := Zg o
  have dr := (bP.f2).f2
  have dt := dr.f2
  refine O Z Z (QbF dt b8 ao Qmm Z Z Z Z fE ?_)
  intro eG iq du
  refine Zb (Qz (V (Zd (O Z Z (Exec.add Z eW Z (O Z Z (Zm (v := U (IntKind.i64.wrap ((bY : Int) + 1))) Z Z (Zb (V ?_)))))))))
  have gO := Zu o
  subst ga
  have dv := (du.f3).drop
  have dw := dv.f2
  exact ⟨gb, eG, (Zt be eI), dw, eR, eS, eT, au, eU, eV, (Eq.trans Z (QB eA (SliceRep.le aW)))⟩
 intro ha ir cQ
 obtain ⟨c3, j, a7, bQ, eX, hE, cm, eY, hF, eZ, gs⟩ := cQ
 refine Zc (Zd (O Z Z (Zq Z gs eZ (Zb (V (Zc (QA (Zx (decide_eq_false (by omega))) (QF (Ql (Ql (Q7 (V (Zc (Zd (O Z Z (Zp JL Z cm Z (O Z Z (Zn (bQ) A3 Z Z Z ?_))))))))))))))))))
 obtain ⟨eJ, fF, hm⟩ := Zg hm
 refine O Z Z (JX (E := (Qa .i64)) bQ Jt Z3 Z Z Z Z fF ?_)
 intro g it aZ
 refine O Z Z (Zo (v := g) Z Z (Zb (V (Zc (Zc (Zd (O Z Z (Zm (v := g) Z Z (O Z Z (QQ (aZ) Jt Z Z (O Z Z (Zm (v := U 0) Z Z (Zb (V ?_))))))))))))))
 obtain ⟨bf, cL, hm⟩ := Zg hm
 refine Qm (J3 (fun k' s' f' w' => (fun (bf : (List Int)) => ∃ (c4 : PHeap) , PHeap.le c3 c4 ∧ St w0 c4 (Res.box an 38 [U (m.States), U (m.Init), aw, ae, ax] :: Res.arr encRaw 138 d j :: Res.rows encArc 137 j t :: Res.arr (Qa .i64) 3 g bf :: H) w' ∧ f' 1 = af ∧ f' 3 = Vp (some ⟨an, 0, none⟩) ∧ f' 7 = d ∧ f' 11 = g ∧ f' 65 = U ((eJ.length : Int)) ∧ f' 66 = U (k' : Int)) s') cL ?_ ?_ ?_)
 ·have dx := (aZ.f3).f3
  have dy := dx.f3
  exact ⟨c3, (Zv _), dy, eX, cm, eY, Z, Z, Z⟩
 ·intro aH bf gc hb iu eB cR a5
  obtain ⟨gd, eK, bR, fa, fb, fc, cn, co, b1⟩ := cR
  refine Zc (Zd (O Z Z (Zq Z b1 co (Zb (V (Zc (QK (Zx (decide_eq_true (by omega))) (Qp (V (Zc (Qm (Zc (Zd (O Z Z (Zm (v := U ((aH : Int))) Z b1 (O Z Z (Zo (v := U ((aH : Int))) Z Z (Zb (V (Zd (O Z Z (Zm (v := g) Z cn (O Z Z (Zm (v := U ((aH : Int))) Z Z ?_))))))))))))))))))))))))
  obtain ⟨iF, br, a5⟩ := Zg a5
  obtain ⟨hl, g9, b9⟩ := (bR.f3).arr_at br
  refine O Z Z (Qc Jt Z b9 Z (Qe br).1 (Qe br).2.1 ?_)
  obtain ⟨h3, fG, a5⟩ := Zg a5
  have dz := bR.f3
  refine O Z Z (QN dz b9 A3 Z Z Z Z (Qs.2 Z) fG ?_)
  intro iv d0
  refine Zb (Qz (V (Zd (O Z Z (Exec.add Z b1 Z (O Z Z (Zm (v := U (IntKind.i64.wrap ((aH : Int) + 1))) Z Z (Zb (V ?_)))))))))
  have gP := Zu a5
  subst gc
  have d1 := (d0.f3).f3
  have d2 := d1.f3
  exact ⟨gd, eK, d2, fa, fb, fc, cn, co, (Eq.trans Z (QB eB aZ.arr_le))⟩
 intro hc iw cS
 obtain ⟨hN, a8, bS, cp, fd, fe, ff, fg, gu⟩ := cS
 refine Zc (Zd (O Z Z (Zq Z gu fg (Zb (V (Zc (QA (Zx (decide_eq_false (by omega))) (QF (Ql (Ql (Q7 (V (Zc (Zd (O Z Z (Zp JL Z fd Z (O Z Z (Zn (bS) A3 Z Z Z ?_))))))))))))))))))
 obtain ⟨h4, fH, hm⟩ := Zg hm
 refine O Z Z (JX (E := encBool) bS S36 Z4 Z Z Z Z fH ?_)
 intro l ix d3
 refine O Z Z (Zo (v := l) Z Z (Zb (V (Zc (Zd (O Z Z (Zm (v := af) Z cp ?_)))))))
 obtain ⟨gy, fI, hm⟩ := Zg hm
 refine O Z Z (Exec.call Z Z Tryz.func36 Z N36 (Zi Z Qk) ((Jc fI d3 (aB.mono (Zt a7 a8))).mono ?_))
 rintro _ iy ⟨aT, rfl, ⟨c5, _, aI, d4, rfl⟩⟩
 refine ⟨_, Z, ?_⟩
 have d5 := d4.arr_que
 refine O Z Z (Zo (v := aT) Z Z (Zb (V (Zc (Zc (Zd (O Z Z (Zm (v := af) Z cp (O Z Z (Zr Jt Z Z (aB.mono (Zt (Zt a7 a8) aI)) (O Z Z (Zm (v := U 0) Z Z (Zb (V ?_))))))))))))))
 obtain ⟨gk, cM, hm⟩ := Zg hm
 refine Qm (J3 (fun k' s' f' w' => (J2 fun (bg : (List Int)) (bh : (List Bool)) => ∃ (c6 : PHeap) , PHeap.le c5 c6 ∧ St w0 c6 (Res.arr encRaw 138 d j :: Res.rows encArc 137 j t :: Res.arr (Qa .i64) 3 g bg :: Res.arr encBool 4 l bh :: Res.que (Qa .i64) 3 aT gy :: H) w' ∧ f' 7 = d ∧ f' 11 = g ∧ f' 13 = l ∧ f' 14 = aT ∧ f' 78 = af ∧ f' 79 = U ((aY.length : Int)) ∧ f' 80 = U (k' : Int)) s') cM ?_ ?_ ?_)
 ·have d6 := (d5.f2).drop
  have d7 := d6.f1
  have d8 := d7.f4
  have d9 := (d8.f4).f4
  exact ⟨c5, (Zv _), d9, fe, ff, Z, Z, Z, Z, Z⟩
 ·intro eH gl gf hd iz eC cT p
  obtain ⟨bg, bh⟩ := gl
  replace p := Jf p
  obtain ⟨gg, bZ, ba, fh, cq, cr, fi, ct, cu, b2⟩ := cT
  refine Zc (Zd (O Z Z (Zq Z b2 cu (Zb (V (Zc (QK (Zx (decide_eq_true (by omega))) (Qp (V (Zc (Qm (Zc (Zd ?_)))))))))))))
  obtain ⟨b3, fJ, p⟩ := Zg p
  refine O Z Z (Qu Jt Z ct b2 (aB.mono (Zt (Zt (Zt a7 a8) aI) bZ)) fJ ?_)
  intro g4 hC cH
  refine O Z Z (Zw (E := (Qa .i64)) ba A3 Z Z Z cH ?_)
  intro hU fK
  obtain rfl := Qs.1 fK
  refine O Z Z (Zo (v := U b3) Z Z (Zb (V (Zd (O Z Z (Zm (v := g) Z cq (O Z Z (Zm (v := U b3) Z Z (O Z Z (Zm (v := l) Z cr (O Z Z (Zm (v := U b3) Z Z ?_))))))))))))
  obtain ⟨iG, bs, p⟩ := Zg p
  obtain ⟨hn, gA, bA⟩ := (ba.f2).arr_at bs
  refine O Z Z (Qc Jt Z bA Z (Qe bs).1 (Qe bs).2.1 ?_)
  obtain ⟨h5, fL, p⟩ := Zg p
  have dA := ba.f2
  refine O Z Z (QN dA bA A3 Z Z Z Z (Qs.2 Z) fL ?_)
  intro i0 bT
  obtain ⟨iH, bt, p⟩ := Zg p
  obtain ⟨ho, gB, bB⟩ := (bT.f3).arr_at bt
  refine O Z Z (Qc S36 Z bB Z (Qe bt).1 (Qe bt).2.1 ?_)
  obtain ⟨h6, fM, p⟩ := Zg p
  have dB := bT.f3
  refine O Z Z (QN dB bB A4 Z Z Z Z (Ju.2 Z) fM ?_)
  intro i1 dC
  refine Zb (Qz (V (Zd (O Z Z (Exec.add Z b2 Z (O Z Z (Zm (v := U (IntKind.i64.wrap ((eH : Int) + 1))) Z Z (Zb (V ?_)))))))))
  have gQ := Zu p
  subst gf
  have dD := dC.f4
  have dE := dD.f1
  have dF := dE.f2
  have dG := (dF.f4).f4
  exact ⟨gg, bZ, dG, fh, cq, cr, fi, ct, cu, (Eq.trans Z (QB eC (SliceRep.le (aB.mono (Zt (Zt a7 a8) aI)))))⟩
 intro he i2 cU
 obtain ⟨bg, bh⟩ := gk
 replace hm := Jf hm
 obtain ⟨bx, eL, dH, fj, fk, fl, fm, hG, fn, gv⟩ := cU
 refine Zc (Zd (O Z Z (Zq Z gv fn (Zb (V (Zc (QA (Zx (decide_eq_false (by omega))) (QF (Ql (Ql (Q7 (V (Zc ?_)))))))))))))
 obtain ⟨b6, cN, hz, eD, e9⟩ := QO hm
 refine QJ (M := fun f' w' => ∃ s', (b6 = .next s' ∨ b6 = .brk s') ∧ (un3 fun (ca : (List Int)) (cb : (List Bool)) (cc : (List Int)) => ∃ (c7 : PHeap) (b0 : Value), PHeap.le bx c7 ∧ St w0 c7 (Res.arr encRaw 138 d j :: Res.rows encArc 137 j t :: Res.arr (Qa .i64) 3 g ca :: Res.arr encBool 4 l cb :: Res.que (Qa .i64) 3 b0 cc :: H) w' ∧ f' 7 = d ∧ f' 11 = g ∧ f' 13 = l ∧ f' 14 = b0) s') ?_ ?_
 ·refine Qm (Yy (fun s' f' w' => (un3 fun (cd : (List Int)) (ce : (List Bool)) (cf : (List Int)) => ∃ (c8 : PHeap) (al : Value), PHeap.le bx c8 ∧ St w0 c8 (Res.arr encRaw 138 d j :: Res.rows encArc 137 j t :: Res.arr (Qa .i64) 3 g cd :: Res.arr encBool 4 l ce :: Res.que (Qa .i64) 3 al cf :: H) w' ∧ f' 7 = d ∧ f' 11 = g ∧ f' 13 = l ∧ f' 14 = al) s') cN ?_ ?_)
  ·have dI := dH.f4
   have dJ := dI.f4
   have dK := dJ.f4
   have dL := (dK.f4).f4
   exact ⟨bx, aT, (Zv _), dL, fj, fk, fl, fm⟩
  intro gm b7 hf i3 cV b eE
  obtain ⟨cd, ce, cf⟩ := gm
  replace b := Qbh b
  obtain ⟨bz, al, cg, aF, bo, cv, bp, aK⟩ := cV
  refine Zc (Zc (Zd (O Z Z (Zm (v := al) Z aK (O Z Z (QhO (aF.f4) Jt Z Z (O Z Z (Exec.gtr Z Z Z (Zb (V ?_))))))))))
  rcases Qg b with ⟨a2, b⟩ | ⟨a2, b⟩
  ·refine Qv Z a2 (Qp (V (Qm (Zc (Zd (O Z Z (Zm (v := al) Z aK ?_)))))))
   obtain ⟨am, fN, b⟩ := Zg b
   refine O Z Z (Qg1 (aF.f4) Jt Z Z Z fN ?_)
   intro g5 hD cI
   refine O Z Z (QgK (E := (Qa .i64)) cI A3 Z Z ?_)
   intro hV fO
   obtain rfl := Qs.1 fO
   refine O Z Z (Zo (v := U am) Z Z (Zb (V (Zc (Zd (O Z Z (Zm (v := l) Z bp (O Z Z (Zm (v := U am) Z Z (O Z Z (Zm (v := al) Z aK ?_)))))))))))
   obtain ⟨gC, fP, b⟩ := Zg b
   have dM := aF.f4
   refine O Z Z (Qgy dM Jt Z Z Z fP ?_)
   intro cD bU
   refine O Z Z (Zo (v := cD) Z Z ?_)
   obtain ⟨iI, bu, b⟩ := Zg b
   obtain ⟨hp, gD, bC⟩ := (bU.f4).arr_at bu
   refine O Z Z (Qc S36 Z bC Z (Qe bu).1 (Qe bu).2.1 ?_)
   obtain ⟨h7, fQ, b⟩ := Zg b
   have dN := bU.f4
   refine O Z Z (QN dN bC A4 Z Z Z Z (Ju.2 Z) fQ ?_)
   intro i4 az
   refine Zb (V (Zc (Zd (O Z Z (Zm (v := d) Z bo (O Z Z (Zm (v := U am) Z Z ?_)))))))
   obtain ⟨c0, aO, b⟩ := Zg b
   obtain ⟨bL, aC, aX, _⟩ := (((az.f3).f3).f1).rows_at aO
   obtain ⟨hq, gE, bD⟩ := ((az.f3).f3).arr_at aC
   refine O Z Z (Qc QkT Z bD Z (Qe aC).1 (Qe aC).2.1 (O Z Z (Qt (F := encRaw) ((az.f3).f3) bD Qmm Z Z Z aC (Sub.refl _) ?_)))
   intro gr cy
   replace cy := (Yf.1 cy).1
   subst gr
   refine O Z Z (QQ ((((az.f3).f3).f1).rows_split aX (Qe aO).2.2) Qnn Z Z (O Z Z (Zm (v := U 0) Z Z (Zb (V ?_)))))
   obtain ⟨hP, cz, b⟩ := Zg b
   obtain ⟨gn, cO, b⟩ := Zg b
   refine Qm (J3 (fun k' s' f' w' => (un3 fun (bi : (List Int)) (bj : (List Bool)) (bk : (List Int)) => ∃ (c9 : PHeap) (z : Value), PHeap.le bz c9 ∧ St w0 c9 (Res.arr encRaw 138 d j :: Res.rows encArc 137 j t :: Res.arr (Qa .i64) 3 g bi :: Res.arr encBool 4 l bj :: Res.que (Qa .i64) 3 z bk :: H) w' ∧ f' 7 = d ∧ f' 11 = g ∧ f' 13 = l ∧ f' 14 = z ∧ f' 17 = U am ∧ f' 105 = bL ∧ f' 106 = U ((c0.length : Int)) ∧ f' 107 = U (k' : Int)) s') cO ?_ ?_ ?_)
   ·have dO := az.f1
    have dP := dO.f1
    have dQ := dP.f4
    have dR := (dQ.f4).f4
    exact ⟨bz, cD, (Zv _), dR, bo, cv, bp, Z, Z, Z, Z, Z⟩
   ·intro bd go cA hg i5 bX cW i
    obtain ⟨bi, bj, bk⟩ := go
    replace i := Qbh i
    obtain ⟨aQ, z, ch, bb, bq, ai, ac, aL, a9, aM, aN, aA⟩ := cW
    refine Zc (Zd (O Z Z (Zq Z aA aN (Zb (V (Zc (QK (Zx (decide_eq_true (by omega))) (Qp (V (Zc (Qm (Zc (Zd ?_)))))))))))))
    obtain ⟨u, aP, i⟩ := Zg i
    obtain ⟨hr, gF, bE⟩ := ((bb.f1).rows_split aX (Qe aO).2.2).arr_at aP
    refine O Z Z (Qc Qnn Z (Eq.trans aM bE) aA (Qe aP).1 (Qe aP).2.1 (O Z Z (Qt (F := encArc) ((bb.f1).rows_split aX (Qe aO).2.2) bE Qmn Z Z Z aP (Sub.refl _) ?_)))
    intro hW fR
    obtain rfl := Qj0.1 fR
    refine O Z Z (Exec.alloc (cs := [U 0, U 0, U 0]) bb Qnk Z Z ?_)
    intro g6 i6 dS
    refine O Z Z (Qf (ds := [U (u.From), U (u.To), U (u.Weight)]) (es := [U (u.From), U (u.To), U (u.Weight)]) dS Qmn Z Z Z Z (Zj Z (Zj Z (Zj Z Q6))) (Nat.le_of_ble_eq_true Z) Z ?_)
    intro i7 dT
    refine Zb (V (Zc (Zc (K3 (n0 := 13) (.q 0 (.q 1 (.q 2 (.q 3 (.q 4 (.q 5 (.q 6 (.q 7 (.q 8 (.q 9 (.q 10 (.q 11 (.q 12 .done))))))))))))) K8 (by kernel_rfl) (by kernel_rfl) ?_))))
    have ab := dT.drew
    refine Qh Z Z (Zm (v := g) Z ai ⟨Z, ?_⟩)
    refine Qh Z Z (Zm (v := U am) Z a9 ⟨Z, ?_⟩)
    obtain ⟨iJ, ad, i⟩ := Zg i
    obtain ⟨hs, gG, bF⟩ := (ab.f3).arr_at ad
    refine Qh Z Z (Qc Jt Z bF Z (Qe ad).1 (Qe ad).2.1 ⟨Z, ?_⟩)
    refine Qh Z Z (Qt (F := (Qa .i64)) (ab.f3) bF A3 Z Z Z ad (Sub.refl _) ?_)
    intro hX fS
    obtain rfl := Qs.1 fS
    refine ⟨Z, ?_⟩
    refine Qh Z Z (Zp Qlr Z Z Z ⟨Z, ?_⟩)
    refine Qh Z Z (Zn (ab) A3 Z Z Z ⟨Z, ?_⟩)
    refine Qh Z Z (Exec.add Z Z Z ⟨Z, ?_⟩)
    refine Qh Z Z (Zm (v := g) Z ai ⟨Z, ?_⟩)
    refine Qh Z Z (Zp Qcb Z Z Z ⟨Z, ?_⟩)
    refine Qh Z Z (Zn (ab) A3 Z Z Z ⟨Z, ?_⟩)
    obtain ⟨iK, aj, i⟩ := Zg i
    obtain ⟨ht, gH, bG⟩ := (ab.f3).arr_at aj
    refine Qh Z Z (Qc Jt Z bG Z (Qe aj).1 (Qe aj).2.1 ⟨Z, ?_⟩)
    refine Qh Z Z (Qt (F := (Qa .i64)) (ab.f3) bG A3 Z Z Z aj (Sub.refl _) ?_)
    intro hY fT
    obtain rfl := Qs.1 fT
    refine ⟨Z, ?_⟩
    refine Qh Z Z (Exec.geq Z Z Z ⟨Z, ?_⟩)
    refine QC (Zb (V ?_))
    rcases Qg i with ⟨a3, i⟩ | ⟨a3, i⟩
    ·refine Qv Z a3 (QF (Ql (Q7 (V (Zd (O Z Z (Exec.add Z aA Z (O Z Z (Zm (v := U (IntKind.i64.wrap ((bd : Int) + 1))) Z Z (Zb (V ?_)))))))))))
     have gR := Zu i
     subst cA
     have dU := ab.drop
     have dV := dU.f4
     have dW := dV.f4
     have dX := dW.f4
     have dY := (dX.f4).f4
     exact ⟨aQ, z, ch, dY, bq, ai, ac, aL, a9, aM, aN, (Eq.trans Z (QB bX (by have h := QT cz; simpa [maxLen] using h)))⟩
    refine Qw Z a3 ?_
    replace a3 := Zk a3
    refine Qp (V (Zc (K3 (n0 := 10) (.q 0 (.q 1 (.q 2 (.q 3 (.q 4 (.q 5 (.q 6 (.q 7 (.q 8 (.q 9 .done)))))))))) K8 (by kernel_rfl) (by kernel_rfl) ?_)))
    have ar := ab.drew
    refine Qh Z Z (Zm (v := g) Z ai ⟨Z, ?_⟩)
    refine Qh Z Z (Zp Qcb Z Z Z ⟨Z, ?_⟩)
    refine Qh Z Z (Zn (ar) A3 Z Z Z ⟨Z, ?_⟩)
    refine Qh Z Z (Zm (v := g) Z ai ⟨Z, ?_⟩)
    refine Qh Z Z (Zm (v := U am) Z a9 ⟨Z, ?_⟩)
    obtain ⟨hu, gI, bH⟩ := (ar.f3).arr_at ad
    refine Qh Z Z (Qc Jt Z bH Z (Qe ad).1 (Qe ad).2.1 ⟨Z, ?_⟩)
    refine Qh Z Z (Qt (F := (Qa .i64)) (ar.f3) bH A3 Z Z Z ad (Sub.refl _) ?_)
    intro hZ fU
    obtain rfl := Qs.1 fU
    refine ⟨Z, ?_⟩
    refine Qh Z Z (Zp Qlr Z Z Z ⟨Z, ?_⟩)
    refine Qh Z Z (Zn (ar) A3 Z Z Z ⟨Z, ?_⟩)
    refine Qh Z Z (Exec.add Z Z Z ⟨Z, ?_⟩)
    refine QC ?_
    obtain ⟨hv, gJ, bI⟩ := (ar.f3).arr_at aj
    refine O Z Z (Qc Jt Z bI Z (Qe aj).1 (Qe aj).2.1 ?_)
    obtain ⟨eM, fV, i⟩ := Zg i
    have dZ := ar.f3
    refine O Z Z (QN dZ bI A3 Z Z Z Z (Qs.2 Z) fV ?_)
    intro i8 a0
    refine Zb (V (Zc (Zd (O Z Z (Zm (v := l) Z ac (O Z Z (Zp Qcb Z Z Z (O Z Z (Zn (a0.f1) A3 Z Z Z ?_)))))))))
    obtain ⟨iL, ak, i⟩ := Zg i
    obtain ⟨hw, gK, bJ⟩ := (a0.f4).arr_at ak
    refine O Z Z (Qc S36 Z bJ Z (Qe ak).1 (Qe ak).2.1 (O Z Z (Qt (F := encBool) (a0.f4) bJ A4 Z Z Z ak (Sub.refl _) ?_)))
    intro ia fW
    obtain rfl := Ju.1 fW
    refine O Z Z (Exec.not Z Z (Zb (V ?_)))
    obtain ⟨aS, y, i⟩ := Zg i
    refine QJ (M := fun f' w' => (J2 fun (ci : (List Bool)) (cj : (List Int)) => ∃ (cB : PHeap) (aU : Value), PHeap.le aQ cB ∧ St w0 cB (Res.arr encRaw 138 d j :: Res.rows encArc 137 j t :: Res.arr (Qa .i64) 3 g eM :: Res.arr encBool 4 l ci :: Res.que (Qa .i64) 3 aU cj :: H) w' ∧ f' 7 = d ∧ f' 11 = g ∧ f' 13 = l ∧ f' 14 = aU ∧ f' 17 = U am ∧ f' 105 = bL ∧ f' 106 = U ((c0.length : Int)) ∧ f' 107 = U ((bd : Int))) aS) ?_ ?_
    ·rcases Qg y with ⟨a4, y⟩ | ⟨a4, y⟩
     ·refine Qv Z a4 (K3 (n0 := 9) (.q 0 (.q 1 (.q 2 (.q 3 (.q 4 (.q 5 (.e 6 [0, 1, 2, 3] (.e 7 [0, 1, 2] (.e 8 [0, 1, 2] .done))))))))) K8 (by kernel_rfl) (by kernel_rfl) ?_)
      have bc := a0.drew
      refine Qh Z Z (Zm (v := l) Z ac ⟨Z, ?_⟩)
      refine Qh Z Z (Zp Qcb Z Z Z ⟨Z, ?_⟩)
      refine Qh Z Z (Zn (bc.f1) A3 Z Z Z ⟨Z, ?_⟩)
      refine Qh Z Z (Zm (v := z) Z aL ⟨Z, ?_⟩)
      refine Qh Z Z (Zp Qcb Z Z Z ⟨Z, ?_⟩)
      refine Qh Z Z (Zn (bc.f1) A3 Z Z Z ⟨Z, ?_⟩)
      refine JH Z Z (Exec.buildSlice (Te := 3) (cs := [U (u.To)]) bc Z (Qb (c := [U (u.To)]) (Qi Z Z) Qx) (fun _ => by kernel_rfl) ?_)
      intro g7 i9 bV
      refine ⟨(Qd (Q4 Z Z (Zm (v := l) Z ac ⟨Z, Z⟩)) (Qd (Q4 Z Z (Zp Qcb Z Z Z ⟨Z, Z⟩)) (Qd (Q4 Z Z (Zn (bV.f2) A3 Z Z Z ⟨Z, Z⟩)) (Qd (Q4 Z Z (Zm (v := z) Z aL ⟨Z, Z⟩)) QY)))), ?_⟩
      obtain ⟨h8, fX, y⟩ := Zg y
      have ea := bV.f6
      refine JH Z Z (Qfu (E := (Qa .i64)) (ys := [u.To]) ea Jt Z3 Z (by decide) Z Z Z Z ⟨[U (u.To)], [], Z, Z, Z⟩ Z fX ?_)
      intro cE iA aG
      refine ⟨(Qd (Q4 Z Z (Zm (v := l) Z ac ⟨Z, Z⟩)) (Qd (Q4 Z Z (Zp Qcb Z Z Z ⟨Z, Z⟩)) (Qd (Q4 Z Z (Zn (aG.f2) A3 Z Z Z ⟨Z, Z⟩)) QY))), ?_⟩
      refine JH Z Z (Zo (v := cE) Z Z (⟨(Qd (Q4 Z Z (Zm (v := l) Z ac ⟨Z, Z⟩)) (Qd (Q4 Z Z (Zp Qcb Z Z Z ⟨Z, Z⟩)) (Qd (Q4 Z Z (Zn (aG.f2) A3 Z Z Z ⟨Z, Z⟩)) QY))), ?_⟩))
      refine QC ?_
      obtain ⟨hx, gL, bK⟩ := (aG.f5).arr_at ak
      refine O Z Z (Qc S36 Z bK Z (Qe ak).1 (Qe ak).2.1 ?_)
      obtain ⟨h9, fY, y⟩ := Zg y
      have eb := aG.f5
      refine O Z Z (QN eb bK A4 Z Z Z Z (Ju.2 Z) fY ?_)
      intro iB ec
      refine Zb (V ?_)
      have gS := Zu y
      subst aS
      have ed := (ec.f3).drop
      have ee := ed.f1
      have ef := ee.f1
      have eg := ef.f2
      have eh := (eg.f4).f4
      exact ⟨aQ, cE, (Zv _), eh, bq, ai, ac, Z, a9, aM, aN, aA⟩
     refine Qw Z a4 ?_
     replace a4 := Zk a4
     refine Qp (V ?_)
     have gT := Zu y
     subst aS
     have ei := (a0.f1).drop
     have ej := ei.f4
     have ek := ej.f4
     have el := ek.f2
     have em := (el.f4).f4
     exact ⟨aQ, z, (Zv _), em, bq, ai, ac, aL, a9, aM, aN, aA⟩
    intro hh iC cZ
    obtain ⟨ci, cj⟩ := aS
    replace i := Jf i
    obtain ⟨gh, aU, eN, en, fo, fp, fq, fr, fs, ft, fu, fv⟩ := cZ
    refine (Qz (V (Zd (O Z Z (Exec.add Z fv Z (O Z Z (Zm (v := U (IntKind.i64.wrap ((bd : Int) + 1))) Z Z (Zb (V ?_)))))))))
    have gU := Zu i
    subst cA
    have eo := en.f4
    have ep := eo.f4
    have er := ep.f4
    have et := (er.f4).f4
    exact ⟨gh, aU, (Zt ch eN), et, fo, fp, fq, fr, fs, ft, fu, (Eq.trans Z (QB bX (by have h := QT cz; simpa [maxLen] using h)))⟩
   intro hi iD cX
   obtain ⟨bi, bj, bk⟩ := gn
   replace b := Qbh b
   obtain ⟨gi, z, eO, eu, fw, fx, fy, fz, hH, hI, f0, gw⟩ := cX
   refine Zc (Zd (O Z Z (Zq Z gw f0 (Zb (V (Zc (QA (Zx (decide_eq_false (by omega))) (QF (Ql (Ql (Q7 (Qz (V ?_)))))))))))))
   have gV := Zu b
   subst b7
   have ev := eu.f4
   have ew := ev.f4
   have ex := ew.f4
   have ey := (ex.f4).f4
   refine ⟨_, Z, ?_⟩; exact ⟨gi, z, (Zt cg eO), ey, fw, fx, fy, fz⟩
  refine Qw Z a2 ?_
  replace a2 := Zk a2
  refine QF (Ql (Ql (Q7 (V ?_))))
  have gW := Zu b
  subst b7
  have ez := aF.f4
  have e0 := ez.f4
  have e1 := e0.f4
  have e2 := (e1.f4).f4
  refine ⟨_, .inr (eE (by intro _ h; cases h)), ?_⟩; exact ⟨bz, al, cg, e2, bo, cv, bp, aK⟩
 rintro hj iE ⟨gp, bW, da⟩
 have hm := bW.elim (eD _) (e9 _)
 clear bW
 obtain ⟨ca, cb, cc⟩ := gp
 replace hm := Qbh hm
 obtain ⟨hO, b0, eP, e3, hJ, f7, hK, hL⟩ := da
 refine (V (Zc (Zd (O Z Z (Zm (v := g) Z f7 (O Z Z (Zo (v := g) Z Z (Zb (V (Q1 ?_))))))))))
 have gX := Zu hm
 subst r
 refine ⟨_, QX Z, ?_⟩
 have e4 := e3.f2
 obtain ⟨gj, eQ, e5, fZ⟩ := e4.freezeArr
 have e6 := (e5.drop).drop
 have e7 := e6.drop
 have e8 := e7.drop
 exact ⟨gj, g, (Zt (Zt (Zt (Zt (Zt a7 a8) aI) eL) eP) eQ), e8, Z, fZ⟩
theorem N38 : (Tryz.f38.name == "runtime.NumGoroutine") = false := by kernel_rfl
theorem QcK {w0 w : World} {s : PHeap} {H : List Res} {a : System} {c : Value} {d : Value} {f : Value} {r : (List Int) × (Option Int)} (hm : K1 a = some r) (hS : St w0 s (H) w) (i : SliceRep (Qa .i64) s c a.Costs) (j : SliceRep encEdge s d a.Edges) (k : SliceRep encBool s f a.Goals) :
  Calls Tryz.prog 38 #[Value.agg #[U (a.States), U (a.Init), c, d, f]] w fun e w' => ∃ v, e = .returned v ∧ ((J2 fun (ai : (List Int)) (aj : (Option Int)) => ∃ (m : PHeap) (t : Value), PHeap.le s m ∧ St w0 m (H) w' ∧ v = Value.tuple #[t, QG 50 (aj)] ∧ SliceRep (Qa .i64) m t ai) r) := by
 unfold K1 at hm
 refine Qy Tryz.func38 Z Z (Zc (Zd (O Z Z (Exec.box (cs := [U (a.States), U (a.Init), c, d, f]) hS Z Z Z ?_))))
 intro ak ap n
 refine O Z Z (Zo (v := Vs none 0 0) Z Z (O Z Z (Zo (v := QG 50 (none)) Z Z (Zb (V (Zc (Zc (Zd (O Z Z (Qn (ds := [U (a.States), U (a.Init), c, d, f]) (n) KH Z Z Z ?_))))))))))
 obtain ⟨av, ab, hm⟩ := Zg hm
 refine O Z Z (Exec.call Z Z Tryz.func60 Z N60 (Zi Z Qk) ((KM ab n i j k).mono ?_))
 rintro _ aq ⟨_, rfl, ⟨ag, b, o, rfl⟩⟩
 refine ⟨_, Z, ?_⟩
 refine O Z Z (Exec.not Z Z (Zb (V ?_)))
 rcases Qg hm with ⟨g, hm⟩ | ⟨g, hm⟩
 ·refine Qv Z g (Zc (Zd (O Z Z (Exec.makeInterface C50 Z Z (O Z Z (Zo (v := Vs none 0 0) Z Z (O Z Z (Zo (v := QG 50 (some 2)) Z Z (Zb (V (Q1 (Qj ?_))))))))))))
  have al := Zu hm
  subst r
  refine ⟨_, Qbu Z, ?_⟩
  have x := o.drop
  exact ⟨ag, (Vs none 0 0), b, x, (KX Z Z), (SliceRep.nil _ _)⟩
 refine Qw Z g ?_
 replace g := Zk g
 refine Qp (V (Zc (K3 (n0 := 4) (.q 0 (.q 1 (.e 2 [0] (.e 3 [] .done)))) K8 (by kernel_rfl) (by kernel_rfl) ?_)))
 have l := o.drew
 refine Qh Z Z (Qn (ds := [U (a.States), U (a.Init), c, d, f]) (l) KH Z Z Z ⟨Z, ?_⟩)
 refine Qh Z Z (Qn (ds := [U (a.States), U (a.Init), c, d, f]) (l) KH Z Z Z ⟨Z, ?_⟩)
 obtain ⟨aw, ac, hm⟩ := Zg hm
 refine JH Z Z (Exec.call Z Z Tryz.func62 Z N62 (Zi Z Qk) ((Qex ac l (i.mono b) (j.mono b) (k.mono b)).mono ?_))
 rintro _ ar ⟨ao, rfl, ⟨an, _, h, p, rfl, ae⟩⟩
 refine ⟨_, Z, ?_⟩
 refine ⟨(Qd (Q4 Z Z (Qn (ds := [U (a.States), U (a.Init), c, d, f]) (p) KH Z Z Z ⟨Z, Z⟩)) QY), ?_⟩
 obtain ⟨ax, ad, hm⟩ := Zg hm
 refine JH Z Z (Exec.call Z Z Tryz.func61 Z N61 (Zi Z (Zi Z (Zi Z Qk))) ((Qdd ad p (i.mono (Zt b h)) (j.mono (Zt b h)) (k.mono (Zt b h)) ae).mono ?_))
 rintro _ au ⟨u, rfl, ⟨ah, _, aa, y, rfl, af⟩⟩
 refine ⟨_, Z, ?_⟩
 refine ⟨QY, ?_⟩
 refine QC (O Z Z (Zo (v := u) Z Z (O Z Z (Zo (v := QG 50 (none)) Z Z (Zb (V (Q1 ?_)))))))
 have am := Zu hm
 subst r
 refine ⟨_, Qbu Z, ?_⟩
 have z := y.drop
 exact ⟨ah, u, (Zt (Zt b h) aa), z, (KX Z Z), af⟩
theorem Qle : Jk Tryz.prog 74 2 = some 2 := by kernel_rfl
theorem N13 : (Tryz.f13.name == "runtime.NumGoroutine") = false := by kernel_rfl
theorem KF {w0 w : World} {s : PHeap} {H : List Res} {t : Task} {a2 : (List Int)} {al : Int} {ab : Value} {ac : Value} {ad : Value} {ae : Value} {ag : Value} {r : (Option mergeshrink_Abstraction) × (Option Int)} (hm : Jy t a2 al = some r) (hS : St w0 s (H) w) (af : SliceRep (Qa .i64) s ab t.Vars) (ao : SliceRep (Qa .i64) s ac t.Init) (ap : SliceRep encFact s ad t.Goal) (aq : SliceRep encOp s ae t.Ops) (ar : SliceRep (Qa .i64) s ag a2) :
  Calls Tryz.prog 13 #[Value.agg #[ab, ac, ad, ae], ag, U al] w fun e w' => ∃ v, e = .returned v ∧ ((J2 fun (a3 : (Option mergeshrink_Abstraction)) (aE : (Option Int)) => (∃ m : mergeshrink_Abstraction, a3 = some m ∧ ∃ (an : PHeap) (a9 : Value) (au : Nat) (aA : Value) (aB : Value), PHeap.le s an ∧ St w0 an (Res.box au 74 [aA, aB, a9, Value.bool (m.exact)] :: Res.arr (Qa .i64) 3 aA m.vars :: Res.arr encmergeshrink_stage 87 aB m.stages :: H) w' ∧ v = Value.tuple #[Value.pointer (some ⟨au, 0, none⟩), QG 50 (aE)] ∧ SliceRep (Qa .i64) an a9 m.distance) ∨ (a3 = none ∧ ∃ (a7 : PHeap) , PHeap.le s a7 ∧ St w0 a7 (H) w' ∧ v = Value.tuple #[Value.pointer none, QG 50 (aE)])) r) := by
 unfold Jy at hm
 refine Qy Tryz.func13 Z Z (Zc (Zd (O Z Z (Exec.box (cs := [ab, ac, ad, ae]) hS Z Z Z ?_))))
 intro bu b8 av
 refine O Z Z (Zo (v := Vp none) Z Z (O Z Z (Zo (v := QG 50 (none)) Z Z (Zb (V (Zc (Zc (Zd (O Z Z (Qn (ds := [ab, ac, ad, ae]) (av) A26 Z Z Z ?_))))))))))
 obtain ⟨ah, be, hm⟩ := Zg hm
 refine O Z Z (Exec.call Z Z Tryz.func31 Z N31 (Zi Z Qk) ((Qda be av af ao ap aq).mono ?_))
 rintro _ b9 ⟨_, rfl, ⟨bo, a, aw, rfl⟩⟩
 refine ⟨_, Z, ?_⟩
 refine O Z Z (Zo (v := QG 50 (ah)) Z Z (Zb (V (Zc (Zd (O Z Z (Zm (v := QG 50 (ah)) Z Z (O Z Z (Je (T := 50) Tryz.underlying32 Z Z Z (Zb (V ?_)))))))))))
 rcases Qg hm with ⟨n, hm⟩ | ⟨n, hm⟩
 ·refine Qv Z n (Zc (Zd (O Z Z (Zm (v := QG 50 (ah)) Z Z (O Z Z (Zo (v := Vp none) Z Z (O Z Z (Zo (v := QG 50 (ah)) Z Z (Zb (V (Q1 (Qj ?_))))))))))))
  have bx := Zu hm
  subst r
  refine ⟨_, Qbu Z, ?_⟩
  have aF := aw.drop
  refine (Or.inr ⟨Z, ?_⟩); exact ⟨bo, a, aF, (KX Z Z)⟩
 refine Qw Z n ?_
 replace n := Zk n
 refine Qp (V (Zc (Zd (O Z Z (Zm (v := ag) Z Z (O Z Z (Exec.call Z Z Tryz.func33 Z N33 (Zi Z Qk) ((Qjm aw (ar.mono a)).mono ?_))))))))
 rintro _ bA ⟨_, rfl, b3, bv, b, aG, rfl, bl⟩
 refine ⟨_, Z, ?_⟩
 obtain ⟨bL, bf, hm⟩ := Zg hm
 refine O Z Z (Exec.call Z Z Tryz.func32 Z N32 (Zi Z Qk) ((QbN bf aG bl).mono ?_))
 rintro _ bB ⟨aC, rfl, ⟨b4, _, d, ax, rfl, bm⟩⟩
 refine ⟨_, Z, ?_⟩
 refine O Z Z (Zo (v := aC) Z Z (Zb (V (Zc (Zc (Zd (O Z Z (Zm (v := aC) Z Z (O Z Z (Zp Yk Z Z Z (O Z Z (Zn (ax) A22 Z Z Z (O Z Z (Zr Jt Z Z (af.mono (Zt (Zt a b) d)) ?_))))))))))))))
 obtain ⟨bM, bg, hm⟩ := Zg hm
 refine O Z Z (Exec.call Z Z Tryz.func35 Z N35 (Zi Z Qk) ((Qbb bg ax).mono ?_))
 rintro _ bC ⟨b7, rfl, ⟨b5, _, f, aH, rfl, bn⟩⟩
 refine ⟨_, Z, ?_⟩
 obtain ⟨bN, bh, hm⟩ := Zg hm
 refine O Z Z (Exec.call Z Z Tryz.func34 Z N34 (Zi Z (Zi Z Qk)) ((Y1 bh aH (bm.mono f) bn).mono ?_))
 rintro _ bD ⟨_, rfl, ⟨bp, g, ai, rfl⟩⟩
 refine ⟨_, Z, ?_⟩
 refine O Z Z (Exec.not Z Z (Zb (V ?_)))
 rcases Qg hm with ⟨o, hm⟩ | ⟨o, hm⟩
 ·refine Qv Z o (Zc (Zd (O Z Z (Exec.makeInterface C50 Z Z (O Z Z (Zo (v := Vp none) Z Z (O Z Z (Zo (v := QG 50 (some 2)) Z Z (Zb (V (Q1 (Qj ?_))))))))))))
  have bz := Zu hm
  subst r
  refine ⟨_, Qbu Z, ?_⟩
  have aI := ai.drop
  refine (Or.inr ⟨Z, ?_⟩); exact ⟨bp, (Zt (Zt (Zt (Zt a b) d) f) g), aI, (KX Z Z)⟩
 refine Qw Z o ?_
 replace o := Zk o
 refine Qp (V (Zc (Zd (O Z Z (Zp Yk Z Z Z (O Z Z (Zn (ai) A22 Z Z Z ?_)))))))
 obtain ⟨bO, bi, hm⟩ := Zg hm
 refine O Z Z (Exec.call Z Z Tryz.func36 Z N36 (Zi Z Qk) ((Jc bi ai (af.mono (Zt (Zt (Zt (Zt a b) d) f) g))).mono ?_))
 rintro _ bE ⟨u, rfl, ⟨b6, _, i, ay, rfl⟩⟩
 refine ⟨_, Z, ?_⟩
 refine O Z Z (Exec.build Z (Qb (c := [u]) (Qi Z (QV ay.arr_one)) (Qb (c := [Vb true]) (Qi Z Z) Qx)) (v := Value.agg #[u, Vs none 0 0, Vs none 0 0, Vb true]) (fun _ => by kernel_rfl) (O Z Z (Exec.box (cs := [u, Vs none 0 0, Vs none 0 0, Vb true]) ay Z Z Z ?_)))
 intro j bF az
 refine O Z Z (Zo (v := Vp (some ⟨j, 0, none⟩)) Z Z (Zb (V (Zc (Zd (O Z Z (Zm (v := Vp (some ⟨j, 0, none⟩)) Z Z (O Z Z (Qn (ds := [ab, ac, ad, ae]) (az.f2) A26 Z Z Z (O Z Z (Zm (v := ag) Z Z (O Z Z (Zm (v := U al) Z Z (O Z Z (QeO Z Z Z (O Z Z (Qcy Z Z Z ?_)))))))))))))))))
 obtain ⟨br, bj, hm⟩ := Zg hm
 obtain ⟨k, h, bQ, bt⟩ := br
 replace hm := Qhr hm
 have aJ := az.f1
 have aK := aJ.f1
 refine O Z Z (Exec.call Z Z Tryz.func37 Z N37 (Zi Z (Zi Z (Zi Z (Zi Z Qk)))) ((YG bj aK (af.mono (Zt (Zt (Zt (Zt (Zt a b) d) f) g) i)) (ao.mono (Zt (Zt (Zt (Zt (Zt a b) d) f) g) i)) (ap.mono (Zt (Zt (Zt (Zt (Zt a b) d) f) g) i)) (aq.mono (Zt (Zt (Zt (Zt (Zt a b) d) f) g) i)) (ar.mono (Zt (Zt (Zt (Zt (Zt a b) d) f) g) i))).mono ?_))
 rintro _ bG ⟨_, rfl, ⟨bq, x, y, z, aD, ak, aL, rfl, a4, a5, a6⟩⟩
 refine ⟨_, Z, ?_⟩
 refine O Z Z (Zm (v := Value.tuple #[Value.agg #[U (h.States), U (h.Init), x, y, z], QG 50 (k)]) Z Z (O Z Z (Exec.extract (v := Value.agg #[U (h.States), U (h.Init), x, y, z]) Z Z Z (O Z Z (Exec.extract (v := QG 50 (k)) Z Z Z (O Z Z (Exec.alloc (cs := [U 0, U 0, Vs none 0 0, Vs none 0 0, Vs none 0 0]) aL Z38 Z Z ?_)))))))
 intro bw bH aM
 refine O Z Z (Qf (ds := [U (h.States), U (h.Init), x, y, z]) (es := [U (h.States), U (h.Init), x, y, z]) aM KH Z Z Z Z (Zj Z (Zj Z (Zj a4.one (Zj a5.one (Zj a6.one Q6))))) (Nat.le_of_ble_eq_true Z) Z ?_)
 intro bI aj
 refine O Z Z (Zo (v := QG 50 (k)) Z Z (Zb (V (Zc (Zc (Zd (O Z Z (Zm (v := QG 50 (k)) Z Z (O Z Z (Je (T := 50) Tryz.underlying32 Z Z Z (Zb (V ?_))))))))))))
 rcases Qg hm with ⟨p, hm⟩ | ⟨p, hm⟩
 ·refine Qv Z p (Zc (Zd (O Z Z (Zm (v := QG 50 (k)) Z Z (O Z Z (Zo (v := Vp none) Z Z (O Z Z (Zo (v := QG 50 (k)) Z Z (Zb (V (Q1 (Qj ?_))))))))))))
  have b0 := Zu hm
  subst r
  refine ⟨_, Qbu Z, ?_⟩
  have aN := aj.drop
  have aO := aN.drop
  have aP := aO.drop
  have aQ := aP.drop
  have aR := aQ.drop
  refine (Or.inr ⟨Z, ?_⟩); exact ⟨bq, (Zt (Zt (Zt (Zt (Zt (Zt a b) d) f) g) i) ak), aR, (KX Z Z)⟩
 refine Qw Z p ?_
 replace p := Zk p
 refine Qp (V (Zc (Zc (Zd (O Z Z (Zm (v := Vp (some ⟨j, 0, none⟩)) Z Z (O Z Z (Qn (ds := [U (h.States), U (h.Init), x, y, z]) (aj) KH Z Z Z ?_))))))))
 obtain ⟨bs, bk, hm⟩ := Zg hm
 obtain ⟨bP, l⟩ := bs
 replace hm := Jf hm
 refine O Z Z (Exec.call Z Z Tryz.func38 Z N38 (Zi Z Qk) ((QcK bk aj a4 a5 a6).mono ?_))
 rintro _ bJ ⟨_, rfl, ⟨a8, aa, a1, aS, rfl, am⟩⟩
 refine ⟨_, Z, ?_⟩
 refine O Z Z (Zm (v := Value.tuple #[aa, QG 50 (l)]) Z Z (O Z Z (Exec.extract (v := aa) Z Z Z (O Z Z (Exec.extract (v := QG 50 (l)) Z Z Z (O Z Z (QH Z Z (O Z Z (Zp Qle Z Z Z ?_)))))))))
 have aT := aS.f1
 refine O Z Z (Qf (ds := [aa]) (es := [u, aD, aa, Vb bt]) aT A22 Z Z Z (QV am.one) (Zj am.one Q6) (Nat.le_of_ble_eq_true Z) Z ?_)
 intro bK a0
 refine O Z Z (Zo (v := QG 50 (l)) Z Z (Zb (V (Zc (Zd (O Z Z (Zm (v := QG 50 (l)) Z Z (O Z Z (Je (T := 50) Tryz.underlying32 Z Z Z (Zb (V ?_)))))))))))
 rcases Qg hm with ⟨q, hm⟩ | ⟨q, hm⟩
 ·refine Qv Z q (Zc (Zd (O Z Z (Zm (v := QG 50 (l)) Z Z (O Z Z (Zo (v := Vp none) Z Z (O Z Z (Zo (v := QG 50 (l)) Z Z (Zb (V (Q1 (Qj ?_))))))))))))
  have b1 := Zu hm
  subst r
  refine ⟨_, Qbu Z, ?_⟩
  have aU := a0.drop
  have aV := aU.drop
  have aW := aV.drop
  have aX := aW.drop
  have aY := aX.drop
  refine (Or.inr ⟨Z, ?_⟩); exact ⟨a8, (Zt (Zt (Zt (Zt (Zt (Zt (Zt a b) d) f) g) i) ak) a1), aY, (KX Z Z)⟩
 refine Qw Z q ?_
 replace q := Zk q
 refine Qp (V (Zc (Zd (O Z Z (Zm (v := Vp (some ⟨j, 0, none⟩)) Z Z (O Z Z (Zo (v := Vp (some ⟨j, 0, none⟩)) Z Z (O Z Z (Zo (v := QG 50 (none)) Z Z (Zb (V (Q1 ?_))))))))))))
 have b2 := Zu hm
 subst r
 refine ⟨_, Qbu Z, ?_⟩
 have aZ := (a0.f1).drop
 have ba := (aZ.f3).drop
 have bb := ba.f2
 have bc := bb.f2
 have bd := bc.f2
 refine (Or.inl ⟨_, Z, ?_⟩); exact ⟨a8, aa, j, u, aD, (Zt (Zt (Zt (Zt (Zt (Zt (Zt a b) d) f) g) i) ak) a1), bd, (KX Z Z), am⟩
theorem QnX : Jk Tryz.prog 74 0 = some 0 := by kernel_rfl
theorem Qez {w0 w : World} {s : PHeap} {H : List Res} {i : (List Int)} {o : (List Int)} {b : Value} {g : Value} {r : Bool} (hm : YQ i o = some r) (hS : St w0 s (Res.arr (Qa .i64) 3 b i :: H) w) (u : SliceRep (Qa .i64) s g o) :
  Calls Tryz.prog 42 #[b, g] w fun e w' => ∃ v, e = .returned v ∧ ((fun (aM : Bool) => ∃ (al : PHeap) , PHeap.le s al ∧ St w0 al (Res.arr (Qa .i64) 3 b i :: H) w' ∧ v = Value.bool (aM)) r) := by
 unfold YQ at hm
 refine Qy Tryz.func42 Z Z (Zc (Zd (O Z Z (Zo (v := Vb false) Z Z (Zb (V (Zc (Zc (Zd (O Z Z (Zm (v := g) Z Z (O Z Z (Zr Jt Z Z u (O Z Z (Zm (v := b) Z Z (O Z Z (QQ (hS) Jt Z Z (O Z Z (Exec.neq Z Z Z (Zb (V ?_)))))))))))))))))))))
 rcases Qg hm with ⟨l, hm⟩ | ⟨l, hm⟩
 ·refine Qv Z l (Zc (Zd (O Z Z (Zo (v := Vb false) Z Z (Zb (V (Q1 (Qj ?_))))))))
  have aP := Zu hm
  subst r
  refine ⟨_, QX Z, ?_⟩
  exact ⟨s, (Zv _), hS, Z⟩
 refine Qw Z l ?_
 replace l := Zk l
 refine Qp (V (Zc (Zc (Zd (O Z Z (Zm (v := g) Z Z (O Z Z (Zr Jt Z Z u (O Z Z (Zm (v := U 0) Z Z (Zb (V ?_))))))))))))
 obtain ⟨ad, ar, a4, a2, a0⟩ := QO hm
 refine QJ (M := fun f' w' => ∃ s', (ad = .next s' ∨ ad = .brk s') ∧ (fun (_ : Unit) => ∃ (am : PHeap) , PHeap.le s am ∧ St w0 am (Res.arr (Qa .i64) 3 b i :: H) w' ∧ f' 0 = b ∧ f' 12 = g ∧ f' 13 = U ((o.length : Int))) s') ?_ ?_
 ·refine Qm (J4 (fun k' s' f' w' => (fun (_ : Unit) => ∃ (an : PHeap) , PHeap.le s an ∧ St w0 an (Res.arr (Qa .i64) 3 b i :: H) w' ∧ f' 0 = b ∧ f' 12 = g ∧ f' 13 = U ((o.length : Int)) ∧ f' 14 = U (k' : Int)) s') ar ?_ ?_ ?_)
  ·exact ⟨s, (Zv _), hS, Z, Z, Z, Z⟩
  ·intro n bf ae aW bk a1 au c a5
   obtain ⟨ac, y, j, z, aa, ab, p⟩ := au
   refine Zc (Zd (O Z Z (Zq Z p ab (Zb (V (Zc (QK (Zx (decide_eq_true (by omega))) (Qp (V (Zc (Qm (Zc (Zd (O Z Z (Zm (v := U ((n : Int))) Z p ?_)))))))))))))))
   obtain ⟨q, aF, c⟩ := Zg c
   refine O Z Z (Qu Jt Z aa p (u.mono y) aF ?_)
   intro aN bb aq
   refine O Z Z (Zw (E := (Qa .i64)) j A3 Z Z Z aq ?_)
   intro bi aG
   obtain rfl := Qs.1 aG
   refine O Z Z (Zo (v := U ((n : Int))) Z Z (O Z Z (Zo (v := U q) Z Z (Zb (V (Zc ?_))))))
   obtain ⟨t, d, c⟩ := Zg c
   refine QJ (M := fun f' w' => (fun (t : Bool) => ∃ (ao : PHeap) , PHeap.le ac ao ∧ St w0 ao (Res.arr (Qa .i64) 3 b i :: H) w' ∧ f' 0 = b ∧ f' 12 = g ∧ f' 13 = U ((o.length : Int)) ∧ f' 14 = U ((n : Int)) ∧ f' 28 = Vb t) t) ?_ ?_
   ·refine Zd (O Z Z (Zm (v := U q) Z Z (O Z Z (Zq Z Z Z (O Z Z (Zm (v := Vb (decide (q < 0))) Z Z ?_))))))
    rcases Qg d with ⟨a, d⟩ | ⟨a, d⟩
    ·refine Q0 7 (by rw [a]; rfl) ?_
     refine Zb (V ?_)
     have aQ := Zu d
     subst t
     exact ⟨ac, (Zv _), j, z, aa, ab, p, Z⟩
    replace a := Zk a
    refine Qo Z (Zf Z (Zx a)) Z (Zm (v := U q) Z Z (Qo Z (Zf Z (Zx a)) Z (Zm (v := b) Z z (Qo Z (Zf Z (Zx a)) Z (Zm (v := U ((n : Int))) Z Z ?_)))))
    obtain ⟨aK, x, d⟩ := Zg d
    obtain ⟨ba, aO, af⟩ := j.arr_at x
    refine Qo Z (Zf Z (Zx a)) Z (Qc Jt Z af Z (Qe x).1 (Qe x).2.1 (Qo Z (Zf Z (Zx a)) Z (Qt (F := (Qa .i64)) (j) af A3 Z Z Z x (Sub.refl _) ?_)))
    intro bj aH
    obtain rfl := Qs.1 aH
    refine Qo Z (Zf Z (Zx a)) Z (Exec.geq Z Z Z (O Z Z (Q5 (v := Vb (decide (aK ≤ q))) Z (Zx a) Z (Zb (V ?_)))))
    have aR := Zu d
    subst t
    exact ⟨ac, (Zv _), j, z, aa, ab, p, Z⟩
   intro aX bl aw
   obtain ⟨ap, ai, ag, a9, aA, aB, aC, aj⟩ := aw
   refine (V ?_)
   rcases Qg c with ⟨m, c⟩ | ⟨m, c⟩
   ·refine Qv aj m (Zc (Zd (O Z Z (Zo (v := Vb false) Z Z (Zb (V (Q1 (QD (Qj (Qj (QD (Qj (Qj ?_)))))))))))))
    have aS := Zu c
    subst ae
    have a3 := a4 _ (a5 (by intro _ h; cases h))
    have aT := Zu a3
    subst r
    refine ⟨_, QX Z, ?_⟩
    exact ⟨ap, (Zt y ai), ag, Z⟩
   refine Qw aj m ?_
   replace m := Zk m
   refine Qp (Qz (V (Zd (O Z Z (Exec.add Z aC Z (O Z Z (Zm (v := U (IntKind.i64.wrap ((n : Int) + 1))) Z Z (Zb (V ?_)))))))))
   have aU := Zu c
   subst ae
   refine ⟨_, Z, ?_⟩; exact ⟨ap, (Zt y ai), ag, a9, aA, aB, (Eq.trans Z (QB a1 (SliceRep.le u)))⟩
  intro bg aY bm av a6
  obtain ⟨aI, a7, ay, aD, aE, ak, aL⟩ := av
  refine Zc (Zd (O Z Z (Zq Z aL ak (Zb (V (Zc (QA (Zx (decide_eq_false (by omega))) (QF (Ql (Ql (Q7 (V ?_))))))))))))
  refine ⟨_, .inl a6, ?_⟩; exact ⟨aI, a7, ay, aD, aE, ak⟩
 rintro aZ bn ⟨bh, ah, ax⟩
 have hm := ah.elim (a2 _) (a0 _)
 clear ah
 obtain ⟨aJ, a8, az, bc, bd, be⟩ := ax
 refine (V (Zc (Zd (O Z Z (Zo (v := Vb true) Z Z (Zb (V (Q1 ?_))))))))
 have aV := Zu hm
 subst r
 refine ⟨_, QX Z, ?_⟩
 exact ⟨aJ, a8, az, Z⟩
theorem QnW : Jk Tryz.prog 87 0 = some 0 := by kernel_rfl
theorem N19 : (Tryz.f19.name == "runtime.NumGoroutine") = false := by kernel_rfl
theorem Kb {w0 w : World} {s : PHeap} {H : List Res} {a : mergeshrink_Abstraction} {aw : (List Int)} {b : Nat} {g : Value} {c : Value} {u : Value} {j : Value} {r : Int} (hm : QL a aw = some r) (hS : St w0 s (Res.box b 74 [g, c, u, Value.bool (a.exact)] :: Res.arr (Qa .i64) 3 g a.vars :: Res.arr encmergeshrink_stage 87 c a.stages :: H) w) (az : SliceRep (Qa .i64) s u a.distance) (ak : SliceRep (Qa .i64) s j aw) :
  Calls Tryz.prog 19 #[Value.pointer (some ⟨b, 0, none⟩), j] w fun e w' => ∃ v, e = .returned v ∧ ((fun (bz : Int) => ∃ (ar : PHeap) , PHeap.le s ar ∧ St w0 ar (Res.box b 74 [g, c, u, Value.bool (a.exact)] :: Res.arr (Qa .i64) 3 g a.vars :: Res.arr encmergeshrink_stage 87 c a.stages :: H) w' ∧ v = U bz) r) := by
 unfold QL at hm
 refine Qy Tryz.func19 Z Z (Zc (Zd (O Z Z (Zo (v := U 0) Z Z (Zb (V (Zc (Zc (Zd (O Z Z (Zm (v := Vp (some ⟨b, 0, none⟩)) Z Z (O Z Z (YE Tryz.underlying30 Z Z Z (O Z Z (Zm (v := Vb false) Z Z (Qo Z (Zf Z Z) Z (Zm (v := Vp (some ⟨b, 0, none⟩)) Z Z (Qo Z (Zf Z Z) Z (QH Z Z (Qo Z (Zf Z Z) Z (Zp QnX Z Z Z (Qo Z (Zf Z Z) Z (Zn (hS) A22 Z Z Z (Qo Z (Zf Z Z) Z (Zm (v := j) Z Z ?_)))))))))))))))))))))))))
 obtain ⟨b0, bi, hm⟩ := Zg hm
 have a8 := hS.f1
 refine Qo Z (Zf Z Z) Z (Exec.call Z Z Tryz.func42 Z N42 (Zi Z (Zi Z Qk)) ((Qez bi a8 ak).mono ?_))
 rintro _ bU ⟨_, rfl, ⟨ai, ab, n, rfl⟩⟩
 refine ⟨_, Z, ?_⟩
 refine Qo Z (Zf Z Z) Z (Exec.not Z Z (O Z Z (Q5 (v := Vb (!b0)) Z Z Z (Zb (V ?_)))))
 rcases Qg hm with ⟨o, hm⟩ | ⟨o, hm⟩
 ·refine Qv Z o (Zc (Zd (O Z Z (Zo (v := U 1125899906842624) Z Z (Zb (V (Q1 (Qj ?_))))))))
  have b7 := Zu hm
  subst r
  refine ⟨_, QX Z, ?_⟩
  have a9 := n.f2
  have aA := a9.f1
  have aB := aA.f2
  exact ⟨ai, ab, aB, Z⟩
 refine Qw Z o ?_
 replace o := Zk o
 refine Qp (V (Zc (Zd (O Z Z (Zo (v := U 0) Z Z (Zb (V (Zc (Zc (Zd (O Z Z (Zm (v := Vp (some ⟨b, 0, none⟩)) Z Z (O Z Z (QH Z Z (O Z Z (Zp Qf8 Z Z Z (O Z Z (Zn (n.f1) A72 Z Z Z (O Z Z (QQ (n.f2) S72 Z Z (O Z Z (Zm (v := U 0) Z Z (Zb (V ?_))))))))))))))))))))))))
 obtain ⟨l, a4, hm⟩ := Zg hm
 refine Qm (J3 (fun k' s' f' w' => (fun (l : Int) => ∃ (au : PHeap) , PHeap.le ai au ∧ St w0 au (Res.box b 74 [g, c, u, Vb (a.exact)] :: Res.arr (Qa .i64) 3 g a.vars :: Res.arr encmergeshrink_stage 87 c a.stages :: H) w' ∧ f' 0 = Vp (some ⟨b, 0, none⟩) ∧ f' 1 = j ∧ f' 5 = U l ∧ f' 23 = c ∧ f' 24 = U ((a.stages.length : Int)) ∧ f' 25 = U (k' : Int)) s') a4 ?_ ?_ ?_)
 ·have aC := n.f2
  have aD := aC.f1
  have aE := aD.f2
  exact ⟨ai, (Zv _), aE, Z, Z, Z, Z, Z, Z⟩
 ·intro t l bs bF bV aW a5 d
  obtain ⟨aj, am, ad, ao, af, aY, ag, ah, x⟩ := a5
  refine Zc (Zd (O Z Z (Zq Z x ah (Zb (V (Zc (QK (Zx (decide_eq_true (by omega))) (Qp (V (Zc (Qm (Zc (Zd (O Z Z (Zm (v := U ((t : Int))) Z x ?_)))))))))))))))
  obtain ⟨y, ac, d⟩ := Zg d
  obtain ⟨bI, b6, al⟩ := (ad.f2).arr_at ac
  refine O Z Z (Qc S72 Z (Eq.trans ag al) x (Qe ac).1 (Qe ac).2.1 (O Z Z (Qt (F := encmergeshrink_stage) (ad.f2) al A87 Z Z Z ac (Sub.refl _) ?_)))
  intro bP bj
  obtain ⟨ax, ay, rfl, ap, aq⟩ := Qcd.1 bj
  refine O Z Z (Exec.alloc (cs := [U 0, Vs none 0 0, Vs none 0 0, U 0]) ad Z87 Z Z ?_)
  intro b1 bW aF
  refine O Z Z (Zo (v := U ((t : Int))) Z Z (O Z Z (Qf (ds := [U (y.variable_), ax, ay, U (y.states)]) (es := [U (y.variable_), ax, ay, U (y.states)]) aF A87 Z Z Z Z (Zj Z (Zj ap.one (Zj aq.one (Zj Z Q6)))) (Nat.le_of_ble_eq_true Z) Z ?_)))
  intro bX aG
  refine Zb (V (Zc (K3 (n0 := 9) (.q 0 (.q 1 (.q 2 (.q 3 (.q 4 (.q 5 (.q 6 (.q 7 (.q 8 .done))))))))) K8 (by kernel_rfl) (by kernel_rfl) ?_)))
  have i := aG.drew
  refine Qh Z Z (Zp Qld Z Z Z ⟨Z, ?_⟩)
  refine Qh Z Z (Zn (i) A22 Z Z Z ⟨Z, ?_⟩)
  refine Qh Z Z (Zm (v := j) Z af ⟨Z, ?_⟩)
  refine Qh Z Z (Zp QnW Z Z Z ⟨Z, ?_⟩)
  refine Qh Z Z (Zn (i) A3 Z Z Z ⟨Z, ?_⟩)
  obtain ⟨ca, bk, d⟩ := Zg d
  refine Qh Z Z (QP Jt Z Z Z (ak.mono (Zt ab am)) bk ?_)
  intro b2 bJ a0 b8
  refine ⟨Z, ?_⟩
  refine Qh Z Z (Zw (E := (Qa .i64)) i A3 Z Z Z a0 ?_)
  intro bQ bl
  obtain rfl := Qs.1 bl
  refine ⟨Z, ?_⟩
  obtain ⟨z, bm, d⟩ := Zg d
  refine Qh Z Z (QP Jt Z Z Z ap bm ?_)
  intro b3 bK a1 b9
  refine ⟨Z, ?_⟩
  refine Qh Z Z (Zw (E := (Qa .i64)) i A3 Z Z Z a1 ?_)
  intro bR bn
  obtain rfl := Qs.1 bn
  refine ⟨Z, ?_⟩
  refine QC (O Z Z (Zo (v := U z) Z Z (Zb (V (Zc (Zd (O Z Z (Zm (v := U ((t : Int))) Z Z (O Z Z (Exec.eql Z Z Z (Zb (V ?_))))))))))))
  obtain ⟨m, h, d⟩ := Zg d
  refine QJ (M := fun f' w' => (fun (m : Int) => ∃ (av : PHeap) , PHeap.le aj av ∧ St w0 av (Res.box b 74 [g, c, u, Vb (a.exact)] :: Res.arr (Qa .i64) 3 g a.vars :: Res.arr encmergeshrink_stage 87 c a.stages :: H) w' ∧ f' 0 = Vp (some ⟨b, 0, none⟩) ∧ f' 1 = j ∧ f' 5 = U m ∧ f' 23 = c ∧ f' 24 = U ((a.stages.length : Int)) ∧ f' 25 = U ((t : Int))) m) ?_ ?_
  ·rcases Qg h with ⟨p, h⟩ | ⟨p, h⟩
   ·refine Qv Z p (Zd (O Z Z (Zm (v := U z) Z Z (O Z Z (Zo (v := U z) Z Z (Zb (V ?_)))))))
    have bA := Zu h
    subst m
    have aH := i.drop
    have aI := aH.f2
    have aJ := aI.f2
    have aK := aJ.f2
    exact ⟨aj, (Zv _), aK, ao, af, Z, ag, ah, x⟩
   refine Qw Z p ?_
   replace p := Zk p
   refine K3 (n0 := 10) (.q 0 (.q 1 (.q 2 (.q 3 (.q 4 (.q 5 (.q 6 (.q 7 (.q 8 (.q 9 .done)))))))))) K8 (by kernel_rfl) (by kernel_rfl) ?_
   have aa := i.drew
   refine Qh Z Z (Zp Qna Z Z Z ⟨Z, ?_⟩)
   refine Qh Z Z (Zn (aa) A22 Z Z Z ⟨Z, ?_⟩)
   refine Qh Z Z (Zm (v := U l) Z aY ⟨Z, ?_⟩)
   obtain ⟨bv, bo, h⟩ := Zg h
   refine Qh Z Z (QP Jt Z Z Z aq bo ?_)
   intro b4 bL a2 bB
   refine ⟨Z, ?_⟩
   refine Qh Z Z (Zw (E := (Qa .i64)) aa A3 Z Z Z a2 ?_)
   intro bS bp
   obtain rfl := Qs.1 bp
   refine ⟨Z, ?_⟩
   refine Qh Z Z (Zp Qlc Z Z Z ⟨Z, ?_⟩)
   refine Qh Z Z (Zn (aa) A3 Z Z Z ⟨Z, ?_⟩)
   refine Qh Z Z (Exec.mul Z Z Z ⟨Z, ?_⟩)
   refine Qh Z Z (Zm (v := U z) Z Z ⟨Z, ?_⟩)
   refine Qh Z Z (Exec.add Z Z Z ⟨Z, ?_⟩)
   refine QC (O Z Z (Zo (v := U (IntKind.i64.wrap ((IntKind.i64.wrap (bv * y.states)) + z))) Z Z (Zb (V ?_))))
   have bC := Zu h
   subst m
   have aL := aa.drop
   have aM := aL.f2
   have aN := aM.f2
   have aO := aN.f2
   exact ⟨aj, (Zv _), aO, ao, af, Z, ag, ah, x⟩
  intro bG bY a7
  obtain ⟨bt, aX, aP, aZ, ba, bb, bc, bd, be⟩ := a7
  refine (Qz (V (Zd (O Z Z (Exec.add Z be Z (O Z Z (Zm (v := U (IntKind.i64.wrap ((t : Int) + 1))) Z Z (Zb (V ?_)))))))))
  have bD := Zu d
  subst bs
  have aQ := aP.f2
  have aR := aQ.f2
  have aS := aR.f2
  exact ⟨bt, (Zt am aX), aS, aZ, ba, bb, bc, bd, (Eq.trans Z (QB aW (n.f2).arr_le))⟩
 intro bH bZ a6
 obtain ⟨bu, an, ae, bf, bN, bg, bO, bh, bw⟩ := a6
 refine Zc (Zd (O Z Z (Zq Z bw bh (Zb (V (Zc (QA (Zx (decide_eq_false (by omega))) (QF (Ql (Ql (Q7 (V (Zc (Zd (O Z Z (Zm (v := Vp (some ⟨b, 0, none⟩)) Z bf (O Z Z (QH Z Z (O Z Z (Zp Qle Z Z Z (O Z Z (Zn (ae) A22 Z Z Z (O Z Z (Zm (v := U l) Z bg ?_))))))))))))))))))))))))
 obtain ⟨bx, bq, hm⟩ := Zg hm
 refine O Z Z (Qu Jt Z Z Z (az.mono (Zt ab an)) bq ?_)
 intro b5 bM a3
 refine O Z Z (Zw (E := (Qa .i64)) ae A3 Z Z Z a3 ?_)
 intro bT br
 obtain rfl := Qs.1 br
 refine O Z Z (Zo (v := U bx) Z Z (Zb (V (Q1 ?_))))
 have bE := Zu hm
 subst r
 refine ⟨_, QX Z, ?_⟩
 have aT := ae.f2
 have aU := aT.f2
 have aV := aU.f2
 exact ⟨bu, (Zt ab an), aV, Z⟩
theorem N15 : (Tryz.f15.name == "runtime.NumGoroutine") = false := by kernel_rfl
theorem KR {w0 w : World} {s : PHeap} {H : List Res} {a : mergeshrink_Abstraction} {b : Nat} {c : Value} {d : Value} {f : Value} {r : Int} (hm : J0 a = some r) (hS : St w0 s (Res.box b 74 [c, d, f, Value.bool (a.exact)] :: Res.arr (Qa .i64) 3 c a.vars :: Res.arr encmergeshrink_stage 87 d a.stages :: H) w) (h : SliceRep (Qa .i64) s f a.distance) :
  Calls Tryz.prog 15 #[Value.pointer (some ⟨b, 0, none⟩)] w fun e w' => ∃ v, e = .returned v ∧ ((fun (l : Int) => ∃ (g : PHeap) , PHeap.le s g ∧ St w0 g (Res.box b 74 [c, d, f, Value.bool (a.exact)] :: Res.arr (Qa .i64) 3 c a.vars :: Res.arr encmergeshrink_stage 87 d a.stages :: H) w' ∧ v = U l) r) := by
 unfold J0 at hm
 refine Qy Tryz.func15 Z Z (Zc (Zd (O Z Z (Zo (v := U 0) Z Z (Zb (V (Zc (Zc (Zd (O Z Z (Zm (v := Vp (some ⟨b, 0, none⟩)) Z Z (O Z Z (YE Tryz.underlying30 Z Z Z (Zb (V (QA Z (Qp (V (Zc (Zd (O Z Z (Zm (v := Vp (some ⟨b, 0, none⟩)) Z Z (O Z Z (QH Z Z (O Z Z (Zp Qle Z Z Z (O Z Z (Zn (hS) A22 Z Z Z (O Z Z (Zr Jt Z Z h (O Z Z (Zo (v := U ((a.distance.length : Int))) Z Z (Zb (V (Q1 ?_)))))))))))))))))))))))))))))))))))
 have m := Zu hm
 subst r
 refine ⟨_, QX Z, ?_⟩
 have i := hS.f2
 have j := i.f2
 have k := j.f2
 exact ⟨s, (Zv _), k, Z⟩
theorem N16 : (Tryz.f16.name == "runtime.NumGoroutine") = false := by kernel_rfl
theorem KG {w0 w : World} {s : PHeap} {H : List Res} {a : mergeshrink_Abstraction} {b : Nat} {c : Value} {d : Value} {f : Value} {r : Bool} (hm : Js a = some r) (hS : St w0 s (Res.box b 74 [c, d, f, Value.bool (a.exact)] :: Res.arr (Qa .i64) 3 c a.vars :: Res.arr encmergeshrink_stage 87 d a.stages :: H) w) (l : SliceRep (Qa .i64) s f a.distance) :
  Calls Tryz.prog 16 #[Value.pointer (some ⟨b, 0, none⟩)] w fun e w' => ∃ v, e = .returned v ∧ ((fun (k : Bool) => ∃ (g : PHeap) , PHeap.le s g ∧ St w0 g (Res.box b 74 [c, d, f, Value.bool (a.exact)] :: Res.arr (Qa .i64) 3 c a.vars :: Res.arr encmergeshrink_stage 87 d a.stages :: H) w' ∧ v = Value.bool (k)) r) := by
 unfold Js at hm
 refine Qy Tryz.func16 Z Z (Zc (Zd (O Z Z (Zo (v := Vb false) Z Z (Zb (V (Zc (Zd (O Z Z (Zm (v := Vp (some ⟨b, 0, none⟩)) Z Z (O Z Z (QeT Tryz.underlying30 Z Z Z (O Z Z (Zm (v := Vb true) Z Z (Qo Z (Zf Z Z) Z (Zm (v := Vp (some ⟨b, 0, none⟩)) Z Z (Qo Z (Zf Z Z) Z (QH Z Z (Qo Z (Zf Z Z) Z (Zp QjH Z Z Z (Qo Z (Zf Z Z) Z (Zn (hS) A4 Z Z Z (Q0 2 Z (Zb (V (Q1 ?_))))))))))))))))))))))))))
 have m := Zu hm
 subst r
 refine ⟨_, QX Z, ?_⟩
 have h := hS.f2
 have i := h.f2
 have j := i.f2
 exact ⟨s, (Zv _), j, Z⟩
theorem N10 : (Tryz.f10.name == "runtime.NumGoroutine") = false := by kernel_rfl
end Go.Pw
