/-
  The walks (printed by my generator).
-/
import Derived.Test.YtkfcbmecmdpilaaL29
import Derived.Test.YtkfcbmecmdpilaaL27
import Derived.Test.YtkfcbmecmdpilaaSx6
set_option maxRecDepth 100000
set_option maxHeartbeats 4000000
set_option linter.unusedVariables false
namespace Go.Pw
open Go.Proofs
theorem law19_states_sim {w0 w : World} {s : PHeap} {H : List Res} {n : Ground} {i : Value} {j : Value} {k : Value} {l : Value} {m : Value} {r : Int} (hm : law19_states_p n = some r) (hS : St w0 s (H) w) (a4 : SliceRep encAtom s i n.Atoms) (ad : SliceRep encGFluent s j n.Fluents) (ba : SliceRep (encInt .i64) s k n.Init) (bb : SliceRep encCond s l n.Goal) (bc : SliceRep encGOp s m n.Ops) :
  Calls Try.prog 17 #[Value.agg #[i, j, k, l, m]] w fun e w' => ∃ v, e = .returned v ∧ ((fun (aZ : Int) => ∃ (ax : PHeap) , PHeap.le s ax ∧ St w0 ax (H) w' ∧ v = Vi (aZ)) r) := by
 unfold law19_states_p at hm
 refine calls_of_W Try.func17 rfl rfl (Zc (Zd (Za rfl rfl (Exec.box (cs := [i, j, k, l, m]) hS rfl rfl rfl ?_))))
 intro b bx aD
 refine Za rfl rfl (Zo (v := Vi (0)) rfl rfl (Zb (Ze (Zc (Zd (Za rfl rfl (Zo (v := Vi (1)) rfl rfl (Zb (Ze (Zc (Zc (Zd (Za rfl rfl (Zo (v := Vi (0)) rfl rfl (Zb (Ze ?_))))))))))))))))
 obtain ⟨aj, a7, bq, aI, aG⟩ := ctl_some hm
 refine W_mid (M := fun f' w' => ∃ s', (aj = .next s' ∨ aj = .brk s') ∧ (un2 fun (ar : Int) (ap : Int) => ∃ (ay : PHeap) , PHeap.le s ay ∧ St w0 ay (Res.box b 28 [i, j, k, l, m] :: H) w' ∧ f' 1 = Value.pointer (some ⟨b, 0, none⟩) ∧ f' 3 = Vi (ar) ∧ f' 4 = Vi (ap)) s') ?_ ?_
 ·refine W_block (W_while (fun s' f' w' => (un2 fun (z : Int) (q : Int) => ∃ (az : PHeap) , PHeap.le s az ∧ St w0 az (Res.box b 28 [i, j, k, l, m] :: H) w' ∧ f' 1 = Value.pointer (some ⟨b, 0, none⟩) ∧ f' 3 = Vi (z) ∧ f' 4 = Vi (q)) s') a7 ?_ ?_)
  ·exact ⟨s, (Zv _), aD, rfl, rfl, rfl⟩
  intro aT ak bm bz a9 d aK
  obtain ⟨z, q⟩ := aT
  replace d := un2_eq d
  obtain ⟨a0, af, ae, ag, au, ah⟩ := a9
  refine Zc (Zc (Zd (Za rfl rfl (Zm (v := Vi (q)) rfl ah (Za rfl rfl (Zp F28_0 rfl ag rfl (Za rfl rfl (Zn (ae) A22 rfl rfl rfl (Za rfl rfl (Zr S22 rfl rfl (a4.mono af) (Za rfl rfl (Zq rfl rfl rfl (Zb (Ze ?_))))))))))))))
  rcases ite_some d with ⟨o, d⟩ | ⟨o, d⟩
  ·refine W_cond_t rfl o (W_skip (Ze (Zc (W_block (Zd (Za rfl rfl (Zm (v := Vi (z)) rfl au (Za rfl rfl (Exec.mul rfl rfl rfl (Za rfl rfl (Exec.min2 rfl rfl rfl (Za rfl rfl (Zo (v := Vi (min (IntKind.i64.wrap (2 * z)) 2000)) rfl rfl (Zb (ib_normal (Ze (Zd (Za rfl rfl (Zm (v := Vi (q)) rfl ah (Za rfl rfl (Exec.add rfl rfl rfl (Za rfl rfl (Zo (v := Vi (IntKind.i64.wrap (q + 1))) rfl rfl (Zb (Ze ?_)))))))))))))))))))))))))
   have bf := Zu d
   subst ak
   refine ⟨_, rfl, ?_⟩; exact ⟨a0, af, ae, ag, rfl, rfl⟩
  refine W_cond_f rfl o ?_
  replace o := Zk o
  refine W_exit (at_exit (at_exit (ib_here (Ze ?_))))
  have bg := Zu d
  subst ak
  refine ⟨_, .inr (aK (by intro _ h; cases h)), ?_⟩; exact ⟨a0, af, ae, ag, au, ah⟩
 rintro bn b0 ⟨aU, an, aB⟩
 have hm := an.elim (aI _) (aG _)
 clear an
 obtain ⟨ar, ap⟩ := aU
 replace hm := un2_eq hm
 obtain ⟨ai, y, aE, aN, aO, bu⟩ := aB
 refine (Ze (Zc (Zc (Zd (Za rfl rfl (Zo (v := Vi (0)) rfl rfl (Zb (Ze ?_))))))))
 obtain ⟨al, a8, br, aJ, aH⟩ := ctl_some hm
 refine W_mid (M := fun f' w' => ∃ s', (al = .next s' ∨ al = .brk s') ∧ (un2 fun (aa : Int) (aq : Int) => ∃ (a1 : PHeap) , PHeap.le ai a1 ∧ St w0 a1 (Res.box b 28 [i, j, k, l, m] :: H) w' ∧ f' 1 = Value.pointer (some ⟨b, 0, none⟩) ∧ f' 3 = Vi (aa) ∧ f' 5 = Vi (aq)) s') ?_ ?_
 ·refine W_block (W_while (fun s' f' w' => (un2 fun (ab : Int) (g : Int) => ∃ (a2 : PHeap) , PHeap.le ai a2 ∧ St w0 a2 (Res.box b 28 [i, j, k, l, m] :: H) w' ∧ f' 1 = Value.pointer (some ⟨b, 0, none⟩) ∧ f' 3 = Vi (ab) ∧ f' 5 = Vi (g)) s') a8 ?_ ?_)
  ·exact ⟨ai, (Zv _), aE, aN, aO, rfl⟩
  intro aV am bo b1 aA a aL
  obtain ⟨ab, g⟩ := aV
  replace a := un2_eq a
  obtain ⟨a3, t, c, u, av, x⟩ := aA
  refine Zc (Zc (Zd (Za rfl rfl (Zm (v := Vi (g)) rfl x (Za rfl rfl (Zp F28_1 rfl u rfl (Za rfl rfl (Zn (c) A23 rfl rfl rfl (Za rfl rfl (Zr S23 rfl rfl (ad.mono (Zt y t)) (Za rfl rfl (Zq rfl rfl rfl (Zb (Ze ?_))))))))))))))
  rcases ite_some a with ⟨p, a⟩ | ⟨p, a⟩
  ·refine W_cond_t rfl p (W_skip (Ze (Zc (W_block (W_dl (n0 := 17) (qs 0 17 .done) hmix (by kernel_rfl) (by kernel_rfl) (DL_q rfl rfl (Zm (v := Vi (ab)) rfl av ⟨rfl, ?_⟩)))))))
   refine DL_q rfl rfl (Zp F28_1 rfl u rfl ⟨rfl, ?_⟩)
   refine DL_q rfl rfl (Zn (c.drew) A23 rfl rfl rfl ⟨rfl, ?_⟩)
   refine DL_q rfl rfl (Zm (v := Vi (g)) rfl x ⟨rfl, ?_⟩)
   obtain ⟨ac, aw, a⟩ := Zg a
   refine DL_q rfl rfl (Exec.index_repE S23 rfl rfl rfl (ad.mono (Zt y t)) aw ?_)
   intro bd bs a5 bh
   refine ⟨rfl, ?_⟩
   refine DL_q rfl rfl (Zp F93_2 rfl rfl rfl ⟨rfl, ?_⟩)
   refine DL_q rfl rfl (Zw (E := (encInt .i64)) c.drew A3 rfl rfl rfl (a5.sub (Sub.iso (Sub.snd (Sub.snd (Sub.fst (Sub.refl _)) rfl) rfl)) rfl) ?_)
   intro aX aQ
   obtain rfl : aX = Vi (ac.Hi) := encInt_val.1 aQ
   refine ⟨rfl, ?_⟩
   refine DL_q rfl rfl (Zp F28_1 rfl u rfl ⟨rfl, ?_⟩)
   refine DL_q rfl rfl (Zn (c.drew) A23 rfl rfl rfl ⟨rfl, ?_⟩)
   refine DL_q rfl rfl (Zm (v := Vi (g)) rfl x ⟨rfl, ?_⟩)
   refine DL_q rfl rfl (Exec.index_repE S23 rfl rfl rfl (ad.mono (Zt y t)) aw ?_)
   intro be bt a6 bi
   refine ⟨rfl, ?_⟩
   refine DL_q rfl rfl (Zp F93_1 rfl rfl rfl ⟨rfl, ?_⟩)
   refine DL_q rfl rfl (Zw (E := (encInt .i64)) c.drew A3 rfl rfl rfl (a6.sub (Sub.iso (Sub.snd (Sub.fst (Sub.refl _)) rfl)) rfl) ?_)
   intro aY aR
   obtain rfl : aY = Vi (ac.Lo) := encInt_val.1 aR
   refine ⟨rfl, ?_⟩
   refine DL_q rfl rfl (Exec.sub rfl rfl rfl ⟨rfl, ?_⟩)
   refine DL_q rfl rfl (Exec.add rfl rfl rfl ⟨rfl, ?_⟩)
   refine DL_q rfl rfl (Exec.mul rfl rfl rfl ⟨rfl, ?_⟩)
   refine DL_q rfl rfl (Exec.min2 rfl rfl rfl ⟨rfl, ?_⟩)
   refine DL_done (Za rfl rfl (Zo (v := Vi (min (IntKind.i64.wrap (ab * (IntKind.i64.wrap ((IntKind.i64.wrap (ac.Hi - ac.Lo)) + 1)))) 2000)) rfl rfl (Zb (ib_normal (Ze (Zd (Za rfl rfl (Zm (v := Vi (g)) rfl x (Za rfl rfl (Exec.add rfl rfl rfl (Za rfl rfl (Zo (v := Vi (IntKind.i64.wrap (g + 1))) rfl rfl (Zb (Ze ?_))))))))))))))
   have bj := Zu a
   subst am
   refine ⟨_, rfl, ?_⟩; exact ⟨a3, t, c.drew, u, rfl, rfl⟩
  refine W_cond_f rfl p ?_
  replace p := Zk p
  refine W_exit (at_exit (at_exit (ib_here (Ze ?_))))
  have bk := Zu a
  subst am
  refine ⟨_, .inr (aL (by intro _ h; cases h)), ?_⟩; exact ⟨a3, t, c, u, av, x⟩
 rintro bp b2 ⟨aW, ao, aC⟩
 have hm := ao.elim (aJ _) (aH _)
 clear ao
 obtain ⟨aa, aq⟩ := aW
 replace hm := un2_eq hm
 obtain ⟨aS, aM, aF, bv, aP, bw⟩ := aC
 refine (Ze (Zc (Zd (Za rfl rfl (Zm (v := Vi (aa)) rfl aP (Za rfl rfl (Zo (v := Vi (aa)) rfl rfl (Zb (Ze (W_ret ?_))))))))))
 have bl := Zu hm
 subst r
 refine ⟨_, ret1 rfl, ?_⟩
 exact ⟨aS, (Zt y aM), (aF).drop, rfl⟩
theorem Z69 : tyZero Try.prog 69 = some (Value.agg #[Value.slice none 0 0, Value.slice none 0 0]) := by kernel_rfl
theorem A69 : tyAgg Try.prog 69 = some (true, 2) := by kernel_rfl
theorem F69_1 : tyField Try.prog 69 1 = some 1 := by kernel_rfl
theorem ref18_Initial_sim {w0 w : World} {s : PHeap} {H : List Res} {d : Ground} {m : Value} {n : Value} {o : Value} {p : Value} {q : Value} {r : GState} (hm : ref18_Initial_p d = some r) (hS : St w0 s (H) w) (aY : SliceRep encAtom s m d.Atoms) (ah : SliceRep encGFluent s n d.Fluents) (a5 : SliceRep (encInt .i64) s o d.Init) (aZ : SliceRep encCond s p d.Goal) (ba : SliceRep encGOp s q d.Ops) :
  Calls Try.prog 61 #[Value.agg #[m, n, o, p, q]] w fun e w' => ∃ v, e = .returned v ∧ ((fun (a2 : GState) => ∃ (ad : PHeap) (a0 : Value) (a1 : Value), PHeap.le s ad ∧ St w0 ad (H) w' ∧ v = Value.agg #[a0, a1] ∧ SliceRep (encInt .i64) ad a0 a2.True ∧ SliceRep (encInt .i64) ad a1 a2.Values) r) := by
 unfold ref18_Initial_p at hm
 refine calls_of_W Try.func61 rfl rfl (Zc (Zd (Za rfl rfl (Exec.box (cs := [m, n, o, p, q]) hS rfl rfl rfl ?_))))
 intro u br aA
 refine Za rfl rfl (Exec.alloc (cs := [Value.slice none 0 0, Value.slice none 0 0]) aA Z69 rfl rfl ?_)
 intro x bs aB
 refine Zb (Ze (Zc (Zd (Za rfl rfl (Exec.buildSlice (Te := 3) (cs := []) aB rfl parts_nil (fun _ => by kernel_rfl) ?_)))))
 intro bb bt ak
 refine Za rfl rfl (Zp F28_2 rfl rfl rfl (Za rfl rfl (Zn ((ak).f2) A24 rfl rfl rfl ?_)))
 have aC := St.boxArr (E := (encInt .i64)) (xs := []) ak rfl (by simp [maxLen])
 obtain ⟨ar, aO, hm⟩ := Zg hm
 refine Za rfl rfl (Exec.append_rep (E := (encInt .i64)) (ys := d.Init) aC S24 Z3 rfl (by decide) rfl rfl rfl a5 aO ?_)
 intro a bu al
 refine Za rfl rfl (Exec.build rfl (parts_cons (c := [a]) (cells_of rfl (cells_one (al).arr_one)) parts_nil) (v := Value.agg #[a, Value.slice none 0 0]) (fun _ => by kernel_rfl) (Za rfl rfl (Exec.alloc (cs := [Value.slice none 0 0, Value.slice none 0 0]) al Z69 rfl rfl ?_)))
 intro y bv am
 refine Za rfl rfl (Exec.store_box (ds := [a, Value.slice none 0 0]) (es := [a, Value.slice none 0 0]) am A69 rfl rfl rfl rfl (Zj ((am).f1).arr_one (Zj rfl one_nil)) (Nat.le_of_ble_eq_true rfl) rfl ?_)
 intro bw aD
 refine Zb (Ze (Zc (Zc (Zd (Za rfl rfl (Zo (v := Vi (0)) rfl rfl (Zb (Ze ?_))))))))
 obtain ⟨ai, a7, bk, aJ, aI⟩ := ctl_some hm
 refine W_mid (M := fun f' w' => ∃ s', (ai = .next s' ∨ ai = .brk s') ∧ (un2 fun (aq : Int) (a3 : (List Int)) => ∃ (ax : PHeap) (g : Value), PHeap.le s ax ∧ St w0 ax (Res.box u 28 [m, n, o, p, q] :: Res.box x 69 [Value.slice none 0 0, Value.slice none 0 0] :: Res.box y 69 [a, g] :: Res.arr (encInt .i64) 3 a ar :: Res.arr (encInt .i64) 3 g a3 :: H) w' ∧ f' 1 = Value.pointer (some ⟨u, 0, none⟩) ∧ f' 2 = Value.pointer (some ⟨x, 0, none⟩) ∧ f' 3 = Value.pointer (some ⟨y, 0, none⟩) ∧ f' 4 = Vi (aq)) s') ?_ ?_
 ·refine W_block (W_while (fun s' f' w' => (un2 fun (j : Int) (a4 : (List Int)) => ∃ (ay : PHeap) (ae : Value), PHeap.le s ay ∧ St w0 ay (Res.box u 28 [m, n, o, p, q] :: Res.box x 69 [Value.slice none 0 0, Value.slice none 0 0] :: Res.box y 69 [a, ae] :: Res.arr (encInt .i64) 3 a ar :: Res.arr (encInt .i64) 3 ae a4 :: H) w' ∧ f' 1 = Value.pointer (some ⟨u, 0, none⟩) ∧ f' 2 = Value.pointer (some ⟨x, 0, none⟩) ∧ f' 3 = Value.pointer (some ⟨y, 0, none⟩) ∧ f' 4 = Vi (j)) s') a7 ?_ ?_)
  ·have aE := aD.nilArr (encInt .i64) 3
   exact ⟨s, (Value.slice none 0 0), (Zv _), ((((aE).f2).f2).f3).f4, rfl, rfl, rfl, rfl⟩
  intro aV aj bi bx a8 b aK
  obtain ⟨j, a4⟩ := aV
  replace b := un2_eq b
  obtain ⟨az, ae, aa, i, ab, av, l, ac⟩ := a8
  refine Zc (Zc (Zd (Za rfl rfl (Zm (v := Vi (j)) rfl ac (Za rfl rfl (Zp F28_1 rfl ab rfl (Za rfl rfl (Zn (i) A23 rfl rfl rfl (Za rfl rfl (Zr S23 rfl rfl (ah.mono aa) (Za rfl rfl (Zq rfl rfl rfl (Zb (Ze ?_))))))))))))))
  rcases ite_some b with ⟨k, b⟩ | ⟨k, b⟩
  ·refine W_cond_t rfl k (W_skip (Ze (Zc (W_block (W_dl (n0 := 10) (qs 0 8 (.e 8 [0, 1] (.e 9 [] .done))) hmix (by kernel_rfl) (by kernel_rfl) (DL_q rfl rfl (Zp F69_1 rfl l rfl ⟨rfl, ?_⟩)))))))
   refine DL_q rfl rfl (Zn ((i.drew).f2) A24 rfl rfl rfl ⟨rfl, ?_⟩)
   refine DL_q rfl rfl (Zp F28_1 rfl ab rfl ⟨rfl, ?_⟩)
   refine DL_q rfl rfl (Zn (i.drew) A23 rfl rfl rfl ⟨rfl, ?_⟩)
   refine DL_q rfl rfl (Zm (v := Vi (j)) rfl ac ⟨rfl, ?_⟩)
   obtain ⟨t, aP, b⟩ := Zg b
   refine DL_q rfl rfl (Exec.index_repE S23 rfl rfl rfl (ah.mono aa) aP ?_)
   intro bc bm a6 be
   refine ⟨rfl, ?_⟩
   refine DL_q rfl rfl (Zp F93_3 rfl rfl rfl ⟨rfl, ?_⟩)
   refine DL_q rfl rfl (Zw (E := (encInt .i64)) i.drew A3 rfl rfl rfl (a6.sub (Sub.iso (Sub.snd (Sub.snd (Sub.snd (Sub.refl _) rfl) rfl) rfl)) rfl) ?_)
   intro aX aQ
   obtain rfl : aX = Vi (t.Init) := encInt_val.1 aQ
   refine ⟨rfl, ?_⟩
   refine DL_e rfl rfl (Exec.buildSlice (Te := 3) (cs := [Vi (t.Init)]) i.drew rfl (parts_cons (c := [Vi (t.Init)]) (cells_of rfl rfl) parts_nil) (fun _ => by kernel_rfl) ?_)
   intro bd bz an
   refine ⟨(ag_cons (ag_r rfl rfl (Zp F69_1 rfl l rfl ⟨rfl, rfl⟩)) (ag_cons (ag_r rfl rfl (Zn ((an).f3) A24 rfl rfl rfl ⟨rfl, rfl⟩)) ag_nil)), ?_⟩
   obtain ⟨bl, aR, b⟩ := Zg b
   refine DL_e rfl rfl (Exec.append_box (E := (encInt .i64)) (ys := [t.Init]) (an).f5 S24 Z3 rfl (by decide) rfl rfl rfl rfl ⟨[Vi (t.Init)], [], rfl, rfl, rfl⟩ rfl aR ?_)
   intro ag b0 af
   refine ⟨ag_nil, ?_⟩
   refine DL_done (Za rfl rfl (Zp F69_1 rfl l rfl (Za rfl rfl (Exec.store_box (ds := [ag]) (es := [a, ag]) (af).f3 A24 rfl rfl rfl (cells_one (((af).f3).f1).arr_one) (Zj (((af).f3).f1).arr_one one_nil) (Nat.le_of_ble_eq_true rfl) rfl ?_))))
   intro b1 aF
   refine Zb (ib_normal (Ze (Zd (Za rfl rfl (Zm (v := Vi (j)) rfl ac (Za rfl rfl (Exec.add rfl rfl rfl (Za rfl rfl (Zo (v := Vi (IntKind.i64.wrap (j + 1))) rfl rfl (Zb (Ze ?_)))))))))))
   have bf := Zu b
   subst aj
   refine ⟨_, rfl, ?_⟩; exact ⟨az, ag, aa, (((((aF).f1).f4).f2).f4).f4, ab, av, l, rfl⟩
  refine W_cond_f rfl k ?_
  replace k := Zk k
  refine W_exit (at_exit (at_exit (ib_here (Ze ?_))))
  have bg := Zu b
  subst aj
  refine ⟨_, .inr (aK (by intro _ h; cases h)), ?_⟩; exact ⟨az, ae, aa, (((((i).f4).f4).f4).f4).f4, ab, av, l, ac⟩
 rintro bj b2 ⟨aW, ap, a9⟩
 have hm := ap.elim (aJ _) (aI _)
 clear ap
 obtain ⟨aq, a3⟩ := aW
 replace hm := un2_eq hm
 obtain ⟨bp, g, aL, z, bn, aw, aN, bo⟩ := a9
 refine (Ze (Zc (Zd (Za rfl rfl (Exec.load_box_agg (ds := [a, g]) ((z).f2) A69 rfl aN rfl (Za rfl rfl (Exec.store_box (ds := [a, g]) (es := [a, g]) (z).f1 A69 rfl aw rfl rfl (Zj (((z).f1).f3).arr_one (Zj (((z).f1).f4).arr_one one_nil)) (Nat.le_of_ble_eq_true rfl) rfl ?_)))))))
 intro b3 ao
 refine Zb (Ze (W_ret ?_))
 have bh := Zu hm
 subst r
 refine ⟨_, retG1 rfl ⟨_, _, aw, cellRes (ao) A69⟩, ?_⟩
 obtain ⟨bq, aM, aG, aS⟩ := (ao).f3.freezeArr
 obtain ⟨aU, au, aH, aT⟩ := (aG).f3.freezeArr
 exact ⟨aU, a, g, (Zt (Zt aL aM) au), (((aH).drop).drop).drop, rfl, (aS.mono au), aT⟩
theorem S115 : tySlice Try.prog 115 = some (114, 3, 56) := by kernel_rfl
theorem F114_0 : tyField Try.prog 114 0 = some 0 := by kernel_rfl
theorem F69_0 : tyField Try.prog 69 0 = some 0 := by kernel_rfl
end Go.Pw
