/-
  The walks (printed by my generator).
-/
import Derived.Test.YtkfcbmecmdpilaaL29
import Derived.Test.YtkfcbmecmdpilaaL27
import Derived.Test.YtkfcbmecmdpilaaSs6
set_option maxRecDepth 100000
set_option maxHeartbeats 4000000
set_option linter.unusedVariables false
namespace Go.Pw
open Go.Proofs
theorem law19_SimplifyIdle_sim {w0 w : World} {s : PHeap} {H : List Res} {fu : Nat} {a : Ground} {o : Int} {b : Bool} {af : Value} {k : Value} {l : Value} {m : Value} {ab : Value} {r : Bool} (hm : law19_SimplifyIdle_p fu a o b = some r) (hS : St w0 s (H) w) (ag : SliceRep encAtom s af a.Atoms) (a1 : SliceRep encGFluent s k a.Fluents) (a2 : SliceRep (encInt .i64) s l a.Init) (a3 : SliceRep encCond s m a.Goal) (an : SliceRep encGOp s ab a.Ops) :
  Calls Try.prog 6 #[Value.agg #[af, k, l, m, ab], Value.int .u8 (o), Value.bool (b)] w fun e w' => ∃ v, e = .returned v ∧ ((fun (dG : Bool) => ∃ (bP : PHeap) , PHeap.le s bP ∧ St w0 bP (H) w' ∧ v = Value.bool (dG)) r) := by
 unfold law19_SimplifyIdle_p at hm
 refine calls_of_W Try.func6 rfl rfl (Zc (Zd (Za rfl rfl (Exec.box (cs := [af, k, l, m, ab]) hS rfl rfl rfl ?_))))
 intro aM eG bz
 refine Za rfl rfl (Zo (v := Value.bool (false)) rfl rfl (Zb (Ze (Zc (Zc ?_)))))
 obtain ⟨au, p, hm⟩ := Zg hm
 refine W_mid (M := fun f' w' => (fun (au : Bool) => ∃ (bQ : PHeap) , PHeap.le s bQ ∧ St w0 bQ (Res.box aM 28 [af, k, l, m, ab] :: H) w' ∧ f' 1 = Value.int .u8 (o) ∧ f' 2 = Value.bool (b) ∧ f' 3 = Value.pointer (some ⟨aM, 0, none⟩) ∧ f' 32 = Value.bool (au)) au) ?_ ?_
 ·refine Zd (Za rfl rfl (Exec.load_box_agg (ds := [af, k, l, m, ab]) (bz) A28 rfl rfl rfl ?_))
  obtain ⟨dH, db, p⟩ := Zg p
  refine Za rfl rfl (Tc rfl rfl rfl (Zi rfl args_nil) (law18_Large_sim db bz ag a1 a2 a3 an).r ?_)
  rintro _ eH ⟨bn, ax, aw, rfl⟩
  refine Za rfl rfl (Zm (v := Value.bool (dH)) rfl rfl ?_)
  rcases ite_some p with ⟨ak, p⟩ | ⟨ak, p⟩
  ·refine WL_passes 15 (by rw [ak]; rfl) ?_
   refine Zb (Ze ?_)
   have eb := Zu p
   subst au
   exact ⟨bn, ax, aw, rfl, rfl, rfl, rfl⟩
  replace ak := Zk ak
  refine WL_run rfl (Zf rfl (Zx ak)) rfl (Zp F28_4 rfl rfl rfl (WL_run rfl (Zf rfl (Zx ak)) rfl (Zn (aw) A26 rfl rfl rfl (WL_run rfl (Zf rfl (Zx ak)) rfl (Zr S26 rfl rfl (an.mono ax) (WL_run rfl (Zf rfl (Zx ak)) rfl (Exec.gtr rfl rfl rfl ?_)))))))
  refine WL_passes 2 (by rw [ak]; rfl) ?_
  rcases ite_some p with ⟨al, p⟩ | ⟨al, p⟩
  ·refine WL_passes 9 (by rw [al]; rfl) ?_
   refine Zb (Ze ?_)
   have ec := Zu p
   subst au
   exact ⟨bn, ax, aw, rfl, rfl, rfl, rfl⟩
  replace al := Zk al
  refine WL_run rfl (Zf rfl (Zx al)) rfl (Zp F28_0 rfl rfl rfl (WL_run rfl (Zf rfl (Zx al)) rfl (Zn (aw) A22 rfl rfl rfl (WL_run rfl (Zf rfl (Zx al)) rfl (Zr S22 rfl rfl (ag.mono ax) (WL_run rfl (Zf rfl (Zx al)) rfl (Exec.gtr rfl rfl rfl ?_)))))))
  refine WL_passes 2 (by rw [al]; rfl) ?_
  rcases ite_some p with ⟨aq, p⟩ | ⟨aq, p⟩
  ·refine WL_passes 3 (by rw [aq]; rfl) ?_
   refine Zb (Ze ?_)
   have ed := Zu p
   subst au
   exact ⟨bn, ax, aw, rfl, rfl, rfl, rfl⟩
  replace aq := Zk aq
  obtain ⟨dI, dc, p⟩ := Zg p
  refine WL_run rfl (Zf rfl (Zx aq)) rfl (Tc rfl rfl rfl args_nil (law19_awake_sim dc aw ).r ?_)
  rintro _ eI ⟨d5, cR, ca, rfl⟩
  refine WL_run rfl (Zf rfl (Zx aq)) rfl (Exec.not rfl rfl (Za rfl rfl (Exec.pick_f (v := Value.bool (!dI)) rfl (Zx aq) rfl (Zb (Ze ?_)))))
  have ee := Zu p
  subst au
  exact ⟨d5, (Zt ax cR), ca, rfl, rfl, rfl, rfl⟩
 intro ep eJ bX
 obtain ⟨ez, g, aV, cZ, bj, j, bB⟩ := bX
 refine (Ze ?_)
 rcases ite_some hm with ⟨a6, hm⟩ | ⟨a6, hm⟩
 ·refine W_cond_t bB a6 (Zc (Zd ?_))
  obtain ⟨dJ, dd, hm⟩ := Zg hm
  refine Za rfl rfl (Tc rfl rfl rfl args_nil (law19_awake_sim dd aV ).r ?_)
  rintro _ eK ⟨d6, cS, cb, rfl⟩
  refine Za rfl rfl (Zo (v := Value.bool (dJ)) rfl rfl (Zb (Ze (W_ret (at_ret ?_)))))
  have ef := Zu hm
  subst r
  refine ⟨_, ret1 rfl, ?_⟩
  exact ⟨d6, (Zt g cS), (cb).drop, rfl⟩
 refine W_cond_f bB a6 ?_
 replace a6 := Zk a6
 refine W_skip (Ze (Zc (Zc (Zd (Za rfl rfl (Exec.load_box_agg (ds := [af, k, l, m, ab]) (aV) A28 rfl j rfl ?_))))))
 obtain ⟨fK, de, hm⟩ := Zg hm
 refine Za rfl rfl (Tc rfl rfl rfl (Zi rfl args_nil) (ground_Valid_sim de aV (ag.mono g) (a1.mono g) (a2.mono g) (a3.mono g) (an.mono g)).r ?_)
 rintro _ eL ⟨bR, i, aW, rfl⟩
 refine Za rfl rfl (Exec.not rfl rfl (Zb (Ze ?_)))
 rcases ite_some hm with ⟨a7, hm⟩ | ⟨a7, hm⟩
 ·refine W_cond_t rfl a7 (Zc (Zd (Za rfl rfl (Zo (v := Value.bool (true)) rfl rfl (Zb (Ze (W_ret (at_ret ?_))))))))
  have eg := Zu hm
  subst r
  refine ⟨_, ret1 rfl, ?_⟩
  exact ⟨bR, (Zt g i), (aW).drop, rfl⟩
 refine W_cond_f rfl a7 ?_
 replace a7 := Zk a7
 refine W_skip (Ze (Zc (Zd (Za rfl rfl (Exec.load_box_agg (ds := [af, k, l, m, ab]) (aW) A28 rfl j rfl (Za rfl rfl (Exec.alloc (cs := [Value.slice none 0 0, Value.slice none 0 0, Value.slice none 0 0, Value.slice none 0 0, Value.slice none 0 0]) aW Z28 rfl rfl ?_)))))))
 intro bx eM cc
 refine Za rfl rfl (Exec.store_box (ds := [af, k, l, m, ab]) (es := [af, k, l, m, ab]) cc A28 rfl rfl rfl rfl (Zj ((ag.mono (Zt g i))).one (Zj ((a1.mono (Zt g i))).one (Zj ((a2.mono (Zt g i))).one (Zj ((a3.mono (Zt g i))).one (Zj ((an.mono (Zt g i))).one one_nil))))) (Nat.le_of_ble_eq_true rfl) rfl ?_)
 intro eN cd
 refine Zb (Ze (Zc (Zd (Za rfl rfl (Exec.buildSlice (Te := 56) (cs := []) cd rfl parts_nil (fun _ => by kernel_rfl) ?_)))))
 intro dK eO b0
 refine Za rfl rfl (Zp F28_0 rfl j rfl (Za rfl rfl (Zn ((b0).f2) A22 rfl rfl rfl ?_)))
 have ce := St.boxArr (E := encAtom) (xs := []) b0 rfl (by simp [maxLen])
 obtain ⟨eu, df, hm⟩ := Zg hm
 refine Za rfl rfl (Exec.append_rep (E := encAtom) (ys := a.Atoms) ce S22 Z56 rfl (by decide) rfl rfl rfl (ag.mono (Zt g i)) df ?_)
 intro e5 eP cf
 refine Za rfl rfl (Exec.build rfl (parts_cons (c := [Value.string (⟨#[105, 100, 108, 101]⟩)]) (cells_of rfl rfl) parts_nil) (v := Value.agg #[Value.string (⟨#[105, 100, 108, 101]⟩), Value.slice none 0 0]) (fun _ => by kernel_rfl) (Za rfl rfl (Exec.buildSlice (Te := 56) (cs := [Value.string (⟨#[105, 100, 108, 101]⟩), Value.slice none 0 0]) cf rfl (parts_cons (c := [Value.string (⟨#[105, 100, 108, 101]⟩), Value.slice none 0 0]) (cells_of rfl rfl) parts_nil) (fun _ => by kernel_rfl) ?_)))
 intro dL eQ cg
 obtain ⟨cT, dg, hm⟩ := Zg hm
 refine Za rfl rfl (Exec.append_box (E := encAtom) (ys := [(⟨⟨#[105, 100, 108, 101]⟩, []⟩ : Atom)]) (cg).f1 S22 Z56 rfl (by decide) rfl rfl rfl rfl ⟨[Value.string (⟨#[105, 100, 108, 101]⟩), Value.slice none 0 0], [], rfl, ⟨[Value.string (⟨#[105, 100, 108, 101]⟩)], [Value.slice none 0 0], rfl, rfl, ⟨_, rfl, (SliceRep.nil _ _)⟩⟩, rfl⟩ rfl dg ?_)
 intro ac eR aX
 refine Za rfl rfl (Zp F28_0 rfl rfl rfl (Za rfl rfl (Exec.store_box (ds := [ac]) (es := [ac, k, l, m, ab]) (aX).f1 A22 rfl rfl rfl (cells_one (((aX).f1).f1).arr_one) (Zj (((aX).f1).f1).arr_one one_nil) (Nat.le_of_ble_eq_true rfl) rfl ?_)))
 intro eS a4
 refine Zb (Ze (Zc (Zd (Za rfl rfl (Zm (v := Value.int .u8 (o)) rfl cZ ?_)))))
 refine Za rfl rfl (Exec.convert_int (by rw [Try.underlying5]; rfl) Try.underlying3 rfl rfl ?_)
 refine Za rfl rfl (Zp F28_4 rfl j rfl (Za rfl rfl (Zn ((a4).f2) A26 rfl rfl rfl (Za rfl rfl (Zr S26 rfl rfl (an.mono (Zt g i)) (Za rfl rfl (Exec.add rfl rfl rfl ?_)))))))
 obtain ⟨e4, dh, hm⟩ := Zg hm
 refine Za rfl rfl (Exec.rem rfl rfl rfl (by simpa using must_some dh) (Za rfl rfl (Zo (v := Vi ((IntKind.i64.wrap o).tmod (IntKind.i64.wrap ((a.Ops.length : Int) + 1)))) rfl rfl (Zb (Ze (Zc ?_))))))
 obtain ⟨av, di, hm⟩ := Zg hm
 obtain ⟨ev, ay, hm⟩ := Zg hm
 obtain ⟨cU, az, hm⟩ := Zg hm
 refine W_mid (M := fun f' w' => ∃ (bS : PHeap) (bp : Value), PHeap.le bR bS ∧ St w0 bS (Res.box aM 28 [af, k, l, m, ab] :: Res.box bx 28 [ac, k, l, m, bp] :: Res.arr encAtom 56 ac cT :: Res.arr encGOp 51 bp cU :: H) w' ∧ f' 3 = Value.pointer (some ⟨aM, 0, none⟩) ∧ f' 7 = Value.pointer (some ⟨bx, 0, none⟩) ∧ f' 8 = Vi ((IntKind.i64.wrap o).tmod (IntKind.i64.wrap ((a.Ops.length : Int) + 1)))) ?_ ?_
 ·refine W_dl (n0 := 15) (qs 1 4 (qs 6 5 (.alt (.e 0 [1, 2, 3, 4, 6, 7, 8, 9, 10] (.alt (.e 5 [6, 7, 8, 9, 10] (.e 11 [] (.q 12 (.e 13 [] (.e 14 [] .done))))) (.e 11 [1, 2, 3, 4] (.q 12 (.alt (.e 5 [12] (.e 13 [] (.e 14 [] .done))) (.e 13 [1, 2, 3, 4] (.e 5 [] (.e 14 [] .done)))))))) (.e 11 [1, 2, 3, 4] (.q 12 (.alt (.e 0 [1, 2, 3, 4, 12] (.alt (.e 5 [12] (.e 13 [] (.e 14 [] .done))) (.e 13 [1, 2, 3, 4] (.e 5 [] (.e 14 [] .done))))) (.e 13 [1, 2, 3, 4] (.e 0 [1, 2, 3, 4] (.e 5 [] (.e 14 [] .done)))))))))) hmix (by kernel_rfl) (by kernel_rfl) (DL_q rfl rfl (Zp F28_4 rfl j rfl ⟨rfl, ?_⟩))
  refine DL_q rfl rfl (Zn ((a4.drew).f2) A26 rfl rfl rfl ⟨rfl, ?_⟩)
  refine DL_q rfl rfl (Zm (v := Vi ((IntKind.i64.wrap o).tmod (IntKind.i64.wrap ((a.Ops.length : Int) + 1)))) rfl rfl ⟨rfl, ?_⟩)
  refine DL_q rfl rfl (Exec.slice_toR S26 rfl rfl rfl (an.mono (Zt g i)) di ?_)
  intro e6 a0 ao
  refine ⟨rfl, ?_⟩
  refine DL_q rfl rfl (Zp F28_0 rfl j rfl ⟨rfl, ?_⟩)
  refine DL_q rfl rfl (Zn ((a4.drew).f2) A22 rfl rfl rfl ⟨rfl, ?_⟩)
  refine DL_q rfl rfl (Zr S22 rfl rfl (ag.mono (Zt g i)) ⟨rfl, ?_⟩)
  refine DL_q rfl rfl (Zm (v := Value.bool (b)) rfl bj ⟨rfl, ?_⟩)
  refine DL_q rfl rfl (Exec.build rfl (parts_cons (c := [Vi ((a.Atoms.length : Int))]) (cells_of rfl rfl) (parts_cons (c := [Value.bool (b)]) (cells_of rfl rfl) parts_nil)) (v := Value.agg #[Value.slice none 0 0, Value.slice none 0 0, Value.slice none 0 0, Vi ((a.Atoms.length : Int)), Value.bool (b)]) (fun _ => by kernel_rfl) ⟨rfl, ?_⟩)
  refine DL_alt ?_ ?_
  ·refine DL_e rfl rfl (Exec.buildSlice (Te := 51) (cs := []) a4.drew rfl parts_nil (fun _ => by kernel_rfl) ?_)
   intro dM eT aN
   refine ⟨(ag_cons (ag_r rfl rfl (Zp F28_4 rfl j rfl ⟨rfl, rfl⟩)) (ag_cons (ag_r rfl rfl (Zn ((aN).f3) A26 rfl rfl rfl ⟨rfl, rfl⟩)) (ag_cons (ag_r rfl rfl (Zm (v := Vi ((IntKind.i64.wrap o).tmod (IntKind.i64.wrap ((a.Ops.length : Int) + 1)))) rfl rfl ⟨rfl, rfl⟩)) (ag_cons (ag_r rfl rfl (ao rfl rfl)) (ag_cons (ag_r rfl rfl (Zp F28_0 rfl j rfl ⟨rfl, rfl⟩)) (ag_cons (ag_r rfl rfl (Zn ((aN).f3) A22 rfl rfl rfl ⟨rfl, rfl⟩)) (ag_cons (ag_r rfl rfl (Zr S22 rfl rfl (ag.mono (Zt g i)) ⟨rfl, rfl⟩)) (ag_cons (ag_r rfl rfl (Zm (v := Value.bool (b)) rfl bj ⟨rfl, rfl⟩)) (ag_cons (ag_r rfl rfl (Exec.build rfl (parts_cons (c := [Vi ((a.Atoms.length : Int))]) (cells_of rfl rfl) (parts_cons (c := [Value.bool (b)]) (cells_of rfl rfl) parts_nil)) (v := Value.agg #[Value.slice none 0 0, Value.slice none 0 0, Value.slice none 0 0, Vi ((a.Atoms.length : Int)), Value.bool (b)]) (fun _ => by kernel_rfl) ⟨rfl, rfl⟩)) ag_nil))))))))), ?_⟩
   refine DL_alt ?_ ?_
   ·have ch := St.boxArr (E := encGOp) (xs := []) aN rfl (by simp [maxLen])
    refine DL_e rfl rfl (Exec.append_rep (E := encGOp) (ys := av) ch S26 Z51 rfl (by decide) rfl rfl rfl a0 ay ?_)
    intro e7 eU b1
    refine ⟨(ag_cons (ag_r rfl rfl (Zp F28_0 rfl j rfl ⟨rfl, rfl⟩)) (ag_cons (ag_r rfl rfl (Zn ((b1).f3) A22 rfl rfl rfl ⟨rfl, rfl⟩)) (ag_cons (ag_r rfl rfl (Zr S22 rfl rfl (ag.mono (Zt g i)) ⟨rfl, rfl⟩)) (ag_cons (ag_r rfl rfl (Zm (v := Value.bool (b)) rfl bj ⟨rfl, rfl⟩)) (ag_cons (ag_r rfl rfl (Exec.build rfl (parts_cons (c := [Vi ((a.Atoms.length : Int))]) (cells_of rfl rfl) (parts_cons (c := [Value.bool (b)]) (cells_of rfl rfl) parts_nil)) (v := Value.agg #[Value.slice none 0 0, Value.slice none 0 0, Value.slice none 0 0, Vi ((a.Atoms.length : Int)), Value.bool (b)]) (fun _ => by kernel_rfl) ⟨rfl, rfl⟩)) ag_nil))))), ?_⟩
    refine DL_e rfl rfl (Exec.buildSlice (Te := 58) (cs := [Value.slice none 0 0, Value.slice none 0 0, Value.slice none 0 0, Vi ((a.Atoms.length : Int)), Value.bool (b)]) b1 rfl (parts_cons (c := [Value.slice none 0 0, Value.slice none 0 0, Value.slice none 0 0, Vi ((a.Atoms.length : Int)), Value.bool (b)]) (cells_of rfl rfl) parts_nil) (fun _ => by kernel_rfl) ?_)
    intro aj eV ci
    refine ⟨ag_nil, ?_⟩
    refine DL_q rfl rfl (Exec.build rfl (parts_cons (c := [Value.string (⟨#[40, 105, 100, 108, 101, 41]⟩)]) (cells_of rfl rfl) (parts_cons (c := [Value.slice (some ⟨aj, 0, none⟩) 1 1]) (cells_of rfl rfl) parts_nil)) (v := Value.agg #[Value.string (⟨#[40, 105, 100, 108, 101, 41]⟩), Vi (0), Value.slice none 0 0, Value.slice none 0 0, Value.slice none 0 0, Value.slice (some ⟨aj, 0, none⟩) 1 1, Value.slice none 0 0]) (fun _ => by kernel_rfl) ⟨rfl, ?_⟩)
    have cj := St.boxArr (E := encGChange) (xs := [(⟨(⟨[], [], []⟩ : Cond), (a.Atoms.length : Int), b⟩ : GChange)]) ci ⟨[Value.slice none 0 0, Value.slice none 0 0, Value.slice none 0 0, Vi ((a.Atoms.length : Int)), Value.bool (b)], [], rfl, ⟨[Value.slice none 0 0, Value.slice none 0 0, Value.slice none 0 0], [Vi ((a.Atoms.length : Int)), Value.bool (b)], rfl, ⟨[Value.slice none 0 0], [Value.slice none 0 0, Value.slice none 0 0], rfl, ⟨_, rfl, (SliceRep.nil _ _)⟩, ⟨[Value.slice none 0 0], [Value.slice none 0 0], rfl, ⟨_, rfl, (SliceRep.nil _ _)⟩, ⟨_, rfl, (SliceRep.nil _ _)⟩⟩⟩, ⟨[Vi ((a.Atoms.length : Int))], [Value.bool (b)], rfl, rfl, rfl⟩⟩, rfl⟩ (by simp [maxLen])
    obtain ⟨d7, cV, ck, du⟩ := cj.freezeArr
    refine DL_e rfl rfl (Exec.buildSlice (Te := 51) (cs := [Value.string (⟨#[40, 105, 100, 108, 101, 41]⟩), Vi (0), Value.slice none 0 0, Value.slice none 0 0, Value.slice none 0 0, Value.slice (some ⟨aj, 0, none⟩) 1 1, Value.slice none 0 0]) ck rfl (parts_cons (c := [Value.string (⟨#[40, 105, 100, 108, 101, 41]⟩), Vi (0), Value.slice none 0 0, Value.slice none 0 0, Value.slice none 0 0, Value.slice (some ⟨aj, 0, none⟩) 1 1, Value.slice none 0 0]) (cells_of rfl rfl) parts_nil) (fun _ => by kernel_rfl) ?_)
    intro dN eW cl
    refine ⟨ag_nil, ?_⟩
    refine DL_e rfl rfl (Exec.append_box (E := encGOp) (ys := [(⟨⟨#[40, 105, 100, 108, 101, 41]⟩, 0, (⟨[], [], []⟩ : Cond), [(⟨(⟨[], [], []⟩ : Cond), (a.Atoms.length : Int), b⟩ : GChange)], []⟩ : GOp)]) (cl).f1 S26 Z51 rfl (by decide) rfl rfl rfl rfl ⟨[Value.string (⟨#[40, 105, 100, 108, 101, 41]⟩), Vi (0), Value.slice none 0 0, Value.slice none 0 0, Value.slice none 0 0, Value.slice (some ⟨aj, 0, none⟩) 1 1, Value.slice none 0 0], [], rfl, ⟨[Value.string (⟨#[40, 105, 100, 108, 101, 41]⟩)], [Vi (0), Value.slice none 0 0, Value.slice none 0 0, Value.slice none 0 0, Value.slice (some ⟨aj, 0, none⟩) 1 1, Value.slice none 0 0], rfl, rfl, ⟨[Vi (0)], [Value.slice none 0 0, Value.slice none 0 0, Value.slice none 0 0, Value.slice (some ⟨aj, 0, none⟩) 1 1, Value.slice none 0 0], rfl, rfl, ⟨[Value.slice none 0 0, Value.slice none 0 0, Value.slice none 0 0], [Value.slice (some ⟨aj, 0, none⟩) 1 1, Value.slice none 0 0], rfl, ⟨[Value.slice none 0 0], [Value.slice none 0 0, Value.slice none 0 0], rfl, ⟨_, rfl, (SliceRep.nil _ _)⟩, ⟨[Value.slice none 0 0], [Value.slice none 0 0], rfl, ⟨_, rfl, (SliceRep.nil _ _)⟩, ⟨_, rfl, (SliceRep.nil _ _)⟩⟩⟩, ⟨[Value.slice (some ⟨aj, 0, none⟩) 1 1], [Value.slice none 0 0], rfl, ⟨_, rfl, du⟩, ⟨_, rfl, (SliceRep.nil _ _)⟩⟩⟩⟩⟩, rfl⟩ rfl az ?_)
    intro bq eX aY
    refine ⟨ag_nil, ?_⟩
    refine DL_done (Za rfl rfl (Zp F28_4 rfl rfl rfl (Za rfl rfl (Exec.store_box (ds := [bq]) (es := [ac, k, l, m, bq]) (aY).f1 A26 rfl rfl rfl (cells_one (((aY).f1).f1).arr_one) (Zj (((aY).f1).f1).arr_one one_nil) (Nat.le_of_ble_eq_true rfl) rfl ?_))))
    intro eY cm
    refine Zb (Ze ?_)
    exact ⟨d7, bq, cV, ((((cm).f1).f2).f2).f3, j, rfl, rfl⟩
   refine DL_e rfl rfl (Exec.buildSlice (Te := 58) (cs := [Value.slice none 0 0, Value.slice none 0 0, Value.slice none 0 0, Vi ((a.Atoms.length : Int)), Value.bool (b)]) aN rfl (parts_cons (c := [Value.slice none 0 0, Value.slice none 0 0, Value.slice none 0 0, Vi ((a.Atoms.length : Int)), Value.bool (b)]) (cells_of rfl rfl) parts_nil) (fun _ => by kernel_rfl) ?_)
   intro n eZ aZ
   refine ⟨(ag_cons (ag_r rfl rfl (Zp F28_4 rfl j rfl ⟨rfl, rfl⟩)) (ag_cons (ag_r rfl rfl (Zn ((aZ).f4) A26 rfl rfl rfl ⟨rfl, rfl⟩)) (ag_cons (ag_r rfl rfl (Zm (v := Vi ((IntKind.i64.wrap o).tmod (IntKind.i64.wrap ((a.Ops.length : Int) + 1)))) rfl rfl ⟨rfl, rfl⟩)) (ag_cons (ag_r rfl rfl (ao rfl rfl)) ag_nil)))), ?_⟩
   refine DL_q rfl rfl (Exec.build rfl (parts_cons (c := [Value.string (⟨#[40, 105, 100, 108, 101, 41]⟩)]) (cells_of rfl rfl) (parts_cons (c := [Value.slice (some ⟨n, 0, none⟩) 1 1]) (cells_of rfl rfl) parts_nil)) (v := Value.agg #[Value.string (⟨#[40, 105, 100, 108, 101, 41]⟩), Vi (0), Value.slice none 0 0, Value.slice none 0 0, Value.slice none 0 0, Value.slice (some ⟨n, 0, none⟩) 1 1, Value.slice none 0 0]) (fun _ => by kernel_rfl) ⟨rfl, ?_⟩)
   refine DL_alt ?_ ?_
   ·have cn := (aZ).f1
    have co := St.boxArr (E := encGOp) (xs := []) cn rfl (by simp [maxLen])
    refine DL_e rfl rfl (Exec.append_rep (E := encGOp) (ys := av) co S26 Z51 rfl (by decide) rfl rfl rfl a0 ay ?_)
    intro e8 fa cp
    refine ⟨(ag_cons (ag_r rfl rfl (Exec.build rfl (parts_cons (c := [Value.string (⟨#[40, 105, 100, 108, 101, 41]⟩)]) (cells_of rfl rfl) (parts_cons (c := [Value.slice (some ⟨n, 0, none⟩) 1 1]) (cells_of rfl rfl) parts_nil)) (v := Value.agg #[Value.string (⟨#[40, 105, 100, 108, 101, 41]⟩), Vi (0), Value.slice none 0 0, Value.slice none 0 0, Value.slice none 0 0, Value.slice (some ⟨n, 0, none⟩) 1 1, Value.slice none 0 0]) (fun _ => by kernel_rfl) ⟨rfl, rfl⟩)) ag_nil), ?_⟩
    have cq := St.boxArr (E := encGChange) (xs := [(⟨(⟨[], [], []⟩ : Cond), (a.Atoms.length : Int), b⟩ : GChange)]) (cp).f1 ⟨[Value.slice none 0 0, Value.slice none 0 0, Value.slice none 0 0, Vi ((a.Atoms.length : Int)), Value.bool (b)], [], rfl, ⟨[Value.slice none 0 0, Value.slice none 0 0, Value.slice none 0 0], [Vi ((a.Atoms.length : Int)), Value.bool (b)], rfl, ⟨[Value.slice none 0 0], [Value.slice none 0 0, Value.slice none 0 0], rfl, ⟨_, rfl, (SliceRep.nil _ _)⟩, ⟨[Value.slice none 0 0], [Value.slice none 0 0], rfl, ⟨_, rfl, (SliceRep.nil _ _)⟩, ⟨_, rfl, (SliceRep.nil _ _)⟩⟩⟩, ⟨[Vi ((a.Atoms.length : Int))], [Value.bool (b)], rfl, rfl, rfl⟩⟩, rfl⟩ (by simp [maxLen])
    obtain ⟨d8, cW, cr, dv⟩ := cq.freezeArr
    refine DL_e rfl rfl (Exec.buildSlice (Te := 51) (cs := [Value.string (⟨#[40, 105, 100, 108, 101, 41]⟩), Vi (0), Value.slice none 0 0, Value.slice none 0 0, Value.slice none 0 0, Value.slice (some ⟨n, 0, none⟩) 1 1, Value.slice none 0 0]) cr rfl (parts_cons (c := [Value.string (⟨#[40, 105, 100, 108, 101, 41]⟩), Vi (0), Value.slice none 0 0, Value.slice none 0 0, Value.slice none 0 0, Value.slice (some ⟨n, 0, none⟩) 1 1, Value.slice none 0 0]) (cells_of rfl rfl) parts_nil) (fun _ => by kernel_rfl) ?_)
    intro dO fb ct
    refine ⟨ag_nil, ?_⟩
    refine DL_e rfl rfl (Exec.append_box (E := encGOp) (ys := [(⟨⟨#[40, 105, 100, 108, 101, 41]⟩, 0, (⟨[], [], []⟩ : Cond), [(⟨(⟨[], [], []⟩ : Cond), (a.Atoms.length : Int), b⟩ : GChange)], []⟩ : GOp)]) (ct).f1 S26 Z51 rfl (by decide) rfl rfl rfl rfl ⟨[Value.string (⟨#[40, 105, 100, 108, 101, 41]⟩), Vi (0), Value.slice none 0 0, Value.slice none 0 0, Value.slice none 0 0, Value.slice (some ⟨n, 0, none⟩) 1 1, Value.slice none 0 0], [], rfl, ⟨[Value.string (⟨#[40, 105, 100, 108, 101, 41]⟩)], [Vi (0), Value.slice none 0 0, Value.slice none 0 0, Value.slice none 0 0, Value.slice (some ⟨n, 0, none⟩) 1 1, Value.slice none 0 0], rfl, rfl, ⟨[Vi (0)], [Value.slice none 0 0, Value.slice none 0 0, Value.slice none 0 0, Value.slice (some ⟨n, 0, none⟩) 1 1, Value.slice none 0 0], rfl, rfl, ⟨[Value.slice none 0 0, Value.slice none 0 0, Value.slice none 0 0], [Value.slice (some ⟨n, 0, none⟩) 1 1, Value.slice none 0 0], rfl, ⟨[Value.slice none 0 0], [Value.slice none 0 0, Value.slice none 0 0], rfl, ⟨_, rfl, (SliceRep.nil _ _)⟩, ⟨[Value.slice none 0 0], [Value.slice none 0 0], rfl, ⟨_, rfl, (SliceRep.nil _ _)⟩, ⟨_, rfl, (SliceRep.nil _ _)⟩⟩⟩, ⟨[Value.slice (some ⟨n, 0, none⟩) 1 1], [Value.slice none 0 0], rfl, ⟨_, rfl, dv⟩, ⟨_, rfl, (SliceRep.nil _ _)⟩⟩⟩⟩⟩, rfl⟩ rfl az ?_)
    intro br fc ba
    refine ⟨ag_nil, ?_⟩
    refine DL_done (Za rfl rfl (Zp F28_4 rfl rfl rfl (Za rfl rfl (Exec.store_box (ds := [br]) (es := [ac, k, l, m, br]) (ba).f1 A26 rfl rfl rfl (cells_one (((ba).f1).f1).arr_one) (Zj (((ba).f1).f1).arr_one one_nil) (Nat.le_of_ble_eq_true rfl) rfl ?_))))
    intro fd cu
    refine Zb (Ze ?_)
    exact ⟨d8, br, cW, ((((cu).f1).f2).f2).f3, j, rfl, rfl⟩
   have cv := St.boxArr (E := encGChange) (xs := [(⟨(⟨[], [], []⟩ : Cond), (a.Atoms.length : Int), b⟩ : GChange)]) aZ ⟨[Value.slice none 0 0, Value.slice none 0 0, Value.slice none 0 0, Vi ((a.Atoms.length : Int)), Value.bool (b)], [], rfl, ⟨[Value.slice none 0 0, Value.slice none 0 0, Value.slice none 0 0], [Vi ((a.Atoms.length : Int)), Value.bool (b)], rfl, ⟨[Value.slice none 0 0], [Value.slice none 0 0, Value.slice none 0 0], rfl, ⟨_, rfl, (SliceRep.nil _ _)⟩, ⟨[Value.slice none 0 0], [Value.slice none 0 0], rfl, ⟨_, rfl, (SliceRep.nil _ _)⟩, ⟨_, rfl, (SliceRep.nil _ _)⟩⟩⟩, ⟨[Vi ((a.Atoms.length : Int))], [Value.bool (b)], rfl, rfl, rfl⟩⟩, rfl⟩ (by simp [maxLen])
   obtain ⟨d9, b8, cw, dw⟩ := cv.freezeArr
   refine DL_e rfl rfl (Exec.buildSlice (Te := 51) (cs := [Value.string (⟨#[40, 105, 100, 108, 101, 41]⟩), Vi (0), Value.slice none 0 0, Value.slice none 0 0, Value.slice none 0 0, Value.slice (some ⟨n, 0, none⟩) 1 1, Value.slice none 0 0]) cw rfl (parts_cons (c := [Value.string (⟨#[40, 105, 100, 108, 101, 41]⟩), Vi (0), Value.slice none 0 0, Value.slice none 0 0, Value.slice none 0 0, Value.slice (some ⟨n, 0, none⟩) 1 1, Value.slice none 0 0]) (cells_of rfl rfl) parts_nil) (fun _ => by kernel_rfl) ?_)
   intro dP fe b2
   refine ⟨(ag_cons (ag_r rfl rfl (Zp F28_4 rfl j rfl ⟨rfl, rfl⟩)) (ag_cons (ag_r rfl rfl (Zn ((b2).f4) A26 rfl rfl rfl ⟨rfl, rfl⟩)) (ag_cons (ag_r rfl rfl (Zm (v := Vi ((IntKind.i64.wrap o).tmod (IntKind.i64.wrap ((a.Ops.length : Int) + 1)))) rfl rfl ⟨rfl, rfl⟩)) (ag_cons (ag_r rfl rfl (ao rfl rfl)) ag_nil)))), ?_⟩
   have cx := St.boxArr (E := encGOp) (xs := []) (b2).f1 rfl (by simp [maxLen])
   refine DL_e rfl rfl (Exec.append_rep (E := encGOp) (ys := av) cx S26 Z51 rfl (by decide) rfl rfl rfl (a0.mono b8) ay ?_)
   intro e9 ff cy
   refine ⟨ag_nil, ?_⟩
   refine DL_e rfl rfl (Exec.append_box (E := encGOp) (ys := [(⟨⟨#[40, 105, 100, 108, 101, 41]⟩, 0, (⟨[], [], []⟩ : Cond), [(⟨(⟨[], [], []⟩ : Cond), (a.Atoms.length : Int), b⟩ : GChange)], []⟩ : GOp)]) ((cy).f1).f1 S26 Z51 rfl (by decide) rfl rfl rfl rfl ⟨[Value.string (⟨#[40, 105, 100, 108, 101, 41]⟩), Vi (0), Value.slice none 0 0, Value.slice none 0 0, Value.slice none 0 0, Value.slice (some ⟨n, 0, none⟩) 1 1, Value.slice none 0 0], [], rfl, ⟨[Value.string (⟨#[40, 105, 100, 108, 101, 41]⟩)], [Vi (0), Value.slice none 0 0, Value.slice none 0 0, Value.slice none 0 0, Value.slice (some ⟨n, 0, none⟩) 1 1, Value.slice none 0 0], rfl, rfl, ⟨[Vi (0)], [Value.slice none 0 0, Value.slice none 0 0, Value.slice none 0 0, Value.slice (some ⟨n, 0, none⟩) 1 1, Value.slice none 0 0], rfl, rfl, ⟨[Value.slice none 0 0, Value.slice none 0 0, Value.slice none 0 0], [Value.slice (some ⟨n, 0, none⟩) 1 1, Value.slice none 0 0], rfl, ⟨[Value.slice none 0 0], [Value.slice none 0 0, Value.slice none 0 0], rfl, ⟨_, rfl, (SliceRep.nil _ _)⟩, ⟨[Value.slice none 0 0], [Value.slice none 0 0], rfl, ⟨_, rfl, (SliceRep.nil _ _)⟩, ⟨_, rfl, (SliceRep.nil _ _)⟩⟩⟩, ⟨[Value.slice (some ⟨n, 0, none⟩) 1 1], [Value.slice none 0 0], rfl, ⟨_, rfl, dw⟩, ⟨_, rfl, (SliceRep.nil _ _)⟩⟩⟩⟩⟩, rfl⟩ rfl az ?_)
   intro bs fg bb
   refine ⟨ag_nil, ?_⟩
   refine DL_done (Za rfl rfl (Zp F28_4 rfl rfl rfl (Za rfl rfl (Exec.store_box (ds := [bs]) (es := [ac, k, l, m, bs]) (bb).f1 A26 rfl rfl rfl (cells_one (((bb).f1).f1).arr_one) (Zj (((bb).f1).f1).arr_one one_nil) (Nat.le_of_ble_eq_true rfl) rfl ?_))))
   intro fh cz
   refine Zb (Ze ?_)
   exact ⟨d9, bs, b8, ((((cz).f1).f2).f2).f3, j, rfl, rfl⟩
  refine DL_e rfl rfl (Exec.buildSlice (Te := 58) (cs := [Value.slice none 0 0, Value.slice none 0 0, Value.slice none 0 0, Vi ((a.Atoms.length : Int)), Value.bool (b)]) a4.drew rfl (parts_cons (c := [Value.slice none 0 0, Value.slice none 0 0, Value.slice none 0 0, Vi ((a.Atoms.length : Int)), Value.bool (b)]) (cells_of rfl rfl) parts_nil) (fun _ => by kernel_rfl) ?_)
  intro h fi bc
  refine ⟨(ag_cons (ag_r rfl rfl (Zp F28_4 rfl j rfl ⟨rfl, rfl⟩)) (ag_cons (ag_r rfl rfl (Zn ((bc).f3) A26 rfl rfl rfl ⟨rfl, rfl⟩)) (ag_cons (ag_r rfl rfl (Zm (v := Vi ((IntKind.i64.wrap o).tmod (IntKind.i64.wrap ((a.Ops.length : Int) + 1)))) rfl rfl ⟨rfl, rfl⟩)) (ag_cons (ag_r rfl rfl (ao rfl rfl)) ag_nil)))), ?_⟩
  refine DL_q rfl rfl (Exec.build rfl (parts_cons (c := [Value.string (⟨#[40, 105, 100, 108, 101, 41]⟩)]) (cells_of rfl rfl) (parts_cons (c := [Value.slice (some ⟨h, 0, none⟩) 1 1]) (cells_of rfl rfl) parts_nil)) (v := Value.agg #[Value.string (⟨#[40, 105, 100, 108, 101, 41]⟩), Vi (0), Value.slice none 0 0, Value.slice none 0 0, Value.slice none 0 0, Value.slice (some ⟨h, 0, none⟩) 1 1, Value.slice none 0 0]) (fun _ => by kernel_rfl) ⟨rfl, ?_⟩)
  refine DL_alt ?_ ?_
  ·refine DL_e rfl rfl (Exec.buildSlice (Te := 51) (cs := []) bc rfl parts_nil (fun _ => by kernel_rfl) ?_)
   intro dQ fj bd
   refine ⟨(ag_cons (ag_r rfl rfl (Zp F28_4 rfl j rfl ⟨rfl, rfl⟩)) (ag_cons (ag_r rfl rfl (Zn ((bd).f4) A26 rfl rfl rfl ⟨rfl, rfl⟩)) (ag_cons (ag_r rfl rfl (Zm (v := Vi ((IntKind.i64.wrap o).tmod (IntKind.i64.wrap ((a.Ops.length : Int) + 1)))) rfl rfl ⟨rfl, rfl⟩)) (ag_cons (ag_r rfl rfl (ao rfl rfl)) (ag_cons (ag_r rfl rfl (Exec.build rfl (parts_cons (c := [Value.string (⟨#[40, 105, 100, 108, 101, 41]⟩)]) (cells_of rfl rfl) (parts_cons (c := [Value.slice (some ⟨h, 0, none⟩) 1 1]) (cells_of rfl rfl) parts_nil)) (v := Value.agg #[Value.string (⟨#[40, 105, 100, 108, 101, 41]⟩), Vi (0), Value.slice none 0 0, Value.slice none 0 0, Value.slice none 0 0, Value.slice (some ⟨h, 0, none⟩) 1 1, Value.slice none 0 0]) (fun _ => by kernel_rfl) ⟨rfl, rfl⟩)) ag_nil))))), ?_⟩
   refine DL_alt ?_ ?_
   ·have c0 := St.boxArr (E := encGOp) (xs := []) bd rfl (by simp [maxLen])
    refine DL_e rfl rfl (Exec.append_rep (E := encGOp) (ys := av) c0 S26 Z51 rfl (by decide) rfl rfl rfl a0 ay ?_)
    intro eA fk c1
    refine ⟨(ag_cons (ag_r rfl rfl (Exec.build rfl (parts_cons (c := [Value.string (⟨#[40, 105, 100, 108, 101, 41]⟩)]) (cells_of rfl rfl) (parts_cons (c := [Value.slice (some ⟨h, 0, none⟩) 1 1]) (cells_of rfl rfl) parts_nil)) (v := Value.agg #[Value.string (⟨#[40, 105, 100, 108, 101, 41]⟩), Vi (0), Value.slice none 0 0, Value.slice none 0 0, Value.slice none 0 0, Value.slice (some ⟨h, 0, none⟩) 1 1, Value.slice none 0 0]) (fun _ => by kernel_rfl) ⟨rfl, rfl⟩)) ag_nil), ?_⟩
    have c2 := St.boxArr (E := encGChange) (xs := [(⟨(⟨[], [], []⟩ : Cond), (a.Atoms.length : Int), b⟩ : GChange)]) (c1).f1 ⟨[Value.slice none 0 0, Value.slice none 0 0, Value.slice none 0 0, Vi ((a.Atoms.length : Int)), Value.bool (b)], [], rfl, ⟨[Value.slice none 0 0, Value.slice none 0 0, Value.slice none 0 0], [Vi ((a.Atoms.length : Int)), Value.bool (b)], rfl, ⟨[Value.slice none 0 0], [Value.slice none 0 0, Value.slice none 0 0], rfl, ⟨_, rfl, (SliceRep.nil _ _)⟩, ⟨[Value.slice none 0 0], [Value.slice none 0 0], rfl, ⟨_, rfl, (SliceRep.nil _ _)⟩, ⟨_, rfl, (SliceRep.nil _ _)⟩⟩⟩, ⟨[Vi ((a.Atoms.length : Int))], [Value.bool (b)], rfl, rfl, rfl⟩⟩, rfl⟩ (by simp [maxLen])
    obtain ⟨dA, cX, c3, dx⟩ := c2.freezeArr
    refine DL_e rfl rfl (Exec.buildSlice (Te := 51) (cs := [Value.string (⟨#[40, 105, 100, 108, 101, 41]⟩), Vi (0), Value.slice none 0 0, Value.slice none 0 0, Value.slice none 0 0, Value.slice (some ⟨h, 0, none⟩) 1 1, Value.slice none 0 0]) c3 rfl (parts_cons (c := [Value.string (⟨#[40, 105, 100, 108, 101, 41]⟩), Vi (0), Value.slice none 0 0, Value.slice none 0 0, Value.slice none 0 0, Value.slice (some ⟨h, 0, none⟩) 1 1, Value.slice none 0 0]) (cells_of rfl rfl) parts_nil) (fun _ => by kernel_rfl) ?_)
    intro dR fl c4
    refine ⟨ag_nil, ?_⟩
    refine DL_e rfl rfl (Exec.append_box (E := encGOp) (ys := [(⟨⟨#[40, 105, 100, 108, 101, 41]⟩, 0, (⟨[], [], []⟩ : Cond), [(⟨(⟨[], [], []⟩ : Cond), (a.Atoms.length : Int), b⟩ : GChange)], []⟩ : GOp)]) (c4).f1 S26 Z51 rfl (by decide) rfl rfl rfl rfl ⟨[Value.string (⟨#[40, 105, 100, 108, 101, 41]⟩), Vi (0), Value.slice none 0 0, Value.slice none 0 0, Value.slice none 0 0, Value.slice (some ⟨h, 0, none⟩) 1 1, Value.slice none 0 0], [], rfl, ⟨[Value.string (⟨#[40, 105, 100, 108, 101, 41]⟩)], [Vi (0), Value.slice none 0 0, Value.slice none 0 0, Value.slice none 0 0, Value.slice (some ⟨h, 0, none⟩) 1 1, Value.slice none 0 0], rfl, rfl, ⟨[Vi (0)], [Value.slice none 0 0, Value.slice none 0 0, Value.slice none 0 0, Value.slice (some ⟨h, 0, none⟩) 1 1, Value.slice none 0 0], rfl, rfl, ⟨[Value.slice none 0 0, Value.slice none 0 0, Value.slice none 0 0], [Value.slice (some ⟨h, 0, none⟩) 1 1, Value.slice none 0 0], rfl, ⟨[Value.slice none 0 0], [Value.slice none 0 0, Value.slice none 0 0], rfl, ⟨_, rfl, (SliceRep.nil _ _)⟩, ⟨[Value.slice none 0 0], [Value.slice none 0 0], rfl, ⟨_, rfl, (SliceRep.nil _ _)⟩, ⟨_, rfl, (SliceRep.nil _ _)⟩⟩⟩, ⟨[Value.slice (some ⟨h, 0, none⟩) 1 1], [Value.slice none 0 0], rfl, ⟨_, rfl, dx⟩, ⟨_, rfl, (SliceRep.nil _ _)⟩⟩⟩⟩⟩, rfl⟩ rfl az ?_)
    intro bt fm be
    refine ⟨ag_nil, ?_⟩
    refine DL_done (Za rfl rfl (Zp F28_4 rfl rfl rfl (Za rfl rfl (Exec.store_box (ds := [bt]) (es := [ac, k, l, m, bt]) (be).f1 A26 rfl rfl rfl (cells_one (((be).f1).f1).arr_one) (Zj (((be).f1).f1).arr_one one_nil) (Nat.le_of_ble_eq_true rfl) rfl ?_))))
    intro fn c5
    refine Zb (Ze ?_)
    exact ⟨dA, bt, cX, ((((c5).f1).f2).f2).f3, j, rfl, rfl⟩
   have c6 := St.boxArr (E := encGChange) (xs := [(⟨(⟨[], [], []⟩ : Cond), (a.Atoms.length : Int), b⟩ : GChange)]) (bd).f1 ⟨[Value.slice none 0 0, Value.slice none 0 0, Value.slice none 0 0, Vi ((a.Atoms.length : Int)), Value.bool (b)], [], rfl, ⟨[Value.slice none 0 0, Value.slice none 0 0, Value.slice none 0 0], [Vi ((a.Atoms.length : Int)), Value.bool (b)], rfl, ⟨[Value.slice none 0 0], [Value.slice none 0 0, Value.slice none 0 0], rfl, ⟨_, rfl, (SliceRep.nil _ _)⟩, ⟨[Value.slice none 0 0], [Value.slice none 0 0], rfl, ⟨_, rfl, (SliceRep.nil _ _)⟩, ⟨_, rfl, (SliceRep.nil _ _)⟩⟩⟩, ⟨[Vi ((a.Atoms.length : Int))], [Value.bool (b)], rfl, rfl, rfl⟩⟩, rfl⟩ (by simp [maxLen])
   obtain ⟨dB, b9, c7, dy⟩ := c6.freezeArr
   refine DL_e rfl rfl (Exec.buildSlice (Te := 51) (cs := [Value.string (⟨#[40, 105, 100, 108, 101, 41]⟩), Vi (0), Value.slice none 0 0, Value.slice none 0 0, Value.slice none 0 0, Value.slice (some ⟨h, 0, none⟩) 1 1, Value.slice none 0 0]) c7 rfl (parts_cons (c := [Value.string (⟨#[40, 105, 100, 108, 101, 41]⟩), Vi (0), Value.slice none 0 0, Value.slice none 0 0, Value.slice none 0 0, Value.slice (some ⟨h, 0, none⟩) 1 1, Value.slice none 0 0]) (cells_of rfl rfl) parts_nil) (fun _ => by kernel_rfl) ?_)
   intro dS fo b3
   refine ⟨(ag_cons (ag_r rfl rfl (Zp F28_4 rfl j rfl ⟨rfl, rfl⟩)) (ag_cons (ag_r rfl rfl (Zn ((b3).f4) A26 rfl rfl rfl ⟨rfl, rfl⟩)) (ag_cons (ag_r rfl rfl (Zm (v := Vi ((IntKind.i64.wrap o).tmod (IntKind.i64.wrap ((a.Ops.length : Int) + 1)))) rfl rfl ⟨rfl, rfl⟩)) (ag_cons (ag_r rfl rfl (ao rfl rfl)) ag_nil)))), ?_⟩
   have c8 := St.boxArr (E := encGOp) (xs := []) (b3).f1 rfl (by simp [maxLen])
   refine DL_e rfl rfl (Exec.append_rep (E := encGOp) (ys := av) c8 S26 Z51 rfl (by decide) rfl rfl rfl (a0.mono b9) ay ?_)
   intro eB fp c9
   refine ⟨ag_nil, ?_⟩
   refine DL_e rfl rfl (Exec.append_box (E := encGOp) (ys := [(⟨⟨#[40, 105, 100, 108, 101, 41]⟩, 0, (⟨[], [], []⟩ : Cond), [(⟨(⟨[], [], []⟩ : Cond), (a.Atoms.length : Int), b⟩ : GChange)], []⟩ : GOp)]) ((c9).f1).f1 S26 Z51 rfl (by decide) rfl rfl rfl rfl ⟨[Value.string (⟨#[40, 105, 100, 108, 101, 41]⟩), Vi (0), Value.slice none 0 0, Value.slice none 0 0, Value.slice none 0 0, Value.slice (some ⟨h, 0, none⟩) 1 1, Value.slice none 0 0], [], rfl, ⟨[Value.string (⟨#[40, 105, 100, 108, 101, 41]⟩)], [Vi (0), Value.slice none 0 0, Value.slice none 0 0, Value.slice none 0 0, Value.slice (some ⟨h, 0, none⟩) 1 1, Value.slice none 0 0], rfl, rfl, ⟨[Vi (0)], [Value.slice none 0 0, Value.slice none 0 0, Value.slice none 0 0, Value.slice (some ⟨h, 0, none⟩) 1 1, Value.slice none 0 0], rfl, rfl, ⟨[Value.slice none 0 0, Value.slice none 0 0, Value.slice none 0 0], [Value.slice (some ⟨h, 0, none⟩) 1 1, Value.slice none 0 0], rfl, ⟨[Value.slice none 0 0], [Value.slice none 0 0, Value.slice none 0 0], rfl, ⟨_, rfl, (SliceRep.nil _ _)⟩, ⟨[Value.slice none 0 0], [Value.slice none 0 0], rfl, ⟨_, rfl, (SliceRep.nil _ _)⟩, ⟨_, rfl, (SliceRep.nil _ _)⟩⟩⟩, ⟨[Value.slice (some ⟨h, 0, none⟩) 1 1], [Value.slice none 0 0], rfl, ⟨_, rfl, dy⟩, ⟨_, rfl, (SliceRep.nil _ _)⟩⟩⟩⟩⟩, rfl⟩ rfl az ?_)
   intro bu fq bf
   refine ⟨ag_nil, ?_⟩
   refine DL_done (Za rfl rfl (Zp F28_4 rfl rfl rfl (Za rfl rfl (Exec.store_box (ds := [bu]) (es := [ac, k, l, m, bu]) (bf).f1 A26 rfl rfl rfl (cells_one (((bf).f1).f1).arr_one) (Zj (((bf).f1).f1).arr_one one_nil) (Nat.le_of_ble_eq_true rfl) rfl ?_))))
   intro fr cA
   refine Zb (Ze ?_)
   exact ⟨dB, bu, b9, ((((cA).f1).f2).f2).f3, j, rfl, rfl⟩
  have cB := St.boxArr (E := encGChange) (xs := [(⟨(⟨[], [], []⟩ : Cond), (a.Atoms.length : Int), b⟩ : GChange)]) bc ⟨[Value.slice none 0 0, Value.slice none 0 0, Value.slice none 0 0, Vi ((a.Atoms.length : Int)), Value.bool (b)], [], rfl, ⟨[Value.slice none 0 0, Value.slice none 0 0, Value.slice none 0 0], [Vi ((a.Atoms.length : Int)), Value.bool (b)], rfl, ⟨[Value.slice none 0 0], [Value.slice none 0 0, Value.slice none 0 0], rfl, ⟨_, rfl, (SliceRep.nil _ _)⟩, ⟨[Value.slice none 0 0], [Value.slice none 0 0], rfl, ⟨_, rfl, (SliceRep.nil _ _)⟩, ⟨_, rfl, (SliceRep.nil _ _)⟩⟩⟩, ⟨[Vi ((a.Atoms.length : Int))], [Value.bool (b)], rfl, rfl, rfl⟩⟩, rfl⟩ (by simp [maxLen])
  obtain ⟨dC, bA, cC, dz⟩ := cB.freezeArr
  refine DL_e rfl rfl (Exec.buildSlice (Te := 51) (cs := [Value.string (⟨#[40, 105, 100, 108, 101, 41]⟩), Vi (0), Value.slice none 0 0, Value.slice none 0 0, Value.slice none 0 0, Value.slice (some ⟨h, 0, none⟩) 1 1, Value.slice none 0 0]) cC rfl (parts_cons (c := [Value.string (⟨#[40, 105, 100, 108, 101, 41]⟩), Vi (0), Value.slice none 0 0, Value.slice none 0 0, Value.slice none 0 0, Value.slice (some ⟨h, 0, none⟩) 1 1, Value.slice none 0 0]) (cells_of rfl rfl) parts_nil) (fun _ => by kernel_rfl) ?_)
  intro dT fs b4
  refine ⟨(ag_cons (ag_r rfl rfl (Zp F28_4 rfl j rfl ⟨rfl, rfl⟩)) (ag_cons (ag_r rfl rfl (Zn ((b4).f3) A26 rfl rfl rfl ⟨rfl, rfl⟩)) (ag_cons (ag_r rfl rfl (Zm (v := Vi ((IntKind.i64.wrap o).tmod (IntKind.i64.wrap ((a.Ops.length : Int) + 1)))) rfl rfl ⟨rfl, rfl⟩)) (ag_cons (ag_r rfl rfl (ao rfl rfl)) ag_nil)))), ?_⟩
  refine DL_e rfl rfl (Exec.buildSlice (Te := 51) (cs := []) b4 rfl parts_nil (fun _ => by kernel_rfl) ?_)
  intro dU ft b5
  refine ⟨(ag_cons (ag_r rfl rfl (Zp F28_4 rfl j rfl ⟨rfl, rfl⟩)) (ag_cons (ag_r rfl rfl (Zn ((b5).f4) A26 rfl rfl rfl ⟨rfl, rfl⟩)) (ag_cons (ag_r rfl rfl (Zm (v := Vi ((IntKind.i64.wrap o).tmod (IntKind.i64.wrap ((a.Ops.length : Int) + 1)))) rfl rfl ⟨rfl, rfl⟩)) (ag_cons (ag_r rfl rfl (ao rfl rfl)) ag_nil)))), ?_⟩
  have cD := St.boxArr (E := encGOp) (xs := []) b5 rfl (by simp [maxLen])
  refine DL_e rfl rfl (Exec.append_rep (E := encGOp) (ys := av) cD S26 Z51 rfl (by decide) rfl rfl rfl (a0.mono bA) ay ?_)
  intro eC fv cE
  refine ⟨ag_nil, ?_⟩
  refine DL_e rfl rfl (Exec.append_box (E := encGOp) (ys := [(⟨⟨#[40, 105, 100, 108, 101, 41]⟩, 0, (⟨[], [], []⟩ : Cond), [(⟨(⟨[], [], []⟩ : Cond), (a.Atoms.length : Int), b⟩ : GChange)], []⟩ : GOp)]) ((cE).f1).f1 S26 Z51 rfl (by decide) rfl rfl rfl rfl ⟨[Value.string (⟨#[40, 105, 100, 108, 101, 41]⟩), Vi (0), Value.slice none 0 0, Value.slice none 0 0, Value.slice none 0 0, Value.slice (some ⟨h, 0, none⟩) 1 1, Value.slice none 0 0], [], rfl, ⟨[Value.string (⟨#[40, 105, 100, 108, 101, 41]⟩)], [Vi (0), Value.slice none 0 0, Value.slice none 0 0, Value.slice none 0 0, Value.slice (some ⟨h, 0, none⟩) 1 1, Value.slice none 0 0], rfl, rfl, ⟨[Vi (0)], [Value.slice none 0 0, Value.slice none 0 0, Value.slice none 0 0, Value.slice (some ⟨h, 0, none⟩) 1 1, Value.slice none 0 0], rfl, rfl, ⟨[Value.slice none 0 0, Value.slice none 0 0, Value.slice none 0 0], [Value.slice (some ⟨h, 0, none⟩) 1 1, Value.slice none 0 0], rfl, ⟨[Value.slice none 0 0], [Value.slice none 0 0, Value.slice none 0 0], rfl, ⟨_, rfl, (SliceRep.nil _ _)⟩, ⟨[Value.slice none 0 0], [Value.slice none 0 0], rfl, ⟨_, rfl, (SliceRep.nil _ _)⟩, ⟨_, rfl, (SliceRep.nil _ _)⟩⟩⟩, ⟨[Value.slice (some ⟨h, 0, none⟩) 1 1], [Value.slice none 0 0], rfl, ⟨_, rfl, dz⟩, ⟨_, rfl, (SliceRep.nil _ _)⟩⟩⟩⟩⟩, rfl⟩ rfl az ?_)
  intro bv fw bg
  refine ⟨ag_nil, ?_⟩
  refine DL_done (Za rfl rfl (Zp F28_4 rfl rfl rfl (Za rfl rfl (Exec.store_box (ds := [bv]) (es := [ac, k, l, m, bv]) (bg).f1 A26 rfl rfl rfl (cells_one (((bg).f1).f1).arr_one) (Zj (((bg).f1).f1).arr_one one_nil) (Nat.le_of_ble_eq_true rfl) rfl ?_))))
  intro fx cF
  refine Zb (Ze ?_)
  exact ⟨dC, bv, bA, ((((cF).f1).f2).f2).f3, j, rfl, rfl⟩
 intro er fy bY
 obtain ⟨e0, bp, ae, bh, bk, a9, bC⟩ := bY
 refine (Ze (Zc (W_dl (n0 := 7) (qs 0 6 (.e 6 [] .done)) hmix (by kernel_rfl) (by kernel_rfl) (DL_q rfl rfl (Zp F28_4 rfl a9 rfl ⟨rfl, ?_⟩)))))
 refine DL_q rfl rfl (Zn ((bh.drew).f1) A26 rfl rfl rfl ⟨rfl, ?_⟩)
 refine DL_q rfl rfl (Zp F28_4 rfl bk rfl ⟨rfl, ?_⟩)
 refine DL_q rfl rfl (Zn (bh.drew) A26 rfl rfl rfl ⟨rfl, ?_⟩)
 refine DL_q rfl rfl (Zm (v := Vi ((IntKind.i64.wrap o).tmod (IntKind.i64.wrap ((a.Ops.length : Int) + 1)))) rfl bC ⟨rfl, ?_⟩)
 obtain ⟨bW, dj, hm⟩ := Zg hm
 refine DL_q rfl rfl (Exec.slice_from S26 rfl rfl rfl (an.mono (Zt (Zt g i) ae)) dj ?_)
 intro eD d0
 refine ⟨rfl, ?_⟩
 obtain ⟨ew, dk, hm⟩ := Zg hm
 refine DL_e rfl rfl (Exec.append_rep (E := encGOp) (ys := bW) (bh.drew).f3 S26 Z51 rfl (by decide) rfl rfl rfl d0 dk ?_)
 intro bw fz bi
 refine ⟨ag_nil, ?_⟩
 refine DL_done (Za rfl rfl (Zp F28_4 rfl a9 rfl (Za rfl rfl (Exec.store_box (ds := [bw]) (es := [ac, k, l, m, bw]) (bi).f2 A26 rfl rfl rfl (cells_one (((bi).f2).f1).arr_one) (Zj (((bi).f2).f1).arr_one one_nil) (Nat.le_of_ble_eq_true rfl) rfl ?_))))
 intro f0 b6
 refine Zb (Ze (Zc (Zd (Za rfl rfl (Exec.load_box_agg (ds := [af, k, l, m, ab]) ((b6).f2) A28 rfl bk rfl ?_)))))
 obtain ⟨dE, dl, hm⟩ := Zg hm
 obtain ⟨aL, fL, fM⟩ := dE
 replace hm := un3_eq hm
 refine Za rfl rfl (Tc rfl rfl rfl (Zi rfl args_nil) (simplify_Simplify_sim dl b6 (ag.mono (Zt (Zt g i) ae)) (a1.mono (Zt (Zt g i) ae)) (a2.mono (Zt (Zt g i) ae)) (a3.mono (Zt (Zt g i) ae)) (an.mono (Zt (Zt g i) ae))).r ?_)
 rintro _ f6 ⟨e1, aB, aC, aD, aE, aF, aO, aP, aQ, a8, cG, rfl, bD, bE, bF, bG, bH, d1, d2, d3⟩
 refine Za rfl rfl (Zm (v := Value.tuple #[Value.agg #[aB, aC, aD, aE, aF], Value.agg #[aO, aP, aQ], errV 41 (aL)]) rfl rfl (Za rfl rfl (Exec.extract (v := Value.agg #[aB, aC, aD, aE, aF]) rfl rfl rfl (Za rfl rfl (Exec.extract (v := Value.agg #[aO, aP, aQ]) rfl rfl rfl (Za rfl rfl (Exec.extract (v := errV 41 (aL)) rfl rfl rfl (Za rfl rfl (Exec.alloc (cs := [Value.slice none 0 0, Value.slice none 0 0, Value.slice none 0 0, Value.slice none 0 0, Value.slice none 0 0]) cG Z28 rfl rfl ?_)))))))))
 intro dV f7 cH
 refine Za rfl rfl (Exec.alloc (cs := [Value.slice none 0 0, Value.slice none 0 0, Value.slice none 0 0]) cH Z32 rfl rfl ?_)
 intro dW f8 cI
 refine Za rfl rfl (Exec.store_box (ds := [aB, aC, aD, aE, aF]) (es := [aB, aC, aD, aE, aF]) (cI).f1 A28 rfl rfl rfl rfl (Zj (bD).one (Zj (bE).one (Zj (bF).one (Zj (bG).one (Zj (bH).one one_nil))))) (Nat.le_of_ble_eq_true rfl) rfl ?_)
 intro f9 cJ
 refine Za rfl rfl (Exec.store_box (ds := [aO, aP, aQ]) (es := [aO, aP, aQ]) (cJ).f1 A32 rfl rfl rfl rfl (Zj (d1).one (Zj (d2).one (Zj (d3).one one_nil))) (Nat.le_of_ble_eq_true rfl) rfl ?_)
 intro fA b7
 refine Za rfl rfl (Zo (v := errV 41 (aL)) rfl rfl (Zb (Ze (Zc (Zd (Za rfl rfl (Exec.load_box_agg (ds := [ac, k, l, m, bw]) ((b7).f2) A28 rfl a9 rfl ?_)))))))
 obtain ⟨e2, ah, cK, bI⟩ := (b7).f5.freezeArr
 obtain ⟨e3, z, cL, bJ⟩ := (cK).f3.freezeArr
 obtain ⟨dF, dm, hm⟩ := Zg hm
 obtain ⟨aU, fN, fO⟩ := dF
 replace hm := un3_eq hm
 refine Za rfl rfl (Tc rfl rfl rfl (Zi rfl args_nil) (simplify_Simplify_sim dm cL (bI.mono z) (a1.mono (Zt (Zt (Zt (Zt (Zt g i) ae) a8) ah) z)) (a2.mono (Zt (Zt (Zt (Zt (Zt g i) ae) a8) ah) z)) (a3.mono (Zt (Zt (Zt (Zt (Zt g i) ae) a8) ah) z)) bJ).r ?_)
 rintro _ fB ⟨bo, aG, aH, aI, aJ, aK, aR, aS, aT, am, cM, rfl, bK, bL, bM, bN, bO, bl, d4, bm⟩
 refine Za rfl rfl (Zm (v := Value.tuple #[Value.agg #[aG, aH, aI, aJ, aK], Value.agg #[aR, aS, aT], errV 41 (aU)]) rfl rfl (Za rfl rfl (Exec.extract (v := Value.agg #[aG, aH, aI, aJ, aK]) rfl rfl rfl (Za rfl rfl (Exec.extract (v := Value.agg #[aR, aS, aT]) rfl rfl rfl (Za rfl rfl (Exec.extract (v := errV 41 (aU)) rfl rfl rfl (Za rfl rfl (Exec.alloc (cs := [Value.slice none 0 0, Value.slice none 0 0, Value.slice none 0 0, Value.slice none 0 0, Value.slice none 0 0]) cM Z28 rfl rfl ?_)))))))))
 intro dX fC cN
 refine Za rfl rfl (Exec.alloc (cs := [Value.slice none 0 0, Value.slice none 0 0, Value.slice none 0 0]) cN Z32 rfl rfl ?_)
 intro dY fD cO
 refine Za rfl rfl (Exec.store_box (ds := [aG, aH, aI, aJ, aK]) (es := [aG, aH, aI, aJ, aK]) (cO).f1 A28 rfl rfl rfl rfl (Zj (bK).one (Zj (bL).one (Zj (bM).one (Zj (bN).one (Zj (bO).one one_nil))))) (Nat.le_of_ble_eq_true rfl) rfl ?_)
 intro fE cP
 refine Za rfl rfl (Exec.store_box (ds := [aR, aS, aT]) (es := [aR, aS, aT]) (cP).f1 A32 rfl rfl rfl rfl (Zj (bl).one (Zj (d4).one (Zj (bm).one one_nil))) (Nat.le_of_ble_eq_true rfl) rfl ?_)
 intro fF a5
 refine Za rfl rfl (Zo (v := errV 41 (aU)) rfl rfl (Zb (Ze (Zc ?_))))
 obtain ⟨ai, d, hm⟩ := Zg hm
 refine W_mid (M := fun f' w' => (fun (ai : Bool) => ∃ (bT : PHeap) , PHeap.le bo bT ∧ St w0 bT (H) w' ∧ f' 6 = Value.bool (ai)) ai) ?_ ?_
 ·refine Zd (Za rfl rfl (Zm (v := errV 41 (aL)) rfl rfl (Za rfl rfl (Exec.err_eql_nil (T := 41) Try.underlying34 rfl rfl rfl (Za rfl rfl (Zm (v := Value.bool (aL.isNone)) rfl rfl ?_))))))
  rcases ite_some d with ⟨ar, d⟩ | ⟨ar, d⟩
  ·refine WL_run rfl (Zf rfl (Zx ar)) rfl (Zm (v := errV 41 (aU)) rfl rfl (WL_run rfl (Zf rfl (Zx ar)) rfl (Exec.err_eql_nil (T := 41) Try.underlying34 rfl rfl rfl ?_)))
   refine WL_passes 2 (by rw [ar]; rfl) ?_
   rcases ite_some d with ⟨ap, d⟩ | ⟨ap, d⟩
   ·refine WL_run rfl (Zf rfl (Zx ap)) rfl (Exec.load_box_agg (ds := [aB, aC, aD, aE, aF]) ((a5).f3) A28 rfl rfl rfl (WL_run rfl (Zf rfl (Zx ap)) rfl (Exec.load_box_agg (ds := [aG, aH, aI, aJ, aK]) ((a5).f1) A28 rfl rfl rfl ?_)))
    obtain ⟨fP, dn, d⟩ := Zg d
    refine WL_run rfl (Zf rfl (Zx ap)) rfl (Tc rfl rfl rfl (Zi rfl (Zi rfl args_nil)) (ref18_Same_sim dn a5 (bD.mono (Zt (Zt ah z) am)) (bE.mono (Zt (Zt ah z) am)) (bF.mono (Zt (Zt ah z) am)) (bG.mono (Zt (Zt ah z) am)) (bH.mono (Zt (Zt ah z) am)) bK bL bM bN bO).r ?_)
    rintro _ fG ⟨aA, aa, t, rfl⟩
    refine WL_passes 2 (by rw [ap]; rfl) ?_
    rcases ite_some d with ⟨x, d⟩ | ⟨x, d⟩
    ·refine WL_run rfl (Zf rfl (Zx x)) rfl (Zp F32_2 rfl rfl rfl (WL_run rfl (Zf rfl (Zx x)) rfl (Zn (t) A24 rfl rfl rfl (WL_run rfl (Zf rfl (Zx x)) rfl (Zr S24 rfl rfl (bm.mono aa) (WL_run rfl (Zf rfl (Zx x)) rfl (Zp F28_4 rfl a9 rfl (WL_run rfl (Zf rfl (Zx x)) rfl (Zn ((t).f4) A26 rfl rfl rfl (WL_run rfl (Zf rfl (Zx x)) rfl (Zr S26 rfl rfl (bJ.mono (Zt am aa)) (WL_run rfl (Zf rfl (Zx x)) rfl (Exec.eql rfl rfl rfl ?_)))))))))))))
     refine WL_passes 2 (by rw [x]; rfl) ?_
     rcases ite_some d with ⟨ad, d⟩ | ⟨ad, d⟩
     ·refine WL_run rfl (Zf rfl (Zx ad)) rfl (Zp F32_2 rfl rfl rfl (WL_run rfl (Zf rfl (Zx ad)) rfl (Zn (t) A24 rfl rfl rfl (WL_run rfl (Zf rfl (Zx ad)) rfl (Zm (v := Vi ((IntKind.i64.wrap o).tmod (IntKind.i64.wrap ((a.Ops.length : Int) + 1)))) rfl bC ?_)))))
      obtain ⟨fI, dp, d⟩ := Zg d
      refine WL_run rfl (Zf rfl (Zx ad)) rfl (Exec.index_rep S24 rfl rfl rfl (bm.mono aa) dp ?_)
      intro dZ ex bU
      refine WL_run rfl (Zf rfl (Zx ad)) rfl (Zw (E := (encInt .i64)) t A3 rfl rfl rfl bU ?_)
      intro eE dq
      obtain rfl := encInt_val.1 dq
      refine WL_run rfl (Zf rfl (Zx ad)) rfl (Exec.eql rfl rfl rfl ?_)
      refine WL_passes 2 (by rw [ad]; rfl) ?_
      rcases ite_some d with ⟨y, d⟩ | ⟨y, d⟩
      ·refine WL_run rfl (Zf rfl (Zx y)) rfl (Zp F32_0 rfl rfl rfl (WL_run rfl (Zf rfl (Zx y)) rfl (Zn (t) A24 rfl rfl rfl (WL_run rfl (Zf rfl (Zx y)) rfl (Zr S24 rfl rfl (bl.mono aa) (WL_run rfl (Zf rfl (Zx y)) rfl (Zp F28_0 rfl a9 rfl (WL_run rfl (Zf rfl (Zx y)) rfl (Zn ((t).f4) A22 rfl rfl rfl (WL_run rfl (Zf rfl (Zx y)) rfl (Zr S22 rfl rfl (bI.mono (Zt (Zt z am) aa)) (WL_run rfl (Zf rfl (Zx y)) rfl (Exec.eql rfl rfl rfl ?_)))))))))))))
       refine WL_passes 2 (by rw [y]; rfl) ?_
       rcases ite_some d with ⟨u, d⟩ | ⟨u, d⟩
       ·refine WL_run rfl (Zf rfl (Zx u)) rfl (Zp F32_0 rfl rfl rfl (WL_run rfl (Zf rfl (Zx u)) rfl (Zn (t) A24 rfl rfl rfl (WL_run rfl (Zf rfl (Zx u)) rfl (Zp F28_0 rfl bk rfl (WL_run rfl (Zf rfl (Zx u)) rfl (Zn ((t).f5) A22 rfl rfl rfl (WL_run rfl (Zf rfl (Zx u)) rfl (Zr S22 rfl rfl (ag.mono (Zt (Zt (Zt (Zt (Zt (Zt (Zt g i) ae) a8) ah) z) am) aa)) ?_)))))))))
        obtain ⟨fJ, dr, d⟩ := Zg d
        refine WL_run rfl (Zf rfl (Zx u)) rfl (Exec.index_rep S24 rfl rfl rfl (bl.mono aa) dr ?_)
        intro ea ey bV
        refine WL_run rfl (Zf rfl (Zx u)) rfl (Zw (E := (encInt .i64)) t A3 rfl rfl rfl bV ?_)
        intro eF dt
        obtain rfl := encInt_val.1 dt
        refine WL_run rfl (Zf rfl (Zx u)) rfl (Exec.eql rfl rfl rfl ?_)
        refine WL_passes 2 (by rw [u]; rfl) ?_
        refine Zb (Ze ?_)
        have eh := Zu d
        subst ai
        exact ⟨aA, aa, ((((((t).drop).drop).drop).drop).drop).drop, rfl⟩
       replace u := Zk u
       refine WL_passes 10 (by rw [u]; rfl) ?_
       refine Zb (Ze ?_)
       have ei := Zu d
       subst ai
       exact ⟨aA, aa, ((((((t).drop).drop).drop).drop).drop).drop, rfl⟩
      replace y := Zk y
      refine WL_passes 19 (by rw [y]; rfl) ?_
      refine Zb (Ze ?_)
      have ej := Zu d
      subst ai
      exact ⟨aA, aa, ((((((t).drop).drop).drop).drop).drop).drop, rfl⟩
     replace ad := Zk ad
     refine WL_passes 27 (by rw [ad]; rfl) ?_
     refine Zb (Ze ?_)
     have ek := Zu d
     subst ai
     exact ⟨aA, aa, ((((((t).drop).drop).drop).drop).drop).drop, rfl⟩
    replace x := Zk x
    refine WL_passes 36 (by rw [x]; rfl) ?_
    refine Zb (Ze ?_)
    have el := Zu d
    subst ai
    exact ⟨aA, aa, ((((((t).drop).drop).drop).drop).drop).drop, rfl⟩
   replace ap := Zk ap
   refine WL_passes 41 (by rw [ap]; rfl) ?_
   refine Zb (Ze ?_)
   have em := Zu d
   subst ai
   exact ⟨bo, (Zv _), ((((((a5).drop).drop).drop).drop).drop).drop, rfl⟩
  replace ar := Zk ar
  refine WL_passes 45 (by rw [ar]; rfl) ?_
  refine Zb (Ze ?_)
  have en := Zu d
  subst ai
  exact ⟨bo, (Zv _), ((((((a5).drop).drop).drop).drop).drop).drop, rfl⟩
 intro et fH bZ
 obtain ⟨dD, cY, cQ, da⟩ := bZ
 refine (Ze (W_ret ?_))
 have eo := Zu hm
 subst r
 refine ⟨_, ret1 rfl, ?_⟩
 exact ⟨dD, (Zt (Zt (Zt (Zt (Zt (Zt (Zt g i) ae) a8) ah) z) am) cY), cQ, da⟩
end Go.Pw
