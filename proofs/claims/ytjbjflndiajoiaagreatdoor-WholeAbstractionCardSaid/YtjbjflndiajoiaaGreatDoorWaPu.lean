/- -/
import Derived.Test.YtjbjflndiajoiaaGreatDoorWa2
import Derived.Test.YtjbjflndiajoiaaGreatDoorWsB
set_option linter.unusedSimpArgs false
set_option linter.unusedVariables false
namespace Go.Pw
open Go.Proofs Go.RowKit Go.Shelf Go.Sort
theorem QnE (t : Task) (vars xs : List Int) (n : Int) : Qfv t vars xs n = (must (decide (vars.length ≤ 17592186044415))).bind fun _ => (Qdm t.Vars (QaK (Qbf vars) vars.length) (xs, n)).bind fun st => some st.1 := by
 rw [← Qm2]
 rfl
theorem Qmg {α : Type} (f : Nat → α) : QaK f 0 = [] := rfl
theorem Qjt {w0 w : World} {s : PHeap} {H : List Res} {t : Task} {vars xs : List Int} {n : Int} {r : List Int} {v1 v2 v3 v4 vv v : Value} (hm : Qfv t vars xs n = some r) (hS : St w0 s (Res.arr (U .i64) 3 v xs :: H) w)
  (a1 : SliceRep (U .i64) s v1 t.Vars) (a2 : SliceRep (U .i64) s v2 t.Init) (a3 : SliceRep encFact s v3 t.Goal) (a4 : SliceRep encOp s v4 t.Ops) (a5 : SliceRep (U .i64) s vv vars) :
  Calls Tryz.prog 45 #[Value.agg #[v1, v2, v3, v4], vv, v, Value.int .i64 n] w fun e w' => ∃ u, e = .returned u ∧ ((fun (l : List Int) => ∃ (s' : PHeap), PHeap.le s s' ∧ St w0 s' (Res.arr (U .i64) 3 v l :: H) w' ∧ u = Value.tuple #[]) r) := by
 rw [QnE] at hm
 obtain ⟨_, hbig, hm⟩ := V hm
 have hbig : vars.length ≤ 17592186044415 := by simpa using Ql hbig
 obtain ⟨⟨r', m2⟩, hend, hm⟩ := V hm
 obtain rfl : r' = r := Zu hm
 cases hv : vars with
 | nil =>
  subst hv
  simp only [List.length_nil, Qmg, Qdm, Option.some.injEq, Prod.mk.injEq] at hend
  obtain ⟨rfl, rfl⟩ := hend
  obtain ⟨a, c, rfl⟩ := a5.shape
  obtain ⟨av, cvv, rfl⟩ := hS.arr_shape
  refine (calls_of_every_depth (L := [45, 72, 102]) (n := 3) fun D => Qlg (Fence.list [45, 72, 102] (some D)) 3 (by simp [Fence.list]) (by simp [Fence.list]) (by simp [Fence.list]) Z (Nat.le_refl _)).mono ?_
  rintro e W ⟨rfl, h, hd⟩
  refine ⟨_, Z, s, Zv _, hS.turn h.os h.tape h.output hd h.size ?_, Z⟩
  intro b1 hb1
  have hlt := (Res.arr (U .i64) 3 _ xs).lt hb1
  have hnd : b1.Nodup := by
   obtain ⟨_, _, _, e⟩ := hb1
   subst e
   cases av with
   | none => simp [Value.ownBlock]
   | some a => simp [Value.ownBlock]
  exact ⟨b1, (Res.arr _ _ _ _).loc hb1 fun b hb => h.block b (hlt b hb), hnd, fun b hb => .inl hb, fun b hb _ => h.block b hb⟩
 | cons x0 l0 =>
  have hlen : 0 < vars.length := by rw [hv]; simp
  have hle := a5.le
  have hcell : ∀ j, j < vars.length → ∃ b off c, vv = .slice (some ⟨b, off, none⟩) vars.length c ∧ s b ≠ none ∧ w.cell? ⟨b, off + j, none⟩ = some (.int .i64 (vars[j]?.getD 0)) := by
   intro j hj
   obtain ⟨b, off, c, e, hat⟩ := a5.at (n := (j : Int)) (y := vars[j]?.getD 0) (by unfold Q9; rw [if_pos (by omega), Int.toNat_natCast]; simp [hj])
   refine ⟨b, off, c, e, ?_, ?_⟩
   ·obtain ⟨_, _, _, h, _⟩ := hat
    rw [h]; simp
   ·obtain ⟨cs, Te, fz, h1, h2⟩ := hat
    rw [Qcw hS h1]
    simp only [U, K1, Int.toNat_natCast, Nat.mul_one] at h2
    have h3 := congrArg (·[0]?) h2
    simp only [List.getElem?_take, List.getElem?_drop] at h3
    simpa using h3
  obtain ⟨b, off, c, rfl, hb, _⟩ := hcell 0 hlen
  have hpre : ∀ pre x, pre ++ [x] <+: QaK (Qbf vars) vars.length → ∃ st, Qdm t.Vars (pre ++ [x]) (xs, n) = some st := fun pre x hp => Qkj hp hend
  have hx : 0 < xs.length := by
   obtain ⟨st, hst⟩ := hpre [] (Qbf vars 0) (by have := Qhp (Qbf vars) (k := 1) (n := vars.length) hlen; rw [Qdw] at this; exact this)
   simp only [List.nil_append, Qdm, QjQ] at hst
   obtain ⟨st1, hst, _⟩ := V hst
   obtain ⟨d, hd, hst⟩ := V hst
   obtain ⟨u, hu, hst⟩ := V hst
   obtain ⟨ys', hz, hst⟩ := V hst
   obtain ⟨g0, g1, _⟩ := QaU hz
   omega
  refine (QnD (y := 0) hS hx hb hbig a1 (fun j hj => ?_) hS.arr_one a1.one hpre hend).mono ?_
  ·obtain ⟨b', off', c', e, _, h⟩ := hcell j hj
   cases e
   exact h
  ·rintro e W ⟨rfl, h⟩
   exact ⟨_, Z, s, Zv _, h, Z⟩
end Go.Pw
