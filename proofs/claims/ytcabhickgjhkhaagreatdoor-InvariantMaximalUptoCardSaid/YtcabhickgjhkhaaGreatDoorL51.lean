/-
  My walk's base, part 51: a builder's bytes as a string, where there may be none.
-/
import Derived.Test.YtcabhickgjhkhaaGreatDoorLC
set_option linter.unusedSimpArgs false
set_option linter.unusedVariables false
namespace Go.Pw
/-- The string that shares a row of bytes, or the empty one. -/
def strOfE (xs : List Int) : Option ByteArray := if xs = [] then some ⟨#[]⟩ else strOf xs
section
variable {P : Program} {ρ : Operand → Value} {o : Oper} {w w0 : World} {s : PHeap} {H : List Res} {K : Value → World → Prop} {Te : TypeId} {v : Value} {xs : List Int}
theorem St.allocAny (h : St w0 s H w) (o : Obj) : St w0 s H (w.alloc o) := by
  obtain ⟨bs, hn, hs, hb⟩ := h.own
  have hlt := hb.lt
  refine ⟨h.os, h.tape, h.output, h.drawn, Nat.le_trans h.size (by simp), fun b o' hbo => ?_, bs, hn, hs, hb.loc fun b hm => heap_push_lt w _ (hlt b hm)⟩
  have := h.stay b o' hbo
  rw [heap_push_lt w _ (Array.getElem?_eq_some_iff.1 this).1]
  exact this
theorem Exec.slice_data_any {t te : TypeId} {x : Operand} (hS : St w0 s (.arr (encInt .u8) Te v xs :: H) w) (hty : P.underlying o.type = some (.pointer te)) (ho : o.op = .call { callee := .builtin .unsafeSliceData, args := #[x], argTypes := #[t] }) (hx : ρ x = v)
    (hk : ∀ p w', St w0 s (.arr (encInt .u8) Te v xs :: H) w' → (xs ≠ [] → ∃ g cap, p = some ⟨g, 0, none⟩ ∧ v = .slice (some ⟨g, 0, none⟩) xs.length cap) → K (.pointer p) w') : Exec P ρ o w K := by
  have hS0 := hS
  obtain ⟨bs, hn, hss, b1, b2, e, ⟨cells, h1, h2, rfl⟩, h3⟩ := hS.own
  rcases h2.2 with ⟨hv, h0⟩ | ⟨g, cap, cur, hv, hbg, hg, hnc, hcm, hcs, htake⟩
  · subst hv
    refine .of_run (v := .pointer none) (w' := w) ?_ (hk none w hS0 fun hne => absurd (List.eq_nil_of_length_eq_zero h0) hne)
    have hrun := Lib.run_unsafeSliceData_nil (P := P) w #[t] o.type 0 0
    unfold execOp
    simp only [ho, resolve, invoke, builtin, Sem.run_bind, Sem.run_pure, Result.andThen_ok, List.map_toArray, List.map_cons, List.map_nil, hx, hrun]
  · subst hv
    by_cases hc : cap = 0
    · subst hc
      have hl0 : xs.length = 0 := by omega
      have hrun := Lib.run_unsafeSliceData_zero (P := P) w #[t] o.type te hty ⟨g, 0, none⟩ xs.length (Te, cur.size) (by simp [World.shape?, hg])
      refine .of_run ?_ (hk (some ⟨w.heap.size, 0, none⟩) (w.alloc (.view ⟨g, 0, none⟩ te)) (hS0.allocAny _) fun hne => absurd (List.eq_nil_of_length_eq_zero hl0) hne)
      unfold execOp
      simp only [ho, resolve, invoke, builtin, Sem.run_bind, Sem.run_pure, Result.andThen_ok, List.map_toArray, List.map_cons, List.map_nil, hx, hrun]
    · have hrun := Lib.run_unsafeSliceData_row (P := P) w #[t] o.type ⟨g, 0, none⟩ xs.length cap hc
      refine .of_run (v := .pointer (some ⟨g, 0, none⟩)) (w' := w) ?_ (hk _ w hS0 fun _ => ⟨g, cap, rfl, rfl⟩)
      unfold execOp
      simp only [ho, resolve, invoke, builtin, Sem.run_bind, Sem.run_pure, Result.andThen_ok, List.map_toArray, List.map_cons, List.map_nil, hx, hrun]
theorem Exec.unsafe_string_any {pt it : TypeId} {x y : Operand} {p : Option Addr} {q : ByteArray} (hS : St w0 s (.arr (encInt .u8) Te v xs :: H) w) (hv : xs ≠ [] → ∃ g cap, p = some ⟨g, 0, none⟩ ∧ v = .slice (some ⟨g, 0, none⟩) xs.length cap) (hp : P.underlying pt = some (.pointer Te)) (hc : P.cellsOf Te = 1)
    (ho : o.op = .call { callee := .builtin .unsafeString, args := #[x, y], argTypes := #[pt, it] }) (hx : ρ x = .pointer p) (hy : ρ y = .int .i64 (xs.length : Int)) (hq : strOfE xs = some q)
    (hk : ∀ w', St w0 s H w' → K (.string q) w') : Exec P ρ o w K := by
  unfold strOfE at hq
  split at hq
  · rename_i h0
    subst h0
    cases hq
    have hrun := Lib.run_unsafeString_none (P := P) w pt it o.type p
    refine .of_run (v := .string .empty) (w' := w) ?_ (hk w hS.drop)
    have hy' : ρ y = .int .i64 0 := hy
    unfold execOp
    simp only [ho, resolve, invoke, builtin, Sem.run_bind, Sem.run_pure, Result.andThen_ok, List.map_toArray, List.map_cons, List.map_nil, hx, hy', hrun]
  · rename_i h0
    obtain ⟨g, cap, rfl, hv'⟩ := hv h0
    exact Exec.unsafe_string hS hv' hp hc ho hx hy hq hk
end
end Go.Pw
