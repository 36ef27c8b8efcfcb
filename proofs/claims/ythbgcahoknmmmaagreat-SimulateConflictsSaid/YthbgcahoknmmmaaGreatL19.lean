/-
  My walk's base, part 20: arrays of integers that are compared.
-/
import Derived.Test.YthbgcahoknmmmaaGreatL18
import Derived.Test.YthbgcahoknmmmaaGreatL11
set_option linter.unusedSimpArgs false
namespace Go.Pw
def intArr (P : Program) (T : TypeId) (n : Nat) : Bool :=
  (match P.underlying T with | some (.array m e) => Nat.beq m n && P.plainKey e && (match P.underlying e with | some (.int .i64) => true | _ => false) && Nat.beq (P.cellsOf e) 1 && (P.info? e).isSome | _ => false) && !P.eqGuardType P.depth T
section
variable {P : Program} {ρ : Operand → Value} {o : Oper} {w : World} {K : Value → World → Prop} {T T' : TypeId} {x y : Operand}
theorem run_eqItems_ints (d : Nat) {e : TypeId} (he : P.plainKey e = true) (hu : P.underlying e = some (.int .i64)) : ∀ (xs ys : List Int) (i : Nat) (X Y : Array Value), xs.length = ys.length → (∀ j a, xs[j]? = some a → X[i + j]? = some (iv a)) → (∀ j a, ys[j]? = some a → Y[i + j]? = some (iv a)) →
    (Op.eqItems (d + 1) e 1 X Y (List.range' i xs.length)).run P w = .ok (eqs xs ys) w
  | [], [], _, _, _, _, _, _ => by simp [Op.eqItems, eqs]
  | [], _ :: _, _, _, _, h, _, _ => by simp at h
  | _ :: _, [], _, _, _, h, _, _ => by simp at h
  | a :: xs, b :: ys, i, X, Y, h, hX, hY => by
    have e1 := run_part_plain (w := w) he (hX 0 a rfl)
    have e2 := run_part_plain (w := w) he (hY 0 b rfl)
    rw [Nat.add_zero] at e1 e2
    have ih := run_eqItems_ints d he hu xs ys (i + 1) X Y (by simpa using h) (fun j a h => by rw [Nat.add_assoc, Nat.add_comm 1 j]; exact hX (j + 1) a (by simpa using h)) (fun j a h => by rw [Nat.add_assoc, Nat.add_comm 1 j]; exact hY (j + 1) a (by simpa using h))
    simp only [List.length_cons, List.range'_succ, Op.eqItems, Nat.mul_one, Sem.run_bind, e1, e2, Result.andThen_ok, iv, run_equalIn_int _ _ _ _ _ _ _ hu]
    by_cases e : a = b
    · subst e
      simp [eqs, ih]
    · simp [eqs, e]
theorem Exec.arr_neq {xs ys : List Int} {n : Nat} {u v : Value} (hT : intArr P T n = true) (hu : u = .agg (xs.map iv).toArray) (hv : v = .agg (ys.map iv).toArray) (hnx : xs.length = n) (hny : ys.length = n) (ho : o.op = .binOp .neq T x y T') (hx : ρ x = u) (hy : ρ y = v)
    (hk : K (.bool (!eqs xs ys)) w) : Exec P ρ o w K := by
  subst hu; subst hv
  simp only [intArr, Bool.and_eq_true, Bool.not_eq_true'] at hT
  obtain ⟨h1, h3⟩ := hT
  split at h1
  · rename_i m e hfs
    simp only [Bool.and_eq_true] at h1
    obtain ⟨⟨⟨⟨hm, hp⟩, hi⟩, hc⟩, hinfo⟩ := h1
    obtain ⟨inf, hinf⟩ := Option.isSome_iff_exists.1 hinfo
    have hm := Nat.eq_of_beq_eq_true hm
    have hc := Nat.eq_of_beq_eq_true hc
    have hu : P.underlying e = some (.int .i64) := by
      split at hi
      · assumption
      · cases hi
    have := run_eqItems_ints (P := P) (w := w) 9998 hp hu xs ys 0 _ _ (by omega) (fun j a h => ivs_get h) (fun j a h => ivs_get h)
    refine exec_bin (op := .neq) ho hx hy (run_eqGuard_agg _ _ _ _ _ _ _ h3) ?_ hk
    rw [run_neq_struct, run_equalIn_array w 9999 _ _ hfs hinf, hc, List.range_eq_range', hm, ← hnx, this]
    rfl
  · cases h1
end
end Go.Pw
