/- -/
import Derived.Test.YteiainhbhaodoaaGreatL10
import Derived.ChangeKeysEq
set_option linter.unusedSimpArgs false
namespace Go.Pw
def eqs : List Int → List Int → Bool
 | x :: xs, y :: ys => decide (x = y) && eqs xs ys
 | _, _ => true
def Qh7 (P : Program) : Nat → List Field → Bool
 | _, [] => true
 | i, f :: fs => (f.name != "_") && Nat.beq f.offset i && P.plainKey f.type && (match P.underlying f.type with | some (.int .i64) => true | _ => false) && Qh7 P (i + 1) fs
def QbD (P : Program) (T : TypeId) (n : Nat) : Bool :=
 (match P.underlying T with | some (.struct fs) => Qh7 P 0 fs.toList && Nat.beq fs.toList.length n | _ => false) && !P.stoodInHeld T && !P.eqGuardType P.depth T
def iv (a : Int) : Value := .int .i64 a
section
variable {P : Program} {ρ : Operand → Value} {o : Oper} {w : World} {K : Value → World → Prop} {T T' : TypeId} {x y : Operand}
theorem QbU (d : Nat) : ∀ (fs : List Field) (i : Nat) (xs ys : List Int) (X Y : Array Value), Qh7 P i fs = true → fs.length = xs.length → fs.length = ys.length → (∀ j a, xs[j]? = some a → X[i + j]? = some (iv a)) → (∀ j a, ys[j]? = some a → Y[i + j]? = some (iv a)) →
  (Op.eqFields (d + 1) X Y fs).run P w = .ok (eqs xs ys) w
 | [], _, [], [], _, _, _, _, _, _, _ => by simp [Op.eqFields, eqs]
 | f :: fs, i, [], _, _, _, _, h, _, _, _ => by simp at h
 | f :: fs, i, _ :: _, [], _, _, _, _, h, _, _ => by simp at h
 | [], _, _ :: _, _, _, _, _, h, _, _, _ => by simp at h
 | [], _, [], _ :: _, _, _, _, _, h, _, _ => by simp at h
 | f :: fs, i, a :: xs, b :: ys, X, Y, h, hx, hy, hX, hY => by
  simp only [Qh7, Bool.and_eq_true] at h
  obtain ⟨⟨⟨⟨h1, h2⟩, h3⟩, h4⟩, h5⟩ := h
  have hn : f.name ≠ "_" := by simpa using h1
  have ho : f.offset = i := Nat.eq_of_beq_eq_true h2
  have hu : P.underlying f.type = some (.int .i64) := by
   split at h4
   ·assumption
   ·cases h4
  have e1 := run_part_plain (w := w) h3 (hX 0 a rfl)
  have e2 := run_part_plain (w := w) h3 (hY 0 b rfl)
  rw [Nat.add_zero] at e1 e2
  have ih := QbU d fs (i + 1) xs ys X Y h5 (by simpa using hx) (by simpa using hy) (fun j a h => by rw [Nat.add_assoc, Nat.add_comm 1 j]; exact hX (j + 1) a (by simpa using h)) (fun j a h => by rw [Nat.add_assoc, Nat.add_comm 1 j]; exact hY (j + 1) a (by simpa using h))
  simp only [Op.eqFields, if_pos hn, ho, Sem.run_bind, e1, e2, Result.andThen_ok, iv, run_equalIn_int _ _ _ _ _ _ _ hu]
  by_cases e : a = b
  ·subst e
   simp [eqs, ih]
  ·simp [eqs, e]
theorem Qe8 {l : List Int} {j : Nat} {a : Int} (h : l[j]? = some a) : (l.map iv).toArray[0 + j]? = some (iv a) := by simp [h]
theorem Qf2 {xs ys : List Int} {n : Nat} {u v : Value} (hT : QbD P T n = true) (hu : u = .agg (xs.map iv).toArray) (hv : v = .agg (ys.map iv).toArray) (hnx : xs.length = n) (hny : ys.length = n) (ho : o.op = .binOp .eql T x y T') (hx : ρ x = u) (hy : ρ y = v)
  (hk : K (.bool (eqs xs ys)) w) : Exec P ρ o w K := by
 subst hu; subst hv
 simp only [QbD, Bool.and_eq_true, Bool.not_eq_true'] at hT
 obtain ⟨⟨h1, h2⟩, h3⟩ := hT
 split at h1
 ·rename_i fs hfs
  simp only [Bool.and_eq_true] at h1
  have hlen : fs.toList.length = n := Nat.eq_of_beq_eq_true h1.2
  have hf : P.fieldsOf T = fs := by simp [Program.fieldsOf, hfs]
  have := QbU (P := P) (w := w) 9998 fs.toList 0 xs ys _ _ h1.1 (by omega) (by omega) (fun j a h => Qe8 h) (fun j a h => Qe8 h)
  refine QaT (op := .eql) ho hx hy (run_eqGuard_agg _ _ _ _ _ _ _ h3) ?_ hk
  rw [run_eql_struct, run_equalIn_agg w 9999 T _ _ (by rw [hf]; exact hfs) h2, hf, this]
  rfl
 ·cases h1
theorem QcW {xs ys : List Int} {n : Nat} {u v : Value} (hT : QbD P T n = true) (hu : u = .agg (xs.map iv).toArray) (hv : v = .agg (ys.map iv).toArray) (hnx : xs.length = n) (hny : ys.length = n) (ho : o.op = .binOp .neq T x y T') (hx : ρ x = u) (hy : ρ y = v)
  (hk : K (.bool (!eqs xs ys)) w) : Exec P ρ o w K := by
 subst hu; subst hv
 simp only [QbD, Bool.and_eq_true, Bool.not_eq_true'] at hT
 obtain ⟨⟨h1, h2⟩, h3⟩ := hT
 split at h1
 ·rename_i fs hfs
  simp only [Bool.and_eq_true] at h1
  have hlen : fs.toList.length = n := Nat.eq_of_beq_eq_true h1.2
  have hf : P.fieldsOf T = fs := by simp [Program.fieldsOf, hfs]
  have := QbU (P := P) (w := w) 9998 fs.toList 0 xs ys _ _ h1.1 (by omega) (by omega) (fun j a h => Qe8 h) (fun j a h => Qe8 h)
  refine QaT (op := .neq) ho hx hy (run_eqGuard_agg _ _ _ _ _ _ _ h3) ?_ hk
  rw [run_neq_struct, run_equalIn_agg w 9999 T _ _ (by rw [hf]; exact hfs) h2, hf, this]
  rfl
 ·cases h1
end
/-! ### results that lie in cells -/
def RR1 (P : Program) (f : Fr) (w : World) : ResultVar → Value → Prop
 | .tmp t, v => v = f t
 | .cell p ty, v => ∃ b off, f p = .pointer (some ⟨b, off, none⟩) ∧ (loadVar ty ⟨b, off, none⟩).run P w = .ok v w
theorem QaJ {P : Program} {w0 w : World} {s : PHeap} {H : List Res} {b : Nat} {Tb ty : TypeId} {cs : List Value} (hS : St w0 s (.box b Tb cs :: H) w) (hT : Qan P ty = some (true, cs.length)) : (loadVar ty ⟨b, 0, none⟩).run P w = .ok (.agg cs.toArray) w := by
 refine Ya hT ?_
 intro j v hj
 rw [Addr.add_lit]
 simp [World.cell?, hS.box_heap, hj]
section
variable {P : Program} {fn : Func} {f : Fr} {w : World}
def QeI (tmps : Array Value) : ResultVar → Sem Value
 | .tmp t => pure (tmps.getD t undef)
 | .cell a t => do loadVar t (← asAddr (tmps.getD a undef))
theorem Qde {N : Nat} {a : Act} (ha : Fits N a f) {r : ResultVar} {v : Value} (h : RR1 P f w r v) : (QeI a.tmps r).run P w = .ok v w := by
 cases r with
 | tmp t => simp only [RR1] at h; simp only [QeI, Sem.run_pure, ha.get, h]
 | cell p ty =>
  obtain ⟨b, off, h1, h2⟩ := h
  simp only [QeI, ha.get, h1, asAddr, Sem.run_bind, Sem.run_pure, Result.andThen_ok, h2]
theorem Qdd (tmps : Array Value) : results fn tmps = (do
  let vs ← fn.results.mapM (QeI tmps)
  pure (if h : vs.size = 1 then vs[0] else .tuple vs)) := by
 unfold results QeI
 rfl
theorem QkP {r1 : ResultVar} {v1 : Value} (h : fn.results = #[r1]) (h1 : RR1 P f w r1 v1) : QbS P fn f w v1 := by
 intro a ha
 rw [Qdd, h]
 simp [Sem.run_bind, Qde ha h1]
theorem Qea {r1 r2 : ResultVar} {v1 v2 : Value} (h : fn.results = #[r1, r2]) (h1 : RR1 P f w r1 v1) (h2 : RR1 P f w r2 v2) : QbS P fn f w (.tuple #[v1, v2]) := by
 intro a ha
 rw [Qdd, h]
 simp [Sem.run_bind, Qde ha h1, Qde ha h2]
theorem QiE (h : fn.results = #[]) : QbS P fn f w (.tuple #[]) := by
 intro a ha
 rw [Qdd, h]
 simp [Sem.run_bind]
end
end Go.Pw
