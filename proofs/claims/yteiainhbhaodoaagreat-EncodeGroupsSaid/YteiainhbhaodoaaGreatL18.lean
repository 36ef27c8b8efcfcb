/- -/
import Derived.Test.YteiainhbhaodoaaGreatL17
set_option linter.unusedSimpArgs false
namespace Go.Pw
def SubOf (sz : Nat) (v u : Value) (l n : Nat) : Prop := (u = v ∧ l = 0 ∧ ∃ a c, v = .slice a n c) ∨ ∃ g cap len, v = .slice (some ⟨g, 0, none⟩) len cap ∧ l + n ≤ len ∧ len ≤ cap ∧ u = .slice (some ⟨g, if cap = l then 0 else l * sz, none⟩) n (cap - l)
def Qce {α : Type} (xs : List α) (l h : Int) : Option Nat := if 0 ≤ l ∧ l ≤ h ∧ h ≤ xs.length ∧ 0 < xs.length then some (h - l).toNat else none
def Qeo {α : Type} (xs : List α) (l : Int) (n : Nat) (i : Int) : Option α := if 0 ≤ i ∧ i < n then Q9 xs (l + i) else none
theorem Qc0 {α : Type} {xs : List α} {l h : Int} {n : Nat} (hv : Qce xs l h = some n) : 0 ≤ l ∧ l ≤ h ∧ h ≤ xs.length ∧ 0 < xs.length ∧ n = (h - l).toNat ∧ l.toNat + n ≤ xs.length := by
 unfold Qce at hv
 split at hv
 ·rename_i hc
  cases hv
  exact ⟨hc.1, hc.2.1, hc.2.2.1, hc.2.2.2, Z, by omega⟩
 ·cases hv
theorem Kr {α : Type} {xs : List α} {l : Int} {n : Nat} {i : Int} {y : α} (h : Qeo xs l n i = some y) : 0 ≤ i ∧ i < n ∧ Q9 xs (l + i) = some y := by
 unfold Qeo at h
 split at h
 ·rename_i hc; exact ⟨hc.1, hc.2, h⟩
 ·cases h
section
variable {P : Program} {ρ : Operand → Value} {o : Oper} {w w0 : World} {s : PHeap} {H : List Res} {K : Value → World → Prop} {T Te : TypeId} {α : Type} {E : Enc α} {xs : List α} {v u : Value}
theorem St.arr_some (hS : St w0 s (.arr E Te v xs :: H) w) (h : 0 < xs.length) : ∃ g cap, v = .slice (some ⟨g, 0, none⟩) xs.length cap ∧ xs.length ≤ cap := by
 obtain ⟨bs, hn, hss, b1, b2, e, ⟨cells, h1, h2, rfl⟩, h3⟩ := hS.own
 rcases h2.2 with ⟨_, h0⟩ | ⟨g, cap, cur, rfl, hbg, hg, hnc, hcm, hcs, htake⟩
 ·omega
 ·exact ⟨g, cap, Z, hnc⟩
theorem SubOf.mk {g cap len l n sz : Nat} (h1 : l + n ≤ len) (h2 : len ≤ cap) :
  SubOf sz (.slice (some ⟨g, 0, none⟩) len cap) (.slice (if cap = l then some (⟨g, 0, none⟩ : Addr) else (some (⟨g, 0, none⟩ : Addr)).map (·.add (l * sz))) n (cap - l)) l n := by
 refine .inr ⟨g, cap, len, Z, h1, h2, ?_⟩
 by_cases h : cap = l
 ·rw [if_pos h, if_pos h]
 ·rw [if_neg h, if_neg h]
  simp [Addr.add_lit]
theorem QcS {x lo : Operand} {k : IntKind} {l : Int} {m e by_ : Nat} (hS : St w0 s (.arr E Te v xs :: H) w) (hT : JT P T = some (e, E.sz, by_)) (ho : o.op = .slice T x (some lo) none none) (hx : ρ x = v) (hh : ρ lo = .int k l)
  (hm : Qce xs l xs.length = some m) (hk : ∀ u, SubOf E.sz v u l.toNat m → K u w) : Exec P ρ o w K := by
 unfold Qce at hm
 split at hm
 ·rename_i hc
  obtain ⟨h0, h1, h2, h3⟩ := hc
  cases hm
  obtain ⟨g, cap, rfl, hcap⟩ := hS.arr_some h3
  obtain ⟨i, hu, hi', hs, _⟩ := J7 hT
  have hn : ((xs.length : Int) - l).toNat = xs.length - l.toNat := by omega
  refine .of_run (v := .slice (if cap = l.toNat then some (⟨g, 0, none⟩ : Addr) else (some (⟨g, 0, none⟩ : Addr)).map (·.add (l.toNat * E.sz))) (xs.length - l.toNat) (cap - l.toNat)) ?_ (hk _ ?_)
  ·unfold execOp
   simp only [ho, hx, hh, Option.map_none, Option.map_some, Instr.sliceAt, Instr.slice, Instr.sliceBounds, Sem.run_bind, run_underlying hu, Result.andThen_ok, Sem.run_pure, QdN (P := P) (w := w) (k := k) h0 h1]
   simp [sizeOf, typeInfo, hi', hs]
  ·rw [hn]; exact SubOf.mk (by omega) hcap
 ·cases hm
theorem QgU {x hi : Operand} {k : IntKind} {h : Int} {m e by_ : Nat} (hS : St w0 s (.arr E Te v xs :: H) w) (hT : JT P T = some (e, E.sz, by_)) (ho : o.op = .slice T x none (some hi) none) (hx : ρ x = v) (hh : ρ hi = .int k h)
  (hm : Qce xs 0 h = some m) (hk : ∀ u, SubOf E.sz v u 0 m → K u w) : Exec P ρ o w K := by
 unfold Qce at hm
 split at hm
 ·rename_i hc
  obtain ⟨_, h0, h2, h3⟩ := hc
  cases hm
  obtain ⟨g, cap, rfl, hcap⟩ := hS.arr_some h3
  obtain ⟨i, hu, hi', hs, _⟩ := J7 hT
  have hn : (h - 0).toNat = h.toNat - 0 := by omega
  refine .of_run (v := .slice (if cap = 0 then some (⟨g, 0, none⟩ : Addr) else (some (⟨g, 0, none⟩ : Addr)).map (·.add (0 * E.sz))) (h.toNat - 0) (cap - 0)) ?_ (hk _ ?_)
  ·unfold execOp
   simp only [ho, hx, hh, Option.map_none, Option.map_some, Instr.sliceAt, Instr.slice, Instr.sliceBounds, Sem.run_bind, run_underlying hu, Result.andThen_ok, Sem.run_pure, QdN (P := P) (w := w) (k := k) h0 (show h ≤ (cap : Int) by omega)]
   simp [sizeOf, typeInfo, hi', hs]
  ·rw [hn]; exact SubOf.mk (by omega) hcap
 ·cases hm
theorem Qgn {x : Operand} {sz l n e k b : Nat} (hT : JT P T = some (e, k, b)) (h : SubOf sz v u l n) (ho : o.op = .call { callee := .builtin .len, args := #[x], argTypes := #[T] }) (hx : ρ x = u) (hk : K (.int .i64 (n : Int)) w) : Exec P ρ o w K := by
 obtain ⟨i, hu, _⟩ := J7 hT
 rcases h with ⟨rfl, _, a, c, rfl⟩ | ⟨g, cap, len, _, _, _, rfl⟩
 ·exact Qaf hu ho hx hk
 ·exact Qaf hu ho hx hk
theorem Qbe {x i : Operand} {k : IntKind} {n l : Int} {g cap len m e sz by_ : Nat} (hT : JT P T = some (e, sz, by_)) (hl : 0 ≤ l) (h : SubOf sz v u l.toNat m) (hv : v = .slice (some ⟨g, 0, none⟩) len cap) (ho : o.op = .indexAddr T x i) (hx : ρ x = u) (hi : ρ i = .int k n)
  (h0 : 0 ≤ n) (h1 : n < m) (hk : K (.pointer (some ⟨g, 0 + (l + n).toNat * sz, none⟩)) w) : Exec P ρ o w K := by
 rcases h with ⟨rfl, hl0, a, c, hv'⟩ | ⟨g', cap', len', hv', a1, a2, rfl⟩
 ·rw [hv] at hv'
  cases hv'
  refine Qn hT ho (hx.trans hv) hi h0 h1 ?_
  have e1 : (l + n).toNat = n.toNat := by omega
  rwa [e1] at hk
 rw [hv] at hv'
 cases hv'
 have hc : ¬ cap = l.toNat := by omega
 refine Qn hT ho hx hi h0 h1 ?_
 rw [if_neg hc]
 have e1 : (l + n).toNat = l.toNat + n.toNat := by omega
 rw [e1, Nat.add_mul, Nat.zero_add] at hk
 exact hk
theorem St.arr_head {m : Nat} (hS : St w0 s (.arr E Te v xs :: H) w) (h : SubOf E.sz v u 0 m) (hm : m ≤ xs.length) : St w0 s (.arr E Te u (xs.take m) :: H) w := by
 rcases h with ⟨rfl, _, a, c, rfl⟩ | ⟨g, cap, len, rfl, a1, a2, rfl⟩
 ·obtain ⟨a', c', hv⟩ := hS.arr_shape
  cases hv
  rwa [List.take_length]
 obtain ⟨bs, hn, hss, b1, b2, e, ⟨cells, h1, h2, rfl⟩, h3⟩ := hS.own
 rcases h2.2 with ⟨hv, _⟩ | ⟨g', cap', cur, hv, hbg, hg, hnc, hcm, hcs, htake⟩
 ·cases hv
 ·cases hv
  have hz : (if cap = 0 then 0 else 0 * E.sz) = 0 := by split <;> simp
  have hl : (xs.take m).length = m := by simp; omega
  have hmul : m * E.sz ≤ xs.length * E.sz := Nat.mul_le_mul_right _ hm
  refine ⟨hS.os, hS.tape, hS.output, hS.drawn, hS.size, hS.stay, bs, hn, hss, _, b2, e, ⟨cells.take (m * E.sz), h1.take m, ⟨?_, .inr ⟨g, cap, cur, ?_, hbg, hg, by rw [hl]; omega, hcm, hcs, ?_⟩⟩, ?_⟩, h3⟩
  ·rw [hl]; have := h2.1; simp; omega
  ·rw [hl, hz]; rfl
  ·rw [hl, ← htake, List.take_take, Nat.min_eq_left hmul]
  ·simp [Value.ownBlock]
theorem QiX {β : Type} (cur A : List β) {a b c : Nat} (h1 : a + b ≤ c) (h2 : c ≤ cur.length) (h3 : A.length = b) : (cur.take a ++ A ++ cur.drop (a + b)).take c = (cur.take c).take a ++ A ++ (cur.take c).drop (a + b) := by
 have hA : (cur.take a ++ A).length = a + b := by simp; omega
 rw [List.take_append, hA, List.take_of_length_le (by rw [hA]; exact h1), List.take_take, Nat.min_eq_left (by omega), List.drop_take]
theorem Qfu {x : Operand} {l n by_ : Nat} {z : Value} {y : α} (hS : St w0 s (.arr E Te v xs :: H) w) (hsub : SubOf E.sz v u l n) (hln : l + n ≤ xs.length) (hT : JT P T = some (Te, E.sz, by_)) (hz : JF P Te = some z) (hzr : E.rep s z.cells.toList y)
  (ho : o.op = .call { callee := .builtin .clear, args := #[x], argTypes := #[T] }) (hx : ρ x = u)
  (hk : ∀ w', St w0 s (.arr E Te v (xs.take l ++ List.replicate n y ++ xs.drop (l + n)) :: H) w' → K (.tuple #[]) w') : Exec P ρ o w K := by
 obtain ⟨i, hu, hi, hsz, hbs⟩ := J7 hT
 obtain ⟨i', hi', hz'⟩ := QaK hz
 rw [hi] at hi'
 cases hi'
 have hsub' : n ≠ 0 → ∃ g cap len, v = .slice (some ⟨g, 0, none⟩) len cap ∧ l + n ≤ len ∧ len ≤ cap ∧ u = .slice (some ⟨g, if cap = l then 0 else l * E.sz, none⟩) n (cap - l) := by
  intro hn0
  rcases hsub with ⟨rfl, rfl, a, c, hv⟩ | h
  ·obtain ⟨g, cap, hv2, hc2⟩ := hS.arr_some (by omega)
   rw [hv] at hv2
   cases hv2
   exact ⟨g, _, xs.length, hv, by omega, hc2, by rw [hv]; simp⟩
  ·exact h
 by_cases h0 : n = 0
 ·subst h0
  have hshape : ∃ a c, u = .slice a 0 c := by
   rcases hsub with ⟨rfl, _, h⟩ | ⟨g, cap, len, _, _, _, rfl⟩
   ·exact h
   ·exact ⟨_, _, Z⟩
  obtain ⟨a, c, rfl⟩ := hshape
  refine .of_run (v := .tuple #[]) (w' := w) ?_ (hk w ?_)
  ·unfold execOp
   simp only [ho, resolve, invoke, builtin, Sem.run_bind, Sem.run_pure, Result.andThen_ok, List.map_toArray, List.map_cons, List.map_nil, hx]
   cases a <;> simp [Builtin.clear_, run_underlying hu, Result.andThen]
  ·simpa using hS
 ·obtain ⟨g, cap, len, rfl, a1, a2, rfl⟩ := hsub' h0
  have hcap : ¬ cap = l := by omega
  have hzl := E.len hzr
  have hcz : (Builtin.zeroCells z.cells n).toList = (List.replicate n z.cells.toList).flatten := by
   have := Qd4 (c := z.cells.toList) (by rw [hzl]; exact E.pos) n
   simpa [madeCells, Builtin.zeroCells] using this
  have hnews := QaZ hzr n
  have hnl := hnews.len
  simp only [List.length_replicate] at hnl
  have hcore : ∀ b1, (Res.arr E Te (.slice (some ⟨g, 0, none⟩) len cap) xs).p s w b1 → ∃ cur, w.heap[g]? = some (.cells cur Te (0, 0)) ∧ l * E.sz + n * E.sz ≤ cur.size ∧ b1 = [g] ∧
    (Res.arr E Te (.slice (some ⟨g, 0, none⟩) len cap) (xs.take l ++ List.replicate n y ++ xs.drop (l + n))).p s (w.setRow g (cur.toList.take (l * E.sz) ++ (List.replicate n z.cells.toList).flatten ++ cur.toList.drop (l * E.sz + n * E.sz)).toArray) [g] := by
   rintro b1 ⟨cells, h1, h2, rfl⟩
   rcases h2.2 with ⟨hv, _⟩ | ⟨g', cap', cur, hv, hbg, hg, hnc, hcm, hcs, htake⟩
   ·cases hv
   ·cases hv
    have hlen : (xs.take l ++ List.replicate n y ++ xs.drop (l + n)).length = xs.length := by simp; omega
    have m1 : l * E.sz + n * E.sz ≤ xs.length * E.sz := by rw [← Nat.add_mul]; exact Nat.mul_le_mul_right _ hln
    have m2 : xs.length * E.sz ≤ cur.size := by rw [hcs]; exact Nat.mul_le_mul_right _ hnc
    have hcl := h1.len
    refine ⟨cur, hg, by omega, by simp [Value.ownBlock], cells.take (l * E.sz) ++ (List.replicate n z.cells.toList).flatten ++ cells.drop ((l + n) * E.sz), ((h1.take l).append hnews).append (h1.drop (l + n)), ⟨?_, .inr ⟨g, cap, _, by rw [hlen], Nat.zero_le _, setRow_heap w g cur _ Te _ hg, by rw [hlen]; exact hnc, hcm, ?_, ?_⟩⟩, by simp [Value.ownBlock]⟩
    ·rw [hlen]
     simp only [List.length_append, List.length_take, List.length_drop, hnl, hcl, Nat.add_mul]
     omega
    ·rw [← hcs]
     simp only [List.size_toArray, List.length_append, List.length_take, List.length_drop, Array.length_toList, hnl]
     omega
    ·rw [hlen, ← htake, List.toList_toArray]
     rw [Nat.add_mul]
     exact QiX _ _ m1 (by simpa using m2) hnl
  obtain ⟨bs, hn, hss, b1, b2, e, h1, h2⟩ := hS.own
  obtain ⟨cur, hg, hfit, hb1, _⟩ := hcore b1 h1
  have hrun := run_storeCells_at (P := P) g (l * E.sz) Te (List.replicate n z.cells.toList).flatten 0 cur w hg (by rw [hnl]; omega) (hnews.one)
  rw [hnl, Nat.add_zero] at hrun
  refine .of_run (v := .tuple #[]) (w' := _) ?_ (hk (w.setRow g (cur.toList.take (l * E.sz) ++ (List.replicate n z.cells.toList).flatten ++ cur.toList.drop (l * E.sz + n * E.sz)).toArray) ?_)
  ·unfold execOp
   have hzv : (zeroValue Te).run P w = .ok z w := by simp [zeroValue, typeInfo, hi, hz', Result.andThen]
   obtain ⟨n', rfl⟩ : ∃ n', n = n' + 1 := ⟨n - 1, by omega⟩
   simp only [ho, resolve, invoke, builtin, Sem.run_bind, Sem.run_pure, Result.andThen_ok, List.map_toArray, List.map_cons, List.map_nil, hx, if_neg hcap]
   simp [Builtin.clear_, run_underlying hu, hzv, hcz, hrun, Result.andThen]
  ·refine hS.turn Z Z Z (Nat.le_refl _) (by rw [Qcn]; exact Nat.le_refl _) ?_
   intro c1 hc1
   obtain ⟨cur', hg', _, hc1', hnew⟩ := hcore c1 hc1
   rw [hg] at hg'
   cases hg'
   exact ⟨[g], hnew, by simp, fun x hx => .inl (by rw [hc1']; exact hx), fun x _ hx => setRow_other w g x _ (by rw [hc1'] at hx; simpa using hx)⟩
end
end Go.Pw
