/- -/
import Derived.Test.YtjbjflndiajoiaaGreatDoorLF
set_option linter.unusedSimpArgs false
namespace Go.Pw
section
variable {P : Program} {ρ : Operand → Value} {o : Oper} {w w0 : World} {s : PHeap} {H : List Res} {K : Value → World → Prop} {T Te : TypeId} {α : Type} {E : Enc α} {xs : List α} {v u u1 u2 : Value}
theorem Qi7 {x lo hi mx : Operand} {k1 k2 k3 : IntKind} {i j m : Int} {e by_ : Nat} (hS : St w0 s (.arr E Te v xs :: H) w) (hT : QZ P T = some (e, E.sz, by_)) (ho : o.op = .slice T x (some lo) (some hi) (some mx)) (hx : ρ x = v) (h1 : ρ lo = .int k1 i) (h2 : ρ hi = .int k2 j) (h3 : ρ mx = .int k3 m)
  (h0 : 0 ≤ i) (hij : i ≤ j) (hjm : j ≤ m) (hm : m ≤ xs.length) (hpos : 0 < xs.length) (hk : ∀ u, K u w) : Exec P ρ o w K := by
 obtain ⟨g, cap, rfl, hcap⟩ := hS.arr_some hpos
 obtain ⟨q, hu, hi', hs, _⟩ := QL hT
 have hmn : ((m.toNat : Nat) : Int) = m := by omega
 have hjn : ((j.toNat : Nat) : Int) = j := by omega
 refine .of_run (v := _) (w' := w) ?_ (hk (.slice (if m.toNat = i.toNat then some (⟨g, 0, none⟩ : Addr) else (some (⟨g, 0, none⟩ : Addr)).map (·.add (i.toNat * E.sz))) (j.toNat - i.toNat) (m.toNat - i.toNat)))
 unfold execOp
 simp only [ho, hx, h1, h2, h3, Option.map_some, Instr.sliceAt, Instr.slice, Instr.sliceBounds, Sem.run_bind, run_underlying hu, Result.andThen_ok, Sem.run_pure, Yv (P := P) (w := w) (k := k3) (i := m) (show 0 ≤ m by omega) (show m ≤ (cap : Int) by omega), Yv (P := P) (w := w) (k := k2) (i := j) (show 0 ≤ j by omega) (show j ≤ ((m.toNat : Nat) : Int) by omega), Yv (P := P) (w := w) (k := k1) (i := i) h0 (show i ≤ ((j.toNat : Nat) : Int) by omega)]
 simp [sizeOf, typeInfo, hi', hs]
theorem SubOf.head {g len cap m sz : Nat} (h : SubOf sz (.slice (some ⟨g, 0, none⟩) len cap) u 0 m) : u = .slice (some ⟨g, 0, none⟩) m cap ∧ (m ≤ len ∨ u = .slice (some ⟨g, 0, none⟩) len cap) := by
 rcases h with ⟨rfl, _, a, c, hv⟩ | ⟨g', cap', len', hv, a1, a2, rfl⟩
 ·cases hv
  exact ⟨Z, .inr Z⟩
 ·cases hv
  have hz : (if cap = 0 then 0 else 0 * sz) = 0 := by split <;> simp
  rw [hz]
  exact ⟨Z, .inl (by omega)⟩
theorem SubOf.tail {g len cap j n sz : Nat} (h : SubOf sz (.slice (some ⟨g, 0, none⟩) len cap) u j n) : ∃ off c, u = .slice (some ⟨g, off, none⟩) n c ∧ (n ≠ 0 → off = j * sz) := by
 rcases h with ⟨rfl, rfl, a, c, hv⟩ | ⟨g', cap', len', hv, a1, a2, rfl⟩
 ·cases hv
  exact ⟨0, _, Z, fun _ => by simp⟩
 ·cases hv
  refine ⟨_, _, Z, fun hn => ?_⟩
  rw [if_neg (by omega)]
theorem QgO {x lo hi : Operand} {k1 k2 : IntKind} {l h : Int} {m e by_ : Nat} (hS : St w0 s (.arr E Te v xs :: H) w) (hpos : 0 < xs.length) (hsub : SubOf E.sz v u 0 m) (hT : QZ P T = some (e, E.sz, by_)) (ho : o.op = .slice T x (some lo) (some hi) none) (hx : ρ x = u) (h1 : ρ lo = .int k1 l) (h2 : ρ hi = .int k2 h)
  (h0 : 0 ≤ l) (hlh : l ≤ h) (hh : h ≤ xs.length) (hk : ∀ u', SubOf E.sz v u' l.toNat (h.toNat - l.toNat) → K u' w) : Exec P ρ o w K := by
 obtain ⟨g, cap, rfl, hcap⟩ := hS.arr_some hpos
 obtain ⟨rfl, _⟩ := hsub.head
 obtain ⟨q, hu, hi', hs, _⟩ := QL hT
 refine .of_run (v := .slice (if cap = l.toNat then some (⟨g, 0, none⟩ : Addr) else (some (⟨g, 0, none⟩ : Addr)).map (·.add (l.toNat * E.sz))) (h.toNat - l.toNat) (cap - l.toNat)) ?_ (hk _ (SubOf.mk (by omega) hcap))
 unfold execOp
 simp only [ho, hx, h1, h2, Option.map_some, Option.map_none, Instr.sliceAt, Instr.slice, Instr.sliceBounds, Sem.run_bind, run_underlying hu, Result.andThen_ok, Sem.run_pure, Yv (P := P) (w := w) (k := k2) (i := h) (show 0 ≤ h by omega) (show h ≤ (cap : Int) by omega), Yv (P := P) (w := w) (k := k1) (i := l) h0 (show l ≤ ((h.toNat : Nat) : Int) by omega)]
 simp [sizeOf, typeInfo, hi', hs]
theorem Qga {x y : Operand} {i j by_ : Nat} (hS : St w0 s (.arr E Te v xs :: H) w) (hT : QZ P T = some (Te, E.sz, by_)) (hu1 : SubOf E.sz v u1 0 i) (hu2 : SubOf E.sz v u2 j (xs.length - j)) (hij : i ≤ j) (hj : j ≤ xs.length) (hpos : 0 < xs.length)
  (ho : o.op = .call { callee := .builtin .append, args := #[x, y], argTypes := #[T, T] }) (hx : ρ x = u1) (hy : ρ y = u2)
  (hk : ∀ u w', SubOf E.sz v u 0 (i + (xs.length - j)) → St w0 s (.arr E Te v (xs.take i ++ xs.drop j ++ xs.drop (xs.length - (j - i))) :: H) w' → K u w') : Exec P ρ o w K := by
 obtain ⟨q, hu, hi, hsz, hbs⟩ := QL hT
 obtain ⟨g, cap, rfl, hcap⟩ := hS.arr_some hpos
 obtain ⟨rfl, _⟩ := hu1.head
 obtain ⟨off, c2, rfl, hoff⟩ := hu2.tail
 have hS0 := hS
 obtain ⟨bs, hn, hss, b1, b2, e, ⟨cells, h1, h2, rfl⟩, h3⟩ := hS.own
 rcases h2.2 with ⟨hv, _⟩ | ⟨g', cap', cur, hv, hbg, hg, hnc, hcm, hcs, htake⟩
 ·cases hv
 cases hv
 have hcl := h1.len
 have hd := h1.drop j
 have hdl : (cells.drop (j * E.sz)).length = (xs.length - j) * E.sz := hd.len.trans (by rw [List.length_drop])
 have m1 : j * E.sz ≤ xs.length * E.sz := Nat.mul_le_mul_right _ hj
 have m2 : xs.length * E.sz ≤ cur.size := by rw [hcs]; exact Nat.mul_le_mul_right _ hnc
 have m3 : i * E.sz + (xs.length - j) * E.sz ≤ xs.length * E.sz := by rw [← Nat.add_mul]; exact Nat.mul_le_mul_right _ (by omega)
 have hcell : ∀ p u, (cells.drop (j * E.sz))[p]? = some u → w.cell? ((⟨g, off, none⟩ : Addr).add p) = some u := by
  intro p u hp
  have hplt : p < (cells.drop (j * E.sz)).length := (List.getElem?_eq_some_iff.1 hp).1
  have hne : xs.length - j ≠ 0 := by
   intro h0
   rw [hdl, h0] at hplt
   simp at hplt
  rw [hoff hne, Addr.add_lit]
  rw [List.getElem?_drop, ← htake, List.getElem?_take] at hp
  split at hp
  ·simp only [World.cell?, hg, Option.isSome_none, Bool.false_eq_true, if_false]
   rw [← Array.getElem?_toList]
   exact hp
  ·cases hp
 have hrun := run_append_room (P := P) w T o.type Te q hu hi g i cap cur hg ⟨g, off, none⟩ (xs.length - j) c2 (cells.drop (j * E.sz)) (by rw [hdl, hsz]) hcell hd.one (by omega) (by rw [hdl, hsz]; omega)
 rw [hdl, hsz] at hrun
 refine .of_run (v := .slice (some ⟨g, 0, none⟩) (i + (xs.length - j)) cap) (w' := w.setRow g (cur.toList.take (i * E.sz) ++ cells.drop (j * E.sz) ++ cur.toList.drop (i * E.sz + (xs.length - j) * E.sz)).toArray) ?_ (hk _ _ ?_ ?_)
 ·unfold execOp
  simp only [ho, resolve, invoke, builtin, Sem.run_bind, Sem.run_pure, Result.andThen_ok, List.map_toArray, List.map_cons, List.map_nil, hx, hy, hrun]
 ·refine .inr ⟨g, cap, xs.length, Z, by omega, hcap, ?_⟩
  have hz : (if cap = 0 then 0 else 0 * E.sz) = 0 := by split <;> simp
  rw [hz]
  rfl
 ·refine hS0.turn Z Z Z (Nat.le_refl _) (by rw [QbX]; exact Nat.le_refl _) ?_
  rintro c1 ⟨cells', k1, k2, rfl⟩
  rcases k2.2 with ⟨hv, _⟩ | ⟨g', cap', cur', hv, _, hg', _, _, _, htake'⟩
  ·cases hv
  cases hv
  rw [hg] at hg'
  cases hg'
  have hce : cells' = cells := by rw [← htake, ← htake']
  subst hce
  have hlen : (xs.take i ++ xs.drop j ++ xs.drop (xs.length - (j - i))).length = xs.length := by simp; omega
  have hmm : i * E.sz + (xs.length - j) * E.sz = (xs.length - (j - i)) * E.sz := by rw [← Nat.add_mul]; congr 1; omega
  refine ⟨[g], ⟨cells'.take (i * E.sz) ++ cells'.drop (j * E.sz) ++ cells'.drop ((xs.length - (j - i)) * E.sz), ((h1.take i).append hd).append (h1.drop _), ⟨?_, .inr ⟨g, cap, _, by rw [hlen], Nat.zero_le _, setRow_heap w g cur _ Te _ hg, by rw [hlen]; exact hnc, hcm, ?_, ?_⟩⟩, by simp [Value.ownBlock]⟩, by simp, fun x hx => .inl (by simpa [Value.ownBlock] using hx), fun x _ hx => setRow_other w g x _ (by simpa [Value.ownBlock] using hx)⟩
  ·have := (((h1.take i).append hd).append (h1.drop (xs.length - (j - i)))).len
   rw [this]
  ·rw [← hcs]
   simp only [List.size_toArray, List.length_append, List.length_take, List.length_drop, Array.length_toList, hcl, Nat.sub_mul]
   have e1 : (xs.length - j) * E.sz = xs.length * E.sz - j * E.sz := Nat.sub_mul _ _ _
   omega
  ·rw [hlen, ← htake, List.toList_toArray, ← hmm]
   rw [htake]
   have := Qkd cur.toList (cells'.drop (j * E.sz)) (a := i * E.sz) (b := (xs.length - j) * E.sz) (c := xs.length * E.sz) m3 (by simpa using m2) (by simpa using hdl)
   rw [htake] at this
   exact this
end
end Go.Pw
