/- -/
import Derived.Test.YtpjojkomdndamaaGreatDoorL7
set_option linter.unusedSimpArgs false
namespace Go.Pw
theorem QlX {H α : Type} {enc : TypeId × Value → H} {P : Program} {w : World} {base : Nat} {spare : Nat → Bool} {held : Bool} {T e : TypeId} {v : Value} {d : DataW H} {ps : List MemPlace} {E : Enc α} {s : PHeap} {xs : List α} {k : Nat} (hT : P.underlying T = some (.slice e)) (hk : P.bytesOf e = k)
  (ht : DataW.Trod enc P w base spare held T v d ps) (hw : (d.weights P T).all (· ≤ reachBytes) = true) (hr : SliceRep E s v xs) : xs.length * k ≤ 140737488351232 := by
 obtain ⟨fuel, hf⟩ := ht
 rcases hr with ⟨rfl, rfl⟩ | ⟨a, cap, rfl, rfl⟩ | ⟨b, off, cap, c, T', fz, cells, rfl, h1, h2, h3, h4, h5⟩
 ·simp
 ·simp
 ·rcases DataW.trod_slice hT hf with ⟨h, _⟩ | ⟨a, len, cap', elems, rest, n, _, hc, hx, _, _, _, hlen, _⟩
  ·simp [Value.cells] at h
  ·simp only [Value.cells, List.cons.injEq, Value.slice.injEq, and_true] at hc
   obtain ⟨_, hl, _⟩ := hc
   simp only [Prod.mk.injEq] at hx
   obtain ⟨rfl, _⟩ := hx
   simp only [DataW.weights, hT, List.all_cons, Bool.and_eq_true, decide_eq_true_eq, List.length_map, hk] at hw
   have h6 := hw.1
   unfold reachBytes at h6
   have : xs.length * k ≤ (elems.length + rest.length) * k := Nat.mul_le_mul_right _ (by omega)
   omega
end Go.Pw
