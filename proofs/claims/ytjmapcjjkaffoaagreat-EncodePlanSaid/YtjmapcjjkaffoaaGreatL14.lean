/-
  My walk's base, part 15: a map of strings to ints that the call owns.
-/
import Derived.Test.YtjmapcjjkaffoaaGreatL12
import Derived.Maps.OwnSet
import Derived.StringKeys
import Derived.Carry
set_option linter.unusedSimpArgs false
namespace Go.Pw
/-! ### the pure words -/
abbrev SMap := List (ByteArray × Int)
def mget (m : SMap) (s : ByteArray) : Option Int := match m with
  | [] => none
  | (k, v) :: r => if k.data.toList = s.data.toList then some v else mget r s
def mput (m : SMap) (s : ByteArray) (v : Int) : SMap := match m with
  | [] => [(s, v)]
  | (k, u) :: r => if k.data.toList = s.data.toList then (k, v) :: r else (k, u) :: mput r s v
theorem mput_length (m : SMap) (s : ByteArray) (v : Int) : (mput m s v).length = if (mget m s).isSome then m.length else m.length + 1 := by
  induction m with
  | nil => simp [mput, mget]
  | cons p r ih =>
    obtain ⟨k, u⟩ := p
    unfold mput mget
    by_cases h : k.data.toList = s.data.toList
    · rw [if_pos h, if_pos h]; simp
    · rw [if_neg h, if_neg h, List.length_cons, ih]
      split <;> simp
theorem mget_put (m : SMap) (s t : ByteArray) (v : Int) : mget (mput m s v) t = if s.data.toList = t.data.toList then some v else mget m t := by
  induction m with
  | nil => simp [mput, mget]
  | cons p r ih =>
    obtain ⟨k, u⟩ := p
    unfold mput
    by_cases h : k.data.toList = s.data.toList
    · rw [if_pos h]
      unfold mget
      by_cases h2 : s.data.toList = t.data.toList
      · rw [if_pos h2, if_pos (h.trans h2)]
      · have h3 : ¬ k.data.toList = t.data.toList := fun e => h2 (h.symm.trans e)
        rw [if_neg h2, if_neg h3, if_neg h3]
    · rw [if_neg h]
      unfold mget
      rw [ih]
      by_cases h2 : k.data.toList = t.data.toList
      · have h3 : ¬ s.data.toList = t.data.toList := fun e => h (h2.trans e.symm)
        rw [if_pos h2, if_neg h3, if_pos h2]
      · rw [if_neg h2, if_neg h2]
/-! ### what is owned -/
abbrev skey (s : ByteArray) : Lit := .string s.data.toList
abbrev DM := DataW Unit
def Reads (D : DM) (m : SMap) : Prop := (∀ s : ByteArray, Maps.has D (skey s) = (mget m s).isSome) ∧ (∀ (s : ByteArray) (v : Int) (z : DM), mget m s = some v → D.atKey (skey s) z = .lit (.int .i64 v)) ∧ Maps.size D = m.length
theorem isKeyLit_str (l : List UInt8) : WideAt.IsKeyLit (.string l) := by
  simp [WideAt.IsKeyLit]
theorem Reads.put {D : DM} {m : SMap} (h : Reads D m) (ht : Maps.Tidy D) (s : ByteArray) (v : Int) : Reads (D.put (skey s) (.lit (.int .i64 v))) (mput m s v) := by
  obtain ⟨h1, h2, h3⟩ := h
  refine ⟨fun t => ?_, fun t u z ht2 => ?_, ?_⟩
  · rw [mget_put]
    by_cases e : s.data.toList = t.data.toList
    · rw [if_pos e]
      have : skey t = skey s := by rw [skey, skey, e]
      rw [this, Maps.has_put_same ht.isMap (isKeyLit_str _)]
      rfl
    · rw [if_neg e, Maps.has_put_other (fun he => e (by injection he with he; exact he.symm)), h1]
  · rw [mget_put] at ht2
    by_cases e : s.data.toList = t.data.toList
    · rw [if_pos e] at ht2
      cases ht2
      have : skey t = skey s := by rw [skey, skey, e]
      rw [this, Maps.atKey_put_same ht.isMap (isKeyLit_str _)]
    · rw [if_neg e] at ht2
      rw [Maps.atKey_put_other (fun he => e (by injection he with he; exact he.symm))]
      exact h2 t u z ht2
  · rw [Maps.size_put ht, h1, mput_length, h3]
theorem ownsMap_tight {P : Program} {k : TypeId} {R : Value → Option (DataW Unit × List MemPlace)} {w : World} {b n : Nat} {D : DM} (h : w.ownsMap P k R b n D) : w.ownsMap P k R b (Maps.size D) D := by
  obtain ⟨es, clock, hb, F, hs, rfl⟩ := h
  exact ⟨es, clock, hb, F, by simp [Maps.size, length_sorted], rfl⟩
section
variable {P : Program} {ρ : Operand → Value} {o : Oper} {w w0 : World} {s : PHeap} {H : List Res} {K : Value → World → Prop} {T : TypeId} {k e : TypeId} {b : Nat} {m : SMap}
end
end Go.Pw
