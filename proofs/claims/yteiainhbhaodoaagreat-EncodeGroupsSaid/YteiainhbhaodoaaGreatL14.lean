/- -/
import Derived.Test.YteiainhbhaodoaaGreatL12
import Derived.Maps.OwnSet
import Derived.StringKeys
import Derived.Carry
set_option linter.unusedSimpArgs false
namespace Go.Pw
/-! ### the pure words -/
abbrev Qgt := List (ByteArray × Int)
def QeE (m : Qgt) (s : ByteArray) : Option Int := match m with
 | [] => none
 | (k, v) :: r => if k.data.toList = s.data.toList then some v else QeE r s
def Qgp (m : Qgt) (s : ByteArray) (v : Int) : Qgt := match m with
 | [] => [(s, v)]
 | (k, u) :: r => if k.data.toList = s.data.toList then (k, v) :: r else (k, u) :: Qgp r s v
theorem QgK (m : Qgt) (s : ByteArray) (v : Int) : (Qgp m s v).length = if (QeE m s).isSome then m.length else m.length + 1 := by
 induction m with
 | nil => simp [Qgp, QeE]
 | cons p r ih =>
  obtain ⟨k, u⟩ := p
  unfold Qgp QeE
  by_cases h : k.data.toList = s.data.toList
  ·rw [if_pos h, if_pos h]; simp
  ·rw [if_neg h, if_neg h, List.length_cons, ih]
   split <;> simp
theorem Qgv (m : Qgt) (s t : ByteArray) (v : Int) : QeE (Qgp m s v) t = if s.data.toList = t.data.toList then some v else QeE m t := by
 induction m with
 | nil => simp [Qgp, QeE]
 | cons p r ih =>
  obtain ⟨k, u⟩ := p
  unfold Qgp
  by_cases h : k.data.toList = s.data.toList
  ·rw [if_pos h]
   unfold QeE
   by_cases h2 : s.data.toList = t.data.toList
   ·rw [if_pos h2, if_pos (h.trans h2)]
   ·have h3 : ¬ k.data.toList = t.data.toList := fun e => h2 (h.symm.trans e)
    rw [if_neg h2, if_neg h3, if_neg h3]
  ·rw [if_neg h]
   unfold QeE
   rw [ih]
   by_cases h2 : k.data.toList = t.data.toList
   ·have h3 : ¬ s.data.toList = t.data.toList := fun e => h (h2.trans e.symm)
    rw [if_pos h2, if_neg h3, if_pos h2]
   ·rw [if_neg h2, if_neg h2]
/-! ### what is owned -/
abbrev QeD (s : ByteArray) : Lit := .string s.data.toList
abbrev DM := DataW Unit
def Reads (D : DM) (m : Qgt) : Prop := (∀ s : ByteArray, Maps.has D (QeD s) = (QeE m s).isSome) ∧ (∀ (s : ByteArray) (v : Int) (z : DM), QeE m s = some v → D.atKey (QeD s) z = .lit (.int .i64 v)) ∧ Maps.size D = m.length
theorem Qd6 (l : List UInt8) : WideAt.IsKeyLit (.string l) := by
 simp [WideAt.IsKeyLit]
theorem Reads.put {D : DM} {m : Qgt} (h : Reads D m) (ht : Maps.Tidy D) (s : ByteArray) (v : Int) : Reads (D.put (QeD s) (.lit (.int .i64 v))) (Qgp m s v) := by
 obtain ⟨h1, h2, h3⟩ := h
 refine ⟨fun t => ?_, fun t u z ht2 => ?_, ?_⟩
 ·rw [Qgv]
  by_cases e : s.data.toList = t.data.toList
  ·rw [if_pos e]
   have : QeD t = QeD s := by rw [QeD, QeD, e]
   rw [this, Maps.has_put_same ht.isMap (Qd6 _)]
   rfl
  ·rw [if_neg e, Maps.has_put_other (fun he => e (by injection he with he; exact he.symm)), h1]
 ·rw [Qgv] at ht2
  by_cases e : s.data.toList = t.data.toList
  ·rw [if_pos e] at ht2
   cases ht2
   have : QeD t = QeD s := by rw [QeD, QeD, e]
   rw [this, Maps.atKey_put_same ht.isMap (Qd6 _)]
  ·rw [if_neg e] at ht2
   rw [Maps.atKey_put_other (fun he => e (by injection he with he; exact he.symm))]
   exact h2 t u z ht2
 ·rw [Maps.size_put ht, h1, QgK, h3]
theorem QcN {P : Program} {k : TypeId} {R : Value → Option (DataW Unit × List MemPlace)} {w : World} {b n : Nat} {D : DM} (h : w.ownsMap P k R b n D) : w.ownsMap P k R b (Maps.size D) D := by
 obtain ⟨es, clock, hb, F, hs, rfl⟩ := h
 exact ⟨es, clock, hb, F, by simp [Maps.size, length_sorted], Z⟩
section
variable {P : Program} {ρ : Operand → Value} {o : Oper} {w w0 : World} {s : PHeap} {H : List Res} {K : Value → World → Prop} {T : TypeId} {k e : TypeId} {b : Nat} {m : Qgt}
end
end Go.Pw
