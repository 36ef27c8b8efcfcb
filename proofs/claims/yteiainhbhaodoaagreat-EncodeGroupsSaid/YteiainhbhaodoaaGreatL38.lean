/- -/
import Derived.Test.YteiainhbhaodoaaGreatL4
set_option linter.unusedVariables false
namespace Go.Pw
def Upd {α β : Type} (E : Enc α) (off : Nat) (F : Enc β) (set : α → β → α) : Prop := ∀ s cells a fs b, E.rep s cells a → F.rep s fs b → off + F.sz ≤ E.sz ∧ E.rep s (cells.take off ++ fs ++ cells.drop (off + F.sz)) (set a b)
section
variable {α β γ : Type} {E : Enc α} {F : Enc β} {off : Nat}
theorem Upd.refl (E : Enc α) : Upd E 0 E (fun _ b => b) := fun s cells a fs b h k => by
 have h1 := E.len h
 have h2 := E.len k
 refine ⟨by omega, ?_⟩
 rw [List.take_zero, List.drop_of_length_le (by omega), List.nil_append, List.append_nil]
 exact k
theorem Upd.iso {f : γ → α} {g : α → β → α} {k : γ → β → γ} (h : Upd E off F g) (hf : ∀ c b, f (k c b) = g (f c) b) : Upd (E.iso f) off F k := fun s cells a fs b hr hk => by
 obtain ⟨h1, h2⟩ := h s cells (f a) fs b hr hk
 refine ⟨h1, ?_⟩
 show E.rep s _ (f (k a b))
 rw [hf]
 exact h2
theorem Upd.fst {A : Enc α} {B : Enc γ} {g : α → β → α} (h : Upd A off F g) : Upd (A.pair B) off F (fun p b => (g p.1 b, p.2)) := by
 rintro s cells p fs b ⟨c1, c2, rfl, h1, h2⟩ hk
 obtain ⟨h3, h4⟩ := h s c1 p.1 fs b h1 hk
 have hl := A.len h1
 refine ⟨by show off + F.sz ≤ A.sz + B.sz; omega, _, c2, ?_, h4, h2⟩
 rw [List.take_append_of_le_length (by omega), List.drop_append_of_le_length (by omega)]
 simp
theorem Upd.snd {A : Enc α} {B : Enc γ} {g : γ → β → γ} {n : Nat} (h : Upd B off F g) (hn : A.sz + off = n) : Upd (A.pair B) n F (fun p b => (p.1, g p.2 b)) := by
 rintro s cells p fs b ⟨c1, c2, rfl, h1, h2⟩ hk
 obtain ⟨h3, h4⟩ := h s c2 p.2 fs b h2 hk
 have hl := A.len h1
 subst hn
 refine ⟨by show A.sz + off + F.sz ≤ A.sz + B.sz; omega, c1, _, ?_, h1, h4⟩
 rw [← hl, List.take_length_add_append, Nat.add_assoc, List.drop_length_add_append]
 simp
end
section
variable {P : Program} {ρ : Operand → Value} {o : Oper} {w w0 : World} {K : Value → World → Prop} {s : PHeap} {H : List Res} {T Te : TypeId} {α : Type} {E : Enc α} {v : Value} {xs : List α}
end
end Go.Pw
