/- -/
import Derived.Test.YteiainhbhaodoaaGreatL4
namespace Go.Pw
section
variable {w0 w : World} {s : PHeap} {H : List Res} {α : Type} {E : Enc α} {Te : TypeId}
theorem QgF : ∀ {hs : List Value} {xss : List (List α)} {bs : List Nat} {i : Nat} {h : Value} {xs : List α}, rowsP E Te s w hs xss bs → hs[i]? = some h → xss[i]? = some xs →
  ∃ b1 b2, bs.Perm (b1 ++ b2) ∧ (Res.arr E Te h xs).p s w b1 ∧ rowsP E Te s w (hs.eraseIdx i) (xss.eraseIdx i) b2
 | [], _, _, _, _, _, _, hh, _ => by simp at hh
 | _ :: _, [], _, _, _, _, _, _, hx => by simp at hx
 | a :: hs, ys :: xss, bs, 0, h, xs, ⟨b1, b2, e, h1, h2⟩, hh, hx => by
  simp at hh hx
  subst hh; subst hx; subst e
  exact ⟨b1, b2, .refl _, h1, h2⟩
 | a :: hs, ys :: xss, bs, i + 1, h, xs, ⟨b1, b2, e, h1, h2⟩, hh, hx => by
  simp at hh hx
  obtain ⟨c1, c2, hp, k1, k2⟩ := QgF h2 hh hx
  subst e
  refine ⟨c1, b1 ++ c2, ?_, k1, b1, c2, Z, h1, k2⟩
  refine (List.Perm.append_left b1 hp).trans ?_
  rw [← List.append_assoc, ← List.append_assoc]
  exact List.Perm.append_right _ List.perm_append_comm
theorem rowsP.rep {t : PHeap} (hle : PHeap.le s t) : ∀ {hs : List Value} {xss : List (List α)} {bs : List Nat}, rowsP E Te s w hs xss bs → (∀ b ∈ bs, t b = w.heap[b]?) → reps (Qp E) t hs xss
 | [], [], _, _, _ => rfl
 | h :: hs, xs :: xss, bs, ⟨b1, b2, e, h1, h2⟩, ht => by
  subst e
  refine ⟨[h], hs, Z, ⟨h, Z, ?_⟩, rowsP.rep hle h2 (fun b hb => ht b (List.mem_append_right _ hb))⟩
  obtain ⟨cells, k1, k2, rfl⟩ := h1
  rcases k2.2 with ⟨rfl, hx⟩ | ⟨g, cap, cur, rfl, _, hg, hnc, hcm, hcs, htake⟩
  ·exact .inl ⟨Z, List.eq_nil_of_length_eq_zero hx⟩
  ·refine .inr (.inr ⟨g, 0, cap, cur, Te, (0, 0), cells, Z, hnc, hcm, by rw [ht g (by simp [Value.ownBlock]), hg], ?_, k1.mono hle⟩)
   rw [List.drop_zero, k1.len, htake]
 | [], _ :: _, _, h, _ => h.elim
 | _ :: _, [], _, h, _ => h.elim
end
/-! ### loops -/
section
variable {P : Program} {N : Nat} {Q : Qaz} {f : Fr} {w : World}
theorem QS {S : Type} {B : Nat → S → Option S} {n : Nat} {s0 s1 : S} {c : Code} (I : Nat → S → Fr → World → Prop) (hB : forS B n 0 s0 = some s1) (h0 : I 0 s0 f w)
  (hround : ∀ i s s' f w, i < n → I i s f w → B i s = some s' → W P N c (andThen (I (i + 1) s') Q) f w)
  (hend : ∀ f w, I n s1 f w → W P N c (andThen (fun _ _ => False) Q) f w) : W P N (.loop c) Q f w := by
 refine QfS (fun k f w => ∃ i s, i + k = n ∧ I i s f w ∧ forS B k i s = some s1) ⟨n, 0, s0, by omega, h0, hB⟩ ?_
 rintro k f w ⟨i, s, hik, hI, hs⟩
 cases k with
 | zero =>
  simp only [forS, Option.some.injEq] at hs
  subst hs
  have : i = n := by omega
  subst this
  exact QdK (hend f w hI) (fun e f w h => by cases e <;> first | exact h.elim | exact h)
 | succ k =>
  simp only [forS] at hs
  obtain ⟨s', h1, h2⟩ := Zg hs
  exact QdK (hround i s s' f w (by omega) hI h1) (fun e f w h => by cases e <;> first | exact ⟨k, by omega, i + 1, s', by omega, h, h2⟩ | exact h)
theorem QC {S R : Type} {B : Nat → S → Option (Ctl S R)} {n : Nat} {s0 : S} {res : Ctl S R} {c : Code} (I : Nat → S → Fr → World → Prop) (hB : QW B n 0 s0 = some res) (h0 : I 0 s0 f w)
  (hround : ∀ i s c' f w, i < n → I i s f w → B i s = some c' → ((∀ s', c' ≠ .next s') → res = c') → W P N c (andThen (fun f w => ∃ s', c' = .next s' ∧ I (i + 1) s' f w) Q) f w)
  (hend : ∀ s f w, I n s f w → res = .next s → W P N c (andThen (fun _ _ => False) Q) f w) : W P N (.loop c) Q f w := by
 refine QfS (fun k f w => ∃ i s, i + k = n ∧ I i s f w ∧ QW B k i s = some res) ⟨n, 0, s0, by omega, h0, hB⟩ ?_
 rintro k f w ⟨i, s, hik, hI, hs⟩
 cases k with
 | zero =>
  simp only [QW, Option.some.injEq] at hs
  have : i = n := by omega
  subst this
  exact QdK (hend s f w hI hs.symm) (fun e f w h => by cases e <;> first | exact h.elim | exact h)
 | succ k =>
  simp only [QW] at hs
  cases h1 : B i s with
  | none => rw [h1] at hs; cases hs
  | some c' =>
   rw [h1] at hs
   refine QdK (hround i s c' f w (by omega) hI h1 ?_) ?_
   ·intro hc
    cases c' with
    | next s' => exact absurd rfl (hc s')
    | brk s' => exact (Zu hs).symm
    | ret r => exact (Zu hs).symm
   ·intro e f w h
    cases e <;> first
     | (obtain ⟨s', rfl, h2⟩ := h; exact ⟨k, by omega, i + 1, s', by omega, h2, hs⟩)
     | exact h
theorem Ym {S R : Type} {B : S → Option (Ctl S R)} {s0 : S} {res : Ctl S R} {c : Code} (I : S → Fr → World → Prop) (hB : JA B s0 = some res) (h0 : I s0 f w)
  (hround : ∀ s c' f w, I s f w → B s = some c' → ((∀ s', c' ≠ .next s') → res = c') → W P N c (andThen (fun f w => ∃ s', c' = .next s' ∧ I s' f w) Q) f w) : W P N (.loop c) Q f w := by
 obtain ⟨k0, hk0⟩ := QgC hB
 refine QfS (fun k f w => ∃ s, I s f w ∧ Y8 B k s = some res) ⟨k0, s0, h0, hk0⟩ ?_
 rintro k f w ⟨s, hI, hs⟩
 cases k with
 | zero => simp [Y8] at hs
 | succ k =>
  simp only [Y8] at hs
  cases h1 : B s with
  | none => rw [h1] at hs; cases hs
  | some c' =>
   rw [h1] at hs
   refine QdK (hround s c' f w hI h1 ?_) ?_
   ·intro hc
    cases c' with
    | next s' => exact absurd rfl (hc s')
    | brk s' => exact (Zu hs).symm
    | ret r => exact (Zu hs).symm
   ·intro e f w h
    cases e <;> first
     | (obtain ⟨s', rfl, h2⟩ := h; exact ⟨k, by omega, s', h2, hs⟩)
     | exact h
end
/-! ### small helps of the printed walks -/
def HeadAll (p : Nat → Oper → Prop) : Nat → List Oper → Prop
 | _, [] => True
 | i, o :: os => p i o ∧ HeadAll p (i + 1) os
theorem HeadAll.spec {p : Nat → Oper → Prop} : ∀ {l : List Oper} {k : Nat}, HeadAll p k l → ∀ i o, l[i]? = some o → p (k + i) o
 | [], _, _, i, o, h => by simp at h
 | a :: l, k, ⟨h1, h2⟩, 0, o, h => by simp at h; subst h; exact h1
 | a :: l, k, ⟨h1, h2⟩, i + 1, o, h => by
  have := HeadAll.spec h2 i o (by simpa using h)
  rwa [show k + 1 + i = k + (i + 1) by omega] at this
theorem HeadAll.head {p : Nat → Oper → Prop} {n0 : Nat} {ops : List Oper} (h : HeadAll p 0 (ops.take n0)) : ∀ i o, i < n0 → ops[i]? = some o → p i o := by
 intro i o hi ho
 have := h.spec i o (by rw [List.getElem?_take, if_pos hi]; exact ho)
 rwa [Nat.zero_add] at this
theorem HeadAll.nil {p : Nat → Oper → Prop} {i : Nat} : HeadAll p i [] := trivial
theorem HeadAll.cons {p : Nat → Oper → Prop} {i : Nat} {o : Oper} {l : List Oper} (h : p i o) (hl : HeadAll p (i + 1) l) : HeadAll p i (o :: l) := ⟨h, hl⟩
theorem JV {α : Type} {c : Prop} [Decidable c] {x y : Option α} {r : α} (h : (if c then x else y) = some r) : (c ∧ x = some r) ∨ (¬ c ∧ y = some r) := by
 split at h
 ·exact .inl ⟨‹_›, h⟩
 ·exact .inr ⟨‹_›, h⟩
section
variable {P : Program} {N : Nat} {Q : Qaz} {f : Fr} {w : World} {K : Fr → World → Prop}
theorem Ze (h : K f w) : andThen K Q .normal f w := h
theorem KN (h : Q .ret f w) : andThen K Q .ret f w := h
theorem K8 {id : Nat} (h : Q (.exit id) f w) : andThen K Q (.exit id) f w := h
theorem QaO {id : Nat} (h : Q .normal f w) : YR id Q .normal f w := h
theorem Qbx {id : Nat} (h : Q .ret f w) : YR id Q .ret f w := h
theorem QaI {id : Nat} (h : Q .normal f w) : YR id Q (.exit id) f w := by simpa [YR] using h
theorem QhJ {id id' : Nat} (hne : Nat.beq id' id = false) (h : Q (.exit id') f w) : YR id Q (.exit id') f w := by simpa [YR, hne] using h
theorem Qs {c : Code} (M : Fr → World → Prop) (h1 : W P N c (andThen M Q) f w) (h2 : ∀ f w, M f w → Q .normal f w) : W P N c Q f w :=
 QdK h1 fun e f w h => by cases e <;> first | exact h2 f w h | exact h
theorem Qd0 {c : Operand} {x y : Code} {b : Bool} (hv : ev f c = .bool b) (hb : b = true) (h : W P N x Q f w) : W P N (.cond c x y) Q f w := YT (by rw [hv, hb]) h
theorem Qd1 {c : Operand} {x y : Code} {b : Bool} (hv : ev f c = .bool b) (hb : ¬ b = true) (h : W P N y Q f w) : W P N (.cond c x y) Q f w := KQ (by rw [hv]; simpa using hb) h
theorem Zf {ops : Array Oper} {j d : Nat} {b : Bool} (hd : (ops[j]?).bind (·.dst) = some d) (hf : f d = .bool b) : Jf ops f j = some b := by simp [Jf, hd, hf]
theorem Zk {b : Bool} (h : ¬ b = true) : b = false := by simpa using h
theorem QfM {a a' b b' : Value} (h1 : a = a') (h2 : b = b') : Value.tuple #[a, b] = .tuple #[a', b'] := by rw [h1, h2]
theorem Qln {a a' b b' c c' : Value} (h1 : a = a') (h2 : b = b') (h3 : c = c') : Value.tuple #[a, b, c] = .tuple #[a', b', c'] := by rw [h1, h2, h3]
end
section
variable {w0 w : World} {s : PHeap} {H : List Res}
theorem St.f1 {R0 R1 : Res} (h : St w0 s (R0 :: R1 :: H) w) : St w0 s (R1 :: R0 :: H) w := h.perm (List.perm_middle (l₁ := [R0]))
theorem St.f2 {R0 R1 R2 : Res} (h : St w0 s (R0 :: R1 :: R2 :: H) w) : St w0 s (R2 :: R0 :: R1 :: H) w := h.perm (List.perm_middle (l₁ := [R0, R1]))
theorem St.f3 {R0 R1 R2 R3 : Res} (h : St w0 s (R0 :: R1 :: R2 :: R3 :: H) w) : St w0 s (R3 :: R0 :: R1 :: R2 :: H) w := h.perm (List.perm_middle (l₁ := [R0, R1, R2]))
theorem St.f4 {R0 R1 R2 R3 R4 : Res} (h : St w0 s (R0 :: R1 :: R2 :: R3 :: R4 :: H) w) : St w0 s (R4 :: R0 :: R1 :: R2 :: R3 :: H) w := h.perm (List.perm_middle (l₁ := [R0, R1, R2, R3]))
theorem St.f5 {R0 R1 R2 R3 R4 R5 : Res} (h : St w0 s (R0 :: R1 :: R2 :: R3 :: R4 :: R5 :: H) w) : St w0 s (R5 :: R0 :: R1 :: R2 :: R3 :: R4 :: H) w := h.perm (List.perm_middle (l₁ := [R0, R1, R2, R3, R4]))
theorem St.f6 {R0 R1 R2 R3 R4 R5 R6 : Res} (h : St w0 s (R0 :: R1 :: R2 :: R3 :: R4 :: R5 :: R6 :: H) w) : St w0 s (R6 :: R0 :: R1 :: R2 :: R3 :: R4 :: R5 :: H) w := h.perm (List.perm_middle (l₁ := [R0, R1, R2, R3, R4, R5]))
theorem St.f7 {R0 R1 R2 R3 R4 R5 R6 R7 : Res} (h : St w0 s (R0 :: R1 :: R2 :: R3 :: R4 :: R5 :: R6 :: R7 :: H) w) : St w0 s (R7 :: R0 :: R1 :: R2 :: R3 :: R4 :: R5 :: R6 :: H) w := h.perm (List.perm_middle (l₁ := [R0, R1, R2, R3, R4, R5, R6]))
theorem St.f8 {R0 R1 R2 R3 R4 R5 R6 R7 R8 : Res} (h : St w0 s (R0 :: R1 :: R2 :: R3 :: R4 :: R5 :: R6 :: R7 :: R8 :: H) w) : St w0 s (R8 :: R0 :: R1 :: R2 :: R3 :: R4 :: R5 :: R6 :: R7 :: H) w := h.perm (List.perm_middle (l₁ := [R0, R1, R2, R3, R4, R5, R6, R7]))
theorem St.f9 {R0 R1 R2 R3 R4 R5 R6 R7 R8 R9 : Res} (h : St w0 s (R0 :: R1 :: R2 :: R3 :: R4 :: R5 :: R6 :: R7 :: R8 :: R9 :: H) w) : St w0 s (R9 :: R0 :: R1 :: R2 :: R3 :: R4 :: R5 :: R6 :: R7 :: R8 :: H) w := h.perm (List.perm_middle (l₁ := [R0, R1, R2, R3, R4, R5, R6, R7, R8]))
theorem St.f10 {R0 R1 R2 R3 R4 R5 R6 R7 R8 R9 R10 : Res} (h : St w0 s (R0 :: R1 :: R2 :: R3 :: R4 :: R5 :: R6 :: R7 :: R8 :: R9 :: R10 :: H) w) : St w0 s (R10 :: R0 :: R1 :: R2 :: R3 :: R4 :: R5 :: R6 :: R7 :: R8 :: R9 :: H) w := h.perm (List.perm_middle (l₁ := [R0, R1, R2, R3, R4, R5, R6, R7, R8, R9]))
theorem St.f11 {R0 R1 R2 R3 R4 R5 R6 R7 R8 R9 R10 R11 : Res} (h : St w0 s (R0 :: R1 :: R2 :: R3 :: R4 :: R5 :: R6 :: R7 :: R8 :: R9 :: R10 :: R11 :: H) w) : St w0 s (R11 :: R0 :: R1 :: R2 :: R3 :: R4 :: R5 :: R6 :: R7 :: R8 :: R9 :: R10 :: H) w := h.perm (List.perm_middle (l₁ := [R0, R1, R2, R3, R4, R5, R6, R7, R8, R9, R10]))
theorem St.f12 {R0 R1 R2 R3 R4 R5 R6 R7 R8 R9 R10 R11 R12 : Res} (h : St w0 s (R0 :: R1 :: R2 :: R3 :: R4 :: R5 :: R6 :: R7 :: R8 :: R9 :: R10 :: R11 :: R12 :: H) w) : St w0 s (R12 :: R0 :: R1 :: R2 :: R3 :: R4 :: R5 :: R6 :: R7 :: R8 :: R9 :: R10 :: R11 :: H) w := h.perm (List.perm_middle (l₁ := [R0, R1, R2, R3, R4, R5, R6, R7, R8, R9, R10, R11]))
end
/-! ### draws -/
structure RP where
 p : PHeap → Value → Prop
 mono : ∀ {s t v}, PHeap.le s t → p s v → p t v
def RP.any : RP := ⟨fun _ _ => True, fun _ _ => trivial⟩
def RP.eq (u : Value) : RP := ⟨fun _ v => v = u, fun _ h => h⟩
def RP.val {α : Type} (E : Enc α) (a : α) : RP := ⟨fun s v => E.val s v a, fun l h => Qgo h l⟩
def RP.sl {α : Type} (E : Enc α) (a : List α) : RP := ⟨fun s v => SliceRep E s v a, fun l h => h.mono l⟩
def RP.at {α : Type} (E : Enc α) (a : α) : RP := ⟨fun s v => ∃ b off, v = .pointer (some ⟨b, off, none⟩) ∧ At s b off E a, fun l ⟨b, off, e, h⟩ => ⟨b, off, e, h.mono l⟩⟩
section
variable {P : Program} {N : Nat} {Q : Qaz} {f : Fr} {w w0 : World} {s : PHeap} {H : List Res}
theorem Zh {ops : Array Oper} {j d : Nat} (hd : (ops[j]?).bind (·.dst) = some d) (hf : f d = undef) : Jf ops f j = none := by simp [Jf, hd, hf, undef]
end
theorem Kj {p q : Bool} (h : p = true) : (p && q) = q := by rw [h]; rfl
theorem QcJ {p q : Bool} (h : p = false) : (p && q) = false := by rw [h]; rfl
theorem QfN {p q : Bool} (h : p = true) : (p || q) = true := by rw [h]; rfl
theorem K7 {p q : Bool} (h : p = false) : (p || q) = q := by rw [h]; rfl
theorem KH {α : Type} {p : Bool} {x y : α} (h : p = true) : (bif p then x else y) = x := by rw [h]; rfl
theorem YS {α : Type} {p : Bool} {x y : α} (h : p = false) : (bif p then x else y) = y := by rw [h]; rfl
theorem QeK {n : Int} (h0 : -9223372036854775808 ≤ n) (h1 : n ≤ 9223372036854775807) : IntKind.i64.wrap n = n := IntWalk.i64_in n ⟨h0, h1⟩
theorem J5 {i n : Nat} (h : i < n) (hn : n ≤ maxLen) : Value.int .i64 (IntKind.i64.wrap ((i : Int) + 1)) = Value.int .i64 ((i + 1 : Nat) : Int) := by
 have : n ≤ 9223372036854775807 := hn
 rw [QeK (by omega) (by omega)]
 simp
section
variable {P : Program} {ρ : Operand → Value} {o : Oper} {w : World} {K : Value → World → Prop} {T : TypeId} {s : PHeap}
end
section
variable {P : Program} {ρ : Operand → Value} {o : Oper} {w w0 : World} {K : Value → World → Prop} {T : TypeId} {s : PHeap} {H : List Res}
end
end Go.Pw
