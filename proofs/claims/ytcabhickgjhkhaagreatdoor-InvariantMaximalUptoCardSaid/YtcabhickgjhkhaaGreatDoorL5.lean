/-
  My walk's base, part 5: rows of rows of the call's own; loops over what the pure side computes.
-/
import Derived.Test.YtcabhickgjhkhaaGreatDoorLA
namespace Go.Pw
section
variable {w0 w : World} {s : PHeap} {H : List Res} {α : Type} {E : Enc α} {Te : TypeId}
theorem rowsP.split : ∀ {hs : List Value} {xss : List (List α)} {bs : List Nat} {i : Nat} {h : Value} {xs : List α}, rowsP E Te s w hs xss bs → hs[i]? = some h → xss[i]? = some xs →
    ∃ b1 b2, bs.Perm (b1 ++ b2) ∧ (Res.arr E Te h xs).p s w b1 ∧ rowsP E Te s w (hs.eraseIdx i) (xss.eraseIdx i) b2
  | [], _, _, _, _, _, _, hh, _ => by simp at hh
  | _ :: _, [], _, _, _, _, _, _, hx => by simp at hx
  | a :: hs, ys :: xss, bs, 0, h, xs, ⟨b1, b2, e, h1, h2⟩, hh, hx => by
    simp at hh hx
    subst hh; subst hx; subst e
    exact ⟨b1, b2, .refl _, h1, h2⟩
  | a :: hs, ys :: xss, bs, i + 1, h, xs, ⟨b1, b2, e, h1, h2⟩, hh, hx => by
    simp at hh hx
    obtain ⟨c1, c2, hp, k1, k2⟩ := rowsP.split h2 hh hx
    subst e
    refine ⟨c1, b1 ++ c2, ?_, k1, b1, c2, rfl, h1, k2⟩
    refine (List.Perm.append_left b1 hp).trans ?_
    rw [← List.append_assoc, ← List.append_assoc]
    exact List.Perm.append_right _ List.perm_append_comm
theorem rowsP.join : ∀ {hs : List Value} {xss : List (List α)} {b1 b2 : List Nat} {i : Nat} {h : Value} {xs : List α}, i < hs.length → i < xss.length → (Res.arr E Te h xs).p s w b1 → rowsP E Te s w (hs.eraseIdx i) (xss.eraseIdx i) b2 →
    ∃ bs, bs.Perm (b1 ++ b2) ∧ rowsP E Te s w (hs.set i h) (xss.set i xs) bs
  | [], _, _, _, _, _, _, hi, _, _, _ => by simp at hi
  | _ :: _, [], _, _, _, _, _, _, hi, _, _ => by simp at hi
  | a :: hs, ys :: xss, b1, b2, 0, h, xs, _, _, h1, h2 => ⟨b1 ++ b2, .refl _, b1, b2, rfl, h1, h2⟩
  | a :: hs, ys :: xss, b1, b2, i + 1, h, xs, hi, hj, h1, ⟨c1, c2, e, k1, k2⟩ => by
    obtain ⟨bs, hp, hr⟩ := rowsP.join (by simpa using hi) (by simpa using hj) h1 k2
    subst e
    refine ⟨c1 ++ bs, ?_, c1, bs, rfl, k1, hr⟩
    refine (List.Perm.append_left c1 hp).trans ?_
    rw [← List.append_assoc, ← List.append_assoc]
    exact List.Perm.append_right _ List.perm_append_comm
theorem rowsP.push : ∀ {hs : List Value} {xss : List (List α)} {b1 b2 : List Nat} {h : Value} {xs : List α}, (Res.arr E Te h xs).p s w b1 → rowsP E Te s w hs xss b2 →
    ∃ bs, bs.Perm (b1 ++ b2) ∧ rowsP E Te s w (hs ++ [h]) (xss ++ [xs]) bs
  | [], [], b1, b2, h, xs, h1, h2 => by
    cases h2
    exact ⟨b1, by simp, b1, [], by simp, h1, rfl⟩
  | a :: hs, ys :: xss, b1, b2, h, xs, h1, ⟨c1, c2, e, k1, k2⟩ => by
    obtain ⟨bs, hp, hr⟩ := rowsP.push h1 k2
    subst e
    refine ⟨c1 ++ bs, ?_, c1, bs, rfl, k1, hr⟩
    refine (List.Perm.append_left c1 hp).trans ?_
    rw [← List.append_assoc, ← List.append_assoc]
    exact List.Perm.append_right _ List.perm_append_comm
  | [], _ :: _, _, _, _, _, _, h2 => h2.elim
  | _ :: _, [], _, _, _, _, _, h2 => h2.elim
theorem St.rows_len {hs : List Value} {xss : List (List α)} (hS : St w0 s (.rows E Te hs xss :: H) w) : hs.length = xss.length := by
  obtain ⟨bs, hn, hss, b1, b2, e, h1, h2⟩ := hS.own
  exact rowsP.length h1
theorem St.rows_nil (hS : St w0 s H w) (E : Enc α) (Te : TypeId) : St w0 s (.rows E Te [] [] :: H) w := by
  obtain ⟨bs, hn, hs, hb⟩ := hS.own
  exact ⟨hS.os, hS.tape, hS.output, hS.drawn, hS.size, hS.stay, bs, hn, hs, [], bs, rfl, rfl, hb⟩
theorem St.rows_split {hs : List Value} {xss : List (List α)} {i : Nat} {h : Value} {xs : List α} (hS : St w0 s (.rows E Te hs xss :: H) w) (hh : hs[i]? = some h) (hx : xss[i]? = some xs) :
    St w0 s (.arr E Te h xs :: .rows E Te (hs.eraseIdx i) (xss.eraseIdx i) :: H) w := by
  obtain ⟨bs, hn, hss, b1, b2, e, h1, h2⟩ := hS.own
  subst e
  obtain ⟨c1, c2, hp, k1, k2⟩ := rowsP.split h1 hh hx
  have hp' : (b1 ++ b2).Perm (c1 ++ (c2 ++ b2)) := by rw [← List.append_assoc]; exact List.Perm.append_right _ hp
  exact ⟨hS.os, hS.tape, hS.output, hS.drawn, hS.size, hS.stay, c1 ++ (c2 ++ b2), hp'.nodup_iff.1 hn, fun b hb => hss b (hp'.mem_iff.2 hb), c1, c2 ++ b2, rfl, k1, c2, b2, rfl, k2, h2⟩
theorem St.rows_join {hs : List Value} {xss : List (List α)} {i : Nat} {h : Value} {xs : List α} (hS : St w0 s (.arr E Te h xs :: .rows E Te (hs.eraseIdx i) (xss.eraseIdx i) :: H) w) (hi : i < hs.length) (hj : i < xss.length) :
    St w0 s (.rows E Te (hs.set i h) (xss.set i xs) :: H) w := by
  obtain ⟨bs, hn, hss, b1, b2, e, h1, c1, c2, e2, k1, k2⟩ := hS.own
  subst e; subst e2
  obtain ⟨d, hp, hr⟩ := rowsP.join hi hj h1 k1
  have hp' : (b1 ++ (c1 ++ c2)).Perm (d ++ c2) := by rw [← List.append_assoc]; exact (List.Perm.append_right _ hp).symm
  exact ⟨hS.os, hS.tape, hS.output, hS.drawn, hS.size, hS.stay, d ++ c2, hp'.nodup_iff.1 hn, fun b hb => hss b (hp'.mem_iff.2 hb), d, c2, rfl, hr, k2⟩
theorem St.rows_push {hs : List Value} {xss : List (List α)} {h : Value} {xs : List α} (hS : St w0 s (.arr E Te h xs :: .rows E Te hs xss :: H) w) : St w0 s (.rows E Te (hs ++ [h]) (xss ++ [xs]) :: H) w := by
  obtain ⟨bs, hn, hss, b1, b2, e, h1, c1, c2, e2, k1, k2⟩ := hS.own
  subst e; subst e2
  obtain ⟨d, hp, hr⟩ := rowsP.push h1 k1
  have hp' : (b1 ++ (c1 ++ c2)).Perm (d ++ c2) := by rw [← List.append_assoc]; exact (List.Perm.append_right _ hp).symm
  exact ⟨hS.os, hS.tape, hS.output, hS.drawn, hS.size, hS.stay, d ++ c2, hp'.nodup_iff.1 hn, fun b hb => hss b (hp'.mem_iff.2 hb), d, c2, rfl, hr, k2⟩
theorem rowsP.rep {t : PHeap} (hle : PHeap.le s t) : ∀ {hs : List Value} {xss : List (List α)} {bs : List Nat}, rowsP E Te s w hs xss bs → (∀ b ∈ bs, t b = w.heap[b]?) → reps (encSlice E) t hs xss
  | [], [], _, _, _ => rfl
  | h :: hs, xs :: xss, bs, ⟨b1, b2, e, h1, h2⟩, ht => by
    subst e
    refine ⟨[h], hs, rfl, ⟨h, rfl, ?_⟩, rowsP.rep hle h2 (fun b hb => ht b (List.mem_append_right _ hb))⟩
    obtain ⟨cells, k1, k2, rfl⟩ := h1
    rcases k2.2 with ⟨rfl, hx⟩ | ⟨g, cap, cur, rfl, _, hg, hnc, hcm, hcs, htake⟩
    · exact .inl ⟨rfl, List.eq_nil_of_length_eq_zero hx⟩
    · refine .inr (.inr ⟨g, 0, cap, cur, Te, (0, 0), cells, rfl, hnc, hcm, by rw [ht g (by simp [Value.ownBlock]), hg], ?_, k1.mono hle⟩)
      rw [List.drop_zero, k1.len, htake]
  | [], _ :: _, _, h, _ => h.elim
  | _ :: _, [], _, h, _ => h.elim
end
/-! ### loops -/
section
variable {P : Program} {N : Nat} {Q : Post} {f : Fr} {w : World}
theorem W_forS {S : Type} {B : Nat → S → Option S} {n : Nat} {s0 s1 : S} {c : Code} (I : Nat → S → Fr → World → Prop) (hB : forS B n 0 s0 = some s1) (h0 : I 0 s0 f w)
    (hround : ∀ i s s' f w, i < n → I i s f w → B i s = some s' → W P N c (andThen (I (i + 1) s') Q) f w)
    (hend : ∀ f w, I n s1 f w → W P N c (andThen (fun _ _ => False) Q) f w) : W P N (.loop c) Q f w := by
  refine W_loop (fun k f w => ∃ i s, i + k = n ∧ I i s f w ∧ forS B k i s = some s1) ⟨n, 0, s0, by omega, h0, hB⟩ ?_
  rintro k f w ⟨i, s, hik, hI, hs⟩
  cases k with
  | zero =>
    simp only [forS, Option.some.injEq] at hs
    subst hs
    have : i = n := by omega
    subst this
    exact W_mono (hend f w hI) (fun e f w h => by cases e <;> first | exact h.elim | exact h)
  | succ k =>
    simp only [forS] at hs
    obtain ⟨s', h1, h2⟩ := Zg hs
    exact W_mono (hround i s s' f w (by omega) hI h1) (fun e f w h => by cases e <;> first | exact ⟨k, by omega, i + 1, s', by omega, h, h2⟩ | exact h)
theorem W_forC {S R : Type} {B : Nat → S → Option (Ctl S R)} {n : Nat} {s0 : S} {res : Ctl S R} {c : Code} (I : Nat → S → Fr → World → Prop) (hB : forC B n 0 s0 = some res) (h0 : I 0 s0 f w)
    (hround : ∀ i s c' f w, i < n → I i s f w → B i s = some c' → ((∀ s', c' ≠ .next s') → res = c') → W P N c (andThen (fun f w => ∃ s', c' = .next s' ∧ I (i + 1) s' f w) Q) f w)
    (hend : ∀ s f w, I n s f w → res = .next s → W P N c (andThen (fun _ _ => False) Q) f w) : W P N (.loop c) Q f w := by
  refine W_loop (fun k f w => ∃ i s, i + k = n ∧ I i s f w ∧ forC B k i s = some res) ⟨n, 0, s0, by omega, h0, hB⟩ ?_
  rintro k f w ⟨i, s, hik, hI, hs⟩
  cases k with
  | zero =>
    simp only [forC, Option.some.injEq] at hs
    have : i = n := by omega
    subst this
    exact W_mono (hend s f w hI hs.symm) (fun e f w h => by cases e <;> first | exact h.elim | exact h)
  | succ k =>
    simp only [forC] at hs
    cases h1 : B i s with
    | none => rw [h1] at hs; cases hs
    | some c' =>
      rw [h1] at hs
      refine W_mono (hround i s c' f w (by omega) hI h1 ?_) ?_
      · intro hc
        cases c' with
        | next s' => exact absurd rfl (hc s')
        | brk s' => exact (Zu hs).symm
        | ret r => exact (Zu hs).symm
      · intro e f w h
        cases e <;> first
          | (obtain ⟨s', rfl, h2⟩ := h; exact ⟨k, by omega, i + 1, s', by omega, h2, hs⟩)
          | exact h
theorem W_while {S R : Type} {B : S → Option (Ctl S R)} {s0 : S} {res : Ctl S R} {c : Code} (I : S → Fr → World → Prop) (hB : whileC B s0 = some res) (h0 : I s0 f w)
    (hround : ∀ s c' f w, I s f w → B s = some c' → ((∀ s', c' ≠ .next s') → res = c') → W P N c (andThen (fun f w => ∃ s', c' = .next s' ∧ I s' f w) Q) f w) : W P N (.loop c) Q f w := by
  obtain ⟨k0, hk0⟩ := whileC_some hB
  refine W_loop (fun k f w => ∃ s, I s f w ∧ iterC B k s = some res) ⟨k0, s0, h0, hk0⟩ ?_
  rintro k f w ⟨s, hI, hs⟩
  cases k with
  | zero => simp [iterC] at hs
  | succ k =>
    simp only [iterC] at hs
    cases h1 : B s with
    | none => rw [h1] at hs; cases hs
    | some c' =>
      rw [h1] at hs
      refine W_mono (hround s c' f w hI h1 ?_) ?_
      · intro hc
        cases c' with
        | next s' => exact absurd rfl (hc s')
        | brk s' => exact (Zu hs).symm
        | ret r => exact (Zu hs).symm
      · intro e f w h
        cases e <;> first
          | (obtain ⟨s', rfl, h2⟩ := h; exact ⟨k, by omega, s', h2, hs⟩)
          | exact h
end
/-! ### small helps of the printed walks -/
/-- The head's operations, one after the other. -/
def HeadAll (p : Nat → Oper → Prop) : Nat → List Oper → Prop
  | _, [] => True
  | i, o :: os => p i o ∧ HeadAll p (i + 1) os
theorem HeadAll.spec {p : Nat → Oper → Prop} : ∀ {l : List Oper} {k : Nat}, HeadAll p k l → ∀ i o, l[i]? = some o → p (k + i) o
  | [], _, _, i, o, h => by simp at h
  | a :: l, k, ⟨h1, h2⟩, 0, o, h => by simp at h; subst h; exact h1
  | a :: l, k, ⟨h1, h2⟩, i + 1, o, h => by
    have := HeadAll.spec h2 i o (by simpa using h)
    rwa [show k + 1 + i = k + (i + 1) by omega] at this
theorem HeadAll.head {p : Nat → Oper → Prop} {n0 : Nat} {ops : List Oper} (h : HeadAll p 0 (ops.take n0)) : ∀ i o, i < n0 → ops[i]? = some o → p i o := by
  intro i o hi ho
  have := h.spec i o (by rw [List.getElem?_take, if_pos hi]; exact ho)
  rwa [Nat.zero_add] at this
theorem HeadAll.nil {p : Nat → Oper → Prop} {i : Nat} : HeadAll p i [] := trivial
theorem HeadAll.cons {p : Nat → Oper → Prop} {i : Nat} {o : Oper} {l : List Oper} (h : p i o) (hl : HeadAll p (i + 1) l) : HeadAll p i (o :: l) := ⟨h, hl⟩
theorem ite_some {α : Type} {c : Prop} [Decidable c] {x y : Option α} {r : α} (h : (if c then x else y) = some r) : (c ∧ x = some r) ∨ (¬ c ∧ y = some r) := by
  split at h
  · exact .inl ⟨‹_›, h⟩
  · exact .inr ⟨‹_›, h⟩
section
variable {P : Program} {N : Nat} {Q : Post} {f : Fr} {w : World} {K : Fr → World → Prop}
theorem Ze (h : K f w) : andThen K Q .normal f w := h
theorem at_ret (h : Q .ret f w) : andThen K Q .ret f w := h
theorem at_exit {id : Nat} (h : Q (.exit id) f w) : andThen K Q (.exit id) f w := h
theorem ib_normal {id : Nat} (h : Q .normal f w) : inBlk id Q .normal f w := h
theorem ib_ret {id : Nat} (h : Q .ret f w) : inBlk id Q .ret f w := h
theorem ib_here {id : Nat} (h : Q .normal f w) : inBlk id Q (.exit id) f w := by simpa [inBlk] using h
/-- What holds in between, said once where several ways come together. -/
theorem W_mid {c : Code} (M : Fr → World → Prop) (h1 : W P N c (andThen M Q) f w) (h2 : ∀ f w, M f w → Q .normal f w) : W P N c Q f w :=
  W_mono h1 fun e f w h => by cases e <;> first | exact h2 f w h | exact h
theorem W_cond_t {c : Operand} {x y : Code} {b : Bool} (hv : ev f c = .bool b) (hb : b = true) (h : W P N x Q f w) : W P N (.cond c x y) Q f w := W_true (by rw [hv, hb]) h
theorem W_cond_f {c : Operand} {x y : Code} {b : Bool} (hv : ev f c = .bool b) (hb : ¬ b = true) (h : W P N y Q f w) : W P N (.cond c x y) Q f w := W_false (by rw [hv]; simpa using hb) h
theorem Zf {ops : Array Oper} {j d : Nat} {b : Bool} (hd : (ops[j]?).bind (·.dst) = some d) (hf : f d = .bool b) : yieldedF ops f j = some b := by simp [yieldedF, hd, hf]
theorem Zk {b : Bool} (h : ¬ b = true) : b = false := by simpa using h
theorem tup2 {a a' b b' : Value} (h1 : a = a') (h2 : b = b') : Value.tuple #[a, b] = .tuple #[a', b'] := by rw [h1, h2]
end
section
variable {w0 w : World} {s : PHeap} {H : List Res}
theorem St.f1 {R0 R1 : Res} (h : St w0 s (R0 :: R1 :: H) w) : St w0 s (R1 :: R0 :: H) w := h.perm (List.perm_middle (l₁ := [R0]))
theorem St.f2 {R0 R1 R2 : Res} (h : St w0 s (R0 :: R1 :: R2 :: H) w) : St w0 s (R2 :: R0 :: R1 :: H) w := h.perm (List.perm_middle (l₁ := [R0, R1]))
theorem St.f3 {R0 R1 R2 R3 : Res} (h : St w0 s (R0 :: R1 :: R2 :: R3 :: H) w) : St w0 s (R3 :: R0 :: R1 :: R2 :: H) w := h.perm (List.perm_middle (l₁ := [R0, R1, R2]))
theorem St.f4 {R0 R1 R2 R3 R4 : Res} (h : St w0 s (R0 :: R1 :: R2 :: R3 :: R4 :: H) w) : St w0 s (R4 :: R0 :: R1 :: R2 :: R3 :: H) w := h.perm (List.perm_middle (l₁ := [R0, R1, R2, R3]))
theorem St.f5 {R0 R1 R2 R3 R4 R5 : Res} (h : St w0 s (R0 :: R1 :: R2 :: R3 :: R4 :: R5 :: H) w) : St w0 s (R5 :: R0 :: R1 :: R2 :: R3 :: R4 :: H) w := h.perm (List.perm_middle (l₁ := [R0, R1, R2, R3, R4]))
theorem St.f6 {R0 R1 R2 R3 R4 R5 R6 : Res} (h : St w0 s (R0 :: R1 :: R2 :: R3 :: R4 :: R5 :: R6 :: H) w) : St w0 s (R6 :: R0 :: R1 :: R2 :: R3 :: R4 :: R5 :: H) w := h.perm (List.perm_middle (l₁ := [R0, R1, R2, R3, R4, R5]))
theorem St.f7 {R0 R1 R2 R3 R4 R5 R6 R7 : Res} (h : St w0 s (R0 :: R1 :: R2 :: R3 :: R4 :: R5 :: R6 :: R7 :: H) w) : St w0 s (R7 :: R0 :: R1 :: R2 :: R3 :: R4 :: R5 :: R6 :: H) w := h.perm (List.perm_middle (l₁ := [R0, R1, R2, R3, R4, R5, R6]))
theorem St.f8 {R0 R1 R2 R3 R4 R5 R6 R7 R8 : Res} (h : St w0 s (R0 :: R1 :: R2 :: R3 :: R4 :: R5 :: R6 :: R7 :: R8 :: H) w) : St w0 s (R8 :: R0 :: R1 :: R2 :: R3 :: R4 :: R5 :: R6 :: R7 :: H) w := h.perm (List.perm_middle (l₁ := [R0, R1, R2, R3, R4, R5, R6, R7]))
theorem St.f9 {R0 R1 R2 R3 R4 R5 R6 R7 R8 R9 : Res} (h : St w0 s (R0 :: R1 :: R2 :: R3 :: R4 :: R5 :: R6 :: R7 :: R8 :: R9 :: H) w) : St w0 s (R9 :: R0 :: R1 :: R2 :: R3 :: R4 :: R5 :: R6 :: R7 :: R8 :: H) w := h.perm (List.perm_middle (l₁ := [R0, R1, R2, R3, R4, R5, R6, R7, R8]))
end
/-! ### draws -/
/-- What an operation of a drawn region leaves, as a thing that stays true. -/
structure RP where
  p : PHeap → Value → Prop
  mono : ∀ {s t v}, PHeap.le s t → p s v → p t v
def RP.any : RP := ⟨fun _ _ => True, fun _ _ => trivial⟩
def RP.eq (u : Value) : RP := ⟨fun _ v => v = u, fun _ h => h⟩
def RP.val {α : Type} (E : Enc α) (a : α) : RP := ⟨fun s v => E.val s v a, fun l h => Enc.val_mono h l⟩
def RP.at {α : Type} (E : Enc α) (a : α) : RP := ⟨fun s v => ∃ b off, v = .pointer (some ⟨b, off, none⟩) ∧ At s b off E a, fun l ⟨b, off, e, h⟩ => ⟨b, off, e, h.mono l⟩⟩
section
variable {P : Program} {N : Nat} {Q : Post} {f : Fr} {w w0 : World} {s : PHeap} {H : List Res}
end
theorem and_t {p q : Bool} (h : p = true) : (p && q) = q := by rw [h]; rfl
theorem and_f {p q : Bool} (h : p = false) : (p && q) = false := by rw [h]; rfl
theorem or_t {p q : Bool} (h : p = true) : (p || q) = true := by rw [h]; rfl
theorem or_f {p q : Bool} (h : p = false) : (p || q) = q := by rw [h]; rfl
theorem cnd_t {α : Type} {p : Bool} {x y : α} (h : p = true) : (bif p then x else y) = x := by rw [h]; rfl
theorem cnd_f {α : Type} {p : Bool} {x y : α} (h : p = false) : (bif p then x else y) = y := by rw [h]; rfl
theorem wrap_i64 {n : Int} (h0 : -9223372036854775808 ≤ n) (h1 : n ≤ 9223372036854775807) : IntKind.i64.wrap n = n := IntWalk.i64_in n ⟨h0, h1⟩
/-- The counter of a counted loop goes up. -/
theorem wrap_up {i n : Nat} (h : i < n) (hn : n ≤ maxLen) : Value.int .i64 (IntKind.i64.wrap ((i : Int) + 1)) = Value.int .i64 ((i + 1 : Nat) : Int) := by
  have : n ≤ 9223372036854775807 := hn
  rw [wrap_i64 (by omega) (by omega)]
  simp
section
variable {P : Program} {ρ : Operand → Value} {o : Oper} {w : World} {K : Value → World → Prop} {T : TypeId} {s : PHeap}
end
section
variable {P : Program} {ρ : Operand → Value} {o : Oper} {w w0 : World} {K : Value → World → Prop} {T : TypeId} {s : PHeap} {H : List Res}
end
end Go.Pw
