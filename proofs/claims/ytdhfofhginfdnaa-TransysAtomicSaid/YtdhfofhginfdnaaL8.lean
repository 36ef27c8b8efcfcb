/-
  My walk's base, part 9: a region that draws its order, some of whose operations take what is owned outside.
-/
import Derived.Test.YtdhfofhginfdnaaLA
namespace Go.Pw
/-- As consOK; from the ops' number on: what is owned from the start. -/
def consOKX (n0 : Nat) (ops : List Oper) (O : Nat → Bool) (C : List (List Nat)) : Bool :=
  decide (C.flatten.Nodup) && ((List.range C.length).all fun i => (consAt C i).isEmpty || (Nat.blt i n0 &&
    (consAt C i).all fun j => O j && (Nat.ble ops.length j || (match ops[i]? with | some o => o.after.any (fun e => Region.binds .any e && Nat.beq e.on j) | none => false))))
def activesX (n0 ol nX : Nat) (O : Nat → Bool) (C : List (List Nat)) : List Nat := (List.range n0 ++ List.range' ol nX).filter fun j => O j && !C.flatten.contains j
theorem range_flat {β : Type} : ∀ (X : List (List β)) (a : Nat), (List.range' a X.length).flatMap (fun j => X.getD (j - a) []) = X.flatten
  | [], a => rfl
  | x :: X, a => by
    rw [List.length_cons, List.range'_succ, List.flatMap_cons, List.flatten_cons, ← range_flat X (a + 1)]
    congr 1
    · simp
    · refine flatMap_congr' fun j hj => ?_
      rw [List.mem_range'_1] at hj
      rw [show j - a = (j - (a + 1)) + 1 by omega]
      simp
def RR.own0 (L0 : List Res) : RR := ⟨true, fun _ _ L => L = L0, fun _ h => h, fun h => by cases h⟩
def RR.grid {α : Type} (E : Enc α) (T T2 : TypeId) (xss : List (List α)) : RR := ⟨true, fun _ v L => ∃ hs, L = [.arr encRaw T v hs, .rows E T2 hs xss], fun _ h => h, fun h => by cases h⟩
/-- A literal of one row that is owned. -/
def RR.rowlit {α : Type} (E : Enc α) (T T2 : TypeId) (xs : List α) : RR := ⟨true, fun _ v L => ∃ b u, v = .slice (some ⟨b, 0, none⟩) 1 1 ∧ L = [.box b T [u], .arr E T2 u xs], fun _ h => h, fun h => by cases h⟩
section
variable {P : Program} {N : Nat} {Q : Post} {f : Fr} {w w0 : World} {s : PHeap} {H Hs : List Res}
def HeadOkX (P : Program) (ops : List Oper) (f : Fr) (w0 : World) (Hs : List Res) (Rl : List RR) (C : List (List Nat)) (s : PHeap) (i : Nat) (o : Oper) : Prop :=
  ∀ (g : Fr) (t : PHeap) (w : World) (H : List Res) (L : Nat → List Res), PHeap.le s t → St w0 t ((consAt C i).flatMap L ++ (Hs ++ H)) w → (∀ n, noDst ops n = true → g n = f n) →
    (∀ (k : Nat) (e : Edge), o.after[k]? = some e → Region.binds .any e = true → isOwn Rl e.on = false ∨ e.on ∈ consAt C i → (rrAt Rl e.on).p t (g (dstAt ops e.on)) (L e.on)) →
    (∀ j ∈ consAt C i, (rrAt Rl j).p t (g (dstAt ops j)) (L j)) →
    (if Region.wanted o (yieldedF ops.toArray g) then Exec P (ev g) o w fun v w' => ∃ t' Li, PHeap.le t t' ∧ St w0 t' (Li ++ (Hs ++ H)) w' ∧ (rrAt Rl i).p t' v Li
      else isOwn Rl i = false ∧ consAt C i = [] ∧ (rrAt Rl i).p t undef [])

theorem W_drawnX {id n0 : Nat} (X : List (List Res)) {ops : List Oper} (hm : P.follows .mixedOrders = true) (hok : drawOK N n0 ops = true) (Rl : List RR) (C : List (List Nat)) (hC : consOKX n0 ops (isOwn Rl) C = true) (hCv' : C.flatten.all (fun j => Nat.blt j (ops.length + X.length)) = true) (hX : ∀ k, k < X.length → isOwn Rl (ops.length + k) = true ∧ ∀ v, (rrAt Rl (ops.length + k)).p s v (X.getD k [])) (hXv' : ∀ k, k < X.length → ∀ (t : PHeap) (u v : Value) (L : List Res), (rrAt Rl (ops.length + k)).p t u L → (rrAt Rl (ops.length + k)).p t v L) (hS : St w0 s (X.flatten ++ (Hs ++ H)) w)
    (head : HeadAll (HeadOkX P ops f w0 Hs Rl C s) 0 (ops.take n0))
    (tail : ∀ (g : Fr) (t : PHeap) (w : World) (L : Nat → List Res), PHeap.le s t → St w0 t ((activesX n0 ops.length X.length (isOwn Rl) C).flatMap L ++ (Hs ++ H)) w → (∀ n, noDst ops n = true → g n = f n) →
      (∀ i, (Nat.blt i n0 = true ∧ isOwn Rl i = false) ∨ i ∈ activesX n0 ops.length X.length (isOwn Rl) C → (rrAt Rl i).p t (g (dstAt ops i)) (L i)) → WL P N ops.toArray Q (ops.drop n0) g w) :
    W P N (.region id ops.toArray true) Q f w := by
  have hok' := hok
  simp only [drawOK, Bool.and_eq_true, decide_eq_true_eq, List.all_eq_true, Bool.or_eq_true] at hok'
  obtain ⟨⟨⟨⟨⟨hn0, hwait⟩, hdst⟩, _⟩, hnodup⟩, hback⟩ := hok'
  have hn0' : n0 ≤ ops.length := by simpa [Nat.ble_eq] using hn0
  have hdsti : ∀ (i : Nat) (o : Oper), i < n0 → ops[i]? = some o → ∃ d, o.dst = some d ∧ dstAt ops i = d := by
    intro i o hi ho
    have hmem : o ∈ ops.take n0 := List.mem_of_getElem? (i := i) (by rw [List.getElem?_take, if_pos hi]; exact ho)
    have := hdst o hmem
    cases hd : o.dst with
    | none => simp [hd] at this
    | some d => exact ⟨d, rfl, by simp [dstAt, ho, hd]⟩
  have hinj : ∀ (i j : Nat) (oi oj : Oper) (d : Nat), i < n0 → j < n0 → ops[i]? = some oi → ops[j]? = some oj → oi.dst = some d → oj.dst = some d → i = j := by
    intro i j oi oj d hi hj hoi hoj hdi hdj
    have hl : ((ops.take n0).map (·.dst)).length = n0 := by simp; omega
    have e1 : ((ops.take n0).map (·.dst))[i]? = some (some d) := by simp [hi, hoi, hdi]
    have e2 : ((ops.take n0).map (·.dst))[j]? = some (some d) := by simp [hj, hoj, hdj]
    exact (List.getElem?_inj (by omega) hnodup).1 (e1.trans e2.symm)
  simp only [consOKX, Bool.and_eq_true, decide_eq_true_eq, List.all_eq_true, Bool.or_eq_true, List.mem_range] at hC
  obtain ⟨hCn, hCw⟩ := hC
  have hCv : ∀ j ∈ C.flatten, j < ops.length + X.length := fun j hj => by have := List.all_eq_true.1 hCv' j hj; simpa [Nat.blt_eq] using this
  have hXv : ∀ (j : Nat), ops.length ≤ j → j < ops.length + X.length → ∀ {t : PHeap} {u v : Value} {L : List Res}, (rrAt Rl j).p t u L → (rrAt Rl j).p t v L := fun j hv hl {t u v L} h => by
    have := hXv' (j - ops.length) (by omega) t u v L
    rw [show ops.length + (j - ops.length) = j by omega] at this
    exact this h
  have hcons : ∀ i j, j ∈ consAt C i → i < n0 ∧ isOwn Rl j = true ∧ ((ops.length ≤ j) ∨ ∃ o e, ops[i]? = some o ∧ e ∈ o.after ∧ Region.binds .any e = true ∧ e.on = j) := by
    intro i j hj
    rcases hCw i (cons_mem hj).1 with h | ⟨hi, h⟩
    · simp only [List.isEmpty_iff] at h; rw [h] at hj; cases hj
    · obtain ⟨h1, h2⟩ := h j hj
      refine ⟨by simpa [Nat.blt_eq] using hi, h1, ?_⟩
      rcases h2 with h2 | h2
      · exact .inl (by simpa [Nat.ble_eq] using h2)
      right
      cases ho : ops[i]? with
      | none => simp [ho] at h2
      | some o =>
        simp only [ho] at h2
        obtain ⟨e, he, hb⟩ := Array.any_eq_true'.1 h2
        simp only [Bool.and_eq_true] at hb
        exact ⟨o, e, rfl, he, hb.1, Nat.eq_of_beq_eq_true hb.2⟩
  refine W_drawI hm (drawOK_two hok) (fun dn g w => ∃ (t : PHeap) (M : List Nat) (L : Nat → List Res), PHeap.le s t ∧ St w0 t (M.flatMap L ++ (Hs ++ H)) w ∧ M.Nodup ∧
    (∀ j, j ∈ M ↔ (j < n0 ∧ dn j = true ∨ ops.length ≤ j ∧ j < ops.length + X.length) ∧ isOwn Rl j = true ∧ ¬ ∃ i, dn i = true ∧ i < n0 ∧ j ∈ consAt C i) ∧ (∀ n, noDst ops n = true → g n = f n) ∧
    (∀ j, (j < n0 ∧ dn j = true ∧ isOwn Rl j = false) ∨ j ∈ M → (rrAt Rl j).p t (g (dstAt ops j)) (L j)) ∧
    (∀ i o, i < n0 → ops[i]? = some o → dn i = true → ∀ e ∈ o.after, Region.binds .any e = true → dn e.on = true)) ?_ ?_ ?_
  · refine ⟨s, List.range' ops.length X.length, fun j => X.getD (j - ops.length) [], PHeap.le_refl _, ?_, List.nodup_range', fun j => ?_, fun _ _ => rfl, fun j h => ?_, fun i o _ _ h => by simp at h⟩
    · rw [range_flat]; exact hS.drew
    · rw [List.mem_range'_1]
      constructor
      · intro h
        refine ⟨.inr h, ?_, by simp⟩
        have := (hX (j - ops.length) (by omega)).1
        rwa [show ops.length + (j - ops.length) = j by omega] at this
      · rintro ⟨h | h, _⟩
        · simp at h
        · exact h
    · rcases h with h | h
      · simp at h
      · rw [List.mem_range'_1] at h
        have := (hX (j - ops.length) (by omega)).2 (f (dstAt ops j))
        rwa [show ops.length + (j - ops.length) = j by omega] at this
  · intro i o dn g w hi ho hun hedge hlt ⟨t, M, L, hle, hSt, hMn, hM, hfr, hR, hD⟩
    obtain ⟨d, hd, hdat⟩ := hdsti i o hi ho
    have hsub : ∀ c ∈ consAt C i, c ∈ M := by
      intro c hc
      obtain ⟨_, hown, hcase⟩ := hcons i c hc
      refine (hM c).2 ⟨?_, hown, ?_⟩
      · rcases hcase with hv | ⟨o', e, ho', he, hb, hon⟩
        · exact .inr ⟨hv, hCv c (cons_mem hc).2⟩
        · rw [ho] at ho'; cases ho'
          have hci := hlt e he hb
          rw [hon] at hci
          exact .inl ⟨by omega, by rw [← hon]; exact hedge e he hb⟩
      · rintro ⟨i', hi', _, hc'⟩
        have := cons_once hCn hc hc'
        subst this; rw [hun] at hi'; cases hi'
    obtain ⟨M', hp, hM'n, hM'⟩ := take_out (consAt C i) M (nodup_getD hCn) hMn hsub
    have hiM : i ∉ M := fun h => by
      rcases ((hM i).1 h).1 with h | h
      · rw [hun] at h; cases h.2
      · omega
    have hperm : (M.flatMap L ++ (Hs ++ H)).Perm ((consAt C i).flatMap L ++ (Hs ++ (M'.flatMap L ++ H))) := by
      have h1 := (hp.flatMap_right L)
      rw [List.flatMap_append] at h1
      refine (h1.append_right _).trans ?_
      rw [List.append_assoc]
      refine List.Perm.append_left _ ?_
      rw [← List.append_assoc, ← List.append_assoc]
      exact (List.perm_append_comm).append_right _
    have hpre := head.head i o hi ho g t w (M'.flatMap L ++ H) L hle (hSt.perm hperm) hfr (fun k e he hb hor => by
      have hem := Array.mem_of_getElem? he
      exact hR e.on (hor.imp (fun h => ⟨by have := hlt e hem hb; omega, hedge e hem hb, h⟩) (hsub _))) (fun j hj => hR j (.inr (hsub j hj)))
    have hnotcons : ∀ i', dn i' = true → i ∉ consAt C i' := by
      intro i' hi' hc
      obtain ⟨hi'n, _, hv | ⟨o', e, ho', he, hb, hon⟩⟩ := hcons i' i hc
      · omega
      have := hD i' o' hi'n ho' hi' e he hb
      rw [hon, hun] at this; cases this
    have hselfc : i ∉ consAt C i := fun h => hiM (hsub i h)
    have key : ∀ (v : Value) (w' : World) (t' : PHeap) (Li : List Res) (own : Bool), own = isOwn Rl i → PHeap.le t t' → St w0 t' (Li ++ (Hs ++ (M'.flatMap L ++ H))) w' → (own = false → Li = []) → (rrAt Rl i).p t' v Li →
        ∃ (t : PHeap) (M : List Nat) (L : Nat → List Res), PHeap.le s t ∧ St w0 t (M.flatMap L ++ (Hs ++ H)) w' ∧ M.Nodup ∧
        (∀ j, j ∈ M ↔ (j < n0 ∧ (if j = i then true else dn j) = true ∨ ops.length ≤ j ∧ j < ops.length + X.length) ∧ isOwn Rl j = true ∧ ¬ ∃ i', (if i' = i then true else dn i') = true ∧ i' < n0 ∧ j ∈ consAt C i') ∧ (∀ n, noDst ops n = true → updo g o.dst v n = f n) ∧
        (∀ j, (j < n0 ∧ (if j = i then true else dn j) = true ∧ isOwn Rl j = false) ∨ j ∈ M → (rrAt Rl j).p t (updo g o.dst v (dstAt ops j)) (L j)) ∧
        (∀ i' o, i' < n0 → ops[i']? = some o → (if i' = i then true else dn i') = true → ∀ e ∈ o.after, Region.binds .any e = true → (if e.on = i then true else dn e.on) = true) := by
      intro v w' t' Li own hown hlt' hSt' hLi hp'
      have hflat : M'.flatMap (fun j => if j = i then Li else L j) = M'.flatMap L := flatMap_congr' fun x hx => by
        rw [if_neg]; intro e; subst e; exact hiM ((hM' x).1 hx).1
      have hex : ∀ j, (¬ ∃ i', (if i' = i then true else dn i') = true ∧ i' < n0 ∧ j ∈ consAt C i') ↔ (¬ ∃ i', dn i' = true ∧ i' < n0 ∧ j ∈ consAt C i') ∧ j ∉ consAt C i := by
        intro j
        constructor
        · intro h
          refine ⟨?_, fun hc => h ⟨i, by simp, hi, hc⟩⟩
          rintro ⟨i', h1, h2⟩
          exact h ⟨i', by split <;> simp [h1], h2⟩
        · rintro ⟨h1, h2⟩ ⟨i', h3, h5, h4⟩
          by_cases e : i' = i
          · subst e; exact h2 h4
          · rw [if_neg e] at h3; exact h1 ⟨i', h3, h5, h4⟩
      refine ⟨t', if own then i :: M' else M', fun j => if j = i then Li else L j, hle.trans hlt', ?_, ?_, ?_, ?_, ?_, ?_⟩
      · cases own with
        | true =>
          simp only [if_true, List.flatMap_cons, hflat]
          refine hSt'.perm ?_
          rw [List.append_assoc]
          refine List.Perm.append_left _ ?_
          rw [← List.append_assoc, ← List.append_assoc]
          exact (List.perm_append_comm).append_right _
        | false =>
          rw [hLi rfl] at hSt'
          simp only [Bool.false_eq_true, if_false, hflat]
          refine hSt'.perm ?_
          rw [List.nil_append, ← List.append_assoc, ← List.append_assoc]
          exact (List.perm_append_comm).append_right _
      · cases own with
        | true => exact List.nodup_cons.2 ⟨fun h => hiM ((hM' i).1 h).1, hM'n⟩
        | false => exact hM'n
      · intro j
        rw [hex]
        by_cases e : j = i
        · subst e
          have hnc : ¬ ∃ i', dn i' = true ∧ i' < n0 ∧ j ∈ consAt C i' := fun ⟨i', h1, _, h2⟩ => hnotcons i' h1 h2
          have hleft : (j < n0 ∧ (if j = j then true else dn j) = true ∨ ops.length ≤ j ∧ j < ops.length + X.length) := .inl ⟨hi, by simp⟩
          cases hbo : own with
          | true =>
            rw [hbo] at hown
            exact ⟨fun _ => ⟨hleft, hown.symm, hnc, hselfc⟩, fun _ => by simp⟩
          | false =>
            rw [hbo] at hown
            refine ⟨fun h => ?_, fun h => ?_⟩
            · exact absurd ((hM' j).1 (by simpa using h)).1 hiM
            · rw [← hown] at h; exact absurd h.2.1 (by simp)
        · have : (j ∈ if own = true then i :: M' else M') ↔ j ∈ M' := by cases own <;> simp [e]
          rw [this, hM', hM, if_neg e]
          constructor
          · rintro ⟨⟨a, b, c⟩, k⟩; exact ⟨a, b, c, k⟩
          · rintro ⟨a, b, c, k⟩; exact ⟨⟨a, b, c⟩, k⟩
      · intro n hn
        rw [hd]
        have hne : n ≠ d := fun e => noDst_spec hn o (List.mem_of_getElem? ho) (by rw [hd, e])
        simp only [updo, upd_ne _ _ hne]
        exact hfr n hn
      · intro j hor
        rw [hd]
        simp only [updo]
        by_cases e : j = i
        · subst e
          rw [hdat, upd_same, if_pos rfl]
          exact hp'
        · rw [if_neg e] at hor ⊢
          have h2 := hR j (hor.imp (fun h => h) fun h => by
            have : j ∈ M' := by cases own <;> simpa [e] using h
            exact ((hM' j).1 this).1)
          by_cases hv : ops.length ≤ j
          · refine (rrAt Rl j).mono hlt' (hXv j hv ?_ h2)
            rcases hor with h | h
            · omega
            · have hm' : j ∈ M' := by cases own <;> simpa [e] using h
              rcases ((hM j).1 ((hM' j).1 hm').1).1 with h | h <;> omega
          have hj : j < n0 := by
            rcases hor with h | h
            · exact h.1
            · have hm' : j ∈ M' := by cases own <;> simpa [e] using h
              rcases ((hM j).1 ((hM' j).1 hm').1).1 with h | h
              · exact h.1
              · omega
          obtain ⟨oj, hoj⟩ : ∃ o, ops[j]? = some o := ⟨ops[j]'(by omega), by simp [show j < ops.length by omega]⟩
          obtain ⟨dj, hdj, hdatj⟩ := hdsti j oj hj hoj
          have hne : dj ≠ d := fun e' => e (hinj j i oj o d hj hi hoj ho (by rw [hdj, e']) hd)
          rw [hdatj, upd_ne _ _ hne]
          rw [hdatj] at h2
          exact (rrAt Rl j).mono hlt' h2
      · intro i' o' hi' ho' hdn e he hb
        split
        · rfl
        · by_cases e' : i' = i
          · subst e'; rw [ho] at ho'; cases ho'; exact hedge e he hb
          · rw [if_neg e'] at hdn; exact hD i' o' hi' ho' hdn e he hb
    split
    · rename_i hw
      rw [if_pos hw] at hpre
      exact hpre.mono fun v w' ⟨t', Li, h1, h2, h3⟩ => key v w' t' Li _ rfl h1 h2 (fun h => (rrAt Rl i).nil h h3) h3
    · rename_i hw
      rw [if_neg hw] at hpre
      obtain ⟨h1, h2, h3⟩ := hpre
      refine key undef w t [] _ rfl (PHeap.le_refl _) ?_ (fun _ => rfl) h3
      have := hSt.perm hperm
      rw [h2] at this
      exact this
  · intro dn g w hall ⟨t, M, L, hle, hSt, hMn, hM, hfr, hR, hD⟩
    have hmem : ∀ j, j ∈ M ↔ j ∈ activesX n0 ops.length X.length (isOwn Rl) C := by
      intro j
      rw [hM]
      simp only [activesX, List.mem_filter, List.mem_append, List.mem_range, List.mem_range'_1, Bool.and_eq_true, Bool.not_eq_true', List.contains_iff_mem, Bool.eq_false_iff, ne_eq]
      constructor
      · rintro ⟨h1, h2, h4⟩
        refine ⟨h1.imp (fun h => h.1) (fun h => h), h2, fun h => ?_⟩
        obtain ⟨i, hi⟩ := flat_mem h
        exact h4 ⟨i, hall i (hcons i j hi).1, (hcons i j hi).1, hi⟩
      · rintro ⟨h1, h2, h3⟩
        exact ⟨h1.imp (fun h => ⟨h, hall j h⟩) (fun h => h), h2, fun ⟨i, _, _, hi⟩ => h3 (cons_mem hi).2⟩
    have hAn : (activesX n0 ops.length X.length (isOwn Rl) C).Nodup := by
      refine (List.nodup_append.2 ⟨List.nodup_range, List.nodup_range', ?_⟩).filter _
      intro a ha b hb e
      rw [List.mem_range] at ha
      rw [List.mem_range'_1] at hb
      omega
    obtain ⟨M', hp, _, hM'⟩ := take_out _ M hAn hMn (fun c hc => (hmem c).2 hc)
    have hM0 : M' = [] := List.eq_nil_iff_forall_not_mem.2 fun j hj => ((hM' j).1 hj).2 ((hmem j).1 ((hM' j).1 hj).1)
    rw [hM0, List.append_nil] at hp
    exact tail g t w L hle (hSt.perm ((hp.flatMap_right L).append_right _)) hfr fun i hor => by
      refine hR i (hor.imp (fun h => ?_) fun h => (hmem i).2 h)
      have hi' : i < n0 := by simpa [Nat.blt_eq] using h.1
      exact ⟨hi', hall i hi', h.2⟩


theorem St.rows_unsplit {α : Type} {E : Enc α} {Te : TypeId} {hs : List Value} {xss : List (List α)} {i : Nat} {h : Value} {xs : List α} (hS : St w0 s (.arr E Te h xs :: .rows E Te (hs.eraseIdx i) (xss.eraseIdx i) :: H) w) (hh : hs[i]? = some h) (hx : xss[i]? = some xs) :
    St w0 s (.rows E Te hs xss :: H) w := by
  obtain ⟨hi, hv⟩ := List.getElem?_eq_some_iff.1 hx
  have := hS.rows_back hh hi
  rwa [← hv, List.set_getElem_self] at this
end
end Go.Pw
