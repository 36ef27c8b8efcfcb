/-
  My walk's base, part 7: a region that draws its order, whose operations own what they make.
-/
import Derived.Test.YtagooehmocpcjaaDoorL5
namespace Go.Pw
section
variable {P : Program} {N : Nat} {Q : Post}
/-- As drawOK, but that an operation of the head may leave no result. -/
def drawOK2 (N n0 : Nat) (ops : List Oper) : Bool :=
  (Nat.ble n0 ops.length) && ((List.range ops.length).all fun t => Nat.blt t n0 || waitsAll ops t || (Nat.blt n0 t && waitsOn ops t (t - 1))) &&
  (ops.take n0).all (fun o => dstLt N o.dst) &&
  (ops.drop n0).all (fun o => dstLt N o.dst) &&
  decide (((ops.take n0).filterMap (·.dst)).Nodup) &&
  ((List.range ops.length).all fun t => match ops[t]? with | some o => o.after.all fun e => !(Region.binds .any e) || Nat.blt e.on t | none => true)
theorem filterMap_nodup : ∀ {l : List (Option Nat)}, l.Nodup → (l.filterMap id).Nodup
  | [], _ => List.Pairwise.nil
  | none :: l, h => by
    show (l.filterMap id).Nodup
    exact filterMap_nodup (List.nodup_cons.1 h).2
  | some d :: l, h => by
    show (d :: l.filterMap id).Nodup
    refine List.nodup_cons.2 ⟨fun hm => ?_, filterMap_nodup (List.nodup_cons.1 h).2⟩
    obtain ⟨a, ha, he⟩ := List.mem_filterMap.1 hm
    simp only [id] at he
    exact (List.nodup_cons.1 h).1 (he ▸ ha)
theorem drawOK_two {N n0 : Nat} {ops : List Oper} (h : drawOK N n0 ops = true) : drawOK2 N n0 ops = true := by
  simp only [drawOK, drawOK2, Bool.and_eq_true, decide_eq_true_eq] at *
  obtain ⟨⟨⟨⟨⟨h1, h2⟩, h3⟩, h4⟩, h5⟩, h6⟩ := h
  refine ⟨⟨⟨⟨⟨h1, h2⟩, ?_⟩, h4⟩, ?_⟩, h6⟩
  · refine List.all_eq_true.2 fun o ho => ?_
    have := List.all_eq_true.1 h3 o ho
    cases hd : o.dst with
    | none => rfl
    | some d => simpa [hd, dstLt] using this
  · have := filterMap_nodup h5
    rwa [List.filterMap_map] at this
theorem W_drawI {id n0 : Nat} {ops : List Oper} {f : Fr} {w : World} (hm : P.follows .mixedOrders = true) (hok : drawOK2 N n0 ops = true)
    (I : (Nat → Bool) → Fr → World → Prop) (hI : I (fun _ => false) f w.drew)
    (head : ∀ (i : Nat) (o : Oper) (dn : Nat → Bool) (g : Fr) (w : World), i < n0 → ops[i]? = some o → dn i = false → (∀ e ∈ o.after, Region.binds .any e = true → dn e.on = true) →
      (∀ e ∈ o.after, Region.binds .any e = true → e.on < i) → I dn g w →
      (if Region.wanted o (yieldedF ops.toArray g) then Exec P (ev g) o w fun v w' => I (fun j => if j = i then true else dn j) (updo g o.dst v) w' else I (fun j => if j = i then true else dn j) (updo g o.dst undef) w))
    (tail : ∀ (dn : Nat → Bool) (g : Fr) (w : World), (∀ i, i < n0 → dn i = true) → I dn g w → WL P N ops.toArray Q (ops.drop n0) g w) :
    W P N (.region id ops.toArray true) Q f w := by
  simp only [drawOK2, Bool.and_eq_true, decide_eq_true_eq, List.all_eq_true, Bool.or_eq_true] at hok
  obtain ⟨⟨⟨⟨⟨hn0, hwait⟩, hdst⟩, _⟩, hnodup⟩, hback⟩ := hok
  have hn0' : n0 ≤ ops.length := by simpa [Nat.ble_eq] using hn0
  have hdsti : ∀ (i : Nat) (o : Oper), i < n0 → ops[i]? = some o → dstLt N o.dst = true := by
    intro i o hi ho
    exact hdst o (List.mem_of_getElem? (i := i) (by rw [List.getElem?_take, if_pos hi]; exact ho))
  have hb : ∀ (i : Nat) (o : Oper) (e : Edge), ops[i]? = some o → e ∈ o.after → Region.binds .any e = true → e.on < i := by
    intro i o e ho he hbi
    have hi : i < ops.length := (List.getElem?_eq_some_iff.1 ho).1
    have := hback i (by simpa using hi)
    simp only [ho] at this
    have := Array.all_eq_true'.1 this e he
    simpa [Nat.blt_eq, hbi] using this
  have both : ∀ (listed : Array Bool) (i : Nat), listed.size = ops.length → i < ops.length → listed.getD i true = listed.getD i false := by
    intro listed i hl hi
    have : i < listed.size := by omega
    simp [this]
  -- who may come up in the tail
  have tailrun : ∀ (l : List Oper) (k : Nat) (listed : Array Bool) (a : Act) (w : World), ops.drop k = l → n0 ≤ k → listed.size = ops.length →
      (∀ i, i < k → listed.getD i false = true) → (∀ i, k ≤ i → i < ops.length → listed.getD i false = false) → wpList P ops.toArray (lift N Q) l a w → wpAny P .any ops.toArray (lift N Q) l.length listed a w := by
    intro l
    induction l with
    | nil =>
      intro k listed a w hl hk hls hdone hnot h
      have hkl : ops.length ≤ k := by simpa [List.drop_eq_nil_iff] using hl
      refine ⟨?_, h⟩
      rw [List.eq_nil_iff_forall_not_mem]
      intro i hi
      obtain ⟨hun, oi, hoi, _⟩ := mem_ready.1 hi
      have hilt : i < ops.length := by have := (Array.getElem?_eq_some_iff.1 hoi).1; simpa using this
      rw [both listed i hls hilt, hdone i (by omega)] at hun
      cases hun
    | cons o l ih =>
      intro k listed a w hl hk hls hdone hnot h
      have hkl : k < ops.length := by
        rcases Nat.lt_or_ge k ops.length with h | h
        · exact h
        · rw [List.drop_eq_nil_of_le h] at hl; cases hl
      have hok : ops[k]? = some o := by
        have := congrArg List.head? hl
        simpa [List.head?_drop] using this
      have hl' : ops.drop (k + 1) = l := by
        have := congrArg List.tail hl
        simpa [List.tail_drop] using this
      have hready : ∀ i, i ∈ Region.ready .any ops.toArray listed → i = k := by
        intro i hi
        obtain ⟨hun, oi, hoi, hall⟩ := mem_ready.1 hi
        have hilt : i < ops.length := by have := (Array.getElem?_eq_some_iff.1 hoi).1; simpa using this
        rcases Nat.lt_trichotomy i k with hlt | heq | hgt
        · rw [both listed i hls hilt, hdone i hlt] at hun; cases hun
        · exact heq
        · rcases hwait i (by simpa using hilt) with (hw | hw) | ⟨_, hw⟩
          rotate_right
          · have hoi' : ops[i]? = some oi := by simpa using hoi
            simp only [waitsOn, hoi'] at hw
            obtain ⟨e, he, hbb⟩ := Array.any_eq_true'.1 hw
            simp only [Bool.and_eq_true] at hbb
            have hon : e.on = i - 1 := Nat.eq_of_beq_eq_true hbb.2
            have h2 := hall e he hbb.1
            rw [hon, hnot (i - 1) (by omega) (by omega)] at h2
            cases h2
          · simp [Nat.blt_eq] at hw; omega
          · have hoi' : ops[i]? = some oi := by simpa using hoi
            simp only [waitsAll, hoi', List.all_eq_true, List.mem_range] at hw
            obtain ⟨e, he, hbb⟩ := Array.any_eq_true'.1 (hw k hgt)
            simp only [Bool.and_eq_true] at hbb
            have hon : e.on = k := Nat.eq_of_beq_eq_true hbb.2
            have h2 := hall e he hbb.1
            rw [hon, hnot k (Nat.le_refl _) hkl] at h2
            cases h2
      have hkready : k ∈ Region.ready .any ops.toArray listed :=
        mem_ready.2 ⟨by rw [both listed k hls hkl]; exact hnot k (Nat.le_refl _) hkl, o, by simpa using hok, fun e he q => hdone e.on (hb k o e hok he q)⟩
      refine ⟨fun h0 => (by rw [h0] at hkready; cases hkready), fun i hi => ?_⟩
      have hik := hready i hi
      subst hik
      have hnext : ∀ a w, wpList P ops.toArray (lift N Q) l a w → wpAny P .any ops.toArray (lift N Q) l.length (listed.setIfInBounds i true) a w := fun a w hh =>
        ih (i + 1) _ a w hl' (by omega) (by simpa using hls)
          (fun j hj => by
            by_cases e : j = i
            · subst e; simp [hls, hkl]
            · rw [getD_set_ne false (Ne.symm e)]; exact hdone j (by omega))
          (fun j hj hj' => by rw [getD_set_ne false (by omega)]; exact hnot j (by omega) hj') hh
      unfold wpOp
      have : ops.toArray[i]? = some o := by simpa using hok
      simp only [this]
      simp only [wpList] at h
      split
      · rename_i hw
        rw [if_pos hw] at h
        exact h.imp (Oper.wp_mono hnext) (fun h => h)
      · rename_i hw
        rw [if_neg hw] at h
        exact hnext _ _ h
  -- the head
  have headrun : ∀ (c : Nat) (listed : Array Bool) (a : Act) (w : World), (List.range n0).countP (fun i => !listed.getD i false) = c →
      (∃ (g : Fr), Fits N a g ∧ I (fun i => listed.getD i false) g w ∧ listed.size = ops.length ∧
        (∀ i, n0 ≤ i → i < ops.length → listed.getD i false = false)) →
      wpAny P .any ops.toArray (lift N Q) (c + (ops.drop n0).length) listed a w := by
    intro c
    induction c with
    | zero =>
      intro listed a w hc ⟨g, hg, hIw, hls, hnot⟩
      rw [Nat.zero_add]
      have hdone : ∀ i, i < n0 → listed.getD i false = true := by
        intro i hi
        have := List.countP_eq_zero.1 hc i (by simpa using hi)
        cases h : listed.getD i false with
        | true => rfl
        | false => rw [h] at this; simp at this
      exact tailrun (ops.drop n0) n0 listed a w rfl (Nat.le_refl _) hls hdone hnot (tail _ g w hdone hIw a hg)
    | succ c ih =>
      intro listed a w hc ⟨g, hg, hIw, hls, hnot⟩
      rw [Nat.add_right_comm]
      -- the least head operation that has not been done
      have hex : ∃ i, i < n0 ∧ listed.getD i false = false ∧ ∀ j, j < i → listed.getD j false = true := by
        have h1 : ∃ i, i < n0 ∧ listed.getD i false = false := by
          have : 0 < (List.range n0).countP (fun i => !listed.getD i false) := by omega
          obtain ⟨i, hi, hp⟩ := List.countP_pos_iff.1 this
          exact ⟨i, by simpa using hi, by simpa using hp⟩
        obtain ⟨i, hi, hu⟩ := h1
        induction i using Nat.strongRecOn with
        | _ i ihi =>
          by_cases hm : ∃ j, j < i ∧ listed.getD j false = false
          · obtain ⟨j, hj, hju⟩ := hm
            exact ihi j hj (by omega) hju
          · refine ⟨i, hi, hu, fun j hj => ?_⟩
            cases h : listed.getD j false with
            | true => rfl
            | false => exact absurd ⟨j, hj, h⟩ hm
      obtain ⟨k, hk, hku, hkleast⟩ := hex
      have hkl : k < ops.length := by omega
      have hready : ∀ i, i ∈ Region.ready .any ops.toArray listed → i < n0 := by
        intro i hi
        obtain ⟨hun, oi, hoi, hall⟩ := mem_ready.1 hi
        have hilt : i < ops.length := by have := (Array.getElem?_eq_some_iff.1 hoi).1; simpa using this
        rcases hwait i (by simpa using hilt) with (hw | hw) | ⟨hw0, hw⟩
        rotate_right
        · have hn0i : n0 < i := by simpa [Nat.blt_eq] using hw0
          have hoi' : ops[i]? = some oi := by simpa using hoi
          simp only [waitsOn, hoi'] at hw
          obtain ⟨e, he, hbb⟩ := Array.any_eq_true'.1 hw
          simp only [Bool.and_eq_true] at hbb
          have hon : e.on = i - 1 := Nat.eq_of_beq_eq_true hbb.2
          have h2 := hall e he hbb.1
          rw [hon, hnot (i - 1) (by omega) (by omega)] at h2
          cases h2
        · simpa [Nat.blt_eq] using hw
        · rcases Nat.lt_or_ge i n0 with h | h
          · exact h
          · have hoi' : ops[i]? = some oi := by simpa using hoi
            simp only [waitsAll, hoi', List.all_eq_true, List.mem_range] at hw
            obtain ⟨e, he, hbb⟩ := Array.any_eq_true'.1 (hw k (by omega))
            simp only [Bool.and_eq_true] at hbb
            have hon : e.on = k := Nat.eq_of_beq_eq_true hbb.2
            have h2 := hall e he hbb.1
            rw [hon, hku] at h2
            cases h2
      obtain ⟨ok, hok⟩ : ∃ o, ops[k]? = some o := ⟨ops[k], by simp [hkl]⟩
      have hkready : k ∈ Region.ready .any ops.toArray listed :=
        mem_ready.2 ⟨by rw [both listed k hls hkl]; exact hku, ok, by simpa using hok, fun e he q => hkleast e.on (hb k ok e hok he q)⟩
      refine ⟨fun h0 => (by rw [h0] at hkready; cases hkready), fun i hi => ?_⟩
      have hin := hready i hi
      obtain ⟨hun, o, hoi, hall⟩ := mem_ready.1 hi
      have ho : ops[i]? = some o := by simpa using hoi
      have hilt : i < ops.length := by omega
      rw [both listed i hls hilt] at hun
      have hdN := hdsti i o hin ho
      have hset : (fun j => (listed.setIfInBounds i true).getD j false) = fun j => if j = i then true else listed.getD j false := by
        funext j
        by_cases e : j = i
        · subst e; simp [hls, hilt]
        · rw [if_neg e, getD_set_ne false (Ne.symm e)]
      have hnext : ∀ (v : Value) (w' : World), I (fun j => if j = i then true else listed.getD j false) (updo g o.dst v) w' →
          wpAny P .any ops.toArray (lift N Q) (c + (ops.drop n0).length) (listed.setIfInBounds i true) (a.put o.dst v) w' := by
        intro v w' hIw'
        refine ih _ _ _ ?_ ⟨updo g o.dst v, hg.put hdN v, by rw [hset]; exact hIw', by simpa using hls, ?_⟩
        · have := countP_set (p := fun j => !listed.getD j false) (q := fun j => !(listed.setIfInBounds i true).getD j false) (i := i) (by show (!listed.getD i false) = true; rw [hun]; rfl)
            (by simp [hls, hilt]) (fun j hj => by show (!listed.getD j false) = _; rw [getD_set_ne false (Ne.symm hj)]) n0 hin
          omega
        · intro j hj hj'
          rw [getD_set_ne false (by omega)]
          exact hnot j hj hj'
      have hop := head i o _ g w hin ho hun (fun e he hbe => hall e he hbe) (fun e he q => hb i o e ho he q) hIw
      unfold wpOp
      simp only [hoi]
      rw [← yieldedF_eq hg] at hop
      split
      · rename_i hw
        rw [if_pos hw] at hop
        refine .inl (wp_of_exec ?_)
        rw [hg.eval]
        exact hop.mono fun v w' h => hnext v w' h
      · rename_i hw
        rw [if_neg hw] at hop
        exact hnext undef w hop
  intro a ha
  refine wp_region_any hm ?_
  have hcount : (List.range n0).countP (fun i => !(Array.replicate ops.toArray.size false).getD i false) = n0 := by
    rw [List.countP_eq_length.2]
    · simp
    · intro i hi
      have hi' : i < n0 := by simpa using hi
      simp [show i < ops.length by omega]
  have := headrun n0 (Array.replicate ops.toArray.size false) a w.drew hcount ⟨f, ha, by
    have e : (fun i => (Array.replicate ops.toArray.size false).getD i false) = fun _ => false := by
      funext i
      by_cases h : i < ops.length <;> simp [h]
    rw [e]; exact hI, by simp, fun i _ hi => by simp [hi]⟩
  have hlen : n0 + (ops.drop n0).length = ops.toArray.size := by simp; omega
  rw [hlen] at this
  exact this
end

/-- What an operation of a drawn region leaves, and what it owns. -/
structure RR where
  own : Bool
  p : PHeap → Value → List Res → Prop
  mono : ∀ {s t v L}, PHeap.le s t → p s v L → p t v L
  nil : own = false → ∀ {s v L}, p s v L → L = []
def RR.of (R : RP) : RR := ⟨false, fun s v L => L = [] ∧ R.p s v, fun l h => ⟨h.1, R.mono l h.2⟩, fun _ _ _ _ h => h.1⟩
def RR.arr {α : Type} (E : Enc α) (T : TypeId) (xs : List α) : RR := ⟨true, fun _ v L => L = [.arr E T v xs], fun _ h => h, fun h => by cases h⟩
def RR.lit {α : Type} (E : Enc α) (T : TypeId) (n : Nat) (xs : List α) : RR := ⟨true, fun s v L => ∃ b cs, v = .slice (some ⟨b, 0, none⟩) n n ∧ L = [.box b T cs] ∧ reps E s cs xs, fun l ⟨b, cs, h1, h2, h3⟩ => ⟨b, cs, h1, h2, h3.mono l⟩, fun h => by cases h⟩
def RR.box (T : TypeId) (cs : List Value) : RR := ⟨true, fun _ v L => ∃ b, v = .pointer (some ⟨b, 0, none⟩) ∧ L = [.box b T cs], fun _ h => h, fun h => by cases h⟩
def rrAt (l : List RR) (i : Nat) : RR := l.getD i (RR.of RP.any)
def consAt (C : List (List Nat)) (i : Nat) : List Nat := C.getD i []
def isOwn (l : List RR) (i : Nat) : Bool := (rrAt l i).own
/-- Who is used up is used up once, by an operation that waits for it. -/
def consOK (n0 : Nat) (ops : List Oper) (O : Nat → Bool) (C : List (List Nat)) : Bool :=
  decide (C.flatten.Nodup) && ((List.range C.length).all fun i => (consAt C i).isEmpty || (Nat.blt i n0 &&
    (consAt C i).all fun j => O j && (match ops[i]? with | some o => o.after.any (fun e => Region.binds .any e && Nat.beq e.on j) | none => false)))
def actives (n0 : Nat) (O : Nat → Bool) (C : List (List Nat)) : List Nat := (List.range n0).filter fun j => O j && !C.flatten.contains j

theorem take_out {α : Type} [BEq α] [LawfulBEq α] : ∀ (C M : List α), C.Nodup → M.Nodup → (∀ c ∈ C, c ∈ M) → ∃ M', M.Perm (C ++ M') ∧ M'.Nodup ∧ ∀ j, j ∈ M' ↔ j ∈ M ∧ j ∉ C
  | [], M, _, hM, _ => ⟨M, List.Perm.refl _, hM, fun j => by simp⟩
  | c :: C, M, hC, hM, hs => by
    have hc := List.nodup_cons.1 hC
    obtain ⟨M', hp, hn, hm⟩ := take_out C (M.erase c) hc.2 (hM.erase c) (fun x hx => (hM.mem_erase_iff).2 ⟨fun e => hc.1 (e ▸ hx), hs x (by simp [hx])⟩)
    refine ⟨M', ((List.perm_cons_erase (hs c (by simp))).trans (hp.cons c)), hn, fun j => ?_⟩
    rw [hm, hM.mem_erase_iff]
    simp only [List.mem_cons, not_or]
    constructor
    · rintro ⟨⟨h1, h2⟩, h3⟩; exact ⟨h2, h1, h3⟩
    · rintro ⟨h1, h2, h3⟩; exact ⟨⟨h2, h1⟩, h3⟩

theorem flatMap_congr' {α β : Type} {f g : α → List β} : ∀ {l : List α}, (∀ x ∈ l, f x = g x) → l.flatMap f = l.flatMap g
  | [], _ => rfl
  | a :: l, h => by rw [List.flatMap_cons, List.flatMap_cons, h a (by simp), flatMap_congr' (l := l) (fun x hx => h x (by simp [hx]))]

theorem nodup_getD {α : Type} : ∀ {C : List (List α)} {i : Nat}, C.flatten.Nodup → (C.getD i []).Nodup
  | [], i, _ => by simp
  | c :: C, 0, h => by simp at h ⊢; exact (List.nodup_append.1 h).1
  | c :: C, i + 1, h => by
    simp only [List.flatten_cons] at h
    simpa using nodup_getD (C := C) (i := i) (List.nodup_append.1 h).2.1

theorem cons_mem {C : List (List Nat)} {i j : Nat} (h : j ∈ consAt C i) : i < C.length ∧ j ∈ C.flatten := by
  unfold consAt at h
  rw [List.getD_eq_getElem?_getD] at h
  cases hc : C[i]? with
  | none => rw [hc] at h; simp at h
  | some c => rw [hc] at h; exact ⟨(List.getElem?_eq_some_iff.1 hc).1, List.mem_flatten.2 ⟨c, List.mem_of_getElem? hc, by simpa using h⟩⟩

theorem flat_mem {C : List (List Nat)} {j : Nat} (h : j ∈ C.flatten) : ∃ i, j ∈ consAt C i := by
  obtain ⟨c, hc, hj⟩ := List.mem_flatten.1 h
  obtain ⟨i, hi⟩ := List.mem_iff_getElem?.1 hc
  exact ⟨i, by unfold consAt; rw [List.getD_eq_getElem?_getD, hi]; exact hj⟩

/-- Two that use up one thing are one. -/
theorem cons_once : ∀ {C : List (List Nat)} {i i' j : Nat}, C.flatten.Nodup → j ∈ consAt C i → j ∈ consAt C i' → i = i'
  | [], i, i', j, _, h, _ => by simp [consAt] at h
  | c :: C, 0, 0, j, _, _, _ => rfl
  | c :: C, 0, i' + 1, j, hn, h, h' => by
    simp only [List.flatten_cons] at hn
    have h1 : j ∈ c := by simpa [consAt] using h
    have h2 : j ∈ C.flatten := (cons_mem (C := C) (i := i') (by simpa [consAt] using h')).2
    exact absurd rfl ((List.nodup_append.1 hn).2.2 j h1 j h2)
  | c :: C, i + 1, 0, j, hn, h, h' => by
    simp only [List.flatten_cons] at hn
    have h1 : j ∈ c := by simpa [consAt] using h'
    have h2 : j ∈ C.flatten := (cons_mem (C := C) (i := i) (by simpa [consAt] using h)).2
    exact absurd rfl ((List.nodup_append.1 hn).2.2 j h1 j h2)
  | c :: C, i + 1, i' + 1, j, hn, h, h' => by
    simp only [List.flatten_cons] at hn
    rw [cons_once (C := C) (i := i) (i' := i') (List.nodup_append.1 hn).2.1 (by simpa [consAt] using h) (by simpa [consAt] using h')]

section
variable {P : Program} {N : Nat} {Q : Post} {f : Fr} {w w0 : World} {s : PHeap} {H Hs : List Res}
def HeadOkR (P : Program) (ops : List Oper) (f : Fr) (w0 : World) (Hs : List Res) (Rl : List RR) (C : List (List Nat)) (s : PHeap) (i : Nat) (o : Oper) : Prop :=
  ∀ (g : Fr) (t : PHeap) (w : World) (H : List Res) (L : Nat → List Res), PHeap.le s t → St w0 t ((consAt C i).flatMap L ++ (Hs ++ H)) w → (∀ n, noDst ops n = true → g n = f n) →
    (∀ (k : Nat) (e : Edge), o.after[k]? = some e → Region.binds .any e = true → isOwn Rl e.on = false ∨ e.on ∈ consAt C i → (rrAt Rl e.on).p t (g (dstAt ops e.on)) (L e.on)) →
    (if Region.wanted o (yieldedF ops.toArray g) then Exec P (ev g) o w fun v w' => ∃ t' Li, PHeap.le t t' ∧ St w0 t' (Li ++ (Hs ++ H)) w' ∧ (rrAt Rl i).p t' v Li
      else isOwn Rl i = false ∧ consAt C i = [] ∧ (rrAt Rl i).p t undef [])

theorem W_drawnR {id n0 : Nat} {ops : List Oper} (hm : P.follows .mixedOrders = true) (hok : drawOK N n0 ops = true) (Rl : List RR) (C : List (List Nat)) (hC : consOK n0 ops (isOwn Rl) C = true) (hS : St w0 s (Hs ++ H) w)
    (head : HeadAll (HeadOkR P ops f w0 Hs Rl C s) 0 (ops.take n0))
    (tail : ∀ (g : Fr) (t : PHeap) (w : World) (L : Nat → List Res), PHeap.le s t → St w0 t ((actives n0 (isOwn Rl) C).flatMap L ++ (Hs ++ H)) w → (∀ n, noDst ops n = true → g n = f n) →
      (∀ i, Nat.blt i n0 = true → isOwn Rl i = false ∨ i ∈ actives n0 (isOwn Rl) C → (rrAt Rl i).p t (g (dstAt ops i)) (L i)) → WL P N ops.toArray Q (ops.drop n0) g w) :
    W P N (.region id ops.toArray true) Q f w := by
  have hok' := hok
  simp only [drawOK, Bool.and_eq_true, decide_eq_true_eq, List.all_eq_true, Bool.or_eq_true] at hok'
  obtain ⟨⟨⟨⟨⟨hn0, hwait⟩, hdst⟩, _⟩, hnodup⟩, hback⟩ := hok'
  have hn0' : n0 ≤ ops.length := by simpa [Nat.ble_eq] using hn0
  have hdsti : ∀ (i : Nat) (o : Oper), i < n0 → ops[i]? = some o → ∃ d, o.dst = some d ∧ dstAt ops i = d := by
    intro i o hi ho
    have hmem : o ∈ ops.take n0 := List.mem_of_getElem? (i := i) (by rw [List.getElem?_take, if_pos hi]; exact ho)
    have := hdst o hmem
    cases hd : o.dst with
    | none => simp [hd] at this
    | some d => exact ⟨d, rfl, by simp [dstAt, ho, hd]⟩
  have hinj : ∀ (i j : Nat) (oi oj : Oper) (d : Nat), i < n0 → j < n0 → ops[i]? = some oi → ops[j]? = some oj → oi.dst = some d → oj.dst = some d → i = j := by
    intro i j oi oj d hi hj hoi hoj hdi hdj
    have hl : ((ops.take n0).map (·.dst)).length = n0 := by simp; omega
    have e1 : ((ops.take n0).map (·.dst))[i]? = some (some d) := by simp [hi, hoi, hdi]
    have e2 : ((ops.take n0).map (·.dst))[j]? = some (some d) := by simp [hj, hoj, hdj]
    exact (List.getElem?_inj (by omega) hnodup).1 (e1.trans e2.symm)
  simp only [consOK, Bool.and_eq_true, decide_eq_true_eq, List.all_eq_true, Bool.or_eq_true, List.mem_range] at hC
  obtain ⟨hCn, hCw⟩ := hC
  have hcons : ∀ i j, j ∈ consAt C i → i < n0 ∧ isOwn Rl j = true ∧ ∃ o e, ops[i]? = some o ∧ e ∈ o.after ∧ Region.binds .any e = true ∧ e.on = j := by
    intro i j hj
    rcases hCw i (cons_mem hj).1 with h | ⟨hi, h⟩
    · simp only [List.isEmpty_iff] at h; rw [h] at hj; cases hj
    · obtain ⟨h1, h2⟩ := h j hj
      cases ho : ops[i]? with
      | none => simp [ho] at h2
      | some o =>
        simp only [ho] at h2
        obtain ⟨e, he, hb⟩ := Array.any_eq_true'.1 h2
        simp only [Bool.and_eq_true] at hb
        exact ⟨by simpa [Nat.blt_eq] using hi, h1, o, e, rfl, he, hb.1, Nat.eq_of_beq_eq_true hb.2⟩
  refine W_drawI hm (drawOK_two hok) (fun dn g w => ∃ (t : PHeap) (M : List Nat) (L : Nat → List Res), PHeap.le s t ∧ St w0 t (M.flatMap L ++ (Hs ++ H)) w ∧ M.Nodup ∧
    (∀ j, j ∈ M ↔ j < n0 ∧ isOwn Rl j = true ∧ dn j = true ∧ ¬ ∃ i, dn i = true ∧ j ∈ consAt C i) ∧ (∀ n, noDst ops n = true → g n = f n) ∧
    (∀ j, j < n0 → dn j = true → isOwn Rl j = false ∨ j ∈ M → (rrAt Rl j).p t (g (dstAt ops j)) (L j)) ∧
    (∀ i o, i < n0 → ops[i]? = some o → dn i = true → ∀ e ∈ o.after, Region.binds .any e = true → dn e.on = true)) ?_ ?_ ?_
  · exact ⟨s, [], fun _ => [], PHeap.le_refl _, hS.drew, List.nodup_nil, fun j => by simp, fun _ _ => rfl, fun j _ h => by simp at h, fun i o _ _ h => by simp at h⟩
  · intro i o dn g w hi ho hun hedge hlt ⟨t, M, L, hle, hSt, hMn, hM, hfr, hR, hD⟩
    obtain ⟨d, hd, hdat⟩ := hdsti i o hi ho
    have hsub : ∀ c ∈ consAt C i, c ∈ M := by
      intro c hc
      obtain ⟨_, hown, o', e, ho', he, hb, hon⟩ := hcons i c hc
      rw [ho] at ho'; cases ho'
      have hci := hlt e he hb
      rw [hon] at hci
      refine (hM c).2 ⟨by omega, hown, ?_, ?_⟩
      · rw [← hon]; exact hedge e he hb
      · rintro ⟨i', hi', hc'⟩
        have := cons_once hCn hc hc'
        subst this; rw [hun] at hi'; cases hi'
    obtain ⟨M', hp, hM'n, hM'⟩ := take_out (consAt C i) M (nodup_getD hCn) hMn hsub
    have hiM : i ∉ M := fun h => by have := ((hM i).1 h).2.2.1; rw [hun] at this; cases this
    have hperm : (M.flatMap L ++ (Hs ++ H)).Perm ((consAt C i).flatMap L ++ (Hs ++ (M'.flatMap L ++ H))) := by
      have h1 := (hp.flatMap_right L)
      rw [List.flatMap_append] at h1
      refine (h1.append_right _).trans ?_
      rw [List.append_assoc]
      refine List.Perm.append_left _ ?_
      rw [← List.append_assoc, ← List.append_assoc]
      exact (List.perm_append_comm).append_right _
    have hpre := head.head i o hi ho g t w (M'.flatMap L ++ H) L hle (hSt.perm hperm) hfr (fun k e he hb hor => by
      have hem := Array.mem_of_getElem? he
      exact hR e.on (by have := hlt e hem hb; omega) (hedge e hem hb) (hor.imp (fun h => h) (hsub _)))
    have hnotcons : ∀ i', dn i' = true → i ∉ consAt C i' := by
      intro i' hi' hc
      obtain ⟨hi'n, _, o', e, ho', he, hb, hon⟩ := hcons i' i hc
      have := hD i' o' hi'n ho' hi' e he hb
      rw [hon, hun] at this; cases this
    have hselfc : i ∉ consAt C i := fun h => hiM (hsub i h)
    have key : ∀ (v : Value) (w' : World) (t' : PHeap) (Li : List Res) (own : Bool), own = isOwn Rl i → PHeap.le t t' → St w0 t' (Li ++ (Hs ++ (M'.flatMap L ++ H))) w' → (own = false → Li = []) → (rrAt Rl i).p t' v Li →
        ∃ (t : PHeap) (M : List Nat) (L : Nat → List Res), PHeap.le s t ∧ St w0 t (M.flatMap L ++ (Hs ++ H)) w' ∧ M.Nodup ∧
        (∀ j, j ∈ M ↔ j < n0 ∧ isOwn Rl j = true ∧ (if j = i then true else dn j) = true ∧ ¬ ∃ i', (if i' = i then true else dn i') = true ∧ j ∈ consAt C i') ∧ (∀ n, noDst ops n = true → updo g o.dst v n = f n) ∧
        (∀ j, j < n0 → (if j = i then true else dn j) = true → isOwn Rl j = false ∨ j ∈ M → (rrAt Rl j).p t (updo g o.dst v (dstAt ops j)) (L j)) ∧
        (∀ i' o, i' < n0 → ops[i']? = some o → (if i' = i then true else dn i') = true → ∀ e ∈ o.after, Region.binds .any e = true → (if e.on = i then true else dn e.on) = true) := by
      intro v w' t' Li own hown hlt' hSt' hLi hp'
      have hflat : M'.flatMap (fun j => if j = i then Li else L j) = M'.flatMap L := flatMap_congr' fun x hx => by
        rw [if_neg]; intro e; subst e; exact hiM ((hM' x).1 hx).1
      have hex : ∀ j, (¬ ∃ i', (if i' = i then true else dn i') = true ∧ j ∈ consAt C i') ↔ (¬ ∃ i', dn i' = true ∧ j ∈ consAt C i') ∧ j ∉ consAt C i := by
        intro j
        constructor
        · intro h
          refine ⟨?_, fun hc => h ⟨i, by simp, hc⟩⟩
          rintro ⟨i', h1, h2⟩
          exact h ⟨i', by split <;> simp [h1], h2⟩
        · rintro ⟨h1, h2⟩ ⟨i', h3, h4⟩
          by_cases e : i' = i
          · subst e; exact h2 h4
          · rw [if_neg e] at h3; exact h1 ⟨i', h3, h4⟩
      refine ⟨t', if own then i :: M' else M', fun j => if j = i then Li else L j, hle.trans hlt', ?_, ?_, ?_, ?_, ?_, ?_⟩
      · cases own with
        | true =>
          simp only [if_true, List.flatMap_cons, hflat]
          refine hSt'.perm ?_
          rw [List.append_assoc]
          refine List.Perm.append_left _ ?_
          rw [← List.append_assoc, ← List.append_assoc]
          exact (List.perm_append_comm).append_right _
        | false =>
          rw [hLi rfl] at hSt'
          simp only [Bool.false_eq_true, if_false, hflat]
          refine hSt'.perm ?_
          rw [List.nil_append, ← List.append_assoc, ← List.append_assoc]
          exact (List.perm_append_comm).append_right _
      · cases own with
        | true => exact List.nodup_cons.2 ⟨fun h => hiM ((hM' i).1 h).1, hM'n⟩
        | false => exact hM'n
      · intro j
        rw [hex]
        by_cases e : j = i
        · subst e
          simp only [if_true, true_and]
          have hnc : ¬ ∃ i', dn i' = true ∧ j ∈ consAt C i' := fun ⟨i', h1, h2⟩ => hnotcons i' h1 h2
          cases hb : own with
          | true => rw [hb] at hown; simp [hi, ← hown, hselfc]; exact fun i' h1 => hnotcons i' h1
          | false => rw [hb] at hown; simp [← hown]; exact fun h => hiM ((hM' j).1 h).1
        · have : (j ∈ if own = true then i :: M' else M') ↔ j ∈ M' := by cases own <;> simp [e]
          rw [this, hM', hM, if_neg e]
          constructor
          · rintro ⟨⟨a, b, c, d⟩, k⟩; exact ⟨a, b, c, d, k⟩
          · rintro ⟨a, b, c, d, k⟩; exact ⟨⟨a, b, c, d⟩, k⟩
      · intro n hn
        rw [hd]
        have hne : n ≠ d := fun e => noDst_spec hn o (List.mem_of_getElem? ho) (by rw [hd, e])
        simp only [updo, upd_ne _ _ hne]
        exact hfr n hn
      · intro j hj hdn hor
        rw [hd]
        simp only [updo]
        by_cases e : j = i
        · subst e
          rw [hdat, upd_same, if_pos rfl]
          exact hp'
        · rw [if_neg e] at hdn ⊢
          obtain ⟨oj, hoj⟩ : ∃ o, ops[j]? = some o := ⟨ops[j]'(by omega), by simp [show j < ops.length by omega]⟩
          obtain ⟨dj, hdj, hdatj⟩ := hdsti j oj hj hoj
          have hne : dj ≠ d := fun e' => e (hinj j i oj o d hj hi hoj ho (by rw [hdj, e']) hd)
          rw [hdatj, upd_ne _ _ hne]
          have h2 := hR j hj hdn (hor.imp (fun h => h) fun h => by
            have : j ∈ M' := by cases own <;> simpa [e] using h
            exact ((hM' j).1 this).1)
          rw [hdatj] at h2
          exact (rrAt Rl j).mono hlt' h2
      · intro i' o' hi' ho' hdn e he hb
        split
        · rfl
        · by_cases e' : i' = i
          · subst e'; rw [ho] at ho'; cases ho'; exact hedge e he hb
          · rw [if_neg e'] at hdn; exact hD i' o' hi' ho' hdn e he hb
    split
    · rename_i hw
      rw [if_pos hw] at hpre
      exact hpre.mono fun v w' ⟨t', Li, h1, h2, h3⟩ => key v w' t' Li _ rfl h1 h2 (fun h => (rrAt Rl i).nil h h3) h3
    · rename_i hw
      rw [if_neg hw] at hpre
      obtain ⟨h1, h2, h3⟩ := hpre
      refine key undef w t [] _ rfl (PHeap.le_refl _) ?_ (fun _ => rfl) h3
      have := hSt.perm hperm
      rw [h2] at this
      exact this
  · intro dn g w hall ⟨t, M, L, hle, hSt, hMn, hM, hfr, hR, hD⟩
    have hmem : ∀ j, j ∈ M ↔ j ∈ actives n0 (isOwn Rl) C := by
      intro j
      rw [hM]
      simp only [actives, List.mem_filter, List.mem_range, Bool.and_eq_true, Bool.not_eq_true', List.contains_iff_mem, Bool.eq_false_iff, ne_eq]
      constructor
      · rintro ⟨h1, h2, h3, h4⟩
        refine ⟨h1, h2, fun h => ?_⟩
        obtain ⟨i, hi⟩ := flat_mem h
        exact h4 ⟨i, hall i (hcons i j hi).1, hi⟩
      · rintro ⟨h1, h2, h3⟩
        exact ⟨h1, h2, hall j h1, fun ⟨i, _, hi⟩ => h3 (cons_mem hi).2⟩
    have hAn : (actives n0 (isOwn Rl) C).Nodup := List.nodup_range.filter _
    obtain ⟨M', hp, _, hM'⟩ := take_out _ M hAn hMn (fun c hc => (hmem c).2 hc)
    have hM0 : M' = [] := List.eq_nil_iff_forall_not_mem.2 fun j hj => ((hM' j).1 hj).2 ((hmem j).1 ((hM' j).1 hj).1)
    rw [hM0, List.append_nil] at hp
    exact tail g t w L hle (hSt.perm ((hp.flatMap_right L).append_right _)) hfr fun i hi hor => by
      have hi' : i < n0 := by simpa [Nat.blt_eq] using hi
      exact hR i hi' (hall i hi') (hor.imp (fun h => h) fun h => (hmem i).2 h)

theorem head_doneR {t : PHeap} {Rl : List RR} {i : Nat} {v : Value} {X : List Res} (hS : St w0 t X w) (h : (rrAt Rl i).p t v []) : ∃ t' Li, PHeap.le t t' ∧ St w0 t' (Li ++ X) w ∧ (rrAt Rl i).p t' v Li := ⟨t, [], PHeap.le_refl _, hS, h⟩
theorem flat1 {t : PHeap} {j : Nat} {L : Nat → List Res} {X A : List Res} (h : St w0 t ([j].flatMap L ++ X) w) (e : L j = A) : St w0 t (A ++ X) w := by simpa [e] using h
theorem flat2 {t : PHeap} {j k : Nat} {L : Nat → List Res} {X A B : List Res} (h : St w0 t ([j, k].flatMap L ++ X) w) (e : L j = A) (e' : L k = B) : St w0 t (A ++ (B ++ X)) w := by simpa [e, e'] using h
theorem flat3 {t : PHeap} {j k l : Nat} {L : Nat → List Res} {X A B C : List Res} (h : St w0 t ([j, k, l].flatMap L ++ X) w) (e : L j = A) (e' : L k = B) (e3 : L l = C) : St w0 t (A ++ (B ++ (C ++ X))) w := by simpa [e, e', e3] using h
theorem head_runR {ops : List Oper} {g : Fr} {K : Value → World → Prop} {o : Oper} {F : Prop} (hg : o.guard = none) (h : Exec P (ev g) o w K) :
    (if Region.wanted o (yieldedF ops.toArray g) then Exec P (ev g) o w K else F) := by
  rw [if_pos (by simp [Region.wanted, hg])]; exact h
theorem head_run_gR {ops : List Oper} {g : Fr} {j : Nat} {b : Bool} {K : Value → World → Prop} {o : Oper} {F : Prop} (hg : o.guard = some (j, b)) (hy : yieldedF ops.toArray g j = some b) (h : Exec P (ev g) o w K) :
    (if Region.wanted o (yieldedF ops.toArray g) then Exec P (ev g) o w K else F) := by
  rw [if_pos (by simp [Region.wanted, hg, hy])]; exact h
theorem head_passR {ops : List Oper} {g : Fr} {j : Nat} {b c : Bool} {o : Oper} {E F : Prop} (hg : o.guard = some (j, b)) (hy : yieldedF ops.toArray g j = some c) (hbc : (c == b) = false) (h : F) :
    (if Region.wanted o (yieldedF ops.toArray g) then E else F) := by
  rw [if_neg (by cases b <;> cases c <;> simp [Region.wanted, hg, hy] at *)]; exact h
theorem head_pass_noneR {ops : List Oper} {g : Fr} {j : Nat} {b : Bool} {o : Oper} {E F : Prop} (hg : o.guard = some (j, b)) (hy : yieldedF ops.toArray g j = none) (h : F) :
    (if Region.wanted o (yieldedF ops.toArray g) then E else F) := by
  rw [if_neg (by simp [Region.wanted, hg, hy])]; exact h
end
end Go.Pw
namespace Go.Pw
section
variable {P : Program} {ρ : Operand → Value} {o : Oper} {w w0 : World} {K : Value → World → Prop} {T : TypeId} {s : PHeap} {H : List Res}
/-- '&a[i]', a an array in memory. -/
theorem Exec.index_parr {x i : Operand} {k : IntKind} {n m sz b off : Nat} {ag : Bool} {e : TypeId} {j : Int} (hT : P.underlying T = some (.array n e)) (he : tyAgg P e = some (ag, sz)) (ho : o.op = .indexAddr T x i) (hx : ρ x = .pointer (some ⟨b, off, none⟩))
    (hi : ρ i = .int k j) (h : 0 ≤ j ∧ j < n) (hm : off + j.toNat * sz = m) (hk : K (.pointer (some ⟨b, m, none⟩)) w) : Exec P ρ o w K := by
  subst hm
  refine .of_run ?_ hk
  unfold execOp
  simp only [ho, hx, hi, Sem.run_bind, Instr.indexAt, asIntOf, run_underlying hT, Instr.sureAddr, Sem.run_pure, Result.andThen_ok]
  rw [if_pos h]
  simp only [Sem.run_bind, run_sizeOf' he, Result.andThen_ok, Sem.run_pure, Addr.add_lit]
/-- nil or not: if it is nil, it has no elements. -/
theorem SliceRep.nilShape {α : Type} {E : Enc α} {v : Value} {xs : List α} (h : SliceRep E s v xs) : ∃ (a : Option Addr) (n c : Nat), v = .slice a n c ∧ (a.isNone = true → xs = []) := by
  rcases h with ⟨rfl, rfl⟩ | ⟨a, cap, rfl, rfl⟩ | ⟨b, off, cap, c, T, fz, cells, rfl, _⟩
  · exact ⟨_, _, _, rfl, fun _ => rfl⟩
  · exact ⟨_, _, _, rfl, fun _ => rfl⟩
  · exact ⟨_, _, _, rfl, fun h => by cases h⟩
theorem St.nilShape {α : Type} {E : Enc α} {Te : TypeId} {v : Value} {xs : List α} (hS : St w0 s (.arr E Te v xs :: H) w) : ∃ (a : Option Addr) (n c : Nat), v = .slice a n c ∧ (a.isNone = true → xs = []) := by
  obtain ⟨t, _, _, h⟩ := hS.freezeArr
  exact h.nilShape
end
end Go.Pw
