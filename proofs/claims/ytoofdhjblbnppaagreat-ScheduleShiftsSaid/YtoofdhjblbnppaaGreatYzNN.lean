/-
  Simple temporal networks, what the code does (as stn2/T1, T2, T3, TightQ, for 128 points).
-/
import Derived.Test.YtoofdhjblbnppaaGreatYzP
import Derived.Test.YtoofdhjblbnppaaGreatG0t
set_option linter.unusedVariables false
set_option linter.unusedSimpArgs false
set_option linter.unusedSectionVars false
namespace Go.Pw
/-! ### the reference's distances -/
def GrOf (E : List Bound) : Gr := fun i j c => ∃ b ∈ E, b.A = (i : Int) ∧ b.B = (j : Int) ∧ b.Most = c
def Rt (n : Nat) (b : Bound) : Prop := 0 ≤ b.A ∧ b.A < n ∧ 0 ≤ b.B ∧ b.B < n ∧ -1099511627776 ≤ b.Most ∧ b.Most ≤ 1099511627776
theorem GrOf.ok {n : Nat} {E : List Bound} (h : ∀ b ∈ E, Rt n b) : GrOK (GrOf E) n := by
  rintro i j c ⟨b, hb, h1, h2, h3⟩
  obtain ⟨a1, a2, a3, a4, a5, a6⟩ := h b hb
  omega
/-- The table of the bounds alone. -/
structure Fst (n : Nat) (E : List Bound) (f : MM) : Prop where
  le : ∀ i j, i < n → j < n → f i j ≤ 1125899906842624
  small : ∀ i j, i < n → j < n → f i j < 1125899906842624 → -1099511627776 ≤ f i j ∧ f i j ≤ 1099511627776
  diag : ∀ i, i < n → f i i ≤ 0
  edge : ∀ i j c, GrOf E i j c → f i j ≤ c
  wk : ∀ i j, i < n → j < n → f i j < 1125899906842624 → (i = j ∧ f i j = 0) ∨ GrOf E i j (f i j)
theorem Fst.cl {n : Nat} {E : List Bound} {f : MM} (h : Fst n E f) (hE : ∀ b ∈ E, Rt n b) : Cl (GrOf E) n 0 f where
  ok := GrOf.ok hE
  kn := Nat.zero_le _
  le := h.le
  bnd i j hi hj hf := by have := h.small i j hi hj hf; omega
  diag := h.diag
  edge := h.edge
  tri x hx := by omega
  snd i j hi hj hf := by
    rcases h.wk i j hi hj hf with ⟨rfl, h0⟩ | h1
    · rw [h0]; exact ⟨[], .nil _, by simp⟩
    · exact ⟨[i], .one h1, by simp⟩
theorem Fst.add {n : Nat} {E : List Bound} {f : MM} (h : Fst n E f) {b : Bound} (hb : Rt n b) {i j : Nat} (hi : b.A = (i : Int)) (hj : b.B = (j : Int)) : Fst n (E ++ [b]) (updM f i j (min (f i j) b.Most)) := by
  obtain ⟨a1, a2, a3, a4, a5, a6⟩ := hb
  refine ⟨?_, ?_, ?_, ?_, ?_⟩
  · intro i' j' hi' hj'
    have := h.le i' j' hi' hj'
    unfold updM; split
    · rename_i e; obtain ⟨rfl, rfl⟩ := e; omega
    · exact this
  · intro i' j' hi' hj' hf
    have := h.small i' j' hi' hj'
    unfold updM at hf ⊢; split
    · rename_i e; rw [if_pos e] at hf; obtain ⟨rfl, rfl⟩ := e
      by_cases q : f i' j' < 1125899906842624
      · have := this q; omega
      · omega
    · rename_i e; rw [if_neg e] at hf; exact this hf
  · intro i' hi'
    have := h.diag i' hi'
    unfold updM; split
    · rename_i e; obtain ⟨rfl, e2⟩ := e; rw [← e2]; omega
    · exact this
  · rintro i' j' c ⟨b', hb', k1, k2, k3⟩
    rcases List.mem_append.1 hb' with hb' | hb'
    · have := h.edge i' j' c ⟨b', hb', k1, k2, k3⟩
      unfold updM; split
      · rename_i e; obtain ⟨rfl, rfl⟩ := e; omega
      · exact this
    · have : b' = b := by simpa using hb'
      subst this
      have e1 : i' = i := by omega
      have e2 : j' = j := by omega
      subst e1; subst e2
      rw [updM_self]
      omega
  · intro i' j' hi' hj' hf
    have old : f i' j' < 1125899906842624 → (i' = j' ∧ f i' j' = 0) ∨ GrOf (E ++ [b]) i' j' (f i' j') := fun q => (h.wk i' j' hi' hj' q).imp (fun h => h) fun ⟨b', hb', k⟩ => ⟨b', List.mem_append_left _ hb', k⟩
    unfold updM at hf ⊢; split
    · rename_i e; rw [if_pos e] at hf; obtain ⟨rfl, rfl⟩ := e
      by_cases q : f i' j' ≤ b.Most
      · have e : min (f i' j') b.Most = f i' j' := by omega
        rw [e] at hf ⊢; exact old hf
      · have e : min (f i' j') b.Most = b.Most := by omega
        rw [e]
        exact .inr ⟨b, by simp, hi, hj, rfl⟩
    · rename_i e; rw [if_neg e] at hf; exact old hf
def init0 : MM := fun i j => if i = j then 0 else 1125899906842624
theorem Fst.nil (n : Nat) : Fst n [] init0 := by
  refine ⟨?_, ?_, ?_, ?_, ?_⟩
  · intro i j _ _; unfold init0; split <;> omega
  · intro i j _ _; unfold init0; split <;> omega
  · intro i _; unfold init0; rw [if_pos rfl]; omega
  · rintro i j c ⟨b, hb, _⟩; cases hb
  · intro i j _ _ hf; unfold init0 at hf ⊢; split
    · rename_i e; exact .inl ⟨e, rfl⟩
    · rename_i e; rw [if_neg e] at hf; omega
theorem bound_nat {n : Nat} {b : Bound} (hb : Rt n b) : ∃ i j : Nat, b.A = (i : Int) ∧ b.B = (j : Int) ∧ i < n ∧ j < n := by
  obtain ⟨a1, a2, a3, a4, a5, a6⟩ := hb
  exact ⟨b.A.toNat, b.B.toNat, by omega, by omega, by omega, by omega⟩
/-! ### the network -/
theorem Cl.congrE {E E' : Gr} {n k : Nat} {f : MM} (h : Cl E n k f) (e : ∀ i j c, E i j c ↔ E' i j c) : Cl E' n k f := by
  have : E = E' := by funext i j c; exact propext (e i j c)
  rw [← this]; exact h
theorem GrOf_snoc {E : List Bound} {b : Bound} {a c : Nat} (ha : b.A = (a : Int)) (hc : b.B = (c : Int)) (i j : Nat) (m : Int) : GrAdd (GrOf E) a c b.Most i j m ↔ GrOf (E ++ [b]) i j m := by
  constructor
  · rintro (⟨b', h1, h2⟩ | ⟨rfl, rfl, rfl⟩)
    · exact ⟨b', List.mem_append_left _ h1, h2⟩
    · exact ⟨b, by simp, ha, hc, rfl⟩
  · rintro ⟨b', h1, h2, h3, h4⟩
    rcases List.mem_append.1 h1 with h1 | h1
    · exact .inl ⟨b', h1, h2, h3, h4⟩
    · have : b' = b := by simpa using h1
      subst this
      exact .inr ⟨by omega, by omega, h4.symm⟩
/-- A network of n points holds the distances of the bounds E. -/
def Net (n : Nat) (E : List Bound) (d : List (List Int)) : Prop := (∀ b ∈ E, Rt n b) ∧ ∃ f, Mx n d f ∧ Cl (GrOf E) n n f ∧ ∀ i, i < n → f i i = 0
theorem New_ok {n : Nat} (hn0 : 0 < n) (hn : n ≤ 128) : Ok (stn_New_p (n : Int)) (fun r => ∃ d, r = (some ⟨d⟩, none) ∧ Mx n d init0) := by
  unfold stn_New_p
  rw [if_neg (by simp; omega)]
  refine Ok.must (decide_eq_true (by omega)) (Ok.bind ?_)
  rw [Int.toNat_natCast]
  refine Ok.forS (fun i out => Rc i n out init0) ⟨rfl, fun i hi => by omega⟩ ?_ (fun d hd => Ok.ret ⟨d, rfl, hd⟩)
  intro i out hi hout
  have hmk : mk 8 (0 : Int) (n : Int) = some (List.replicate n 0) := by unfold mk; rw [if_pos (by omega)]; simp
  refine Ok.step hmk (Ok.bind ?_)
  rw [List.length_replicate]
  refine Ok.forS (fun j l => l.length = n ∧ ∀ j', j' < n → l[j']? = some (if j' < j then init0 i j' else 0)) ⟨by simp, fun j' hj' => by simp [hj']⟩ ?_ ?_
  · rintro j l hj ⟨hl, hc⟩
    refine Ok.bind (Ok.ite (fun h => ?_) fun h => ?_)
    · refine Ok.step (by rw [idx_nat, hc j hj]) (Ok.step (setI_nat (by omega)) (Ok.ret (Ok.ret ⟨by simp [hl], fun j' hj' => ?_⟩)))
      by_cases e : j' = j
      · subst e
        rw [List.getElem?_set_self (by omega), if_pos (by omega)]
        have : ¬ (i = j') := fun e => by subst e; simp at h
        simp [init0, this]
      · rw [List.getElem?_set_ne (Ne.symm e), hc j' hj']
        have : (j' < j) ↔ (j' < j + 1) := by omega
        simp only [this]
    · refine Ok.ret (Ok.ret ⟨hl, fun j' hj' => ?_⟩)
      rw [hc j' hj']
      by_cases e : j' = j
      · subst e
        have : i = j' := by have : (j' : Int) = i := by simpa using h
                            omega
        simp [init0, this]
      · have : (j' < j) ↔ (j' < j + 1) := by omega
        simp only [this]
  · rintro l ⟨hl, hc⟩
    have happ : app 24 out [l] = some (out ++ [l]) := by unfold app; rw [if_pos]; rw [hout.1]; simp; omega
    refine Ok.step happ (Ok.ret (hout.push hl (fun j hj => ?_) fun _ _ _ _ => rfl))
    rw [hc j hj, if_pos hj]
theorem Net.new {n : Nat} {d : List (List Int)} (h : Mx n d init0) : Net n [] d :=
  ⟨fun b hb => (by cases hb), init0, h, by
    have := (Fst.nil n).cl (fun b hb => by cases hb)
    refine ⟨this.ok, Nat.le_refl _, this.le, this.bnd, this.diag, this.edge, ?_, ?_⟩
    · intro x hx i j hi hj h1 h2
      unfold init0 at h1 h2 ⊢
      by_cases e1 : i = x
      · by_cases e2 : x = j
        · subst e1; subst e2; simp
        · rw [if_neg e2] at h2; omega
      · rw [if_neg e1] at h1; omega
    · intro i j hi hj hf
      obtain ⟨L, hL, hx⟩ := this.snd i j hi hj hf
      exact ⟨L, hL, fun x h => by have := hx x h; omega⟩, fun i _ => by simp [init0]⟩
theorem point_iff {d : List (List Int)} {p : Int} : stn_Network_point_t ⟨d⟩ p = decide (0 ≤ p ∧ p < (d.length : Int)) := by
  unfold stn_Network_point_t
  simp
/-- What an addition does. -/
def AddSays (n : Nat) (E : List Bound) (b : Bound) (d : List (List Int)) (r : Option Int × List (List Int)) : Prop :=
  (¬ Rt n b ∧ r = (some 1, d)) ∨ (Rt n b ∧ (∃ i w L, i < n ∧ Wk (GrOf (E ++ [b])) i i w L ∧ w < 0) ∧ r = (some 21, d)) ∨ (Rt n b ∧ r.1 = none ∧ Net n (E ++ [b]) r.2)
theorem Add_ok {n : Nat} (hn : n ≤ 128) {E : List Bound} {d : List (List Int)} (h : Net n E d) (b : Bound) : Ok (stn_Network_Add_p ⟨d⟩ b) (AddSays n E b d) := by
  obtain ⟨hE, f, hd, hcl, hdi⟩ := h
  unfold stn_Network_Add_p
  have hz : Ok (if (!stn_Network_point_t ⟨d⟩ b.A) = true then some true else if (!stn_Network_point_t ⟨d⟩ b.B) = true then some true else if decide (b.Most < -1099511627776) = true then some true else some (decide (1099511627776 < b.Most)))
      (fun z => z = true ↔ ¬ Rt n b) := by
    rw [point_iff, point_iff]
    unfold Rt
    have hl : d.length = n := hd.1
    refine Ok.ite (fun h => Ok.ret ?_) fun h => Ok.ite (fun h => Ok.ret ?_) fun h => Ok.ite (fun h => Ok.ret ?_) fun h => Ok.ret ?_ <;> simp [hl] at * <;> omega
  refine Ok.bind (hz.mono fun z hz => Ok.ite (fun h => Ok.ret (.inl ⟨hz.1 h, rfl⟩)) fun h => ?_)
  have hb : Rt n b := Classical.byContradiction fun q => by rw [hz.2 q] at h; cases h
  obtain ⟨a, c, ha, hc, han, hcn⟩ := bound_nat hb
  have hb' := hb
  obtain ⟨_, _, _, _, m1, m2⟩ := hb'
  have fine : ∀ i j, i < n → j < n → f i j < 1125899906842624 → -140737488355328 ≤ f i j ∧ f i j ≤ 140737488355328 := fun i j hi hj hf => hcl.fine hdi hn hi hj hf
  obtain ⟨rowc, c1, c2, c3⟩ := hd.row hcn
  rw [hc, ha]
  refine Ok.step c1 (Ok.step (c3 a han) (Ok.ite (fun h => ?_) fun h => ?_))
  · simp only [Bool.and_eq_true, decide_eq_true_eq] at h
    have := fine c a hcn han h.1
    rw [wrap_i64 (by omega) (by omega)] at h
    refine Ok.ret (.inr (.inl ⟨hb, ?_, rfl⟩))
    obtain ⟨L, hL, _⟩ := hcl.snd c a hcn han h.1
    refine ⟨c, f c a + b.Most, _, hcn, (hL.mono fun i j m ⟨b', h1, h2⟩ => ⟨b', List.mem_append_left _ h1, h2⟩).app (Wk.one ⟨b, by simp, ha, hc, rfl⟩), h.2⟩
  · have hba : f c a < 1125899906842624 → 0 ≤ f c a + b.Most := by
      intro q
      have := fine c a hcn han q
      rw [wrap_i64 (by omega) (by omega)] at h
      simp only [Bool.and_eq_false_iff, decide_eq_false_iff_not] at h
      omega
    obtain ⟨hm, hmd⟩ := hcl.more hdi hn han hcn m1 m2 hba
    refine Ok.bind ?_
    rw [hd.1]
    refine Ok.forS (fun i l => Mx n l (fun i' j' => if i' < i then more f a c b.Most i' j' else f i' j')) (hd.congr fun i j _ _ => by simp) ?_ ?_
    · intro i l hi hl
      have rd : ∀ {l : List (List Int)} {P : Nat → Nat → Prop} [∀ i j, Decidable (P i j)], Mx n l (fun i' j' => if P i' j' then more f a c b.Most i' j' else f i' j') → (∃ row, idx l (c : Int) = some row ∧ row.length = n ∧ ∀ j, j < n → idx row (j : Int) = some (f c j)) ∧
          ∃ row, idx l (i : Int) = some row ∧ row.length = n ∧ idx row (a : Int) = some (f i a) ∧ ∀ j, j < n → ¬ P i j → idx row (j : Int) = some (f i j) := by
        intro l P _ hl
        obtain ⟨r1, a1, a2, a3⟩ := hl.row hcn
        obtain ⟨r2, b1, b2, b3⟩ := hl.row hi
        refine ⟨⟨r1, a1, a2, fun j hj => ?_⟩, r2, b1, b2, ?_, fun j hj hp => ?_⟩
        · rw [a3 j hj]; split
          · rw [more_row hba]
          · rfl
        · rw [b3 a han]; split
          · rw [more_col hba]
          · rfl
        · rw [b3 j hj, if_neg hp]
      obtain ⟨⟨rc, p1, p2, p3⟩, ri, q1, q2, q3, q4⟩ := rd (P := fun i' _ => i' < i) hl
      refine Ok.step q1 (Ok.step q3 (Ok.ite (fun h => Ok.ret (hl.congr ?_)) fun h => ?_))
      · intro i' j' hi' hj'
        have h := dec_t h
        by_cases e : i' = i
        · subst e
          rw [if_neg (by omega), if_pos (by omega)]
          unfold more
          rw [if_neg (by omega)]
        · have : (i' < i) ↔ (i' < i + 1) := by omega
          simp only [this]
      · have hia : f i a < 1125899906842624 := by have := dec_f h; omega
        refine Ok.step p1 (Ok.must (decide_eq_true (by omega)) (Ok.bind ?_))
        rw [p2]
        refine Ok.forS (fun j l => Mx n l (fun i' j' => if i' < i ∨ (i' = i ∧ j' < j) then more f a c b.Most i' j' else f i' j')) (hl.congr fun i' j' _ _ => by simp) ?_ ?_
        · intro j l hj hl
          obtain ⟨⟨rc, p1, p2, p3⟩, ri, q1, q2, q3, q4⟩ := rd (P := fun i' j' => i' < i ∨ (i' = i ∧ j' < j)) hl
          refine Ok.step p1 (Ok.step (p3 j hj) (Ok.bind (Ok.ite (fun h => ?_) fun h => ?_)))
          · have hcj := dec_t h
            obtain ⟨row', l', h4, h5, h6⟩ := hl.set hi hj q1 (more f a c b.Most i j)
            refine Ok.step q1 (Ok.step (q4 j hj (by omega)) (Ok.step q3 (Ok.step ?_ (Ok.step h5 (Ok.ret (Ok.ret (h6.congr ?_)))))))
            · rw [← h4]
              congr 1
              have r1 := fine i a hi han hia
              have r2 := fine c j hcn hj hcj
              rw [wrap_i64 (n := f i a + b.Most) (by omega) (by omega), wrap_i64 (by omega) (by omega)]
              unfold more
              rw [if_pos ⟨hia, hcj⟩]
            · intro i' j' hi' hj'
              unfold updM
              split
              · rename_i e; obtain ⟨rfl, rfl⟩ := e; rw [if_pos (by omega)]
              · rename_i e
                have : (i' < i ∨ (i' = i ∧ j' < j)) ↔ (i' < i ∨ (i' = i ∧ j' < j + 1)) := by omega
                simp only [this]
          · have hcj := dec_f h
            refine Ok.ret (Ok.ret (hl.congr ?_))
            intro i' j' hi' hj'
            by_cases e : i' = i ∧ j' = j
            · obtain ⟨rfl, rfl⟩ := e
              rw [if_neg (by omega), if_pos (by omega)]
              unfold more
              rw [if_neg (by omega)]
            · have : (i' < i ∨ (i' = i ∧ j' < j)) ↔ (i' < i ∨ (i' = i ∧ j' < j + 1)) := by omega
              simp only [this]
        · intro l hl
          refine Ok.ret (hl.congr ?_)
          intro i' j' hi' hj'
          have : (i' < i ∨ (i' = i ∧ j' < n)) ↔ (i' < i + 1) := by omega
          simp only [this]
    · intro l hl
      refine Ok.ret (.inr (.inr ⟨hb, rfl, ?_, more f a c b.Most, hl.congr fun i j hi _ => by rw [if_pos hi], hm.congrE (GrOf_snoc ha hc), hmd⟩))
      intro b' hb'
      rcases List.mem_append.1 hb' with h | h
      · exact hE b' h
      · have : b' = b := by simpa using h
        rw [this]; exact hb
section
variable {n : Nat} {d : List (List Int)} {f : MM} {E : List Bound}
theorem Distance_in (hd : Mx n d f) {a b : Nat} (ha : a < n) (hb : b < n) : stn_Network_Distance_p ⟨d⟩ (a : Int) (b : Int) = some (f a b, none) := by
  unfold stn_Network_Distance_p
  rw [point_iff, point_iff, if_neg (by simp [hd.1]; omega)]
  obtain ⟨row, h1, h2, h3⟩ := hd.row ha
  simp only [h1, h3 b hb, Option.bind_some]
theorem Earliest_in (hd : Mx n d f) (hn : 0 < n) {p : Nat} (hp : p < n) (hf : f p 0 < 1125899906842624 → -9007199254740992 ≤ f p 0) :
    stn_Network_Earliest_p ⟨d⟩ (p : Int) = some (if f p 0 < 1125899906842624 then (-(f p 0), none) else (0, some 3)) := by
  unfold stn_Network_Earliest_p
  have := Distance_in hd hp hn
  rw [Int.natCast_zero] at this
  simp only [this, Option.bind_some, un2, Option.isSome_none, Bool.false_eq_true, if_false]
  by_cases h : f p 0 < 1125899906842624
  · rw [if_neg (by simpa using h), if_pos h, wrap_i64 (by omega) (by have := hf h; omega), Int.zero_sub]
  · rw [if_pos (by simpa using h), if_neg h]
theorem Latest_in (hd : Mx n d f) (hn : 0 < n) {p : Nat} (hp : p < n) :
    stn_Network_Latest_p ⟨d⟩ (p : Int) = some (if f 0 p < 1125899906842624 then (f 0 p, none) else (0, some 3)) := by
  unfold stn_Network_Latest_p
  have := Distance_in hd hn hp
  rw [Int.natCast_zero] at this
  simp only [this, Option.bind_some, un2, Option.isSome_none, Bool.false_eq_true, if_false]
  by_cases h : f 0 p < 1125899906842624
  · rw [if_neg (by simpa using h), if_pos h]
  · rw [if_pos (by simpa using h), if_neg h]
end
/-- A loop that counts down to its end. -/
theorem Ok.down {S R β : Type} {B : S → Option (Ctl S R)} {Q : S → Prop} {P : β → Prop} {kr : R → Option β} {ks : S → Option β} (Inv : Nat → S → Prop)
    (step : ∀ j s, Inv (j + 1) s → Ok (B s) (fun c => ∃ s', c = .next s' ∧ Inv j s')) (stop : ∀ s, Inv 0 s → Ok (B s) (fun c => ∃ s', c = .brk s' ∧ Q s')) (hk : ∀ s, Q s → Ok (ks s) P) :
    ∀ (k : Nat) (s : S), Inv k s → Ok (Go.Pw.ctl (whileC B s) kr ks) P
  | 0, s, h => by
    obtain ⟨_, e, s', rfl, hq⟩ := stop s h
    unfold Go.Pw.ctl
    rw [whileC_stop e (by intro _ h; cases h)]
    exact hk s' hq
  | k + 1, s, h => by
    obtain ⟨_, e, s', rfl, hi⟩ := step k s h
    rw [whileC_next e]
    exact Ok.down Inv step stop hk k s' hi
section
variable {n : Nat} {E E' : List Bound} {d : List (List Int)} {b : Bound}
theorem GrOf.sub (h : ∀ b ∈ E, b ∈ E') : ∀ i j c, GrOf E i j c → GrOf E' i j c := fun _ _ _ ⟨b, hb, k⟩ => ⟨b, h b hb, k⟩
end
section
variable {n : Nat} {E : List Bound} {d : List (List Int)} {f : MM} {t : Nat → Int}
/-- Times that satisfy all bounds. -/
def Sat (E : List Bound) (t : Nat → Int) : Prop := ∀ i j c, GrOf E i j c → t j - t i ≤ c
theorem Sat.walk (h : Sat E t) {i j : Nat} {w : Int} {L : List Nat} (hw : Wk (GrOf E) i j w L) : t j - t i ≤ w := by
  induction hw with
  | nil => omega
  | cons e _ ih => have := h _ _ _ e; omega
/-- A bound that the times satisfy is accepted. -/
theorem Add_sat (hn : n ≤ 128) (h : Net n E d) {b : Bound} (hb : Rt n b) (hs : Sat (E ++ [b]) t) : Ok (stn_Network_Add_p ⟨d⟩ b) (fun r => ∃ d', r = (none, d') ∧ Net n (E ++ [b]) d') := by
  refine (Add_ok hn h b).mono ?_
  rintro r (⟨h1, _⟩ | ⟨_, ⟨i, w, L, hi, hw, hlt⟩, _⟩ | ⟨_, h2, h3⟩)
  · exact absurd hb h1
  · have := hs.walk hw; omega
  · exact ⟨r.2, by rw [← h2], h3⟩
theorem Sat.le (h : Sat E t) (hcl : Cl (GrOf E) n n f) {i j : Nat} (hi : i < n) (hj : j < n) (hf : f i j < 1125899906842624) : t j - t i ≤ f i j := by
  obtain ⟨L, hL, _⟩ := hcl.snd i j hi hj hf
  exact h.walk hL
end
section
variable {n : Nat} {E : List Bound} {d : List (List Int)} {f : MM} {b : Bound}
theorem Mx.uniq {l l' : List (List Int)} (h : Mx n l f) (h' : Mx n l' f) : l = l' := by
  refine List.ext_getElem? fun i => ?_
  by_cases hi : i < n
  · obtain ⟨r, a1, a2, a3⟩ := h.2 i hi
    obtain ⟨r', b1, b2, b3⟩ := h'.2 i hi
    rw [a1, b1]
    congr 1
    refine List.ext_getElem? fun j => ?_
    by_cases hj : j < n
    · rw [a3 j hj, b3 j hj]
    · rw [List.getElem?_eq_none (by omega), List.getElem?_eq_none (by omega)]
  · have := h.1
    have := h'.1
    rw [List.getElem?_eq_none (by omega), List.getElem?_eq_none (by omega)]
end
end Go.Pw
/-
  A copy of a network.
-/
namespace Go.Pw
section
variable {n : Nat} {E : List Bound} {d : List (List Int)} {f : MM} {b : Bound}
end
end Go.Pw
/-
  The reference's distances (as stn/S1, for 128 points).
-/
namespace Go.Pw
def cellF (k : Nat) (c : MM) (i j : Nat) : Int := if c i k < 1125899906842624 ∧ c k j < 1125899906842624 then min (c i j) (IntKind.i64.wrap (c i k + c k j)) else c i j
def sweepRow (k i : Nat) : Nat → MM → MM
  | 0, c => c
  | j + 1, c => updM (sweepRow k i j c) i j (cellF k (sweepRow k i j c) i j)
def sweep (k n : Nat) : Nat → MM → MM
  | 0, c => c
  | i + 1, c => sweepRow k i n (sweep k n i c)
/-- Where the diagonal is clean, the sweep is the step. -/
theorem sweep_good {n k : Nat} {f : MM} (hk : f k k = 0) (hb : ∀ i j, i < n → j < n → f i j < 1125899906842624 → -562949953421312 ≤ f i j ∧ f i j ≤ 562949953421312) (hkn : k < n) :
    ∀ i, i ≤ n → ∀ i' j', i' < n → j' < n → sweep k n i f i' j' = if i' < i then step f k i' j' else f i' j' := by
  intro i
  induction i with
  | zero => intro _ i' j' _ _; simp [sweep]
  | succ i ih =>
    intro hi
    have ih := ih (by omega)
    have row : ∀ j, j ≤ n → ∀ i' j', i' < n → j' < n → sweepRow k i j (sweep k n i f) i' j' = if i' < i ∨ (i' = i ∧ j' < j) then step f k i' j' else f i' j' := by
      intro j
      induction j with
      | zero => intro _ i' j' hi' hj'; rw [sweepRow, ih i' j' hi' hj']; simp
      | succ j ihj =>
        intro hj i' j' hi' hj'
        have ihj := ihj (by omega)
        have hin : i < n := by omega
        rw [sweepRow]
        by_cases e : i' = i ∧ j' = j
        · obtain ⟨rfl, rfl⟩ := e
          rw [updM_self, if_pos (by omega)]
          have e1 : sweepRow k i' j' (sweep k n i' f) i' k = f i' k := by
            rw [ihj i' k hin hkn]; split
            · exact step_col hk i'
            · rfl
          have e2 : sweepRow k i' j' (sweep k n i' f) k j' = f k j' := by
            rw [ihj k j' hkn hj']; split
            · exact step_row hk j'
            · rfl
          have e3 : sweepRow k i' j' (sweep k n i' f) i' j' = f i' j' := by rw [ihj i' j' hin hj', if_neg (by omega)]
          unfold cellF
          rw [e1, e2, e3]
          unfold step
          split
          · rename_i hc
            have b1 := hb i' k hin hkn hc.1
            have b2 := hb k j' hkn hj' hc.2
            rw [wrap_i64 (by omega) (by omega)]
          · rfl
        · rw [updM_ne e, ihj i' j' hi' hj']
          have : (i' < i ∨ (i' = i ∧ j' < j)) ↔ (i' < i ∨ (i' = i ∧ j' < j + 1)) := by omega
          simp only [this]
    intro i' j' hi' hj'
    rw [sweep, row n (Nat.le_refl _) i' j' hi' hj']
    have : (i' < i ∨ (i' = i ∧ j' < n)) ↔ i' < i + 1 := by omega
    simp only [this]
/-- The first sweep, whatever the diagonal: no cell grows, and each is a walk's weight. -/
structure Bad (E : Gr) (n : Nat) (f : MM) (P : Nat → Nat → Prop) (c : MM) : Prop where
  le : ∀ i j, i < n → j < n → c i j ≤ f i j
  wk : ∀ i j, i < n → j < n → c i j < 1125899906842624 → ∃ L, Wk E i j (c i j) L
  un : ∀ i j, i < n → j < n → ¬ P i j → c i j = f i j
  inf : ∀ i j, i < n → j < n → i = 0 ∨ j = 0 → c i j < 1125899906842624 → f i j < 1125899906842624
  b0 : c 0 0 < 1125899906842624 → -2199023255552 ≤ c 0 0
  b1 : ∀ i j, i < n → j < n → i = 0 ∨ j = 0 → c i j < 1125899906842624 → -3298534883328 ≤ c i j
theorem Bad.cell {E : Gr} {n : Nat} {f c : MM} {P : Nat → Nat → Prop} (hf : ∀ i j, i < n → j < n → f i j < 1125899906842624 → -1099511627776 ≤ f i j ∧ f i j ≤ 1099511627776) (h : Bad E n f P c) {i j : Nat} (hi : i < n) (hj : j < n) (hP : ¬ P i j)
    (h00 : i = 0 ∧ j = 0 ∨ True) (horder : ∀ i' j', P i' j' → i' < i ∨ (i' = i ∧ j' < j)) : Bad E n f (fun i' j' => P i' j' ∨ (i' = i ∧ j' = j)) (updM c i j (cellF 0 c i j)) := by
  have hn : 0 < n := by omega
  have hcij := h.un i j hi hj hP
  -- what the cell gets
  have hle : cellF 0 c i j ≤ c i j := by unfold cellF; split <;> omega
  have up : ∀ a b, a < n → b < n → a = 0 ∨ b = 0 → c a b < 1125899906842624 → c a b ≤ 1099511627776 := by
    intro a b ha hb hab hc
    have := (hf a b ha hb (h.inf a b ha hb hab hc)).2
    have := h.le a b ha hb
    omega
  have hcell : cellF 0 c i j < 1125899906842624 → ∃ L, Wk E i j (cellF 0 c i j) L := by
    intro hlt
    unfold cellF at hlt ⊢
    split
    · rename_i hc
      rw [if_pos hc] at hlt
      have p := h.b1 i 0 hi hn (.inr rfl) hc.1
      have q := h.b1 0 j hn hj (.inl rfl) hc.2
      have p' := up i 0 hi hn (.inr rfl) hc.1
      have q' := up 0 j hn hj (.inl rfl) hc.2
      rw [wrap_i64 (by omega) (by omega)] at hlt ⊢
      by_cases hm : c i j ≤ c i 0 + c 0 j
      · have e : min (c i j) (c i 0 + c 0 j) = c i j := by omega
        rw [e] at hlt ⊢
        exact h.wk i j hi hj hlt
      · have e : min (c i j) (c i 0 + c 0 j) = c i 0 + c 0 j := by omega
        rw [e]
        obtain ⟨L1, h1⟩ := h.wk i 0 hi hn hc.1
        obtain ⟨L2, h2⟩ := h.wk 0 j hn hj hc.2
        exact ⟨_, h1.app h2⟩
    · rename_i hc
      rw [if_neg hc] at hlt
      exact h.wk i j hi hj hlt
  -- the first cell, the first row and the first column
  have hedge : i = 0 ∨ j = 0 → cellF 0 c i j < 1125899906842624 → f i j < 1125899906842624 ∧ (i = 0 → j = 0 → -2199023255552 ≤ cellF 0 c i j) ∧ -3298534883328 ≤ cellF 0 c i j := by
    intro h0 hlt
    unfold cellF at hlt ⊢
    split
    · rename_i hc
      rw [if_pos hc] at hlt
      have p := h.b1 i 0 hi hn (.inr rfl) hc.1
      have q := h.b1 0 j hn hj (.inl rfl) hc.2
      have p' := up i 0 hi hn (.inr rfl) hc.1
      have q' := up 0 j hn hj (.inl rfl) hc.2
      rw [wrap_i64 (by omega) (by omega)] at hlt ⊢
      have hfin : f i j < 1125899906842624 := by
        rcases h0 with rfl | rfl
        · exact h.inf 0 j hn hj (.inl rfl) hc.2
        · exact h.inf i 0 hi hn (.inr rfl) hc.1
      have hfb := hf i j hi hj hfin
      refine ⟨hfin, ?_, ?_⟩
      · rintro rfl rfl
        omega
      · rcases h0 with rfl | rfl
        · have := h.b0 hc.1
          omega
        · by_cases hi0 : i = 0
          · subst hi0
            omega
          · have := h.b0 hc.2
            omega
    · rename_i hc
      rw [if_neg hc] at hlt
      rw [hcij] at hlt ⊢
      have := hf i j hi hj hlt
      exact ⟨hlt, fun _ _ => by omega, by omega⟩
  refine ⟨?_, ?_, ?_, ?_, ?_, ?_⟩
  · intro i' j' hi' hj'
    by_cases e : i' = i ∧ j' = j
    · obtain ⟨rfl, rfl⟩ := e; rw [updM_self]; have := h.le i' j' hi' hj'; omega
    · rw [updM_ne e]; exact h.le i' j' hi' hj'
  · intro i' j' hi' hj'
    by_cases e : i' = i ∧ j' = j
    · obtain ⟨rfl, rfl⟩ := e; rw [updM_self]; exact hcell
    · rw [updM_ne e]; exact h.wk i' j' hi' hj'
  · intro i' j' hi' hj' hn'
    rw [updM_ne (fun e => hn' (.inr e))]
    exact h.un i' j' hi' hj' (fun q => hn' (.inl q))
  · intro i' j' hi' hj' h0
    by_cases e : i' = i ∧ j' = j
    · obtain ⟨rfl, rfl⟩ := e; rw [updM_self]; exact fun hlt => (hedge h0 hlt).1
    · rw [updM_ne e]; exact h.inf i' j' hi' hj' h0
  · by_cases e : 0 = i ∧ 0 = j
    · obtain ⟨rfl, rfl⟩ := e; rw [updM_self]; exact fun hlt => (hedge (.inl rfl) hlt).2.1 rfl rfl
    · rw [updM_ne e]; exact h.b0
  · intro i' j' hi' hj' h0
    by_cases e : i' = i ∧ j' = j
    · obtain ⟨rfl, rfl⟩ := e; rw [updM_self]; exact fun hlt => (hedge h0 hlt).2.2
    · rw [updM_ne e]; exact h.b1 i' j' hi' hj' h0
theorem sweep_bad {E : Gr} {n : Nat} {f : MM} (hf : ∀ i j, i < n → j < n → f i j < 1125899906842624 → -1099511627776 ≤ f i j ∧ f i j ≤ 1099511627776) (hw : ∀ i j, i < n → j < n → f i j < 1125899906842624 → ∃ L, Wk E i j (f i j) L) (hn : 0 < n) :
    ∀ i, i ≤ n → Bad E n f (fun i' _ => i' < i) (sweep 0 n i f) := by
  intro i
  induction i with
  | zero =>
    intro _
    exact ⟨fun _ _ _ _ => Int.le_refl _, hw, fun _ _ _ _ _ => rfl, fun _ _ _ _ _ h => h, fun h => by have := hf 0 0 hn hn h; show _ ≤ f 0 0; omega, fun i j hi hj _ h => by have := hf i j hi hj h; show _ ≤ f i j; omega⟩
  | succ i ih =>
    intro hi
    have row : ∀ j, j ≤ n → Bad E n f (fun i' j' => i' < i ∨ (i' = i ∧ j' < j)) (sweepRow 0 i j (sweep 0 n i f)) := by
      intro j
      induction j with
      | zero => intro _; have := ih (by omega); exact ⟨this.le, this.wk, fun i' j' a b c => this.un i' j' a b (fun q => c (.inl q)), this.inf, this.b0, this.b1⟩
      | succ j ihj =>
        intro hj
        have := (ihj (by omega)).cell hf (i := i) (j := j) (by omega) (by omega) (by omega) (.inr trivial) (fun i' j' h => h)
        exact ⟨this.le, this.wk, fun i' j' a b c => this.un i' j' a b (by rintro ((q | q) | q) <;> exact c (by omega)), this.inf, this.b0, this.b1⟩
    have := row n (Nat.le_refl _)
    exact ⟨this.le, this.wk, fun i' j' a b c => this.un i' j' a b (by rintro (q | q) <;> exact c (by omega)), this.inf, this.b0, this.b1⟩
/-- What the reference says: distances, or that some loop is lighter than nothing. -/
def RefSays (n : Nat) (E : List Bound) (r : List (List Int) × Bool) : Prop :=
  (r.2 = true ∧ ∃ f, Mx n r.1 f ∧ Cl (GrOf E) n n f ∧ ∀ i, i < n → f i i = 0) ∨ (r = ([], false) ∧ ∃ i w L, i < n ∧ Wk (GrOf E) i i w L ∧ w < 0)
theorem Distances_ok (n : Nat) (hn : n ≤ 128) (hn0 : 0 < n) (E : List Bound) (hE : ∀ b ∈ E, Rt n b) : Ok (ref54_Distances_p (n : Int) E) (RefSays n E) := by
  have hmust : decide ((n : Int) ≤ 9223372036854775807) = true := decide_eq_true (by omega)
  unfold ref54_Distances_p
  refine Ok.must hmust (Ok.bind ?_)
  rw [Int.toNat_natCast]
  -- an empty table
  refine Ok.forS (fun i out => Rc i n out init0) ⟨rfl, fun i hi => by omega⟩ ?_ ?_
  · intro i out hi hout
    have hmk : mk 8 (0 : Int) (n : Int) = some (List.replicate n 0) := by unfold mk; rw [if_pos (by omega)]; simp
    have happ : app 24 out [List.replicate n (0 : Int)] = some (out ++ [List.replicate n 0]) := by unfold app; rw [if_pos]; rw [hout.1]; simp; omega
    refine Ok.step hmk (Ok.step happ (Ok.must hmust (Ok.bind ?_)))
    refine Ok.forS (fun j l => Rc (i + 1) n l fun i' j' => if i' < i then init0 i' j' else if j' < j then 1125899906842624 else 0) ?_ ?_ ?_
    · refine hout.push (by simp) (fun j hj => ?_) (fun i' j' hi' _ => by rw [if_pos hi'])
      rw [if_neg (by omega), if_neg (by omega)]; simp [hj]
    · intro j l hj hl
      obtain ⟨row, h1, h2, h3⟩ := hl.row (i := i) (by omega)
      obtain ⟨row', l', h4, h5, h6⟩ := hl.set (i := i) (j := j) (by omega) hj h1 1125899906842624
      refine Ok.step h1 (Ok.step (h3 j hj) (Ok.step h4 (Ok.step h5 (Ok.ret (h6.congr ?_)))))
      intro i' j' hi' hj'
      unfold updM
      split
      · rename_i e; obtain ⟨rfl, rfl⟩ := e; rw [if_neg (by omega), if_pos (by omega)]
      · rename_i e
        dsimp only
        by_cases q : i' < i
        · rw [if_pos q, if_pos q]
        · rw [if_neg q, if_neg q]
          have : (j' < j) ↔ (j' < j + 1) := by omega
          simp only [this]
    · intro l hl
      obtain ⟨row, h1, h2, h3⟩ := hl.row (i := i) (by omega)
      obtain ⟨row', l', h4, h5, h6⟩ := hl.set (i := i) (j := i) (by omega) hi h1 0
      refine Ok.step h1 (Ok.step (h3 i hi) (Ok.step h4 (Ok.step h5 (Ok.ret (h6.congr ?_)))))
      intro i' j' hi' hj'
      unfold updM init0
      split
      · rename_i e; obtain ⟨rfl, rfl⟩ := e; rw [if_pos rfl]
      · rename_i e
        dsimp only
        by_cases q : i' < i
        · rw [if_pos q]
        · rw [if_neg q, if_pos hj', if_neg (by omega)]
  intro out hout
  -- the bounds
  refine Ok.bind (Ok.forS (fun e l => ∃ f, Mx n l f ∧ Fst n (E.take e) f) ⟨init0, hout, Fst.nil n⟩ ?_ ?_)
  · rintro e l he ⟨f, hl, hf⟩
    obtain ⟨b, hb⟩ : ∃ b, E[e]? = some b := ⟨E[e], by simp [he]⟩
    have hbm := hE b (List.mem_of_getElem? hb)
    obtain ⟨i, j, hi, hj, hin, hjn⟩ := bound_nat hbm
    obtain ⟨row, h1, h2, h3⟩ := hl.row hin
    obtain ⟨row', l', h4, h5, h6⟩ := hl.set hin hjn h1 (min (f i j) b.Most)
    refine Ok.step (by rw [idx_nat]; exact hb) ?_
    rw [hi, hj]
    refine Ok.step h1 (Ok.step (h3 j hjn) (Ok.step h4 (Ok.step h5 (Ok.ret ⟨_, h6, ?_⟩))))
    rw [List.take_add_one, hb]
    exact hf.add hbm hi hj
  rintro l ⟨f0, hl, hf0⟩
  rw [List.take_of_length_le (Nat.le_refl _)] at hf0
  -- one point after the other
  refine Ok.must hmust (Ok.ctl (fun k l => ∃ f, Mx n l f ∧ Cl (GrOf E) n k f ∧ ((∀ i, i < n → f i i = 0) ∨ (k = 0 ∧ Fst n E f))) (fun r => r = ([], false) ∧ ∃ i w L, i < n ∧ Wk (GrOf E) i i w L ∧ w < 0) ⟨f0, hl, hf0.cl hE, .inr ⟨rfl, hf0⟩⟩ ?_ ?_ ?_)
  · rintro k l hk ⟨f, hl, hcl, hcase⟩
    refine Ok.must hmust (Ok.bind ?_)
    refine Ok.forS (fun i l => Mx n l (sweep k n i f)) hl ?_ ?_
    · intro i l hi hl
      refine Ok.must hmust (Ok.bind (Ok.forS (fun j l => Mx n l (sweepRow k i j (sweep k n i f))) hl ?_ fun l hl => Ok.ret hl))
      intro j l hj hl
      obtain ⟨row, h1, h2, h3⟩ := hl.row hi
      obtain ⟨rowk, k1, k2, k3⟩ := hl.row hk
      have hz : Ok ((idx l (i : Int)).bind fun row => (idx row (k : Int)).bind fun x => if decide (x < 1125899906842624) = true then (idx l (k : Int)).bind fun row => (idx row (j : Int)).bind fun x => some (decide (x < 1125899906842624)) else some false)
          (fun z => z = decide (sweepRow k i j (sweep k n i f) i k < 1125899906842624 ∧ sweepRow k i j (sweep k n i f) k j < 1125899906842624)) := by
        refine Ok.step h1 (Ok.step (h3 k hk) (Ok.ite (fun h => Ok.step k1 (Ok.step (k3 j hj) (Ok.ret ?_))) fun h => Ok.ret ?_))
        · have := dec_t h; simp [this]
        · have := dec_f h; simp [this]
      refine Ok.bind (hz.mono ?_)
      rintro z rfl
      refine Ok.bind (Ok.ite (fun h => ?_) fun h => ?_)
      · obtain ⟨row', l', h4, h5, h6⟩ := hl.set hi hj h1 (cellF k (sweepRow k i j (sweep k n i f)) i j)
        refine Ok.step h1 (Ok.step (h3 j hj) (Ok.step (h3 k hk) (Ok.step k1 (Ok.step (k3 j hj) (Ok.step ?_ (Ok.step h5 (Ok.ret (Ok.ret h6))))))))
        rw [← h4]
        congr 1
        unfold cellF
        rw [if_pos (dec_t h)]
      · refine Ok.ret (Ok.ret (hl.congr ?_))
        intro i' j' _ _
        rw [sweepRow]
        unfold updM
        split
        · rename_i e; obtain ⟨rfl, rfl⟩ := e; unfold cellF; rw [if_neg (dec_f h)]
        · rfl
    intro l hl
    -- is some loop lighter than nothing?
    have hneg : ∀ i, i < n → sweep k n n f i i < 0 → ∃ i w L, i < n ∧ Wk (GrOf E) i i w L ∧ w < 0 := by
      intro i hi hlt
      by_cases hd : ∀ i, i < n → f i i = 0
      · have e := sweep_good (hd k hk) hcl.bnd hk n (Nat.le_refl _) i i hi hi
        rw [if_pos hi] at e
        rw [e] at hlt
        obtain ⟨L, hL, _⟩ := (hcl.step hd hn hk).snd i i hi hi (by omega)
        exact ⟨i, _, L, hi, hL, hlt⟩
      · obtain ⟨rfl, hf⟩ := hcase.resolve_left hd
        have hb := sweep_bad (E := GrOf E) hf.small (fun i j hi hj h => let ⟨L, h, _⟩ := hcl.snd i j hi hj h; ⟨L, h⟩) hn0 n (Nat.le_refl _)
        obtain ⟨L, hL⟩ := hb.wk i i hi hi (by omega)
        exact ⟨i, _, L, hi, hL, hlt⟩
    refine Ok.must hmust (Ok.ctl (fun i _ => ∀ i', i' < i → 0 ≤ sweep k n n f i' i') (fun r => r = ([], false) ∧ ∃ i w L, i < n ∧ Wk (GrOf E) i i w L ∧ w < 0) (fun i' h => by omega) ?_ (fun r h => Ok.ret h) ?_)
    · intro i _ hi hall
      obtain ⟨row, h1, h2, h3⟩ := hl.row hi
      refine Ok.step h1 (Ok.step (h3 i hi) (Ok.ite (fun h => Ok.ret ⟨rfl, hneg i hi (dec_t h)⟩) fun h => Ok.ret fun i' hi' => ?_))
      have := dec_f h
      by_cases e : i' = i
      · subst e; omega
      · exact hall i' (by omega)
    · intro _ hall
      refine Ok.ret ?_
      have hd : ∀ i, i < n → f i i = 0 := by
        rcases hcase with h | ⟨rfl, hf⟩
        · exact h
        · intro i hi
          have hb := sweep_bad (E := GrOf E) hf.small (fun i j hi hj h => let ⟨L, h, _⟩ := hcl.snd i j hi hj h; ⟨L, h⟩) hn0 n (Nat.le_refl _)
          have := hb.le i i hi hi
          have := hall i hi
          have := hf.diag i hi
          omega
      have e : ∀ i j, i < n → j < n → sweep k n n f i j = step f k i j := by
        intro i j hi hj
        rw [sweep_good (hd k hk) hcl.bnd hk n (Nat.le_refl _) i j hi hj, if_pos hi]
      have hs := hcl.step hd hn hk
      refine ⟨step f k, hl.congr e, hs, .inl fun i hi => ?_⟩
      have := hs.diag i hi
      have := hall i hi
      rw [e i i hi hi] at this
      omega
  · intro r hr; exact Ok.ret (.inr hr)
  · rintro l ⟨f, hl, hcl, hcase⟩
    refine Ok.ret (.inl ⟨rfl, f, hl, hcl, hcase.resolve_right fun h => by omega⟩)
end Go.Pw
