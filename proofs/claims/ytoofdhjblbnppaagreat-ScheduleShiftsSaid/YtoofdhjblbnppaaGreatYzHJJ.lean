/-
  The network's bounds and its solutions.
-/
import Derived.Test.YtoofdhjblbnppaaGreatYzHGG
import Derived.Test.YtoofdhjblbnppaaGreatYzNN
set_option linter.unusedVariables false
set_option linter.unusedSimpArgs false
namespace Go.Pw
section
variable {t : Temporal} {L S : List Launch}
theorem durL_len (t : Temporal) (S : List Launch) : (durL t S).length ≤ S.length * 3 := by
  have := flat_le (fun i : Nat => [(⟨2 * (i : Int) + 1, 0, 0⟩ : Bound), ⟨2 * (i : Int) + 2, 2 * (i : Int) + 1, -(jb t (lau S i)).Duration⟩, ⟨2 * (i : Int) + 1, 2 * (i : Int) + 2, (jb t (lau S i)).Duration⟩]) 3 (List.range S.length) (fun _ _ => by simp)
  rw [List.length_range] at this
  exact this
theorem ordL_len (t : Temporal) (S : List Launch) : (ordL t S).length ≤ S.length * (S.length * 4) := by
  have := flat_le (fun i => (List.range' (i + 1) (S.length - (i + 1))).flatMap fun k => ordP t S i k) (S.length * 4) (List.range S.length) (fun i hi => by
    have := flat_le (fun k => ordP t S i k) 4 (List.range' (i + 1) (S.length - (i + 1))) fun k _ => ordP_len t S i k
    rw [List.length_range'] at this
    exact Nat.le_trans this (Nat.mul_le_mul_right 4 (by omega)))
  rw [List.length_range] at this
  exact this
theorem ovrL_len (t : Temporal) (S : List Launch) : (ovrL t S).length ≤ S.length * (S.length * 2) := by
  have := flat_le (fun i => (List.range S.length).flatMap fun k => if k = i then [] else ovrB t S i (k, false) ++ ovrB t S i (k, true)) (S.length * 2) (List.range S.length) (fun i hi => by
    have := flat_le (fun k => if k = i then [] else ovrB t S i (k, false) ++ ovrB t S i (k, true)) 2 (List.range S.length) fun k _ => by
      split
      · simp
      · rw [List.length_append]; have := ovrB_len t S i (k, false); have := ovrB_len t S i (k, true); omega
    rw [List.length_range] at this
    exact this)
  rw [List.length_range] at this
  exact this
theorem repL_eq (S : List Launch) : repL S = (List.range S.length).flatMap (repB S) := rfl
theorem repL_len (S : List Launch) : (repL S).length ≤ S.length * 1 := by
  rw [repL_eq]
  have := flat_le (repB S) 1 (List.range S.length) (fun i _ => repB_len S i)
  rw [List.length_range] at this
  exact this
theorem BD_len (hl : S.length ≤ 63) : (BD t S).length ≤ 100000 := by
  have h1 := durL_len t S
  have h2 := ordL_len t S
  have h3 := ovrL_len t S
  have h4 := repL_len S
  have h5 : S.length * (S.length * 4) ≤ 63 * (63 * 4) := Nat.mul_le_mul hl (Nat.mul_le_mul_right 4 hl)
  have h6 : S.length * (S.length * 2) ≤ 63 * (63 * 2) := Nat.mul_le_mul hl (Nat.mul_le_mul_right 2 hl)
  unfold BD
  simp only [List.length_append]
  omega
theorem bounds_ok (hA : Acc t S) (hl : S.length ≤ 63) : schedule_plan_bounds_p (planOf t S) = some (BD t S, none) := by
  have hb := BD_len (t := t) hl
  unfold BD at hb
  simp only [List.length_append] at hb
  unfold schedule_plan_bounds_p
  rw [orders_ok hA hl, Option.bind_some]
  simp only [un2, Option.isSome_none, Bool.false_eq_true, if_false]
  rw [durations_ok hA hl (p := planOf t S) rfl rfl, Option.bind_some, app_ok (by omega), Option.bind_some, overs_ok hA hl, Option.bind_some, app_ok (by simp only [List.length_append]; omega), Option.bind_some, repeats_ok hl, Option.bind_some, app_ok (by simp only [List.length_append]; omega), Option.bind_some]
  rfl
/-! ### who is a bound -/
theorem mem_durL {b : Bound} : b ∈ durL t S ↔ ∃ i, i < S.length ∧ (b = ⟨2 * (i : Int) + 1, 0, 0⟩ ∨ b = ⟨2 * (i : Int) + 2, 2 * (i : Int) + 1, -(jb t (lau S i)).Duration⟩ ∨ b = ⟨2 * (i : Int) + 1, 2 * (i : Int) + 2, (jb t (lau S i)).Duration⟩) := by
  unfold durL
  simp only [List.mem_flatMap, List.mem_range, List.mem_cons, List.not_mem_nil, or_false]
theorem mem_ordB {b : Bound} {x y : Nat × Bool} : b ∈ ordB t S x y ↔ intX t S x y = true ∧ ((tmH t S x < tmH t S y ∧ b = ⟨ptH y, ptH x, -1⟩) ∨ (¬ tmH t S x < tmH t S y ∧ b = ⟨ptH x, ptH y, -1⟩)) := by
  unfold ordB
  cases intX t S x y with
  | false => simp
  | true => by_cases c : tmH t S x < tmH t S y <;> simp [c]
theorem mem_ordL {b : Bound} : b ∈ ordL t S ↔ ∃ x y : Nat × Bool, x.1 < y.1 ∧ y.1 < S.length ∧ b ∈ ordB t S x y := by
  unfold ordL ordP
  simp only [List.mem_flatMap, List.mem_range, List.mem_range'_1, List.mem_cons, List.not_mem_nil, or_false]
  constructor
  · rintro ⟨i, hi, k, hk, p, hp, hb⟩
    rcases hp with rfl | rfl | rfl | rfl <;> exact ⟨_, _, by simp only; omega, by simp only; omega, hb⟩
  · rintro ⟨⟨i, e⟩, ⟨k, f⟩, h1, h2, hb⟩
    refine ⟨i, by simp only at h1 h2; omega, k, by simp only at h1 h2; omega, ((i, e), (k, f)), ?_, hb⟩
    cases e <;> cases f <;> simp
theorem mem_ovrB {b : Bound} {i : Nat} {x : Nat × Bool} : b ∈ ovrB t S i x ↔ meetB (wrX t S x) (jb t (lau S i)).Over = true ∧ ((tmH t S x ≤ (lau S i).At ∧ b = ⟨2 * (i : Int) + 1, ptH x, 0⟩) ∨ (¬ tmH t S x ≤ (lau S i).At ∧ endT t (lau S i) ≤ tmH t S x ∧ b = ⟨ptH x, 2 * (i : Int) + 2, 0⟩)) := by
  unfold ovrB
  cases meetB (wrX t S x) (jb t (lau S i)).Over with
  | false => simp
  | true => by_cases c : tmH t S x ≤ (lau S i).At <;> by_cases d : endT t (lau S i) ≤ tmH t S x <;> simp [c, d]
theorem mem_ovrL {b : Bound} : b ∈ ovrL t S ↔ ∃ i, ∃ x : Nat × Bool, i < S.length ∧ x.1 < S.length ∧ x.1 ≠ i ∧ b ∈ ovrB t S i x := by
  unfold ovrL
  simp only [List.mem_flatMap, List.mem_range]
  constructor
  · rintro ⟨i, hi, k, hk, hb⟩
    by_cases c : k = i
    · simp [c] at hb
    · rw [if_neg c] at hb
      rcases List.mem_append.1 hb with hb | hb
      · exact ⟨i, _, hi, hk, c, hb⟩
      · exact ⟨i, _, hi, hk, c, hb⟩
  · rintro ⟨i, ⟨k, e⟩, hi, hk, hne, hb⟩
    refine ⟨i, hi, k, hk, ?_⟩
    rw [if_neg hne]
    cases e
    · exact List.mem_append_left _ hb
    · exact List.mem_append_right _ hb
theorem mem_repL {b : Bound} : b ∈ repL S ↔ ∃ i k, i < k ∧ k < S.length ∧ (lau S k).Job = (lau S i).Job ∧ (∀ m, i < m → m < k → (lau S m).Job ≠ (lau S i).Job) ∧ b = ⟨2 * (k : Int) + 1, 2 * (i : Int) + 2, -1⟩ := by
  rw [repL_eq]
  simp only [List.mem_flatMap, List.mem_range]
  constructor
  · rintro ⟨i, hi, hb⟩
    unfold repB at hb
    cases h : nextJ S i with
    | none => rw [h] at hb; cases hb
    | some k =>
      rw [h] at hb
      obtain ⟨a, b', c, d⟩ := nextJ_is h
      exact ⟨i, k, a, b', c, d, by simpa using hb⟩
  · rintro ⟨i, k, h1, h2, h3, h4, rfl⟩
    refine ⟨i, by omega, ?_⟩
    unfold repB
    rw [nextJ_some h1 h2 h3 h4]
    simp
theorem mem_BD {b : Bound} : b ∈ BD t S ↔ b ∈ durL t S ∨ b ∈ ordL t S ∨ b ∈ ovrL t S ∨ b ∈ repL S := by
  unfold BD; simp only [List.mem_append, or_assoc]
def ptN (x : Nat × Bool) : Nat := if x.2 then 2 * x.1 + 2 else 2 * x.1 + 1
theorem ptH_N (x : Nat × Bool) : ptH x = (ptN x : Int) := by unfold ptH ptN; split <;> omega
theorem ptN_lt {x : Nat × Bool} {n : Nat} (h : x.1 < n) : ptN x < 2 * n + 1 := by unfold ptN; split <;> omega
theorem BD_rt (hA : Acc t S) : ∀ b ∈ BD t S, Rt (2 * S.length + 1) b := by
  intro b hb
  rcases mem_BD.1 hb with h | h | h | h
  · obtain ⟨i, hi, h⟩ := mem_durL.1 h
    have := (hA.chk.job _ (jb_mem (hA.ok _ (lau_mem hi)))).dur
    rcases h with rfl | rfl | rfl <;> exact ⟨by simp only; omega, by simp only; omega, by simp only; omega, by simp only; omega, by simp only; omega, by simp only; omega⟩
  · obtain ⟨x, y, h1, h2, h⟩ := mem_ordL.1 h
    obtain ⟨_, h⟩ := mem_ordB.1 h
    have p1 := ptN_lt (x := x) (n := S.length) (by omega)
    have p2 := ptN_lt (x := y) (n := S.length) (by omega)
    have q1 := ptH_N x
    have q2 := ptH_N y
    rcases h with ⟨_, rfl⟩ | ⟨_, rfl⟩ <;> exact ⟨by simp only; omega, by simp only; omega, by simp only; omega, by simp only; omega, by simp only; omega, by simp only; omega⟩
  · obtain ⟨i, x, h1, h2, h3, h⟩ := mem_ovrL.1 h
    obtain ⟨_, h⟩ := mem_ovrB.1 h
    have p1 := ptN_lt h2
    have q1 := ptH_N x
    rcases h with ⟨_, rfl⟩ | ⟨_, _, rfl⟩ <;> exact ⟨by simp only; omega, by simp only; omega, by simp only; omega, by simp only; omega, by simp only; omega, by simp only; omega⟩
  · obtain ⟨i, k, h1, h2, _, _, rfl⟩ := mem_repL.1 h
    exact ⟨by simp only; omega, by simp only; omega, by simp only; omega, by simp only; omega, by simp only; omega, by simp only; omega⟩
theorem Sat.of' {E : List Bound} {T : Nat → Int} (h : ∀ b ∈ E, T b.B.toNat - T b.A.toNat ≤ b.Most) : Sat E T := by
  rintro i j c ⟨b, hb, h1, h2, rfl⟩
  have := h b hb
  rw [h1, h2] at this
  simpa using this
theorem Sat.get {E : List Bound} {T : Nat → Int} (h : Sat E T) {b : Bound} (hb : b ∈ E) {i j : Nat} (hi : b.A = (i : Int)) (hj : b.B = (j : Int)) : T j - T i ≤ b.Most := h i j b.Most ⟨b, hb, hi, hj, rfl⟩
/-- The times of all points, from the launches'. -/
def tmN (t : Temporal) (S : List Launch) (U : Nat → Int) (p : Nat) : Int := if p = 0 then 0 else if p % 2 = 1 then U (p / 2) else U (p / 2 - 1) + (jb t (lau S (p / 2 - 1))).Duration
theorem tmN_pt {U : Nat → Int} (x : Nat × Bool) : tmN t S U (ptN x) = tmU t S U x := by
  obtain ⟨i, b⟩ := x
  cases b
  · show tmN t S U (2 * i + 1) = U i
    unfold tmN
    rw [if_neg (by omega), if_pos (by omega), show (2 * i + 1) / 2 = i by omega]
  · show tmN t S U (2 * i + 2) = U i + _
    unfold tmN
    rw [if_neg (by omega), if_neg (by omega), show (2 * i + 2) / 2 - 1 = i by omega]; rfl
theorem tmN_start {U : Nat → Int} (i : Nat) : tmN t S U (2 * i + 1) = U i := tmN_pt (i, false)
theorem tmN_end {U : Nat → Int} (i : Nat) : tmN t S U (2 * i + 2) = U i + (jb t (lau S i)).Duration := tmN_pt (i, true)
theorem Sol.sat {U : Nat → Int} (h : Sol t S U) (hA : Acc t S) (hF : Fine t S) : Sat (BD t S) (tmN t S U) := by
  refine Sat.of' fun b hb => ?_
  have e1 : ∀ i : Nat, (2 * (i : Int) + 1).toNat = 2 * i + 1 := fun i => by omega
  have e2 : ∀ i : Nat, (2 * (i : Int) + 2).toNat = 2 * i + 2 := fun i => by omega
  rcases mem_BD.1 hb with g | g | g | g
  · obtain ⟨i, hi, g⟩ := mem_durL.1 g
    rcases g with rfl | rfl | rfl
    · simp only [e1, tmN_start, Int.toNat_zero]
      have := h.st i hi
      have e0 : tmN t S U 0 = 0 := rfl
      omega
    · simp only [e1, e2, tmN_start, tmN_end]; omega
    · simp only [e1, e2, tmN_start, tmN_end]; omega
  · obtain ⟨x, y, h1, h2, g⟩ := mem_ordL.1 g
    obtain ⟨hi, q⟩ := mem_ordB.1 g
    have hx : x.1 < S.length := by omega
    rcases q with ⟨q, rfl⟩ | ⟨q, rfl⟩
    · simp only [ptH_N, Int.toNat_natCast, tmN_pt]
      have := h.od x y hx h2 (by omega) hi q; omega
    · simp only [ptH_N, Int.toNat_natCast, tmN_pt]
      have hne : tmH t S x ≠ tmH t S y := fun e => by
        have := hF.ni _ x y hx h2 e rfl (fun e => by subst e; omega)
        rw [hi] at this; cases this
      have := h.od y x h2 hx (by omega) (by rw [intX_comm]; exact hi) (by omega); omega
  · obtain ⟨i, x, h1, h2, h3, g⟩ := mem_ovrL.1 g
    obtain ⟨hm, q⟩ := mem_ovrB.1 g
    rcases q with ⟨q, rfl⟩ | ⟨_, q, rfl⟩
    · simp only [ptH_N, Int.toNat_natCast, tmN_pt, e1, tmN_start]
      have := h.o1 i x h1 h2 h3 hm q; omega
    · simp only [ptH_N, Int.toNat_natCast, tmN_pt, e2, tmN_end]
      have := h.o2 i x h1 h2 h3 hm q; omega
  · obtain ⟨i, k, h1, h2, h3, h4, rfl⟩ := mem_repL.1 g
    simp only [e1, e2, tmN_start, tmN_end]
    have := h.rp i k h1 h2 h3 h4; omega
theorem Sat.dur {T : Nat → Int} (h : Sat (BD t S) T) {i : Nat} (hi : i < S.length) : T (2 * i + 2) = T (2 * i + 1) + (jb t (lau S i)).Duration := by
  have h1 := h.get (mem_BD.2 (.inl (mem_durL.2 ⟨i, hi, .inr (.inl rfl)⟩))) (i := 2 * i + 2) (j := 2 * i + 1) (by simp) (by simp)
  have h2 := h.get (mem_BD.2 (.inl (mem_durL.2 ⟨i, hi, .inr (.inr rfl)⟩))) (i := 2 * i + 1) (j := 2 * i + 2) (by simp) (by simp)
  simp only at h1 h2
  omega
theorem Sat.tmU {T : Nat → Int} (h : Sat (BD t S) T) {x : Nat × Bool} (hx : x.1 < S.length) : Go.Pw.tmU t S (fun i => T (2 * i + 1)) x = T (ptN x) := by
  obtain ⟨i, b⟩ := x
  cases b
  · rfl
  · exact (h.dur hx).symm
theorem Sat.sol {T : Nat → Int} (h : Sat (BD t S) T) (h0 : T 0 = 0) (hA : Acc t S) : Sol t S fun i => T (2 * i + 1) := by
  refine ⟨fun i hi => ?_, fun x y hx hy hne hi hlt => ?_, fun i x hi hx hne hm hle => ?_, fun i x hi hx hne hm hle => ?_, fun i k hik hk hj hm => ?_⟩
  · have h1 := h.get (mem_BD.2 (.inl (mem_durL.2 ⟨i, hi, .inl rfl⟩))) (i := 2 * i + 1) (j := 0) (by simp) (by simp)
    simp only at h1
    omega
  · rw [h.tmU hx, h.tmU hy]
    have key : (⟨ptH y, ptH x, -1⟩ : Bound) ∈ BD t S := by
      refine mem_BD.2 (.inr (.inl (mem_ordL.2 ?_)))
      rcases Nat.lt_or_gt_of_ne hne with c | c
      · exact ⟨x, y, c, hy, mem_ordB.2 ⟨hi, .inl ⟨hlt, rfl⟩⟩⟩
      · exact ⟨y, x, c, hx, mem_ordB.2 ⟨by rw [intX_comm]; exact hi, .inr ⟨by omega, rfl⟩⟩⟩
    have := h.get key (ptH_N y) (ptH_N x)
    simp only at this
    omega
  · rw [h.tmU hx]
    have key : (⟨2 * (i : Int) + 1, ptH x, 0⟩ : Bound) ∈ BD t S := mem_BD.2 (.inr (.inr (.inl (mem_ovrL.2 ⟨i, x, hi, hx, hne, mem_ovrB.2 ⟨hm, .inl ⟨hle, rfl⟩⟩⟩))))
    have := h.get key (i := 2 * i + 1) (by simp) (ptH_N x)
    simp only at this
    show T (ptN x) ≤ T (2 * i + 1)
    omega
  · rw [h.tmU hx]
    have hlt := endT_gt hA.chk (hA.ok _ (lau_mem hi))
    have key : (⟨ptH x, 2 * (i : Int) + 2, 0⟩ : Bound) ∈ BD t S := mem_BD.2 (.inr (.inr (.inl (mem_ovrL.2 ⟨i, x, hi, hx, hne, mem_ovrB.2 ⟨hm, .inr ⟨by omega, hle, rfl⟩⟩⟩))))
    have := h.get key (j := 2 * i + 2) (ptH_N x) (by simp)
    simp only at this
    have := h.dur hi
    show T (2 * i + 1) + _ ≤ T (ptN x)
    omega
  · have key : (⟨2 * (k : Int) + 1, 2 * (i : Int) + 2, -1⟩ : Bound) ∈ BD t S := mem_BD.2 (.inr (.inr (.inr (mem_repL.2 ⟨i, k, hik, hk, hj, hm, rfl⟩))))
    have := h.get key (i := 2 * k + 1) (j := 2 * i + 2) (by simp) (by simp)
    simp only at this
    have := h.dur (i := i) (by omega)
    show T (2 * i + 1) + _ + 1 ≤ T (2 * k + 1)
    omega
end
end Go.Pw
/-
  The network of a plan, its earliest times.
-/
namespace Go.Pw
theorem Sat.sub {E E' : List Bound} {T : Nat → Int} (h : Sat E' T) (hs : ∀ b ∈ E, b ∈ E') : Sat E T := fun i j c hc => h i j c (GrOf.sub hs i j c hc)
theorem adds_ok {n : Nat} (hn : n ≤ 128) {T : Nat → Int} {E0 E1 : List Bound} (hr : ∀ b ∈ E1, Rt n b) (hs : Sat (E0 ++ E1) T) {d0 : List (List Int)} (h0 : Net n E0 d0) {R : Type} (f : Option Int → R) :
    ∃ d, Net n (E0 ++ E1) d ∧ forC (fun i l => (idx E1 (i : Int)).bind fun x => (stn_Network_Add_p ⟨l⟩ x).bind <| un2 fun e l1 => if e.isSome then some (Ctl.ret (f e)) else some (Ctl.next l1)) E1.length 0 d0 = some (Ctl.next d) := by
  obtain ⟨c, h1, h2⟩ := forC_inv0 (n := E1.length) (s := d0) (B := fun i l => (idx E1 (i : Int)).bind fun x => (stn_Network_Add_p ⟨l⟩ x).bind <| un2 fun e l1 => if e.isSome then some (Ctl.ret (f e)) else some (Ctl.next l1)) (fun j l => Net n (E0 ++ E1.take j) l) (fun _ => False) (by simpa using h0) fun j l hj hl => by
    have e : E0 ++ E1.take (j + 1) = (E0 ++ E1.take j) ++ [E1[j]] := by rw [take_snoc hj, List.append_assoc]
    obtain ⟨r, g1, d', rfl, g2⟩ := Add_sat hn hl (hr _ (List.getElem_mem hj)) (b := E1[j]) (t := T) (by
      rw [← e]
      exact hs.sub fun b hb => by
        rcases List.mem_append.1 hb with hb | hb
        · exact List.mem_append_left _ hb
        · exact List.mem_append_right _ (List.mem_of_mem_take hb))
    refine ⟨.next d', ?_, by rw [e]; exact g2⟩
    rw [idx_nat, List.getElem?_eq_getElem hj, Option.bind_some, g1]
    rfl
  cases c with
  | next d => exact ⟨d, by rw [List.take_length] at h2; exact h2, h1⟩
  | brk d => exact h2.elim
  | ret r => exact h2.elim
section
variable {t : Temporal} {L S : List Launch}
theorem network_ok (hA : Acc t S) (hl : S.length ≤ 63) {T : Nat → Int} (hs : Sat (BD t S) T) : ∃ d, Net (2 * S.length + 1) (BD t S) d ∧ schedule_plan_network_p (planOf t S) = some (some ⟨d⟩, none) := by
  unfold schedule_plan_network_p
  rw [bounds_ok hA hl, Option.bind_some]
  simp only [un2, Option.isSome_none, Bool.false_eq_true, if_false]
  rw [show (planOf t S).launches = S from rfl, wrap_id (n := 2 * (S.length : Int)) (by omega) (by omega), wrap_id (by omega) (by omega), show 2 * (S.length : Int) + 1 = ((2 * S.length + 1 : Nat) : Int) by omega]
  obtain ⟨r, h1, d0, rfl, h2⟩ := New_ok (n := 2 * S.length + 1) (by omega) (by omega)
  rw [h1, Option.bind_some]
  obtain ⟨d, h3, h4⟩ := adds_ok (n := 2 * S.length + 1) (by omega) (BD_rt hA) (by simpa using hs) (Net.new h2) (R := Option stn_Network × Option Int) (fun e => (none, e))
  refine ⟨d, by simpa using h3, ?_⟩
  show ctl _ _ _ = _
  unfold un2 at h4
  unfold ctl
  rw [show (forC (R := Option stn_Network × Option Int) _ _ _ _) = _ from h4]
  rfl
/-- The least times. -/
structure Least (t : Temporal) (S : List Launch) (f : MM) : Prop where
  fin : ∀ i, i < S.length → f (2 * i + 1) 0 < 1125899906842624
  sat : Sat (BD t S) (fun p => -(f p 0))
  zero : f 0 0 = 0
  rng : ∀ i, i < S.length → -140737488355328 ≤ f (2 * i + 1) 0
  all : ∀ p, p < 2 * S.length + 1 → f p 0 < 1125899906842624
  le : ∀ T, Sat (BD t S) T → T 0 = 0 → ∀ p, p < 2 * S.length + 1 → -(f p 0) ≤ T p
theorem least_of (hA : Acc t S) (hl : S.length ≤ 63) {f : MM} (hcl : Cl (GrOf (BD t S)) (2 * S.length + 1) (2 * S.length + 1) f) (hdi : ∀ i, i < 2 * S.length + 1 → f i i = 0) : Least t S f := by
  have g1 : ∀ i, i < S.length → GrOf (BD t S) (2 * i + 1) 0 0 := fun i hi => ⟨_, mem_BD.2 (.inl (mem_durL.2 ⟨i, hi, .inl rfl⟩)), by simp, by simp, rfl⟩
  have g2 : ∀ i, i < S.length → GrOf (BD t S) (2 * i + 2) (2 * i + 1) (-(jb t (lau S i)).Duration) := fun i hi => ⟨_, mem_BD.2 (.inl (mem_durL.2 ⟨i, hi, .inr (.inl rfl)⟩)), by simp, by simp, rfl⟩
  have h0 : f 0 0 = 0 := hdi 0 (by omega)
  have h1 : ∀ i, i < S.length → f (2 * i + 1) 0 < 1125899906842624 := fun i hi => (hcl.all (Wk.one (g1 i hi)) (by omega)).2
  have h2 : ∀ i, i < S.length → f (2 * i + 2) 0 < 1125899906842624 := fun i hi => (hcl.all ((Wk.one (g2 i hi)).app (Wk.one (g1 i hi))) (by omega)).2
  have hall : ∀ p, p < 2 * S.length + 1 → f p 0 < 1125899906842624 := fun p hp => by
    by_cases c : p = 0
    · subst c; rw [h0]; omega
    · by_cases c2 : p % 2 = 1
      · rw [show p = 2 * (p / 2) + 1 by omega]; exact h1 _ (by omega)
      · rw [show p = 2 * (p / 2 - 1) + 2 by omega]; exact h2 _ (by omega)
  refine ⟨h1, ?_, h0, fun i hi => (hcl.fine hdi (by omega) (by omega) (by omega) (h1 i hi)).1, hall, fun T hT hT0 p hp => ?_⟩
  · intro i j c hc
    obtain ⟨b1, b2, _⟩ := hcl.ok i j c hc
    obtain ⟨Lj, hLj, _⟩ := hcl.snd j 0 b2 (by omega) (hall j b2)
    have := (hcl.all ((Wk.one hc).app hLj) b1).1
    show -(f j 0) - -(f i 0) ≤ c
    omega
  · have := hT.le hcl hp (j := 0) (by omega) (hall p hp)
    rw [hT0] at this
    omega
theorem shift_p_ok (hA : Acc t S) (hl : S.length ≤ 63) {d : List (List Int)} {f : MM} (hd : Mx (2 * S.length + 1) d f) (hf : Least t S f) : schedule_plan_shift_p (planOf t S) ⟨d⟩ = some (LU S fun i => -(f (2 * i + 1) 0), none) := by
  unfold schedule_plan_shift_p
  rw [show (planOf t S).launches = S from rfl]
  refine Ok.eq (Ok.ctl (fun j out => out = (LU S fun i => -(f (2 * i + 1) 0)).take j) (fun _ => False) (by simp) ?_ (fun r hr => hr.elim) fun s hs => ⟨_, rfl, ?_⟩)
  · rintro j out hj rfl
    refine Ok.step (by rw [idx_nat]; exact lau_get hj) ?_
    rw [start_ok (by omega), show 2 * (j : Int) + 1 = ((2 * j + 1 : Nat) : Int) by omega, Earliest_in hd (by omega) (p := 2 * j + 1) (by omega) (fun _ => by have := hf.rng j hj; omega), if_pos (hf.fin j hj), Option.bind_some]
    simp only [un2, Option.isSome_none, Bool.false_eq_true, if_false]
    refine Ok.step (app_ok (by simp [LU_len]; omega)) ⟨_, rfl, ?_⟩
    have hj' : j < (LU S fun i => -(f (2 * i + 1) 0)).length := by rw [LU_len]; exact hj
    rw [take_snoc hj']
    have e : (LU S fun i => -(f (2 * i + 1) 0))[j] = lau (LU S fun i => -(f (2 * i + 1) 0)) j := by simp [lau, hj']
    rw [e, LU_lau hj]
    exact rfl
  · rw [hs, ← LU_len S (fun i => -(f (2 * i + 1) 0)), List.take_length]
/-- What Shift returns: the least solution. -/
structure Shifted (t : Temporal) (S : List Launch) (U : Nat → Int) : Prop where
  sol : Sol t S U
  le : ∀ V, Sol t S V → ∀ i, i < S.length → U i ≤ V i
theorem Least.shifted {f : MM} (h : Least t S f) (hA : Acc t S) (hF : Fine t S) : Shifted t S fun i => -(f (2 * i + 1) 0) := by
  refine ⟨h.sat.sol (by show -(f 0 0) = 0; rw [h.zero]; rfl) hA, fun V hV i hi => ?_⟩
  have := h.le _ (hV.sat hA hF) rfl (2 * i + 1) (by omega)
  rw [tmN_start] at this
  exact this
theorem Shift_ok (ht : Tight t) (hA : Acc t L) (hF : Fine t L) (hl : L.length ≤ 63) : ∃ f d, Net (2 * (srtL L).length + 1) (BD t (srtL L)) d ∧ Mx (2 * (srtL L).length + 1) d f ∧ Cl (GrOf (BD t (srtL L))) (2 * (srtL L).length + 1) (2 * (srtL L).length + 1) f ∧ (∀ i, i < 2 * (srtL L).length + 1 → f i i = 0) ∧
    schedule_plan_network_p (planOf t (srtL L)) = some (some ⟨d⟩, none) ∧ schedule_plan_shift_p (planOf t (srtL L)) ⟨d⟩ = some (LU (srtL L) fun i => -(f (2 * i + 1) 0), none) ∧ Least t (srtL L) f ∧ schedule_Shift_p t L = some (LU (srtL L) fun i => -(f (2 * i + 1) 0), none) := by
  have hAS := hA.perm (srtL_perm L).symm
  have hFS := hF.perm (srtL_perm L).symm
  have hlS : (srtL L).length ≤ 63 := by rw [(srtL_perm L).length_eq]; exact hl
  obtain ⟨d, hN, hnet⟩ := network_ok hAS hlS ((Sol.self hAS hFS (SL.of (srtL_le L))).sat hAS hFS)
  obtain ⟨_, f, hd, hcl, hdi⟩ := id hN
  have hle := least_of hAS hlS hcl hdi
  have hsh := shift_p_ok hAS hlS hd hle
  refine ⟨f, d, hN, hd, hcl, hdi, hnet, hsh, hle, ?_⟩
  unfold schedule_Shift_p
  rw [read_ok ht hA hF hl, Option.bind_some]
  simp only [un2, optC, Option.isSome_none, Bool.false_eq_true, if_false]
  rw [hnet, Option.bind_some]
  simp only [un2, optC, Option.isSome_none, Bool.false_eq_true, if_false]
  rw [hsh, Option.bind_some]
end
/-! ### the reference's sort -/
theorem lau_set {l : List Launch} {i a : Nat} {x : Launch} (hi : i < l.length) : lau (l.set i x) a = if a = i then x else lau l a := by
  unfold lau
  rw [List.getElem!_eq_getElem?_getD, List.getElem!_eq_getElem?_getD]
  by_cases c : a = i
  · subst c; rw [List.getElem?_set_self hi, if_pos rfl]; rfl
  · rw [List.getElem?_set_ne (Ne.symm c), if_neg c]
theorem Sorted_ok {L : List Launch} (hl : L.length ≤ 4096) : ref56_Sorted_p L = some (srtL L) := by
  unfold ref56_Sorted_p
  rw [app_ok (by simp; omega), Option.bind_some, List.nil_append]
  refine Ok.eq (Ok.bind (Ok.forS (fun i l => l.Perm L ∧ ∀ a b, a < b → b < i → LeL (lau l a) (lau l b)) ⟨.refl _, fun a b h1 h2 => by omega⟩ ?_ fun l hl' => ⟨l, rfl, ?_⟩))
  · rintro i l hi ⟨hp, hs⟩
    have hlen := hp.length_eq
    refine Ok.while (fun q => ∃ k : Nat, q.1 = (k : Int) ∧ k ≤ i ∧ q.2.Perm L ∧ ∀ a b, a < b → b ≤ i → b ≠ k → LeL (lau q.2 a) (lau q.2 b)) (fun q => q.2.Perm L ∧ ∀ a b, a < b → b < i + 1 → LeL (lau q.2 a) (lau q.2 b)) (fun _ => False) (fun q => q.1.toNat) ⟨i, rfl, Nat.le_refl _, hp, fun a b h1 h2 h3 => hs a b h1 (by omega)⟩ ?_ (fun r hr => hr.elim) fun q hq => ⟨q.2, rfl, hq⟩
    rintro ⟨k', l⟩ ⟨k, hk, hki, hp, hs⟩
    simp only at hk hp hs
    subst hk
    have hlen := hp.length_eq
    have done : (k = 0 ∨ ∃ m, k = m + 1 ∧ LeL (lau l m) (lau l k)) → ∀ a b, a < b → b < i + 1 → LeL (lau l a) (lau l b) := fun h a b h1 h2 => by
      by_cases c : b = k
      · subst c
        rcases h with h | ⟨m, rfl, h⟩
        · omega
        · by_cases e : a = m
          · subst e; exact h
          · have h3 := hs a m (by omega) (by omega) (by omega)
            unfold LeL at *; omega
      · exact hs a b h1 (by omega) c
    cases k with
    | zero =>
      refine ⟨_, rfl, (fun s' e => by cases e), fun s' e => ?_, (fun r e => by cases e)⟩
      cases e
      exact ⟨hp, done (.inl rfl)⟩
    | succ m =>
      have hm1 : m + 1 < l.length := by omega
      have gx : idx l ((m + 1 : Nat) : Int) = some (lau l (m + 1)) := by rw [idx_nat]; exact lau_get hm1
      have gy : idx l (m : Int) = some (lau l m) := by rw [idx_nat]; exact lau_get (by omega)
      have ew : IntKind.i64.wrap (((m + 1 : Nat) : Int) - 1) = (m : Int) := by rw [wrap_id (by omega) (by omega)]; omega
      simp only [un2, ew, gx, gy, Option.bind_some]
      rw [if_pos (by simp)]
      have stop : LeL (lau l m) (lau l (m + 1)) → ∃ c, (some (Ctl.brk (((m + 1 : Nat) : Int), l)) : Option (Ctl (Int × List Launch) (List Launch))) = some c ∧ (∀ s', c = .next s' → (∃ k : Nat, s'.1 = (k : Int) ∧ k ≤ i ∧ s'.2.Perm L ∧ ∀ a b, a < b → b ≤ i → b ≠ k → LeL (lau s'.2 a) (lau s'.2 b)) ∧ s'.1.toNat < ((m + 1 : Nat) : Int).toNat) ∧ (∀ s', c = .brk s' → s'.2.Perm L ∧ ∀ a b, a < b → b < i + 1 → LeL (lau s'.2 a) (lau s'.2 b)) ∧ (∀ r, c = .ret r → False) := fun h =>
        ⟨_, rfl, (fun s' e => by cases e), (fun s' e => by cases e; exact ⟨hp, done (.inr ⟨m, rfl, h⟩)⟩), (fun r e => by cases e)⟩
      have go : ¬ LeL (lau l m) (lau l (m + 1)) → ∃ c, ((setI l ((m + 1 : Nat) : Int) (lau l m)).bind fun l104 => (idx l104 (m : Int)).bind fun x104 => (setI l104 (m : Int) (lau l (m + 1))).bind fun l105 => (some (Ctl.next ((m : Int), l105)) : Option (Ctl (Int × List Launch) (List Launch)))) = some c ∧ (∀ s', c = .next s' → (∃ k : Nat, s'.1 = (k : Int) ∧ k ≤ i ∧ s'.2.Perm L ∧ ∀ a b, a < b → b ≤ i → b ≠ k → LeL (lau s'.2 a) (lau s'.2 b)) ∧ s'.1.toNat < ((m + 1 : Nat) : Int).toNat) ∧ (∀ s', c = .brk s' → s'.2.Perm L ∧ ∀ a b, a < b → b < i + 1 → LeL (lau s'.2 a) (lau s'.2 b)) ∧ (∀ r, c = .ret r → False) := fun h => by
        rw [setI_nat hm1, Option.bind_some, idx_nat, lau_get (by simp; omega), Option.bind_some, setI_nat (by simp; omega), Option.bind_some]
        refine ⟨_, rfl, fun s' e => ?_, (fun s' e => by cases e), (fun r e => by cases e)⟩
        cases e
        refine ⟨⟨m, rfl, by omega, ?_, fun a b h1 h2 h3 => ?_⟩, by simp⟩
        · have e1 : lau l m = l[m] := by simp [lau, show m < l.length by omega]
          have e2 : lau l (m + 1) = l[m + 1] := by simp [lau, hm1]
          rw [e1, e2]
          exact (List.set_set_perm hm1 (by omega)).trans hp
        · have hla : ∀ a, lau ((l.set (m + 1) (lau l m)).set m (lau l (m + 1))) a = if a = m then lau l (m + 1) else if a = m + 1 then lau l m else lau l a := fun a => by
            rw [lau_set (by simp; omega), lau_set hm1]
          show LeL (lau ((l.set (m + 1) (lau l m)).set m (lau l (m + 1))) a) (lau ((l.set (m + 1) (lau l m)).set m (lau l (m + 1))) b)
          rw [hla a, hla b]
          by_cases c1 : b = m + 1
          · subst c1
            rw [if_neg (by omega : ¬ m + 1 = m), if_pos rfl]
            by_cases c2 : a = m
            · subst c2; rw [if_pos rfl]; unfold LeL at *; omega
            · rw [if_neg c2, if_neg (by omega)]
              exact hs a m (by omega) (by omega) (by omega)
          · rw [if_neg h3, if_neg c1]
            by_cases c2 : a = m
            · subst c2; rw [if_pos rfl]
              exact hs (a + 1) b (by omega) h2 c1
            · rw [if_neg c2]
              by_cases c3 : a = m + 1
              · subst c3; rw [if_pos rfl]
                exact hs m b (by omega) h2 c1
              · rw [if_neg c3]; exact hs a b h1 h2 c1
      by_cases c1 : (lau l (m + 1)).At < (lau l m).At
      · simp only [c1, decide_true, if_true, Option.bind_some]
        exact go (by unfold LeL; omega)
      · by_cases c2 : (lau l (m + 1)).At = (lau l m).At
        · by_cases c3 : (lau l (m + 1)).Job < (lau l m).Job
          · simp only [c1, c2, c3, decide_true, decide_false, Bool.false_eq_true, if_true, if_false, Option.bind_some]
            simp only [Int.lt_irrefl, decide_false, Bool.false_eq_true, if_false, Option.bind_some, if_true]
            exact go (by unfold LeL; omega)
          · simp only [c1, c2, c3, decide_true, decide_false, Bool.false_eq_true, if_true, if_false, Option.bind_some]
            simp only [Int.lt_irrefl, decide_false, Bool.false_eq_true, if_false, Option.bind_some]
            exact stop (by unfold LeL; omega)
        · simp only [c1, c2, decide_true, decide_false, Bool.false_eq_true, if_true, if_false, Option.bind_some]
          exact stop (by unfold LeL; omega)
  · obtain ⟨hp, hs⟩ := hl'
    refine (srtL_uniq hp (List.pairwise_iff_getElem.2 fun a b ha hb hab => ?_)).symm
    have := hs a b hab (by rw [← hp.length_eq]; exact hb)
    have e1 : lau l a = l[a] := by simp [lau, ha]
    have e2 : lau l b = l[b] := by simp [lau, hb]
    rw [e1, e2] at this
    exact this
end Go.Pw
