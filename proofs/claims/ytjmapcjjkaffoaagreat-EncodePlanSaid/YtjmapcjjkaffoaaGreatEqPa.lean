/-
  The example of chapter 21 is awake, in plain Lean.
-/
import Derived.Test.YtjmapcjjkaffoaaGreatEqP
import Derived.Test.YtjmapcjjkaffoaaGreatB1
set_option maxHeartbeats 8000000
set_option maxRecDepth 100000
set_option linter.unusedSimpArgs false
set_option linter.unusedVariables false
namespace Go.Pw
section
variable {α β S R : Type}
theorem at_eq {x : Option α} {f : α → Option β} (a : α) (h : x = some a) {r : Option β} (k : f a = r) : x.bind f = r := by rw [h]; exact k
theorem forS1 {B : Nat → S → Option S} {s s1 : S} (h0 : B 0 s = some s1) : forS B 1 0 s = some s1 := by simp [forS, h0]
theorem forS2 {B : Nat → S → Option S} {s s2 : S} (s1 : S) (h0 : B 0 s = some s1) (h1 : B 1 s1 = some s2) : forS B 2 0 s = some s2 := by simp [forS, h0, h1]
theorem forC1 {B : Nat → S → Option (Ctl S R)} {s s1 : S} (h0 : B 0 s = some (.next s1)) : forC B 1 0 s = some (.next s1) := by simp [forC, h0]
theorem forC2 {B : Nat → S → Option (Ctl S R)} {s s2 : S} (s1 : S) (h0 : B 0 s = some (.next s1)) (h1 : B 1 s1 = some (.next s2)) : forC B 2 0 s = some (.next s2) := by simp [forC, h0, h1]
theorem ctlN {x : Option (Ctl S R)} {kr : R → Option β} {k : S → Option β} (s : S) (h : x = some (.next s)) {r : Option β} (e : k s = r) : ctl x kr k = r := by rw [h]; exact e
theorem ctlW {B : S → Option (Ctl S R)} {s : S} {kr : R → Option β} {k : S → Option β} (n : Nat) (c : Ctl S R) (h : iterC B n s = some c) {r : Option β} (e : ctl (some c) kr k = r) : ctl (whileC B s) kr k = r := by
  rw [whileC_of h]; exact e
end
def op0 : GOp := ⟨⟨#[40, 109, 111, 118, 101, 41]⟩, 3, ⟨[0], [2], []⟩, [⟨⟨[], [], []⟩, 0, false⟩, ⟨⟨[], [], []⟩, 1, true⟩], []⟩
def sam : Ground := ⟨[⟨⟨#[97, 116]⟩, [⟨#[97]⟩]⟩, ⟨⟨#[97, 116]⟩, [⟨#[98]⟩]⟩, ⟨⟨#[112]⟩, []⟩], [], [0], [⟨[1], [], []⟩], [op0]⟩
theorem sam_eq : law21_sample_t = sam := by with_unfolding_all rfl
/-! ### the groups -/
theorem bs0 : slices_BinarySearch_int_p [0, 1] 0 = some (0, true) := by
  unfold slices_BinarySearch_int_p
  exact ctlW 3 (.brk (0, 0)) (by with_unfolding_all rfl) (by with_unfolding_all rfl)
theorem bs1 : slices_BinarySearch_int_p [0, 1] 1 = some (1, true) := by
  unfold slices_BinarySearch_int_p
  exact ctlW 3 (.brk (1, 1)) (by with_unfolding_all rfl) (by with_unfolding_all rfl)
abbrev ch0 : GChange := ⟨⟨[], [], []⟩, 0, false⟩
abbrev ch1 : GChange := ⟨⟨[], [], []⟩, 1, true⟩
theorem sit_ok : invariant_situation_p op0 [ch1] 0 [0, 1] = some (true, ⟨[(0, true)], [(2, true), (1, true)]⟩) := by
  unfold invariant_situation_p
  refine at_eq ([(0, true)], [(2, true)]) (by with_unfolding_all rfl) ?_
  refine at_eq ([(0, true)], [(2, true)]) (by with_unfolding_all rfl) ?_
  refine at_eq [(0, true)] (by with_unfolding_all rfl) ?_
  refine at_eq [(2, true), (1, true)] (by with_unfolding_all rfl) ?_
  exact rangeC_eq (by decide) fun ord h => by rw [List.perm_singleton.1 h]; with_unfolding_all rfl
theorem keeps_ok : invariant_keeps_p op0 [0, 1] = some true := by
  unfold invariant_keeps_p
  refine at_eq [ch1] (forS2 [] (at_eq ch0 rfl (at_eq (0, true) bs0 (by with_unfolding_all rfl))) (at_eq ch1 rfl (at_eq (1, true) bs1 (by with_unfolding_all rfl)))) ?_
  refine ctlN ([ch1], [ch1]) (forC1 ?_) (by with_unfolding_all rfl)
  refine at_eq ch1 rfl ?_
  refine at_eq [] (by with_unfolding_all rfl) ?_
  refine ctlN () (by with_unfolding_all rfl) ?_
  refine ctlN () (forC2 () ?_ (by with_unfolding_all rfl)) rfl
  refine at_eq (0 : Int) rfl ?_
  rw [if_neg (by decide)]
  exact at_eq _ sit_ok (by with_unfolding_all rfl)
theorem valid_ok : ground_Valid_p sam = some true := by with_unfolding_all rfl
theorem bal_ok : invariant_Balanced_p sam [0, 1] = some true := by
  unfold invariant_Balanced_p
  refine at_eq true (at_eq true valid_ok ?_) rfl
  rw [if_pos rfl]
  refine at_eq true ?_ rfl
  unfold invariant_balanced_p
  refine ctlN () (by with_unfolding_all rfl) (at_eq true (by with_unfolding_all rfl) ?_)
  rw [if_neg (by decide)]
  exact ctlN () (forC1 (at_eq op0 rfl (at_eq true keeps_ok rfl))) rfl
theorem groups_ok : slices_ContainsFunc_int_Encode_c1_p [[0, 1]] sam = some false := by
  unfold slices_ContainsFunc_int_Encode_c1_p slices_IndexFunc_int_Encode_c1_p encode_Encode_c1_p
  refine at_eq (-1 : Int) ?_ rfl
  refine ctlN () (forC1 ?_) rfl
  refine at_eq [0, 1] rfl ?_
  refine at_eq false ?_ rfl
  exact at_eq true bal_ok rfl
/-! ### the variables -/
def enc0 : encode_encoder := ⟨sam, [], [], [], []⟩
def enc1 : encode_encoder := ⟨sam, [3, 2], [⟨0, 1⟩, ⟨0, 2⟩, ⟨1, 1⟩], [true, true, false], []⟩
theorem vars_ok : encode_encoder_variables_p enc0 [[0, 1]] = some ([⟨0, 1⟩, ⟨0, 2⟩, ⟨1, 1⟩], [true, true, false], [3, 2]) := by
  unfold encode_encoder_variables_p
  refine at_eq [false, false, false] (by with_unfolding_all rfl) ?_
  refine at_eq [true, true, true] (by with_unfolding_all rfl) ?_
  refine at_eq [⟨[1], [], []⟩, ⟨[0], [2], []⟩, ⟨[], [], []⟩, ⟨[], [], []⟩] (by with_unfolding_all rfl) ?_
  refine at_eq [true, true, false] (by with_unfolding_all rfl) ?_
  refine at_eq [⟨0, 0⟩, ⟨0, 0⟩, ⟨0, 0⟩] (by with_unfolding_all rfl) ?_
  refine at_eq [false, false, false] (by with_unfolding_all rfl) ?_
  exact ctlW 2 (.brk ([3], [false, false, false], [⟨0, 1⟩, ⟨0, 2⟩, ⟨0, 0⟩], [true, true, false])) (by with_unfolding_all rfl) (by with_unfolding_all rfl)
theorem sorted_ok : encode_sorted_p [] = some [] := by
  unfold encode_sorted_p
  refine rangeC_eq (by decide) fun ord h => ?_
  rw [List.perm_nil.1 h]
  refine ctlN [] rfl (at_eq [] ?_ rfl)
  unfold sortInts_p
  rw [if_pos (by decide), List.mergeSort_nil]
theorem tested_ok : encode_tested_p [] [] = some [] := by
  unfold encode_tested_p
  exact at_eq () rfl (at_eq () rfl (at_eq [] sorted_ok rfl))
theorem given_ok : encode_given_p op0 = some [] := by
  unfold encode_given_p
  exact at_eq () rfl (at_eq () rfl (at_eq [] sorted_ok rfl))
theorem large_ok : encode_encoder_large_p enc1 = some false := by
  unfold encode_encoder_large_p
  refine ctlN () (forC1 ?_) ?_
  · refine at_eq (⟨[1], [], []⟩ : Cond) rfl ?_
    exact at_eq [] tested_ok (by with_unfolding_all rfl)
  refine ctlN () (forC1 ?_) rfl
  refine at_eq op0 rfl ?_
  refine at_eq [] given_ok ?_
  refine at_eq (1 : Int) (by with_unfolding_all rfl) ?_
  rw [if_neg (by decide)]
  refine ctlN () (forC2 () ?_ ?_) rfl
  · refine at_eq ch0 rfl ?_
    exact at_eq [] tested_ok (by with_unfolding_all rfl)
  · refine at_eq ch1 rfl ?_
    exact at_eq [] tested_ok (by with_unfolding_all rfl)
/-! ### the facts -/
theorem sortF_ok {xs : List Fact} (h : xs.Pairwise fun x y => (!decide (cmpF y x < 0)) = true) (h2 : xs.length < 4611686018427387904 ∧ ∀ x ∈ xs, RF x) : sortFacts_p xs = some xs := by
  unfold sortFacts_p
  rw [if_pos h2, List.mergeSort_of_pairwise h]
theorem sortF0 : sortFacts_p [] = some [] := sortF_ok (by simp) (by simp)
theorem sortF1 {f : Fact} (h : RF f) : sortFacts_p [f] = some [f] := sortF_ok (by simp) (by simp [h])
theorem sortF2 : sortFacts_p [⟨0, 1⟩, ⟨1, 0⟩] = some [⟨0, 1⟩, ⟨1, 0⟩] := sortF_ok (by decide) (by decide)
theorem compact_ok : slices_Compact_apiFact_o_p [⟨0, 1⟩, ⟨1, 0⟩] = some (2, [⟨0, 1⟩, ⟨1, 0⟩]) := by
  unfold slices_Compact_apiFact_o_p
  rw [if_neg (by decide)]
  exact ctlW 2 (.brk 2) (by with_unfolding_all rfl) (by with_unfolding_all rfl)
theorem facts_pre : encode_encoder_facts_p enc1 ⟨[0], [2], []⟩ [] [] [] = some ([⟨0, 1⟩, ⟨1, 0⟩], true) := by
  unfold encode_encoder_facts_p
  refine at_eq [] (by with_unfolding_all rfl) ?_
  refine at_eq [⟨0, 1⟩] (by with_unfolding_all rfl) ?_
  refine at_eq [⟨0, 1⟩, ⟨1, 0⟩] (by with_unfolding_all rfl) ?_
  refine at_eq () (by with_unfolding_all rfl) ?_
  refine at_eq _ sortF2 ?_
  refine at_eq _ compact_ok ?_
  refine at_eq () (by with_unfolding_all rfl) ?_
  exact ctlW 2 (.brk 2) (by with_unfolding_all rfl) (by with_unfolding_all rfl)
theorem facts_goal : encode_encoder_facts_p enc1 ⟨[1], [], []⟩ [] [] [] = some ([⟨0, 2⟩], true) := by
  unfold encode_encoder_facts_p
  refine at_eq [] (by with_unfolding_all rfl) ?_
  refine at_eq [⟨0, 2⟩] (by with_unfolding_all rfl) ?_
  refine at_eq [⟨0, 2⟩] (by with_unfolding_all rfl) ?_
  refine at_eq () (by with_unfolding_all rfl) ?_
  refine at_eq _ (sortF1 (by decide)) ?_
  refine at_eq (1, [⟨0, 2⟩]) (by with_unfolding_all rfl) ?_
  refine at_eq () (by with_unfolding_all rfl) ?_
  exact ctlW 1 (.brk 1) (by with_unfolding_all rfl) (by with_unfolding_all rfl)
theorem facts_del : encode_encoder_facts_o_p enc1 ⟨[], [], []⟩ [] [] [⟨0, 1⟩] = some ([⟨0, 1⟩], true) := by
  unfold encode_encoder_facts_o_p
  refine at_eq [⟨0, 1⟩] (by with_unfolding_all rfl) ?_
  refine at_eq [⟨0, 1⟩] (by with_unfolding_all rfl) ?_
  refine at_eq [⟨0, 1⟩] (by with_unfolding_all rfl) ?_
  refine at_eq () (by with_unfolding_all rfl) ?_
  refine at_eq _ (sortF1 (by decide)) ?_
  refine at_eq (1, [⟨0, 1⟩]) (by with_unfolding_all rfl) ?_
  refine at_eq () (by with_unfolding_all rfl) ?_
  exact ctlW 1 (.brk 1) (by with_unfolding_all rfl) (by with_unfolding_all rfl)
theorem facts_add : encode_encoder_facts_o_p enc1 ⟨[], [], []⟩ [] [] [] = some ([], true) := by
  unfold encode_encoder_facts_o_p
  refine at_eq [] (by with_unfolding_all rfl) ?_
  refine at_eq [] (by with_unfolding_all rfl) ?_
  refine at_eq [] (by with_unfolding_all rfl) ?_
  refine at_eq () (by with_unfolding_all rfl) ?_
  refine at_eq _ sortF0 ?_
  refine at_eq (0, []) (by with_unfolding_all rfl) ?_
  refine at_eq () (by with_unfolding_all rfl) ?_
  exact ctlW 1 (.brk 1) (by with_unfolding_all rfl) (by with_unfolding_all rfl)
theorem cases_del : encode_encoder_cases_o_p enc1 ⟨[], [], []⟩ [] [] [⟨0, 1⟩] = some [[⟨0, 1⟩]] := by
  unfold encode_encoder_cases_o_p
  refine at_eq _ tested_ok ?_
  refine at_eq [[]] (by with_unfolding_all rfl) ?_
  refine at_eq _ (forS1 (s1 := [[⟨0, 1⟩]]) ?_) rfl
  refine at_eq [] rfl ?_
  refine at_eq true (by with_unfolding_all rfl) ?_
  rw [if_neg (by decide)]
  exact at_eq _ facts_del (by with_unfolding_all rfl)
theorem cases_add : encode_encoder_cases_o_p enc1 ⟨[], [], []⟩ [] [] [] = some [[]] := by
  unfold encode_encoder_cases_o_p
  refine at_eq _ tested_ok ?_
  refine at_eq [[]] (by with_unfolding_all rfl) ?_
  refine at_eq _ (forS1 (s1 := [[]]) ?_) rfl
  refine at_eq [] rfl ?_
  refine at_eq true (by with_unfolding_all rfl) ?_
  rw [if_neg (by decide)]
  exact at_eq _ facts_add (by with_unfolding_all rfl)
theorem effects_ok : encode_encoder_effects_p enc1 op0 [] [] = some [⟨[⟨0, 1⟩], 0, 0⟩, ⟨[], 0, 2⟩] := by
  unfold encode_encoder_effects_p
  refine at_eq _ (forS2 [⟨[⟨0, 1⟩], 0, 0⟩] (at_eq false rfl (at_eq _ (forS2 [⟨[⟨0, 1⟩], 0, 0⟩] (at_eq ch0 rfl ?_) (by with_unfolding_all rfl)) rfl)) (at_eq true rfl (at_eq _ (forS2 [⟨[⟨0, 1⟩], 0, 0⟩] (by with_unfolding_all rfl) (at_eq ch1 rfl ?_)) rfl))) (by with_unfolding_all rfl)
  · rw [if_neg (by decide)]
    refine at_eq ⟨0, 1⟩ (by with_unfolding_all rfl) (at_eq ([⟨0, 1⟩], 0) (by with_unfolding_all rfl) ?_)
    exact at_eq _ cases_del (by with_unfolding_all rfl)
  · rw [if_neg (by decide)]
    refine at_eq ⟨0, 2⟩ (by with_unfolding_all rfl) (at_eq ([], 2) (by with_unfolding_all rfl) ?_)
    exact at_eq _ cases_add (by with_unfolding_all rfl)
def opE : Op := ⟨⟨#[40, 109, 111, 118, 101, 41]⟩, 3, [⟨0, 1⟩, ⟨1, 0⟩], [⟨[⟨0, 1⟩], 0, 0⟩, ⟨[], 0, 2⟩]⟩
theorem operators_ok : encode_encoder_operators_p enc1 ⟨⟨[3, 2], [1, 0], [], []⟩, enc1.atoms, [], []⟩ 0 [] = some (true, [opE], [0]) := by
  unfold encode_encoder_operators_p
  refine at_eq op0 rfl (at_eq _ given_ok (at_eq [[]] (by with_unfolding_all rfl) ?_))
  refine ctlN ([opE], [0]) (forC1 (at_eq [] rfl (at_eq true (by with_unfolding_all rfl) ?_))) rfl
  rw [if_neg (by decide)]
  refine at_eq _ facts_pre ?_
  dsimp only [un2]
  rw [if_neg (by decide)]
  exact at_eq _ effects_ok (by with_unfolding_all rfl)
theorem goal_ok : encode_encoder_goal_p enc1 ⟨⟨[3, 2], [1, 0], [], [opE]⟩, enc1.atoms, [], [0]⟩ [] = some (true, [⟨0, 2⟩]) := by
  unfold encode_encoder_goal_p
  refine at_eq true (by with_unfolding_all rfl) ?_
  rw [if_pos rfl]
  refine at_eq (⟨[1], [], []⟩ : Cond) rfl ?_
  exact at_eq _ facts_goal (by with_unfolding_all rfl)
def tskE : Task := ⟨[3, 2], [1, 0], [⟨0, 2⟩], [opE]⟩
theorem check_ok : task_Check_p tskE = some none := by with_unfolding_all rfl
theorem encode_ok : encode_Encode_p sam [[0, 1]] = some (none, ⟨tskE, enc1.atoms, [], [0]⟩) := by
  unfold encode_Encode_p
  refine at_eq false (at_eq true valid_ok ?_) ?_
  · rw [if_neg (by decide)]
    exact at_eq _ groups_ok rfl
  rw [if_neg (by decide)]
  refine at_eq _ vars_ok (at_eq _ large_ok ?_)
  rw [if_neg (by decide)]
  refine at_eq [3, 2] (by with_unfolding_all rfl) (at_eq [0, 0] (by with_unfolding_all rfl) (at_eq [1, 0] (by with_unfolding_all rfl) (at_eq () (by with_unfolding_all rfl) ?_)))
  refine ctlN ([opE], [0]) (forC1 (at_eq _ operators_ok rfl)) ?_
  refine at_eq _ goal_ok ?_
  dsimp only [un2]
  rw [if_neg (by decide)]
  exact at_eq _ check_ok rfl
theorem state_ok (fu : Nat) : encode_State_p fu sam ⟨tskE, enc1.atoms, [], [0]⟩ ⟨[1, 2], []⟩ = some ([2, 1], none) := by with_unfolding_all rfl
theorem awake_ok (fu : Nat) : law21_awake_p fu = some true := by
  unfold law21_awake_p
  rw [sam_eq]
  refine at_eq _ encode_ok ?_
  refine at_eq false (by with_unfolding_all rfl) ?_
  rw [if_neg (by decide)]
  exact at_eq _ (state_ok fu) (by with_unfolding_all rfl)
end Go.Pw
