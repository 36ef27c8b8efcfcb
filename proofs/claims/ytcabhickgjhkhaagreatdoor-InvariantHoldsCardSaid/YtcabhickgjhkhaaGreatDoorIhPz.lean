/-
  The example of chapter 20 is awake, in plain Lean (printed by iva.py).
-/
import Derived.Test.YtcabhickgjhkhaaGreatDoorIhP
import Derived.Test.YtcabhickgjhkhaaGreatDoorB1
import Derived.KernelRfl
set_option maxHeartbeats 8000000
set_option maxRecDepth 100000
set_option linter.unusedSimpArgs false
set_option linter.unusedVariables false
namespace Go.Pw
section
variable {α β S R : Type}
theorem at_eq {x : Option α} {f : α → Option β} (a : α) (h : x = some a) {r : Option β} (k : f a = r) : x.bind f = r := by rw [h]; exact k
theorem forS_s {B : Nat → S → Option S} {n i : Nat} {s : S} {r : Option S} (s1 : S) (h0 : B i s = some s1) (h : forS B n (i + 1) s1 = r) : forS B (n + 1) i s = r := by simp only [forS, h0, Option.bind_some]; exact h
theorem forC_s {B : Nat → S → Option (Ctl S R)} {n i : Nat} {s : S} {r : Option (Ctl S R)} (s1 : S) (h0 : B i s = some (.next s1)) (h : forC B n (i + 1) s1 = r) : forC B (n + 1) i s = r := by simp only [forC, h0]; exact h
theorem forC_r {B : Nat → S → Option (Ctl S R)} {n i : Nat} {s : S} (q : R) (h0 : B i s = some (.ret q)) : forC B (n + 1) i s = some (.ret q) := by simp only [forC, h0]
theorem ctlN {x : Option (Ctl S R)} {kr : R → Option β} {k : S → Option β} (s : S) (h : x = some (.next s)) {r : Option β} (e : k s = r) : ctl x kr k = r := by rw [h]; exact e
theorem ctlR {x : Option (Ctl S R)} {kr : R → Option β} {k : S → Option β} (q : R) (h : x = some (.ret q)) {r : Option β} (e : kr q = r) : ctl x kr k = r := by rw [h]; exact e
theorem ctlW {B : S → Option (Ctl S R)} {s : S} {kr : R → Option β} {k : S → Option β} (n : Nat) (c : Ctl S R) (h : iterC B n s = some c) {r : Option β} (e : ctl (some c) kr k = r) : ctl (whileC B s) kr k = r := by
  rw [whileC_of h]; exact e
theorem ctlB {x : Option (Ctl S R)} {kr : R → Option β} {k : S → Option β} (s : S) (h : x = some (.brk s)) {r : Option β} (e : k s = r) : ctl x kr k = r := by rw [h]; exact e
theorem while_s {B : S → Option (Ctl S R)} {s : S} {r : Option (Ctl S R)} (s1 : S) (h0 : B s = some (.next s1)) (h : whileC B s1 = r) : whileC B s = r := by rw [whileC_next h0]; exact h
end
def xop0 : GOp := ⟨⟨#[40, 109, 111, 118, 101, 41]⟩, 0, ⟨[0], [], []⟩, [⟨⟨[], [], []⟩, 0, false⟩, ⟨⟨[], [], []⟩, 1, true⟩], []⟩
def xop1 : GOp := ⟨⟨#[40, 109, 111, 118, 101, 41]⟩, 0, ⟨[1], [], []⟩, [⟨⟨[], [], []⟩, 1, false⟩, ⟨⟨[], [], []⟩, 0, true⟩], []⟩
def xop2 : GOp := ⟨⟨#[40, 109, 111, 118, 101, 41]⟩, 0, ⟨[2], [], []⟩, [⟨⟨[], [], []⟩, 2, false⟩, ⟨⟨[], [], []⟩, 3, true⟩], []⟩
def xop3 : GOp := ⟨⟨#[40, 109, 111, 118, 101, 41]⟩, 0, ⟨[3], [], []⟩, [⟨⟨[], [], []⟩, 3, false⟩, ⟨⟨[], [], []⟩, 2, true⟩], []⟩
def exam : Ground := ⟨[⟨⟨#[97, 116]⟩, [⟨#[97]⟩, ⟨#[112]⟩]⟩, ⟨⟨#[97, 116]⟩, [⟨#[97]⟩, ⟨#[113]⟩]⟩, ⟨⟨#[97, 116]⟩, [⟨#[98]⟩, ⟨#[112]⟩]⟩, ⟨⟨#[97, 116]⟩, [⟨#[98]⟩, ⟨#[113]⟩]⟩], [], [0, 2], [⟨[1], [], []⟩], [xop0, xop1, xop2, xop3]⟩
theorem example_ok : law20_example_p = some exam := by with_unfolding_all rfl
theorem valid_ok : ground_Valid_p exam = some true := by with_unfolding_all rfl
def so1 : List invariant_simple := [⟨[0], ⟨#[97, 116]⟩, ⟨#[34, 97, 34, 32, 34, 112, 34, 32]⟩, false⟩, ⟨[0], ⟨#[97, 116]⟩, ⟨#[34, 112, 34, 32]⟩, true⟩, ⟨[0], ⟨#[97, 116]⟩, ⟨#[34, 97, 34, 32]⟩, true⟩]
def sm1 : SMap := [(⟨#[45, 49, 32, 50, 32, 34, 97, 116, 34, 32, 34, 97, 34, 32, 34, 112, 34, 32]⟩, 0), (⟨#[48, 32, 50, 32, 34, 97, 116, 34, 32, 34, 112, 34, 32]⟩, 1), (⟨#[49, 32, 50, 32, 34, 97, 116, 34, 32, 34, 97, 34, 32]⟩, 2)]
def so2 : List invariant_simple := [⟨[0], ⟨#[97, 116]⟩, ⟨#[34, 97, 34, 32, 34, 112, 34, 32]⟩, false⟩, ⟨[0], ⟨#[97, 116]⟩, ⟨#[34, 112, 34, 32]⟩, true⟩, ⟨[0, 1], ⟨#[97, 116]⟩, ⟨#[34, 97, 34, 32]⟩, true⟩, ⟨[1], ⟨#[97, 116]⟩, ⟨#[34, 97, 34, 32, 34, 113, 34, 32]⟩, false⟩, ⟨[1], ⟨#[97, 116]⟩, ⟨#[34, 113, 34, 32]⟩, true⟩]
def sm2 : SMap := [(⟨#[45, 49, 32, 50, 32, 34, 97, 116, 34, 32, 34, 97, 34, 32, 34, 112, 34, 32]⟩, 0), (⟨#[48, 32, 50, 32, 34, 97, 116, 34, 32, 34, 112, 34, 32]⟩, 1), (⟨#[49, 32, 50, 32, 34, 97, 116, 34, 32, 34, 97, 34, 32]⟩, 2), (⟨#[45, 49, 32, 50, 32, 34, 97, 116, 34, 32, 34, 97, 34, 32, 34, 113, 34, 32]⟩, 3), (⟨#[48, 32, 50, 32, 34, 97, 116, 34, 32, 34, 113, 34, 32]⟩, 4)]
def so3 : List invariant_simple := [⟨[0], ⟨#[97, 116]⟩, ⟨#[34, 97, 34, 32, 34, 112, 34, 32]⟩, false⟩, ⟨[0, 2], ⟨#[97, 116]⟩, ⟨#[34, 112, 34, 32]⟩, true⟩, ⟨[0, 1], ⟨#[97, 116]⟩, ⟨#[34, 97, 34, 32]⟩, true⟩, ⟨[1], ⟨#[97, 116]⟩, ⟨#[34, 97, 34, 32, 34, 113, 34, 32]⟩, false⟩, ⟨[1], ⟨#[97, 116]⟩, ⟨#[34, 113, 34, 32]⟩, true⟩, ⟨[2], ⟨#[97, 116]⟩, ⟨#[34, 98, 34, 32, 34, 112, 34, 32]⟩, false⟩, ⟨[2], ⟨#[97, 116]⟩, ⟨#[34, 98, 34, 32]⟩, true⟩]
def sm3 : SMap := [(⟨#[45, 49, 32, 50, 32, 34, 97, 116, 34, 32, 34, 97, 34, 32, 34, 112, 34, 32]⟩, 0), (⟨#[48, 32, 50, 32, 34, 97, 116, 34, 32, 34, 112, 34, 32]⟩, 1), (⟨#[49, 32, 50, 32, 34, 97, 116, 34, 32, 34, 97, 34, 32]⟩, 2), (⟨#[45, 49, 32, 50, 32, 34, 97, 116, 34, 32, 34, 97, 34, 32, 34, 113, 34, 32]⟩, 3), (⟨#[48, 32, 50, 32, 34, 97, 116, 34, 32, 34, 113, 34, 32]⟩, 4), (⟨#[45, 49, 32, 50, 32, 34, 97, 116, 34, 32, 34, 98, 34, 32, 34, 112, 34, 32]⟩, 5), (⟨#[49, 32, 50, 32, 34, 97, 116, 34, 32, 34, 98, 34, 32]⟩, 6)]
def so4 : List invariant_simple := [⟨[0], ⟨#[97, 116]⟩, ⟨#[34, 97, 34, 32, 34, 112, 34, 32]⟩, false⟩, ⟨[0, 2], ⟨#[97, 116]⟩, ⟨#[34, 112, 34, 32]⟩, true⟩, ⟨[0, 1], ⟨#[97, 116]⟩, ⟨#[34, 97, 34, 32]⟩, true⟩, ⟨[1], ⟨#[97, 116]⟩, ⟨#[34, 97, 34, 32, 34, 113, 34, 32]⟩, false⟩, ⟨[1, 3], ⟨#[97, 116]⟩, ⟨#[34, 113, 34, 32]⟩, true⟩, ⟨[2], ⟨#[97, 116]⟩, ⟨#[34, 98, 34, 32, 34, 112, 34, 32]⟩, false⟩, ⟨[2, 3], ⟨#[97, 116]⟩, ⟨#[34, 98, 34, 32]⟩, true⟩, ⟨[3], ⟨#[97, 116]⟩, ⟨#[34, 98, 34, 32, 34, 113, 34, 32]⟩, false⟩]
def sm4 : SMap := [(⟨#[45, 49, 32, 50, 32, 34, 97, 116, 34, 32, 34, 97, 34, 32, 34, 112, 34, 32]⟩, 0), (⟨#[48, 32, 50, 32, 34, 97, 116, 34, 32, 34, 112, 34, 32]⟩, 1), (⟨#[49, 32, 50, 32, 34, 97, 116, 34, 32, 34, 97, 34, 32]⟩, 2), (⟨#[45, 49, 32, 50, 32, 34, 97, 116, 34, 32, 34, 97, 34, 32, 34, 113, 34, 32]⟩, 3), (⟨#[48, 32, 50, 32, 34, 97, 116, 34, 32, 34, 113, 34, 32]⟩, 4), (⟨#[45, 49, 32, 50, 32, 34, 97, 116, 34, 32, 34, 98, 34, 32, 34, 112, 34, 32]⟩, 5), (⟨#[49, 32, 50, 32, 34, 97, 116, 34, 32, 34, 98, 34, 32]⟩, 6), (⟨#[45, 49, 32, 50, 32, 34, 97, 116, 34, 32, 34, 98, 34, 32, 34, 113, 34, 32]⟩, 7)]
theorem simples_ok : invariant_simples_p exam = some so4 := by
  unfold invariant_simples_p
  refine at_eq (so4, sm4) ?_ rfl
  refine forS_s (so1, sm1) (at_eq (exam.Atoms.getD 0 ⟨⟨#[]⟩, []⟩) rfl (ctlW 4 (.brk (2, sm1, so1)) (by kernel_rfl) rfl)) ?_
  refine forS_s (so2, sm2) (at_eq (exam.Atoms.getD 1 ⟨⟨#[]⟩, []⟩) rfl (ctlW 4 (.brk (2, sm2, so2)) (by kernel_rfl) rfl)) ?_
  refine forS_s (so3, sm3) (at_eq (exam.Atoms.getD 2 ⟨⟨#[]⟩, []⟩) rfl (ctlW 4 (.brk (2, sm3, so3)) (by kernel_rfl) rfl)) ?_
  refine forS_s (so4, sm4) (at_eq (exam.Atoms.getD 3 ⟨⟨#[]⟩, []⟩) rfl (ctlW 4 (.brk (2, sm4, so4)) (by kernel_rfl) rfl)) ?_
  rfl
def cd0 : List (List Int) := [[0], [0, 2], [0, 1], [1], [1, 3], [2], [2, 3], [3]]
def cds : List (List Int) := [[0], [0, 1], [0, 2], [1], [1, 3], [2], [2, 3], [3]]
theorem insert_ok : slices_insertionSortCmpFunc_int_o_Compare_p cd0 0 8 = some cds := by
  unfold slices_insertionSortCmpFunc_int_o_Compare_p
  refine ctlB (8, cds) ?_ rfl
  refine while_s (2, [[0], [0, 2], [0, 1], [1], [1, 3], [2], [2, 3], [3]]) ?_ ?_
  · exact (show (if decide ((1 : Int) < 8) then _ else _) = _ from (if_pos (by decide)).trans (ctlW 4 (.brk (1, [[0], [0, 2], [0, 1], [1], [1, 3], [2], [2, 3], [3]])) (by kernel_rfl) rfl))
  refine while_s (3, [[0], [0, 1], [0, 2], [1], [1, 3], [2], [2, 3], [3]]) ?_ ?_
  · exact (show (if decide ((2 : Int) < 8) then _ else _) = _ from (if_pos (by decide)).trans (ctlW 4 (.brk (1, [[0], [0, 1], [0, 2], [1], [1, 3], [2], [2, 3], [3]])) (by kernel_rfl) rfl))
  refine while_s (4, [[0], [0, 1], [0, 2], [1], [1, 3], [2], [2, 3], [3]]) ?_ ?_
  · exact (show (if decide ((3 : Int) < 8) then _ else _) = _ from (if_pos (by decide)).trans (ctlW 4 (.brk (3, [[0], [0, 1], [0, 2], [1], [1, 3], [2], [2, 3], [3]])) (by kernel_rfl) rfl))
  refine while_s (5, [[0], [0, 1], [0, 2], [1], [1, 3], [2], [2, 3], [3]]) ?_ ?_
  · exact (show (if decide ((4 : Int) < 8) then _ else _) = _ from (if_pos (by decide)).trans (ctlW 4 (.brk (4, [[0], [0, 1], [0, 2], [1], [1, 3], [2], [2, 3], [3]])) (by kernel_rfl) rfl))
  refine while_s (6, [[0], [0, 1], [0, 2], [1], [1, 3], [2], [2, 3], [3]]) ?_ ?_
  · exact (show (if decide ((5 : Int) < 8) then _ else _) = _ from (if_pos (by decide)).trans (ctlW 4 (.brk (5, [[0], [0, 1], [0, 2], [1], [1, 3], [2], [2, 3], [3]])) (by kernel_rfl) rfl))
  refine while_s (7, [[0], [0, 1], [0, 2], [1], [1, 3], [2], [2, 3], [3]]) ?_ ?_
  · exact (show (if decide ((6 : Int) < 8) then _ else _) = _ from (if_pos (by decide)).trans (ctlW 4 (.brk (6, [[0], [0, 1], [0, 2], [1], [1, 3], [2], [2, 3], [3]])) (by kernel_rfl) rfl))
  refine while_s (8, [[0], [0, 1], [0, 2], [1], [1, 3], [2], [2, 3], [3]]) ?_ ?_
  · exact (show (if decide ((7 : Int) < 8) then _ else _) = _ from (if_pos (by decide)).trans (ctlW 4 (.brk (7, [[0], [0, 1], [0, 2], [1], [1, 3], [2], [2, 3], [3]])) (by kernel_rfl) rfl))
  exact whileC_stop (by kernel_rfl) (by intro s' h; cases h)
theorem sort_ok : slices_SortFunc_int_o_Compare_p cd0 = some cds := by
  unfold slices_SortFunc_int_o_Compare_p
  refine at_eq 4 (by kernel_rfl) ?_
  refine at_eq cds ?_ rfl
  unfold slices_pdqsortCmpFunc_int_o_Compare_p
  refine ctlR cds (whileC_stop ?_ (by intro s' h; cases h)) rfl
  rw [if_pos (by kernel_rfl)]
  exact at_eq cds insert_ok rfl
theorem compactF_ok : slices_CompactFunc_int_o_Equal_p cds = some (8, cds) := by
  unfold slices_CompactFunc_int_o_Equal_p
  rw [if_neg (by decide)]
  exact ctlW 8 (.brk 8) (by kernel_rfl) rfl
theorem cands_ok : invariant_candidates_p exam = some cds := by
  unfold invariant_candidates_p
  refine at_eq so4 simples_ok ?_
  refine at_eq (cd0, [⟨#[34, 98, 34, 32, 34, 113, 34, 32]⟩, ⟨#[34, 98, 34, 32]⟩, ⟨#[34, 98, 34, 32, 34, 112, 34, 32]⟩, ⟨#[34, 113, 34, 32]⟩, ⟨#[34, 97, 34, 32, 34, 113, 34, 32]⟩, ⟨#[34, 97, 34, 32]⟩, ⟨#[34, 112, 34, 32]⟩, ⟨#[34, 97, 34, 32, 34, 112, 34, 32]⟩]) (by kernel_rfl) ?_
  refine at_eq cds sort_ok ?_
  refine at_eq (8, cds) compactF_ok ?_
  kernel_rfl
theorem perm_two {a b : Int} {ord : List Int} (h : ord.Perm [a, b]) : ord = [a, b] ∨ ord = [b, a] := by
  have hl := h.length_eq
  match ord, hl with
  | [x, y], _ =>
    have hx : x ∈ [a, b] := h.mem_iff.1 (by simp)
    rcases List.mem_cons.1 hx with rfl | hx
    · have := List.perm_singleton.1 ((List.perm_cons x).1 h)
      exact .inl (by rw [this])
    · have hxb : x = b := by simpa using hx
      subst hxb
      have := List.perm_singleton.1 ((List.perm_cons x).1 (h.trans (List.Perm.swap x a [])))
      exact .inr (by rw [this])
theorem bs_01_0 : slices_BinarySearch_int_p [0, 1] 0 = some (0, true) := by
  unfold slices_BinarySearch_int_p
  exact ctlW 3 (.brk (0, 0)) (by kernel_rfl) (by kernel_rfl)
theorem bs_01_1 : slices_BinarySearch_int_p [0, 1] 1 = some (1, true) := by
  unfold slices_BinarySearch_int_p
  exact ctlW 3 (.brk (1, 1)) (by kernel_rfl) (by kernel_rfl)
theorem bs_01_2 : slices_BinarySearch_int_p [0, 1] 2 = some (2, false) := by
  unfold slices_BinarySearch_int_p
  exact ctlW 3 (.brk (2, 2)) (by kernel_rfl) (by kernel_rfl)
theorem bs_01_3 : slices_BinarySearch_int_p [0, 1] 3 = some (2, false) := by
  unfold slices_BinarySearch_int_p
  exact ctlW 3 (.brk (2, 2)) (by kernel_rfl) (by kernel_rfl)
theorem bs_13_0 : slices_BinarySearch_int_p [1, 3] 0 = some (0, false) := by
  unfold slices_BinarySearch_int_p
  exact ctlW 3 (.brk (0, 0)) (by kernel_rfl) (by kernel_rfl)
theorem bs_13_1 : slices_BinarySearch_int_p [1, 3] 1 = some (0, true) := by
  unfold slices_BinarySearch_int_p
  exact ctlW 3 (.brk (0, 0)) (by kernel_rfl) (by kernel_rfl)
theorem bs_23_0 : slices_BinarySearch_int_p [2, 3] 0 = some (0, false) := by
  unfold slices_BinarySearch_int_p
  exact ctlW 3 (.brk (0, 0)) (by kernel_rfl) (by kernel_rfl)
theorem bs_23_1 : slices_BinarySearch_int_p [2, 3] 1 = some (0, false) := by
  unfold slices_BinarySearch_int_p
  exact ctlW 3 (.brk (0, 0)) (by kernel_rfl) (by kernel_rfl)
theorem bs_23_2 : slices_BinarySearch_int_p [2, 3] 2 = some (0, true) := by
  unfold slices_BinarySearch_int_p
  exact ctlW 3 (.brk (0, 0)) (by kernel_rfl) (by kernel_rfl)
theorem bs_23_3 : slices_BinarySearch_int_p [2, 3] 3 = some (1, true) := by
  unfold slices_BinarySearch_int_p
  exact ctlW 3 (.brk (1, 1)) (by kernel_rfl) (by kernel_rfl)
theorem keeps_0_01 : invariant_keeps_p xop0 [0, 1] = some true := by
  unfold invariant_keeps_p
  refine at_eq ([(⟨⟨[], [], []⟩, 1, true⟩ : GChange)] : List GChange) ?_ ?_
  · refine forS_s ([] : List GChange) (at_eq (⟨⟨[], [], []⟩, 0, false⟩ : GChange) rfl (at_eq (0, true) bs_01_0 (by kernel_rfl))) ?_
    refine forS_s ([(⟨⟨[], [], []⟩, 1, true⟩ : GChange)] : List GChange) (at_eq (⟨⟨[], [], []⟩, 1, true⟩ : GChange) rfl (at_eq (1, true) bs_01_1 (by kernel_rfl))) ?_
    rfl
  refine ctlN (([(⟨⟨[], [], []⟩, 1, true⟩ : GChange)] : List GChange), ([(⟨⟨[], [], []⟩, 1, true⟩ : GChange)] : List GChange)) (forC_s (([(⟨⟨[], [], []⟩, 1, true⟩ : GChange)] : List GChange), ([(⟨⟨[], [], []⟩, 1, true⟩ : GChange)] : List GChange)) ?_ rfl) rfl
  refine at_eq (⟨⟨[], [], []⟩, 1, true⟩ : GChange) rfl ?_
  refine at_eq [] (by kernel_rfl) ?_
  refine ctlN () rfl ?_
  refine ctlN () ?_ rfl
  refine forC_s () ?_ ?_
  · refine at_eq (0 : Int) rfl ?_
    rw [if_neg (by decide)]
    refine at_eq (true, (⟨[(0, true)], [(1, true)]⟩ : invariant_literals)) ?_ (by kernel_rfl)
    unfold invariant_situation_p
    refine at_eq [(0, true)] (by kernel_rfl) ?_
    refine at_eq [(0, true)] (by kernel_rfl) ?_
    refine at_eq [(0, true)] (by kernel_rfl) ?_
    refine at_eq [(1, true)] (by kernel_rfl) ?_
    exact rangeC_eq (by decide) fun ord h => by rw [List.perm_singleton.1 h]; kernel_rfl
  refine forC_s () (at_eq (1 : Int) rfl (by kernel_rfl)) ?_
  rfl
theorem keeps_1_01 : invariant_keeps_p xop1 [0, 1] = some true := by
  unfold invariant_keeps_p
  refine at_eq ([(⟨⟨[], [], []⟩, 0, true⟩ : GChange)] : List GChange) ?_ ?_
  · refine forS_s ([] : List GChange) (at_eq (⟨⟨[], [], []⟩, 1, false⟩ : GChange) rfl (at_eq (1, true) bs_01_1 (by kernel_rfl))) ?_
    refine forS_s ([(⟨⟨[], [], []⟩, 0, true⟩ : GChange)] : List GChange) (at_eq (⟨⟨[], [], []⟩, 0, true⟩ : GChange) rfl (at_eq (0, true) bs_01_0 (by kernel_rfl))) ?_
    rfl
  refine ctlN (([(⟨⟨[], [], []⟩, 0, true⟩ : GChange)] : List GChange), ([(⟨⟨[], [], []⟩, 0, true⟩ : GChange)] : List GChange)) (forC_s (([(⟨⟨[], [], []⟩, 0, true⟩ : GChange)] : List GChange), ([(⟨⟨[], [], []⟩, 0, true⟩ : GChange)] : List GChange)) ?_ rfl) rfl
  refine at_eq (⟨⟨[], [], []⟩, 0, true⟩ : GChange) rfl ?_
  refine at_eq [] (by kernel_rfl) ?_
  refine ctlN () rfl ?_
  refine ctlN () ?_ rfl
  refine forC_s () (at_eq (0 : Int) rfl (by kernel_rfl)) ?_
  refine forC_s () ?_ ?_
  · refine at_eq (1 : Int) rfl ?_
    rw [if_neg (by decide)]
    refine at_eq (true, (⟨[(1, true)], [(0, true)]⟩ : invariant_literals)) ?_ (by kernel_rfl)
    unfold invariant_situation_p
    refine at_eq [(1, true)] (by kernel_rfl) ?_
    refine at_eq [(1, true)] (by kernel_rfl) ?_
    refine at_eq [(1, true)] (by kernel_rfl) ?_
    refine at_eq [(0, true)] (by kernel_rfl) ?_
    exact rangeC_eq (by decide) fun ord h => by rw [List.perm_singleton.1 h]; kernel_rfl
  rfl
theorem keeps_2_01 : invariant_keeps_p xop2 [0, 1] = some true := by
  unfold invariant_keeps_p
  refine at_eq ([] : List GChange) ?_ ?_
  · refine forS_s ([] : List GChange) (at_eq (⟨⟨[], [], []⟩, 2, false⟩ : GChange) rfl (at_eq (2, false) bs_01_2 (by kernel_rfl))) ?_
    refine forS_s ([] : List GChange) (at_eq (⟨⟨[], [], []⟩, 3, true⟩ : GChange) rfl (at_eq (2, false) bs_01_3 (by kernel_rfl))) ?_
    rfl
  kernel_rfl
theorem keeps_3_01 : invariant_keeps_p xop3 [0, 1] = some true := by
  unfold invariant_keeps_p
  refine at_eq ([] : List GChange) ?_ ?_
  · refine forS_s ([] : List GChange) (at_eq (⟨⟨[], [], []⟩, 3, false⟩ : GChange) rfl (at_eq (2, false) bs_01_3 (by kernel_rfl))) ?_
    refine forS_s ([] : List GChange) (at_eq (⟨⟨[], [], []⟩, 2, true⟩ : GChange) rfl (at_eq (2, false) bs_01_2 (by kernel_rfl))) ?_
    rfl
  kernel_rfl
theorem keeps_0_23 : invariant_keeps_p xop0 [2, 3] = some true := by
  unfold invariant_keeps_p
  refine at_eq ([] : List GChange) ?_ ?_
  · refine forS_s ([] : List GChange) (at_eq (⟨⟨[], [], []⟩, 0, false⟩ : GChange) rfl (at_eq (0, false) bs_23_0 (by kernel_rfl))) ?_
    refine forS_s ([] : List GChange) (at_eq (⟨⟨[], [], []⟩, 1, true⟩ : GChange) rfl (at_eq (0, false) bs_23_1 (by kernel_rfl))) ?_
    rfl
  kernel_rfl
theorem keeps_1_23 : invariant_keeps_p xop1 [2, 3] = some true := by
  unfold invariant_keeps_p
  refine at_eq ([] : List GChange) ?_ ?_
  · refine forS_s ([] : List GChange) (at_eq (⟨⟨[], [], []⟩, 1, false⟩ : GChange) rfl (at_eq (0, false) bs_23_1 (by kernel_rfl))) ?_
    refine forS_s ([] : List GChange) (at_eq (⟨⟨[], [], []⟩, 0, true⟩ : GChange) rfl (at_eq (0, false) bs_23_0 (by kernel_rfl))) ?_
    rfl
  kernel_rfl
theorem keeps_2_23 : invariant_keeps_p xop2 [2, 3] = some true := by
  unfold invariant_keeps_p
  refine at_eq ([(⟨⟨[], [], []⟩, 3, true⟩ : GChange)] : List GChange) ?_ ?_
  · refine forS_s ([] : List GChange) (at_eq (⟨⟨[], [], []⟩, 2, false⟩ : GChange) rfl (at_eq (0, true) bs_23_2 (by kernel_rfl))) ?_
    refine forS_s ([(⟨⟨[], [], []⟩, 3, true⟩ : GChange)] : List GChange) (at_eq (⟨⟨[], [], []⟩, 3, true⟩ : GChange) rfl (at_eq (1, true) bs_23_3 (by kernel_rfl))) ?_
    rfl
  refine ctlN (([(⟨⟨[], [], []⟩, 3, true⟩ : GChange)] : List GChange), ([(⟨⟨[], [], []⟩, 3, true⟩ : GChange)] : List GChange)) (forC_s (([(⟨⟨[], [], []⟩, 3, true⟩ : GChange)] : List GChange), ([(⟨⟨[], [], []⟩, 3, true⟩ : GChange)] : List GChange)) ?_ rfl) rfl
  refine at_eq (⟨⟨[], [], []⟩, 3, true⟩ : GChange) rfl ?_
  refine at_eq [] (by kernel_rfl) ?_
  refine ctlN () rfl ?_
  refine ctlN () ?_ rfl
  refine forC_s () ?_ ?_
  · refine at_eq (2 : Int) rfl ?_
    rw [if_neg (by decide)]
    refine at_eq (true, (⟨[(2, true)], [(3, true)]⟩ : invariant_literals)) ?_ (by kernel_rfl)
    unfold invariant_situation_p
    refine at_eq [(2, true)] (by kernel_rfl) ?_
    refine at_eq [(2, true)] (by kernel_rfl) ?_
    refine at_eq [(2, true)] (by kernel_rfl) ?_
    refine at_eq [(3, true)] (by kernel_rfl) ?_
    exact rangeC_eq (by decide) fun ord h => by rw [List.perm_singleton.1 h]; kernel_rfl
  refine forC_s () (at_eq (3 : Int) rfl (by kernel_rfl)) ?_
  rfl
theorem keeps_3_23 : invariant_keeps_p xop3 [2, 3] = some true := by
  unfold invariant_keeps_p
  refine at_eq ([(⟨⟨[], [], []⟩, 2, true⟩ : GChange)] : List GChange) ?_ ?_
  · refine forS_s ([] : List GChange) (at_eq (⟨⟨[], [], []⟩, 3, false⟩ : GChange) rfl (at_eq (1, true) bs_23_3 (by kernel_rfl))) ?_
    refine forS_s ([(⟨⟨[], [], []⟩, 2, true⟩ : GChange)] : List GChange) (at_eq (⟨⟨[], [], []⟩, 2, true⟩ : GChange) rfl (at_eq (0, true) bs_23_2 (by kernel_rfl))) ?_
    rfl
  refine ctlN (([(⟨⟨[], [], []⟩, 2, true⟩ : GChange)] : List GChange), ([(⟨⟨[], [], []⟩, 2, true⟩ : GChange)] : List GChange)) (forC_s (([(⟨⟨[], [], []⟩, 2, true⟩ : GChange)] : List GChange), ([(⟨⟨[], [], []⟩, 2, true⟩ : GChange)] : List GChange)) ?_ rfl) rfl
  refine at_eq (⟨⟨[], [], []⟩, 2, true⟩ : GChange) rfl ?_
  refine at_eq [] (by kernel_rfl) ?_
  refine ctlN () rfl ?_
  refine ctlN () ?_ rfl
  refine forC_s () (at_eq (2 : Int) rfl (by kernel_rfl)) ?_
  refine forC_s () ?_ ?_
  · refine at_eq (3 : Int) rfl ?_
    rw [if_neg (by decide)]
    refine at_eq (true, (⟨[(3, true)], [(2, true)]⟩ : invariant_literals)) ?_ (by kernel_rfl)
    unfold invariant_situation_p
    refine at_eq [(3, true)] (by kernel_rfl) ?_
    refine at_eq [(3, true)] (by kernel_rfl) ?_
    refine at_eq [(3, true)] (by kernel_rfl) ?_
    refine at_eq [(2, true)] (by kernel_rfl) ?_
    exact rangeC_eq (by decide) fun ord h => by rw [List.perm_singleton.1 h]; kernel_rfl
  rfl
theorem keeps_0_13 : invariant_keeps_p xop0 [1, 3] = some false := by
  unfold invariant_keeps_p
  refine at_eq ([(⟨⟨[], [], []⟩, 1, true⟩ : GChange)] : List GChange) ?_ ?_
  · refine forS_s ([] : List GChange) (at_eq (⟨⟨[], [], []⟩, 0, false⟩ : GChange) rfl (at_eq (0, false) bs_13_0 (by kernel_rfl))) ?_
    refine forS_s ([(⟨⟨[], [], []⟩, 1, true⟩ : GChange)] : List GChange) (at_eq (⟨⟨[], [], []⟩, 1, true⟩ : GChange) rfl (at_eq (0, true) bs_13_1 (by kernel_rfl))) ?_
    rfl
  refine ctlR false (forC_r false ?_) rfl
  refine at_eq (⟨⟨[], [], []⟩, 1, true⟩ : GChange) rfl ?_
  refine at_eq [] (by kernel_rfl) ?_
  refine ctlN () rfl ?_
  refine ctlR false ?_ rfl
  refine forC_s () (at_eq (1 : Int) rfl (by kernel_rfl)) ?_
  refine forC_r false ?_
  refine at_eq (3 : Int) rfl ?_
  rw [if_neg (by decide)]
  refine at_eq (true, (⟨[(0, true), (3, true)], [(1, true)]⟩ : invariant_literals)) ?_ (by kernel_rfl)
  unfold invariant_situation_p
  refine at_eq [(0, true)] (by kernel_rfl) ?_
  refine at_eq [(0, true)] (by kernel_rfl) ?_
  refine at_eq [(0, true), (3, true)] (by kernel_rfl) ?_
  refine at_eq [(1, true)] (by kernel_rfl) ?_
  exact rangeC_eq (by decide) fun ord h => by rcases perm_two h with rfl | rfl <;> kernel_rfl
theorem bal_02 : invariant_balanced_p exam [0, 2] = some false := by kernel_rfl
theorem bal_01 : invariant_balanced_p exam [0, 1] = some true := by
  unfold invariant_balanced_p
  refine ctlN () (by kernel_rfl) (at_eq true (by kernel_rfl) ?_)
  rw [if_neg (by decide)]
  refine ctlN () ?_ rfl
  refine forC_s () (at_eq xop0 rfl (at_eq true keeps_0_01 rfl)) ?_
  refine forC_s () (at_eq xop1 rfl (at_eq true keeps_1_01 rfl)) ?_
  refine forC_s () (at_eq xop2 rfl (at_eq true keeps_2_01 rfl)) ?_
  refine forC_s () (at_eq xop3 rfl (at_eq true keeps_3_01 rfl)) ?_
  rfl
theorem bal_23 : invariant_balanced_p exam [2, 3] = some true := by
  unfold invariant_balanced_p
  refine ctlN () (by kernel_rfl) (at_eq true (by kernel_rfl) ?_)
  rw [if_neg (by decide)]
  refine ctlN () ?_ rfl
  refine forC_s () (at_eq xop0 rfl (at_eq true keeps_0_23 rfl)) ?_
  refine forC_s () (at_eq xop1 rfl (at_eq true keeps_1_23 rfl)) ?_
  refine forC_s () (at_eq xop2 rfl (at_eq true keeps_2_23 rfl)) ?_
  refine forC_s () (at_eq xop3 rfl (at_eq true keeps_3_23 rfl)) ?_
  rfl
theorem bal_13 : invariant_balanced_p exam [1, 3] = some false := by
  unfold invariant_balanced_p
  refine ctlN () (by kernel_rfl) (at_eq true (by kernel_rfl) ?_)
  rw [if_neg (by decide)]
  refine ctlR false ?_ rfl
  exact forC_r false (at_eq xop0 rfl (at_eq false keeps_0_13 rfl))
theorem groups_ok : invariant_Groups_p exam = some ([[0, 1], [2, 3]], none) := by
  unfold invariant_Groups_p
  refine at_eq true valid_ok ?_
  rw [if_neg (by decide)]
  refine at_eq cds cands_ok ?_
  refine at_eq ([[0, 1], [2, 3]] : List (List Int)) ?_ ?_
  · refine forS_s ([] : List (List Int)) (by kernel_rfl) ?_
    refine forS_s ([[0, 1]] : List (List Int)) (at_eq [0, 1] rfl (at_eq true (at_eq true bal_01 rfl) rfl)) ?_
    refine forS_s ([[0, 1]] : List (List Int)) (at_eq [0, 2] rfl (at_eq false (at_eq false bal_02 rfl) rfl)) ?_
    refine forS_s ([[0, 1]] : List (List Int)) (by kernel_rfl) ?_
    refine forS_s ([[0, 1]] : List (List Int)) (at_eq [1, 3] rfl (at_eq false (at_eq false bal_13 rfl) rfl)) ?_
    refine forS_s ([[0, 1]] : List (List Int)) (by kernel_rfl) ?_
    refine forS_s ([[0, 1], [2, 3]] : List (List Int)) (at_eq [2, 3] rfl (at_eq true (at_eq true bal_23 rfl) rfl)) ?_
    refine forS_s ([[0, 1], [2, 3]] : List (List Int)) (by kernel_rfl) ?_
    rfl
  refine at_eq ([[0, 1], [2, 3]] : List (List Int)) ?_ rfl
  refine forS_s ([[0, 1]] : List (List Int)) (at_eq [0, 1] rfl (at_eq false ?_ (by kernel_rfl))) (forS_s ([[0, 1], [2, 3]] : List (List Int)) (at_eq [2, 3] rfl (at_eq false ?_ (by kernel_rfl))) rfl)
  · refine forS_s false (by kernel_rfl) (forS_s false (at_eq [2, 3] rfl (at_eq false ?_ rfl)) rfl)
    refine at_eq false ?_ rfl
    unfold invariant_inside_p
    rw [if_neg (by decide)]
    refine ctlR false (forC_r false ?_) rfl
    refine at_eq (0 : Int) rfl ?_
    exact at_eq (0, false) bs_23_0 rfl
  · refine forS_s false (at_eq [0, 1] rfl (at_eq false ?_ rfl)) (forS_s false (by kernel_rfl) rfl)
    refine at_eq false ?_ rfl
    unfold invariant_inside_p
    rw [if_neg (by decide)]
    refine ctlR false (forC_r false ?_) rfl
    refine at_eq (2 : Int) rfl ?_
    exact at_eq (2, false) bs_01_2 rfl
theorem awake_ok : law20_awake_p = some true := by
  unfold law20_awake_p
  refine at_eq exam example_ok ?_
  refine at_eq _ groups_ok ?_
  refine at_eq true ?_ rfl
  dsimp only [un2]
  rw [if_pos (by decide), if_pos (by decide)]
  refine at_eq [0, 1] rfl ?_
  refine at_eq true (by kernel_rfl) ?_
  rw [if_pos rfl]
  refine at_eq [2, 3] rfl ?_
  refine at_eq true (by kernel_rfl) ?_
  rw [if_pos rfl]
  refine at_eq exam example_ok ?_
  refine at_eq false ?_ rfl
  unfold invariant_Balanced_p
  refine at_eq false (at_eq true valid_ok ?_) rfl
  rw [if_pos rfl]
  exact at_eq false bal_02 rfl
end Go.Pw
/-
  Holds counts the different atoms of a group that are true, in plain Lean.
-/
set_option maxHeartbeats 4000000
namespace Go.Pw
def cnt (T g : List Int) : Nat → Nat
  | 0 => 0
  | j + 1 => cnt T g j + (if g.getD j 0 ∈ T ∧ g.getD j 0 ∉ g.take j then 1 else 0)
theorem cnt_le (T g : List Int) : ∀ j, cnt T g j ≤ j
  | 0 => Nat.le_refl _
  | j + 1 => by have := cnt_le T g j; unfold cnt; split <;> omega
theorem take_snoc {g : List Int} {j : Nat} {x : Int} (hx : g[j]? = some x) : g.take (j + 1) = g.take j ++ [x] := by
  rw [List.take_add_one, hx]; rfl
theorem getD_at {g : List Int} {j : Nat} {x : Int} (hx : g[j]? = some x) : g.getD j 0 = x := by
  rw [List.getD_eq_getElem?_getD, hx]; rfl
theorem index_ok (T : List Int) (x : Int) : ∀ (n i : Nat), i + n = T.length → ∃ r, forC (R := Int) (fun i100 => fun (_ : Unit) => (idx T (i100 : Int)).bind fun x100 =>
    if decide (x = x100) then (some (Ctl.ret (i100 : Int)))
    else (some (Ctl.next ()))) n i () = some r ∧ ((∃ k : Int, r = .ret k ∧ 0 ≤ k ∧ x ∈ T.drop i) ∨ (r = .next () ∧ x ∉ T.drop i))
  | 0, i, h => ⟨_, rfl, .inr ⟨rfl, by rw [List.drop_of_length_le (by omega)]; simp⟩⟩
  | n + 1, i, h => by
    have hi : i < T.length := by omega
    rw [forC, idx_nat, List.getElem?_eq_getElem hi, Option.bind_some, List.drop_eq_getElem_cons hi]
    by_cases hx : x = T[i]
    · rw [if_pos (by simpa using hx)]
      exact ⟨_, rfl, .inl ⟨_, rfl, by omega, by rw [hx]; exact List.mem_cons_self ..⟩⟩
    · rw [if_neg (by simpa using hx)]
      obtain ⟨r, h1, h2⟩ := index_ok T x n (i + 1) (by omega)
      refine ⟨r, h1, ?_⟩
      rcases h2 with ⟨k, h3, h4, h5⟩ | ⟨h3, h4⟩
      · exact .inl ⟨k, h3, h4, List.mem_cons_of_mem _ h5⟩
      · exact .inr ⟨h3, by rw [List.mem_cons]; exact fun e => e.elim hx h4⟩
theorem contains_ok (T : List Int) (x : Int) : slices_Contains_int_p T x = some (decide (x ∈ T)) := by
  unfold slices_Contains_int_p slices_Index_int_p
  obtain ⟨r, h1, h2⟩ := index_ok T x T.length 0 (by omega)
  rw [h1]
  rw [List.drop_zero] at h2
  rcases h2 with ⟨k, rfl, h4, h5⟩ | ⟨rfl, h4⟩
  · show some (decide ((0 : Int) ≤ k)) = _
    simp [h4, h5]
  · show some (decide ((0 : Int) ≤ -1)) = _
    simp [h4]
theorem holds_ok {T V g : List Int} (hg : ∀ x ∈ g, i64ok x) (hl : g.length ≤ 50) : invariant_Holds_p ⟨T, V⟩ g = some (decide (cnt T g g.length ≤ 1)) := by
  unfold invariant_Holds_p
  apply Ok.eq
  refine Ok.bind (Ok.forS (fun j (l : BMap) => (∀ a, (bget l a).isSome = true ↔ a ∈ g.take j ∧ a ∈ T) ∧ l.length = cnt T g j) ⟨fun a => by simp [bget], rfl⟩ ?_ ?_)
  · rintro j l hj ⟨h1, h2⟩
    obtain ⟨x, hx⟩ : ∃ x, g[j]? = some x := ⟨g[j], List.getElem?_eq_getElem hj⟩
    have hc := cnt_le T g j
    have hd := getD_at hx
    have ht := take_snoc hx
    have hmem : x ∈ g := List.mem_of_getElem? hx
    rw [idx_nat, hx, Option.bind_some, contains_ok, Option.bind_some]
    by_cases hT : x ∈ T
    · rw [if_pos (by simpa using hT)]
      unfold bmapPut
      rw [if_pos ⟨hg x hmem, by unfold maxLen; omega⟩]
      refine Ok.ret ⟨fun a => ?_, ?_⟩
      · rw [bget_put, ht, List.mem_append, List.mem_singleton]
        by_cases e : x = a
        · subst e; simp [hT]
        · rw [if_neg e, h1]
          have e2 : ¬ a = x := fun q => e q.symm
          simp [e2]
      · rw [bput_length, h2, cnt, hd]
        have h3 := h1 x
        by_cases hs : x ∈ g.take j
        · rw [if_pos (h3.2 ⟨hs, hT⟩), if_neg (fun q => q.2 hs)]; rfl
        · rw [if_neg (fun q => hs (h3.1 q).1), if_pos ⟨hT, hs⟩]
    · rw [if_neg (by simpa using hT)]
      refine Ok.ret ⟨fun a => ?_, ?_⟩
      · rw [h1, ht, List.mem_append, List.mem_singleton]
        by_cases e : a = x
        · subst e; simp [hT]
        · simp [e]
      · rw [h2, cnt, hd, if_neg (fun q => hT q.1)]; rfl
  · rintro l ⟨_, h2⟩
    refine Ok.ret ?_
    rw [h2]
    congr 1
    exact propext ⟨fun h => by omega, fun h => by omega⟩
theorem in_ok (T : List Int) (x : Int) : (forS (fun i101 => fun (in_100 : Bool) => (idx T (i101 : Int)).bind fun x101 =>
    some (in_100 || decide (x101 = x))) (T.length) 0 false) = some (decide (x ∈ T)) := by
  apply Ok.eq
  refine Ok.forS (fun j b => b = decide (x ∈ T.take j)) (by simp) ?_ ?_
  · rintro j b hj rfl
    obtain ⟨y, hy⟩ : ∃ y, T[j]? = some y := ⟨T[j], List.getElem?_eq_getElem hj⟩
    rw [idx_nat, hy, Option.bind_some]
    refine Ok.ret ?_
    rw [take_snoc hy]
    by_cases h1 : x ∈ T.take j <;> by_cases h2 : y = x
    · simp [h1, h2]
    · simp [h1]
    · simp [h2]
    · have h3 : ¬ x = y := fun e => h2 e.symm
      simp [h1, h2, h3]
  · rintro b rfl
    rw [List.take_length]
theorem invariantHolds_ok {s : GState} {g : List Int} (hg : ∀ x ∈ g, i64ok x) : law20_InvariantHolds_p s g = some true := by
  obtain ⟨T, V⟩ := s
  unfold law20_InvariantHolds_p
  rw [awake_ok]
  simp only [Option.bind_some, Bool.not_true, Bool.false_eq_true, if_false]
  by_cases h1 : 50 < (T.length : Int)
  · rw [if_pos (by simpa using h1)]; rfl
  rw [if_neg (by simpa using h1)]
  by_cases h2 : 50 < (g.length : Int)
  · simp only [Option.bind_some, decide_eq_true h2, if_true]
  simp only [Option.bind_some, decide_eq_false h2, Bool.false_eq_true, if_false]
  rw [holds_ok hg (by omega)]
  apply Ok.eq
  refine Ok.bind (Ok.forS (fun j (p : Int × BMap) => p.1 = (cnt T g j : Int) ∧ (∀ a, bget p.2 a = if a ∈ g.take j then some true else none) ∧ p.2.length ≤ j) ⟨rfl, fun a => by simp [bget], Nat.le_refl _⟩ ?_ ?_)
  · rintro j ⟨n, l⟩ hj ⟨e1, e2, e3⟩
    simp only at e1 e2 e3
    subst e1
    obtain ⟨x, hx⟩ : ∃ x, g[j]? = some x := ⟨g[j], List.getElem?_eq_getElem hj⟩
    have hc := cnt_le T g j
    have hd := getD_at hx
    have ht := take_snoc hx
    have hmem : x ∈ g := List.mem_of_getElem? hx
    simp only [un2]
    rw [idx_nat, hx, Option.bind_some, in_ok, Option.bind_some]
    have hput : bmapPut l x true = some (bput l x true) := by
      unfold bmapPut
      rw [if_pos ⟨hg x hmem, by unfold maxLen; omega⟩]
    have hfin : (∀ a, bget (bput l x true) a = if a ∈ g.take (j + 1) then some true else none) ∧ (bput l x true).length ≤ j + 1 := by
      refine ⟨fun a => ?_, by rw [bput_length]; split <;> omega⟩
      rw [bget_put, ht, e2]
      by_cases e : x = a
      · subst e; simp
      · have e4 : ¬ a = x := fun q => e q.symm
        rw [if_neg e]
        simp [e4]
    by_cases hT : x ∈ T
    · rw [if_pos (by simpa using hT)]
      unfold bmapGet
      rw [if_pos (hg x hmem), e2]
      by_cases hs : x ∈ g.take j
      · rw [if_pos hs]
        simp only [Option.bind_some, Option.getD_some, Bool.not_true, Bool.false_eq_true, if_false]
        rw [hput, Option.bind_some]
        refine Ok.ret ⟨?_, hfin⟩
        simp only [cnt, hd]
        rw [if_neg (fun q => q.2 hs)]; rfl
      · rw [if_neg hs]
        simp only [Option.bind_some, Option.getD_none, Bool.not_false, if_true]
        rw [hput, Option.bind_some]
        refine Ok.ret ⟨?_, hfin⟩
        simp only [cnt, hd]
        rw [if_pos ⟨hT, hs⟩, wrap_id (by omega) (by omega)]; simp
    · rw [if_neg (by simpa using hT)]
      simp only [Option.bind_some, Bool.false_eq_true, if_false]
      rw [hput, Option.bind_some]
      refine Ok.ret ⟨?_, hfin⟩
      simp only [cnt, hd]
      rw [if_neg (fun q => hT q.1)]; rfl
  · rintro ⟨n, l⟩ ⟨e1, _, _⟩
    simp only at e1
    subst e1
    simp only [un2, Option.bind_some]
    refine Ok.ret ?_
    by_cases hh : cnt T g g.length ≤ 1
    · have h3 : (cnt T g g.length : Int) ≤ 1 := by omega
      simp [hh, h3]
    · have h3 : ¬ (cnt T g g.length : Int) ≤ 1 := by omega
      simp [hh, h3]
end Go.Pw
