/- -/
import Derived.Test.YteiainhbhaodoaaGreatEgPz
import Derived.Test.YteiainhbhaodoaaGreatEgPy
import Derived.Test.YteiainhbhaodoaaGreatEgV
set_option maxHeartbeats 4000000
set_option linter.unusedSimpArgs false
set_option linter.unusedVariables false
namespace Go.Pw
section
variable {g : Ground} {fu : Nat}
theorem QfJ {S R β : Type} {B : S × Int → Option (Ctl (S × Int) R)} {s : S} {Q : β → Prop} {kr : R → Option β} {k : S × Int → Option β} (n : Nat) (Inv : Nat → S → Prop) (Bp : S × Int → Prop) (Rp : R → Prop) (h0 : Inv 0 s)
  (h : ∀ (j : Nat) (s : S), j ≤ n → Inv j s → Ok (B (s, (j : Int))) fun c => match c with | .next q => j < n ∧ q.2 = ((j + 1 : Nat) : Int) ∧ Inv (j + 1) q.1 | .brk q => Bp q | .ret r => Rp r)
  (hr : ∀ r, Rp r → Ok (kr r) Q) (hk : ∀ q, Bp q → Ok (k q) Q) : Ok (Go.Pw.ctl (JA B (s, 0)) kr k) Q := by
 refine Qa1 (fun q => ∃ j : Nat, q.2 = (j : Int) ∧ j ≤ n ∧ Inv j q.1) Bp Rp (fun q => n - q.2.toNat) ⟨0, Z, Nat.zero_le _, h0⟩ ?_ hr hk
 rintro ⟨s, i⟩ ⟨j, hj, hle, hI⟩
 simp only at hj hI
 subst hj
 obtain ⟨c, hc, hP⟩ := h j s hle hI
 refine ⟨c, hc, ?_, ?_, ?_⟩
 ·rintro ⟨s', i'⟩ rfl
  simp only at hP
  refine ⟨⟨j + 1, hP.2.1, hP.1, hP.2.2⟩, ?_⟩
  simp only [hP.2.1]
  omega
 ·rintro s' rfl; exact hP
 ·rintro r rfl; exact hP
theorem WFE.kids {e : GExpr} (h : WFE e) : e.Kids.length ≤ 9223372036854775807 ∧ ∀ k ∈ e.Kids, WFE k := by
 cases h with
 | mk a b => exact ⟨a, b⟩
theorem Qe6 : ∀ (fu : Nat) (e : GExpr), SizeOf.sizeOf e < fu → WFE e → Ok (JI fu e) fun _ => True
 | 0, e, h, _ => absurd h (Nat.not_lt_zero _)
 | fu + 1, e, h, hw => by
  rw [JI]
  have hwk := hw.kids
  refine QfJ e.Kids.length (fun _ _ => True) (fun _ => True) (fun _ => False) trivial ?_ (fun _ h => h.elim) (fun q _ => Ok.ret trivial)
  intro j n hj _
  simp only [QO]
  by_cases hc : (decide ((j : Int) < (e.Kids.length : Int)) && decide (n < 2000)) = true
  ·rw [if_pos hc]
   simp only [Bool.and_eq_true, decide_eq_true_eq] at hc
   have hlt : j < e.Kids.length := by omega
   obtain ⟨k, hk⟩ := Qy hlt
   have hkm := List.mem_of_getElem? hk
   have hsz := QaS hkm
   simp only [Qq, hk, Option.bind_some]
   refine Ok.bind ((Qe6 fu k (by omega) (hwk.2 k hkm)).mono ?_)
   intro y _
   exact Ok.ret ⟨hlt, Qaq hlt hwk.1, trivial⟩
  ·rw [if_neg hc]
   exact Ok.ret trivial
theorem Qdu {α R β : Type} {B : Int × Int → Option (Ctl (Int × Int) R)} {xs : List α} {m : Int} {kr : R → Option β} {k : Int × Int → Option β} {Q : β → Prop}
  (hb : ∀ n, B (n, (xs.length : Int)) = some (.brk (n, (xs.length : Int))))
  (h : ∀ (n : Int) (i : Nat) x, xs[i]? = some x → Ok (B (n, (i : Int))) fun c => ∃ n', c = .next (n', ((i + 1 : Nat) : Int)))
  (hk : ∀ q, Ok (k q) Q) : Ok (Go.Pw.ctl (JA B (m, 0)) kr k) Q := by
 refine QfJ xs.length (fun _ _ => True) (fun _ => True) (fun _ => False) trivial ?_ (fun _ h => h.elim) (fun q _ => hk q)
 intro j n hj _
 by_cases hlt : j < xs.length
 ·obtain ⟨x, hx⟩ := Qy hlt
  refine (h n j x hx).mono ?_
  rintro c ⟨n', rfl⟩
  exact ⟨hlt, Z, trivial⟩
 ·obtain rfl : j = xs.length := by omega
  rw [hb]
  exact Ok.ret trivial
theorem QeW {c : Cond} (hl : LenC c) (hs : SizeOf.sizeOf c ≤ fu) : Ok (K4 fu c) fun _ => True := by
 unfold K4
 refine Qdu (xs := c.Tests) (fun n => by simp only [QO]; rw [if_neg (by simp)]) ?_ (fun q => Ok.ret trivial)
 intro n i t ht
 have hm := List.mem_of_getElem? ht
 have hi := (List.getElem?_eq_some_iff.1 ht).1
 have hz := QbA hm
 simp only [QO]
 rw [if_pos (decide_eq_true (by omega))]
 simp only [Qq, ht, Option.bind_some]
 refine Ok.bind ((Qe6 fu t.A (by omega) (hl.e t hm).1).mono ?_)
 intro _ _
 refine Ok.bind ((Qe6 fu t.B (by omega) (hl.e t hm).2).mono ?_)
 intro _ _
 exact Ok.ret ⟨_, by rw [Qaq hi hl.t]⟩
theorem QeS (hl : LenG g) (hs : SizeOf.sizeOf g ≤ fu) : Ok (YD fu g) fun _ => True := by
 unfold YD
 refine Qdu (xs := g.Goal) (fun n => by simp only [QO]; rw [if_neg (by simp)]) ?_ fun q => ?_
 ·intro n i c hc
  have hm := List.mem_of_getElem? hc
  have hi := (List.getElem?_eq_some_iff.1 hc).1
  have hz := QdQ hm
  simp only [QO]
  rw [if_pos (decide_eq_true (by omega))]
  simp only [Qq, hc, Option.bind_some]
  refine Ok.bind ((QeW (fu := fu) (hl.goal c hm) (by omega)).mono ?_)
  intro _ _
  exact Ok.ret ⟨_, by rw [Qaq hi hl.gl]⟩
 obtain ⟨n1, i1⟩ := q
 simp only [QO]
 refine Qdu (xs := g.Ops) (fun n => by simp only [QO]; rw [if_neg (by simp)]) ?_ (fun q => Ok.ret trivial)
 intro n i o ho
 have hm := List.mem_of_getElem? ho
 have hi := (List.getElem?_eq_some_iff.1 ho).1
 have hz := QfW hm
 have hp := QeO o
 have hlo := hl.op o hm
 simp only [QO]
 rw [if_pos (decide_eq_true (by omega))]
 simp only [Qq, ho, Option.bind_some]
 refine Ok.bind ((QeW (fu := fu) hlo.pre (by omega)).mono ?_)
 intro _ _
 refine Qdu (xs := o.Changes) (fun n => by simp only [QO]; rw [if_neg (by simp)]) ?_ fun q => ?_
 ·intro n i c hc
  have hm := List.mem_of_getElem? hc
  have hi := (List.getElem?_eq_some_iff.1 hc).1
  have hz := QdL hm
  simp only [QO]
  rw [if_pos (decide_eq_true (by omega))]
  simp only [Qq, hc, Option.bind_some]
  refine Ok.bind ((QeW (fu := fu) (hlo.whn c hm) (by omega)).mono ?_)
  intro _ _
  exact Ok.ret ⟨_, by rw [Qaq hi hlo.ch]⟩
 obtain ⟨n2, i2⟩ := q
 simp only [QO]
 refine Qdu (xs := o.Assigns) (fun n => by simp only [QO]; rw [if_neg (by simp)]) ?_ (fun q => Ok.ret ⟨_, by rw [Qaq hi hl.o]⟩)
 intro n i a ha
 have hm := List.mem_of_getElem? ha
 have hi := (List.getElem?_eq_some_iff.1 ha).1
 have hz := Qdc hm
 simp only [QO]
 rw [if_pos (decide_eq_true (by omega))]
 simp only [Qq, ha, Option.bind_some]
 refine Ok.bind ((Qe6 fu a.Value (by omega) (hlo.val a hm)).mono ?_)
 intro _ _
 exact Ok.ret ⟨_, by rw [Qaq hi hlo.asg]⟩
end
end Go.Pw
/- -/
set_option maxHeartbeats 8000000
set_option maxRecDepth 100000
namespace Go.Pw.Am
open Go.Pw
variable {fu : Nat}
def op0 : GOp := ⟨⟨#[40, 109, 111, 118, 101, 41]⟩, 3, ⟨[0], [2], []⟩, [⟨⟨[], [], []⟩, 0, false⟩, ⟨⟨[], [], []⟩, 1, true⟩], []⟩
def sam : Ground := ⟨[⟨⟨#[97, 116]⟩, [⟨#[97]⟩]⟩, ⟨⟨#[97, 116]⟩, [⟨#[98]⟩]⟩, ⟨⟨#[112]⟩, []⟩], [], [0], [⟨[1], [], []⟩], [op0]⟩
theorem Qk6 : KA = sam := by with_unfolding_all rfl
/-! ### the groups -/
theorem bs0 : Q4 [0, 1] 0 = some (0, true) := by
 unfold Q4
 exact Qgr 3 (.brk (0, 0)) (by with_unfolding_all rfl) (by with_unfolding_all rfl)
theorem bs1 : Q4 [0, 1] 1 = some (1, true) := by
 unfold Q4
 exact Qgr 3 (.brk (1, 1)) (by with_unfolding_all rfl) (by with_unfolding_all rfl)
abbrev ch0 : GChange := ⟨⟨[], [], []⟩, 0, false⟩
abbrev ch1 : GChange := ⟨⟨[], [], []⟩, 1, true⟩
theorem Qk5 : QM op0 [ch1] 0 [0, 1] = some (true, ⟨[(0, true)], [(2, true), (1, true)]⟩) := by
 unfold QM
 refine Qw ([(0, true)], [(2, true)]) (by with_unfolding_all rfl) ?_
 refine Qw ([(0, true)], [(2, true)]) (by with_unfolding_all rfl) ?_
 refine Qw [(0, true)] (by with_unfolding_all rfl) ?_
 refine Qw [(2, true), (1, true)] (by with_unfolding_all rfl) ?_
 exact Qc2 (by decide) fun ord h => by rw [List.perm_singleton.1 h]; with_unfolding_all rfl
theorem QeU : JJ op0 [0, 1] = some true := by
 unfold JJ
 refine Qw [ch1] (Qh8 [] (Qw ch0 Z (Qw (0, true) bs0 (by with_unfolding_all rfl))) (Qw ch1 Z (Qw (1, true) bs1 (by with_unfolding_all rfl)))) ?_
 refine Qep ([ch1], [ch1]) (QeG ?_) (by with_unfolding_all rfl)
 refine Qw ch1 Z ?_
 refine Qw [] (by with_unfolding_all rfl) ?_
 refine Qep () (by with_unfolding_all rfl) ?_
 refine Qep () (Qkc () ?_ (by with_unfolding_all rfl)) Z
 refine Qw (0 : Int) Z ?_
 rw [if_neg (by decide)]
 exact Qw _ Qk5 (by with_unfolding_all rfl)
theorem Y9 : J0 fu sam = some true := by with_unfolding_all rfl
theorem QkB : QQ fu sam [0, 1] = some true := by
 unfold QQ
 refine Qw true (Qw true Y9 ?_) Z
 rw [if_pos rfl]
 refine Qw true ?_ Z
 unfold JE
 refine Qep () (by with_unfolding_all rfl) (Qw true (by with_unfolding_all rfl) ?_)
 rw [if_neg (by decide)]
 exact Qep () (QeG (Qw op0 Z (Qw true QeU Z))) Z
theorem Qiv : Q6 fu [[0, 1]] sam = some false := by
 unfold Q6 QZ Ko
 refine Qw (-1 : Int) ?_ Z
 refine Qep () (QeG ?_) Z
 refine Qw [0, 1] Z ?_
 refine Qw false ?_ Z
 exact Qw true QkB Z
/-! ### the variables -/
def Qlq : encode_encoder := ⟨sam, [], [], [], []⟩
def enc1 : encode_encoder := ⟨sam, [3, 2], [⟨0, 1⟩, ⟨0, 2⟩, ⟨1, 1⟩], [true, true, false], []⟩
theorem QjA : QU Qlq [[0, 1]] = some ([⟨0, 1⟩, ⟨0, 2⟩, ⟨1, 1⟩], [true, true, false], [3, 2], []) := by
 unfold QU
 refine Qw [false, false, false] (by with_unfolding_all rfl) ?_
 refine Qw [true, true, true] (by with_unfolding_all rfl) ?_
 refine Qw [⟨[1], [], []⟩, ⟨[0], [2], []⟩, ⟨[], [], []⟩, ⟨[], [], []⟩] (by with_unfolding_all rfl) ?_
 refine Qw [true, true, false] (by with_unfolding_all rfl) ?_
 refine Qw [⟨0, 0⟩, ⟨0, 0⟩, ⟨0, 0⟩] (by with_unfolding_all rfl) ?_
 refine Qw [false, false, false] (by with_unfolding_all rfl) ?_
 exact Qgr 2 (.brk ([3], [false, false, false], [⟨0, 1⟩, ⟨0, 2⟩, ⟨0, 0⟩], [true, true, false])) (by with_unfolding_all rfl) (by with_unfolding_all rfl)
theorem QbB : JK [] = some [] := by
 unfold JK
 refine Qc2 (by decide) fun ord h => ?_
 rw [List.perm_nil.1 h]
 refine Qep [] Z (Qw [] ?_ Z)
 unfold QaV
 rw [if_pos (by decide), List.mergeSort_nil]
theorem Yz : QE fu [] [] = some [] := by
 unfold QE
 exact Qw ([] : Q0) Z (Qw ([] : Q0) Z (Qw [] QbB Z))
theorem Qcm : J8 fu op0 = some [] := by
 unfold J8
 exact Qw ([] : Q0) Z (Qw ([] : Q0) Z (Qw [] QbB Z))
theorem QeS : Jo fu enc1 = some false := by
 unfold Jo
 refine Qep () (QeG ?_) ?_
 ·refine Qw (⟨[1], [], []⟩ : Cond) Z ?_
  exact Qw [] Yz (by with_unfolding_all rfl)
 refine Qep () (QeG ?_) Z
 refine Qw op0 Z ?_
 refine Qw [] Qcm ?_
 refine Qw (1 : Int) (by with_unfolding_all rfl) ?_
 rw [if_neg (by decide)]
 refine Qep () (Qkc () ?_ ?_) Z
 ·refine Qw ch0 Z ?_
  exact Qw [] Yz (by with_unfolding_all rfl)
 ·refine Qw ch1 Z ?_
  exact Qw [] Yz (by with_unfolding_all rfl)
/-! ### the facts -/
theorem QeM {xs : List Fact} (h : xs.Pairwise fun x y => (!decide (Qb6 y x < 0)) = true) (h2 : xs.length < 4611686018427387904 ∧ ∀ x ∈ xs, RF x) : Kf xs = some xs := by
 unfold Kf
 rw [if_pos h2, List.mergeSort_of_pairwise h]
theorem Qk4 : Kf [] = some [] := QeM (by simp) (by simp)
theorem QiJ {f : Fact} (h : RF f) : Kf [f] = some [f] := QeM (by simp) (by simp [h])
theorem Qk3 : Kf [⟨0, 1⟩, ⟨1, 0⟩] = some [⟨0, 1⟩, ⟨1, 0⟩] := QeM (by decide) (by decide)
theorem Qdm : QT [⟨0, 1⟩, ⟨1, 0⟩] = some (2, [⟨0, 1⟩, ⟨1, 0⟩]) := by
 unfold QT
 rw [if_neg (by decide)]
 exact Qgr 2 (.brk 2) (by with_unfolding_all rfl) (by with_unfolding_all rfl)
theorem Qiy : QB enc1 ⟨[0], [2], []⟩ [] [] [] = some ([⟨0, 1⟩, ⟨1, 0⟩], true) := by
 unfold QB
 refine Qw [] (by with_unfolding_all rfl) ?_
 refine Qw [⟨0, 1⟩] (by with_unfolding_all rfl) ?_
 refine Qw [⟨0, 1⟩, ⟨1, 0⟩] (by with_unfolding_all rfl) ?_
 refine Qw [⟨0, 1⟩, ⟨1, 0⟩] (by with_unfolding_all rfl) ?_
 refine Qw _ Qk3 ?_
 refine Qw _ Qdm ?_
 refine Qw () (by with_unfolding_all rfl) ?_
 exact Qgr 2 (.brk 2) (by with_unfolding_all rfl) (by with_unfolding_all rfl)
theorem Qhu : QB enc1 ⟨[1], [], []⟩ [] [] [] = some ([⟨0, 2⟩], true) := by
 unfold QB
 refine Qw [] (by with_unfolding_all rfl) ?_
 refine Qw [⟨0, 2⟩] (by with_unfolding_all rfl) ?_
 refine Qw [⟨0, 2⟩] (by with_unfolding_all rfl) ?_
 refine Qw [⟨0, 2⟩] (by with_unfolding_all rfl) ?_
 refine Qw _ (QiJ (by decide)) ?_
 refine Qw (1, [⟨0, 2⟩]) (by with_unfolding_all rfl) ?_
 refine Qw () (by with_unfolding_all rfl) ?_
 exact Qgr 1 (.brk 1) (by with_unfolding_all rfl) (by with_unfolding_all rfl)
theorem Qiz : Jd enc1 ⟨[], [], []⟩ [] [] [⟨0, 1⟩] = some ([⟨0, 1⟩], true) := by
 unfold Jd
 refine Qw [⟨0, 1⟩] (by with_unfolding_all rfl) ?_
 refine Qw [⟨0, 1⟩] (by with_unfolding_all rfl) ?_
 refine Qw [⟨0, 1⟩] (by with_unfolding_all rfl) ?_
 refine Qw [⟨0, 1⟩] (by with_unfolding_all rfl) ?_
 refine Qw _ (QiJ (by decide)) ?_
 refine Qw (1, [⟨0, 1⟩]) (by with_unfolding_all rfl) ?_
 refine Qw () (by with_unfolding_all rfl) ?_
 exact Qgr 1 (.brk 1) (by with_unfolding_all rfl) (by with_unfolding_all rfl)
theorem Qi0 : Jd enc1 ⟨[], [], []⟩ [] [] [] = some ([], true) := by
 unfold Jd
 refine Qw [] (by with_unfolding_all rfl) ?_
 refine Qw [] (by with_unfolding_all rfl) ?_
 refine Qw [] (by with_unfolding_all rfl) ?_
 refine Qw [] (by with_unfolding_all rfl) ?_
 refine Qw _ Qk4 ?_
 refine Qw (0, []) (by with_unfolding_all rfl) ?_
 refine Qw () (by with_unfolding_all rfl) ?_
 exact Qgr 1 (.brk 1) (by with_unfolding_all rfl) (by with_unfolding_all rfl)
theorem Qi3 : QR fu enc1 ⟨[], [], []⟩ [] [] [⟨0, 1⟩] = some [[⟨0, 1⟩]] := by
 unfold QR
 refine Qw _ Yz ?_
 refine Qw [[]] (by with_unfolding_all rfl) ?_
 refine Qw _ (Qkb (s1 := [[⟨0, 1⟩]]) ?_) Z
 refine Qw [] Z ?_
 refine Qw true (by with_unfolding_all rfl) ?_
 rw [if_neg (by decide)]
 exact Qw _ Qiz (by with_unfolding_all rfl)
theorem Qi4 : QR fu enc1 ⟨[], [], []⟩ [] [] [] = some [[]] := by
 unfold QR
 refine Qw _ Yz ?_
 refine Qw [[]] (by with_unfolding_all rfl) ?_
 refine Qw _ (Qkb (s1 := [[]]) ?_) Z
 refine Qw [] Z ?_
 refine Qw true (by with_unfolding_all rfl) ?_
 rw [if_neg (by decide)]
 exact Qw _ Qi0 (by with_unfolding_all rfl)
theorem Qdl : Je fu enc1 op0 [] [] = some [⟨[⟨0, 1⟩], 0, 0⟩, ⟨[], 0, 2⟩] := by
 unfold Je
 refine Qw _ (Qh8 [⟨[⟨0, 1⟩], 0, 0⟩] (Qw false Z (Qw _ (Qh8 [⟨[⟨0, 1⟩], 0, 0⟩] (Qw ch0 Z ?_) (by with_unfolding_all rfl)) Z)) (Qw true Z (Qw _ (Qh8 [⟨[⟨0, 1⟩], 0, 0⟩] (by with_unfolding_all rfl) (Qw ch1 Z ?_)) Z))) (by with_unfolding_all rfl)
 ·rw [if_neg (by decide)]
  refine Qw ⟨0, 1⟩ (by with_unfolding_all rfl) (Qw ([⟨0, 1⟩], 0) (by with_unfolding_all rfl) ?_)
  exact Qw _ Qi3 (by with_unfolding_all rfl)
 ·rw [if_neg (by decide)]
  refine Qw ⟨0, 2⟩ (by with_unfolding_all rfl) (Qw ([], 2) (by with_unfolding_all rfl) ?_)
  exact Qw _ Qi4 (by with_unfolding_all rfl)
def opE : Op := ⟨⟨#[40, 109, 111, 118, 101, 41]⟩, 3, [⟨0, 1⟩, ⟨1, 0⟩], [⟨[⟨0, 1⟩], 0, 0⟩, ⟨[], 0, 2⟩]⟩
theorem Qgh : QV fu enc1 ⟨⟨[3, 2], [1, 0], [], []⟩, enc1.atoms, [], []⟩ 0 [] = some (true, [opE], [0]) := by
 unfold QV
 refine Qw op0 Z (Qw _ Qcm (Qw [[]] (by with_unfolding_all rfl) ?_))
 refine Qep ([opE], [0]) (QeG (Qw [] Z (Qw true (by with_unfolding_all rfl) ?_))) Z
 rw [if_neg (by decide)]
 refine Qw _ Qiy ?_
 dsimp only [QO]
 rw [if_neg (by decide)]
 exact Qw _ Qdl (by with_unfolding_all rfl)
theorem QjJ : Jx fu enc1 ⟨⟨[3, 2], [1, 0], [], [opE]⟩, enc1.atoms, [], [0]⟩ [] = some (true, [⟨0, 2⟩], [3, 2], [1, 0], [opE], [0]) := by
 unfold Jx
 refine Qw true (by with_unfolding_all rfl) ?_
 rw [if_pos rfl]
 refine Qw (⟨[1], [], []⟩ : Cond) Z ?_
 exact Qw _ Qhu (by with_unfolding_all rfl)
def Qkr : Task := ⟨[3, 2], [1, 0], [⟨0, 2⟩], [opE]⟩
theorem Qjw : KT Qkr = some none := by with_unfolding_all rfl
theorem Qi1 : QX fu sam [[0, 1]] = some (none, ⟨Qkr, enc1.atoms, [], [0]⟩) := by
 unfold QX
 refine Qw false (Qw true Y9 ?_) ?_
 ·rw [if_neg (by decide)]
  exact Qw _ Qiv Z
 rw [if_neg (by decide)]
 refine Qw _ QjA (Qw _ QeS ?_)
 rw [if_neg (by decide)]
 refine Qw [3, 2] (by with_unfolding_all rfl) (Qw [0, 0] (by with_unfolding_all rfl) (Qw [1, 0] (by with_unfolding_all rfl) (Qw (([] : List Int), ([1, 0] : List Int)) (by with_unfolding_all rfl) ?_)))
 refine Qep (([] : List Int), [opE], [0]) (QeG (Qw _ Qgh Z)) ?_
 refine Qw _ QjJ ?_
 dsimp only [un6]
 rw [if_neg (by decide)]
 exact Qw _ Qjw Z
theorem QiY : Qac fu sam ⟨Qkr, enc1.atoms, [], [0]⟩ ⟨[1, 2], []⟩ = some ([2, 1], none) := by with_unfolding_all rfl
theorem awake_ok (fu : Nat) : K3 fu = some true := by
 unfold K3
 rw [Qk6]
 refine Qw _ Qi1 ?_
 refine Qw false (by with_unfolding_all rfl) ?_
 rw [if_neg (by decide)]
 exact Qw _ QiY (by with_unfolding_all rfl)
end Go.Pw.Am
/- -/
set_option maxHeartbeats 4000000
namespace Go.Pw
theorem QhL {g : Ground} {fu : Nat} (h : SizeOf.sizeOf g ≤ fu) : Fuel g fu := by
 refine ⟨?_, fun c hc t ht => ?_, fun o ho => ?_⟩
 ·obtain ⟨at', fl, ini, gl, ops⟩ := g
  have p1 : ∀ {α : Type} [SizeOf α] (l : List α), 1 ≤ SizeOf.sizeOf l := by intro α _ l; cases l <;> simp <;> omega
  have q1 := p1 at'
  have q2 := p1 ini
  have q3 := p1 gl
  have q4 := p1 ops
  simp only [Ground.mk.sizeOf_spec, List.nil.sizeOf_spec] at *
  omega
 ·have h1 := QbA ht
  have h2 := QdQ hc
  omega
 ·have h0 := QfW ho
  refine ⟨by omega, fun t ht => ?_, fun a ha => ?_, fun c hc t ht => ?_⟩
  ·have h1 := QbA ht
   have h2 := QeO o
   omega
  ·have h1 := Qdc ha
   omega
  ·have h1 := QbA ht
   have h2 := QdL hc
   omega
theorem Qhs (g : Ground) : Ok (YB g) fun _ => True := by
 unfold YB
 refine Ok.bind (Jg (fun _ _ => True) trivial ?_ ?_)
 ·intro j s hj _
  obtain ⟨x, hx⟩ := Qy hj
  simp only [Qq, hx, Option.bind_some]
  refine Ok.bind ?_
  by_cases hc : ((decide ((-1099511627776) ≤ x.Lo)) && ((decide (x.Lo ≤ x.Hi)) && decide (x.Hi ≤ 1099511627776))) = true
  ·rw [if_pos hc]; exact Ok.ret (Ok.ret trivial)
  ·rw [if_neg hc]; exact Ok.ret (Ok.ret trivial)
 intro all _
 refine Ok.bind (Jg (fun _ _ => True) trivial ?_ fun _ _ => Ok.ret trivial)
 intro j s hj _
 obtain ⟨x, hx⟩ := Qy hj
 simp only [Qq, hx, Option.bind_some]
 refine Ok.bind (Jg (fun _ _ => True) trivial ?_ ?_)
 ·intro k s hk _
  obtain ⟨y, hy⟩ := Qy hk
  simp only [Qq, hy, Option.bind_some]
  refine Ok.bind ?_
  exact Jm (fun _ => Ok.ret (Ok.ret trivial)) fun _ => Ok.ret (Ok.ret trivial)
 ·intro n _
  refine Ok.bind ?_
  exact Jm (fun _ => Ok.ret (Ok.ret trivial)) fun _ => Ok.ret (Ok.ret trivial)
theorem Qhr {g : Ground} {fu : Nat} (hl : LenG g) (hs : SizeOf.sizeOf g ≤ fu) : Ok (YC fu g) fun _ => True := by
 unfold YC
 refine Ok.bind ?_
 refine Ok.bind ((QeS hl hs).mono fun y _ => ?_)
 refine Jm (fun _ => Ok.ret (Ok.ret trivial)) fun _ => ?_
 refine Jm (fun _ => Ok.ret (Ok.ret trivial)) fun _ => ?_
 refine Jm (fun _ => Ok.ret (Ok.ret trivial)) fun _ => ?_
 refine Jm (fun _ => Ok.ret (Ok.ret trivial)) fun _ => ?_
 refine Ok.bind ((Qhs g).mono fun y _ => ?_)
 exact Ok.ret (Ok.ret trivial)
theorem QhU {g : Ground} {l : List Int} {fu : Nat} (hl : LenG g) (hs : SizeOf.sizeOf g ≤ fu) (hv : ValidG g) (hb : l.length ≤ 100) {b : Bool} (h : JQ g l = some b) : QQ fu g l = some b := by
 classical
 rw [Qba hv hb] at h
 unfold QQ
 rw [Y9 hl hs, Option.bind_some, decide_eq_true hv, if_pos rfl, QgS hv (by omega), h]
 rfl
theorem Qj0 {g : Ground} {l : List Int} (hv : ValidG g) (hb : l.length ≤ 100) (h : JQ g l = some true) : GrpOK g.Atoms.length l := by
 classical
 rw [Qba hv hb] at h
 have hB : Qeq g l := by simpa using h
 exact ⟨fun x hx => hB.1.rng hx, hB.1.pw⟩
theorem QfQ {c : Int} : YM (some c) c = true := by
 have h := Qbp (some c) c
 have e : YJ (some c) = c := by
  have h := Qd7 (some c)
  rw [← Option.some.injEq, ← h]
  simp [QaX]
 unfold QbF at h
 rw [e] at h
 simpa using h.symm
theorem Qji {n : Nat} {e : Encoding} (hn : n ≤ 4096) (h : Qkz n e) {Q : Bool → Prop} {k : Int → Option Bool} (hk : ∀ i, Ok (k i) Q) {B : Int → Option (Ctl Int Bool)}
  (hB : ∀ i : Nat, B (i : Int) = if decide ((i : Int) < (e.Atoms.length : Int)) then (((Q9 e.Atoms (i : Int)).bind fun x100 =>
   if !(eqs [x100.Var, x100.Val] [(i : Int), 1]) then (some true)
   else (if decide ((e.Task.Vars.length : Int) ≤ (i : Int)) then (some true)
   else ((Q9 e.Task.Vars (i : Int)).bind fun x101 =>
   some (!decide (x101 = 2))))).bind (fun (z102 : Bool) => if z102 then (some (Ctl.ret false))
   else (some (Ctl.next (IntKind.i64.wrap ((i : Int) + 1))))))
   else (some (Ctl.brk (i : Int)))) :
  Ok (Go.Pw.ctl (JA B 0) (fun r => some r) k) Q := by
 refine Qa1 (fun q => ∃ j : Nat, q = (j : Int) ∧ j ≤ n) (fun _ => True) (fun _ => False) (fun q => n - q.toNat) ⟨0, Z, Nat.zero_le _⟩ ?_ (fun _ h => h.elim) (fun q _ => hk q)
 rintro _ ⟨j, rfl, hj⟩
 rw [hB]
 obtain ⟨h1, h2⟩ := h
 by_cases hlt : j < n
 ·obtain ⟨a1, a2⟩ := h2 j hlt
  have hv := (List.getElem?_eq_some_iff.1 a2).1
  rw [if_pos (decide_eq_true (by omega)), Qq, a1, Option.bind_some, if_neg (by simp [eqs]), if_neg (by simp; omega), Qq, a2]
  refine ⟨.next ((j + 1 : Nat) : Int), ?_, ?_, ?_, ?_⟩
  ·simp only [Option.bind_some]
   rw [if_neg (by decide), Qaq hlt (by omega)]
  ·rintro _ ⟨⟩
   exact ⟨⟨j + 1, Z, by omega⟩, by omega⟩
  ·rintro _ ⟨⟩
  ·rintro _ ⟨⟩
 ·rw [if_neg (by simp; omega)]
  refine ⟨_, Z, ?_, fun _ _ => trivial, ?_⟩
  ·rintro _ ⟨⟩
  ·rintro _ ⟨⟩
theorem Qe1 {g : Ground} {l : List Int} {fu : Nat} (hl : LenG g) (hs : SizeOf.sizeOf g ≤ fu) (haw : K3 fu = some true) : JW fu g l = some true := by
 classical
 unfold JW
 obtain ⟨b, eb, _⟩ := Qhr hl hs
 rw [eb, Option.bind_some, haw]
 cases b with
 | true => rfl
 | false =>
  rw [if_neg (by decide)]
  by_cases h100 : 100 < (l.length : Int)
  ·rw [if_pos (decide_eq_true h100)]; rfl
  rw [if_neg (by simpa using h100)]
  simp only [Option.bind_some, Bool.not_true]
  rw [if_neg (by decide)]
  have hb : l.length ≤ 100 := by omega
  apply Ok.eq
  by_cases hv : ValidG g
  case neg =>
   rw [Qhv hl hs hv, Option.bind_some]
   simp only [QO]
   rw [Y9 hl hs, Option.bind_some, decide_eq_false hv]
   simp only [Bool.not_false, if_true, Option.bind_some]
   exact Ok.ret QfQ
  rw [Y9 hl hs, decide_eq_true hv]
  have hbal := Qba hv hb
  by_cases hB : Qeq g l
  case neg =>
   rw [decide_eq_false hB] at hbal
   rw [Qgj (b := fun _ => false) hl hs hv (fun l' hl' => by rw [List.mem_singleton.1 hl']; exact QhU hl hs hv hb hbal) (by simp), hbal]
   simp only [QO, Option.bind_some, Bool.not_true, Bool.not_false, if_true, if_false, Bool.false_eq_true]
   exact Ok.ret QfQ
  rw [decide_eq_true hB] at hbal
  obtain ⟨⟨r, e⟩, er, hr, _⟩ := Qek (groups := [l]) hl hs (QhL hs) hv (fun l' hl' => by rw [List.mem_singleton.1 hl']; exact QhU hl hs hv hb hbal) (fun l' hl' => by rw [List.mem_singleton.1 hl']; exact Qj0 hv hb hbal)
  rw [er, hbal]
  simp only [QO, Option.bind_some, Bool.not_true, Bool.false_eq_true, if_false]
  obtain ⟨⟨r2, e2⟩, er2, hr2, hown⟩ := Qek (groups := []) hl hs (QhL hs) hv (by simp) (by simp)
  rw [er2]
  simp only [QO, Option.bind_some]
  simp only at hr hr2 hown
  rcases hr2 with rfl | rfl
  ·rw [if_neg (by simp)]
   have ho := hown rfl trivial
   refine Qji hv.a ho (fun i => Ok.ret ?_) (fun i => rfl)
   rw [decide_eq_true (by rw [ho.1]), Bool.true_and]
   rcases hr with rfl | rfl
   ·rfl
   ·rw [QfQ]; rfl
  ·rw [if_pos (by simp)]
   exact Ok.ret QfQ
theorem QdX {g : Ground} (l : List Int) (hl : LenG g) : JW (SizeOf.sizeOf g) g l = some true := Qe1 hl (Nat.le_refl _) (Am.awake_ok _)
end Go.Pw
/- -/
namespace Go.Pw
/-! ### what is known of data read in -/
abbrev WfC (c : Cond) : Prop := (c.Pos.length ≤ maxLen ∧ ∀ y ∈ c.Pos, (Lit.int .i64 y).wf = true) ∧ (c.Neg.length ≤ maxLen ∧ ∀ y ∈ c.Neg, (Lit.int .i64 y).wf = true) ∧ (c.Tests.length ≤ maxLen ∧ ∀ t ∈ c.Tests, (t.Op.size ≤ maxLen) ∧ WFE t.A ∧ WFE t.B)
theorem QfY {c : Cond} (h : WfC c) : LenC c := ⟨h.1.1, h.2.1.1, h.2.2.1, fun t ht => (h.2.2.2 t ht).2⟩
theorem QjI {g : Ground} {A F I : Prop} {P : GOp → Prop} {Q : GChange → Prop} {R : GAssign → Prop} (h : (g.Atoms.length ≤ maxLen ∧ A) ∧ (g.Fluents.length ≤ maxLen ∧ F) ∧ (g.Init.length ≤ maxLen ∧ I) ∧ (g.Goal.length ≤ maxLen ∧ ∀ c ∈ g.Goal, WfC c) ∧
  (g.Ops.length ≤ maxLen ∧ ∀ o ∈ g.Ops, (o.Name.size ≤ maxLen) ∧ P o ∧ WfC o.Pre ∧ (o.Changes.length ≤ maxLen ∧ ∀ c ∈ o.Changes, WfC c.When ∧ Q c) ∧ (o.Assigns.length ≤ maxLen ∧ ∀ a ∈ o.Assigns, R a ∧ WFE a.Value))) : LenG g :=
 ⟨h.1.1, h.2.1.1, h.2.2.1.1, h.2.2.2.1.1, h.2.2.2.2.1, fun c hc => QfY (h.2.2.2.1.2 c hc), fun o ho =>
  let k := h.2.2.2.2.2 o ho
  ⟨k.1, QfY k.2.2.1, k.2.2.2.1.1, fun c hc => QfY (k.2.2.2.1.2 c hc).1, k.2.2.2.2.1, fun a ha => (k.2.2.2.2.2 a ha).2⟩⟩
end Go.Pw
