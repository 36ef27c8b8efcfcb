/-
  Plain Lean: comparing lists; the coarsest stable classes. No program in sight.
-/
import Derived.Test.YtagooehmocpcjaaDoorB2
import Derived.Test.YtagooehmocpcjaaDoorB3
set_option maxHeartbeats 4000000
set_option linter.unusedSimpArgs false
set_option linter.unusedVariables false
namespace Go.Pw
open Classical in
theorem eq_loop2 {α β : Type} (t : α → α → Bool) (ht : ∀ x y, t x y = true ↔ x ≠ y) (xs ys : List α) (hl : xs.length = ys.length) {kr : Bool → Option β} {k : Unit → Option β} :
    ctl (forC (R := Bool) (fun i => fun (_ : Unit) => (idx xs (i : Int)).bind fun x => (idx ys (i : Int)).bind fun y => if t x y then some (Ctl.ret false) else some (Ctl.next ())) xs.length 0 ()) kr k = if xs = ys then k () else kr false := by
  rw [ctl_all (p := fun i => decide (xs[i]? = ys[i]?)) (r := false)]
  · by_cases h : xs = ys
    · subst h; simp
    · rw [if_neg h, if_neg]
      intro hall
      apply h
      apply List.ext_getElem?
      intro i
      by_cases hi : i < xs.length
      · have := List.all_eq_true.1 hall i (by simpa using hi)
        simpa using this
      · rw [List.getElem?_eq_none (by omega), List.getElem?_eq_none (by omega)]
  · intro i hi
    obtain ⟨x, hx⟩ := get_some hi
    obtain ⟨y, hy⟩ := get_some (show i < ys.length by omega)
    simp only [idx_nat, hx, hy, Option.bind_some, Option.some.injEq]
    by_cases e : x = y
    · have : t x y = false := by
        cases ht' : t x y with
        | false => rfl
        | true => exact absurd e ((ht x y).1 ht')
      subst e
      simp [this]
    · simp [(ht x y).2 e, e]
theorem ints_gen (xs ys : List Int) : (if !decide ((xs.length : Int) = (ys.length : Int)) then (some false)
  else (ctl (forC (R := (Bool)) (fun i => fun (_ : Unit) => (idx xs (i : Int)).bind fun x => (idx ys (i : Int)).bind fun y =>
  if !decide (x = y) then (some (Ctl.ret false)) else (some (Ctl.next ()))) (xs.length) 0 ()) (fun r => some r) (fun (_ : Unit) => some true))) = some (decide (xs = ys)) := by
  by_cases h : xs.length = ys.length
  · rw [if_neg (by simp [h]), eq_loop2 (fun x y => !decide (x = y)) (by simp) xs ys h]
    by_cases e : xs = ys <;> simp [e]
  · rw [if_pos (by simp; omega)]
    have : xs ≠ ys := fun e => h (by rw [e])
    simp [this]

/-- Equal entries of a list. -/
def eqL {α : Type} (l : List α) : Rel := fun i j => l[i]? = l[j]?
theorem eqL_eqv {α : Type} (l : List α) (n : Nat) : Eqv n (eqL l) := ⟨fun _ _ => rfl, fun _ _ _ _ h => Eq.symm h, fun _ _ _ _ _ _ h k => Eq.trans h k⟩
theorem ClsL.eqL {n : Nat} {R : Rel} (h : Eqv n R) {c : List Int} (hc : ClsL R n c) : (∀ i j, i < n → j < n → (R i j ↔ Go.Pw.eqL c i j)) ∧ ClsL (Go.Pw.eqL c) n c := by
  have e : ∀ i j, i < n → j < n → (R i j ↔ Go.Pw.eqL c i j) := fun i j hi hj => (hc.iff h hi hj).symm
  exact ⟨e, hc.congr e⟩
def Coarse (X : TS) (R : Rel) : Prop := ∀ T, Stable X T → SubR X.n T R
/-- The classes of bisimilar states. -/
def IsBis (X : TS) (c : List Int) : Prop := Stable X (eqL c) ∧ Coarse X (eqL c) ∧ ClsL (eqL c) X.n c
theorem IsBis.uniq {X : TS} {c d : List Int} (hc : IsBis X c) (hd : IsBis X d) : c = d :=
  hc.2.2.uniq (eqL_eqv c _) (hd.2.2.congr (Stable.uniq hd.1 hc.1 hd.2.1 hc.2.1))
theorem sub_eqv {n : Nat} {R S : Rel} (h : ∀ i j, i < n → j < n → (R i j ↔ S i j)) : SubR n R S := fun i j hi hj k => (h i j hi hj).1 k
/-- How far a numbering has come. -/
structure BisI (X : TS) (c : List Int) : Prop where
  goal : SubR X.n (eqL c) (goalR X)
  coarse : Coarse X (eqL c)
  cls : ClsL (eqL c) X.n c
theorem BisI.next {X : TS} {c d : List Int} (h : BisI X c) (hd : ClsL ((eqL c).and (sig X (eqL c))) X.n d) : BisI X d := by
  have hE : Eqv X.n ((eqL c).and (sig X (eqL c))) := (eqL_eqv c _).and (sig_eqv (eqL_eqv c _))
  obtain ⟨e, h2⟩ := hd.eqL hE
  refine ⟨fun i j hi hj k => h.goal i j hi hj ((e i j hi hj).2 k).1, fun T hT i j hi hj k => ?_, h2⟩
  exact (e i j hi hj).1 (hT.keep (h.coarse T hT) i j hi hj k)
theorem BisI.rnk_le {X : TS} {c d : List Int} (hd : ClsL ((eqL c).and (sig X (eqL c))) X.n d) : rnk (eqL c) X.n ≤ rnk (eqL d) X.n := by
  have hE : Eqv X.n ((eqL c).and (sig X (eqL c))) := (eqL_eqv c _).and (sig_eqv (eqL_eqv c _))
  obtain ⟨e, h2⟩ := hd.eqL hE
  rw [← rnk_congr e (Nat.le_refl _)]
  exact rnk_finer (eqL_eqv c _) hE (fun i j hi hj k => k.1) _ (Nat.le_refl _)
theorem BisI.stop {X : TS} {c d : List Int} (h : BisI X c) (hd : ClsL ((eqL c).and (sig X (eqL c))) X.n d) (e : rnk (eqL c) X.n = rnk (eqL d) X.n) : IsBis X d := by
  have hE : Eqv X.n ((eqL c).and (sig X (eqL c))) := (eqL_eqv c _).and (sig_eqv (eqL_eqv c _))
  have hn := h.next hd
  obtain ⟨e1, h2⟩ := hd.eqL hE
  have e2 := rnk_same (eqL_eqv c X.n) hE (fun i j hi hj k => k.1) (by rw [e, rnk_congr e1 (Nat.le_refl _)])
  refine ⟨⟨eqL_eqv d _, hn.goal, fun i j hi hj k => ?_⟩, hn.coarse, hn.cls⟩
  have k2 := (e1 i j hi hj).2 k
  exact sig_mono (fun i j hi hj q => (e1 i j hi hj).1 ((e2 i j hi hj).1 q)) i j k2.2
theorem rnk_n (R : Rel) (n : Nat) : rnk R n ≤ n := rnk_le R n
end Go.Pw
