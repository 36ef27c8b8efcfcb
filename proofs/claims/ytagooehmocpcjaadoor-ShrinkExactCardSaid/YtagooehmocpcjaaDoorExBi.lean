/-
  The program's classes of bisimilar states, in plain Lean.
-/
import Derived.Test.YtagooehmocpcjaaDoorExRf
set_option maxHeartbeats 4000000
set_option maxRecDepth 100000
set_option linter.unusedSimpArgs false
set_option linter.unusedVariables false
namespace Go.Pw
theorem Ints_o (a b : List Int) : base_Ints_o_p a b = some (decide (a = b)) := ints_gen a b
theorem Ints_o_o (a b : List Int) : base_Ints_o_o_p a b = some (decide (a = b)) := ints_gen a b
theorem fmtB (b : Bool) : strconv_FormatBool_t b = if b then (⟨#[116, 114, 117, 101]⟩ : ByteArray) else (⟨#[102, 97, 108, 115, 101]⟩) := by
  have h := strconv_FormatBool_tot b
  unfold strconv_FormatBool_p at h
  have h2 := strconv_FormatBool_55_tot b
  unfold strconv_FormatBool_55_p at h2
  rw [← Option.some.inj h]
  cases b
  · simpa using (Option.some.inj h2).symm
  · simpa using (Option.some.inj h2).symm
theorem fmtB_inj {a b : Bool} (h : strconv_FormatBool_t a = strconv_FormatBool_t b) : a = b := by
  rw [fmtB, fmtB] at h
  cases a <;> cases b <;> simp at h <;> rfl
theorem fmtB_size (b : Bool) : (strconv_FormatBool_t b).size ≤ 5 := by rw [fmtB]; cases b <;> decide
theorem ClsL.clsOf {R : Rel} {n b : Nat} {c : List Int} (h : ClsL R n c) (hn : n ≤ b) : ClsOf c n b := by
  refine ⟨h.1, fun y hy => ?_⟩
  obtain ⟨i, hi⟩ := List.mem_iff_getElem?.1 hy
  have hin : i < n := by have := (List.getElem?_eq_some_iff.1 hi).1; rw [h.1] at this; exact this
  obtain ⟨k, h1, h2⟩ := h.2 i hin
  rw [hi] at h1; cases h1
  have := cls_lt hin h2
  have := rnk_n R n
  exact ⟨k, rfl, by omega⟩
theorem bisim_ok {x : System} (hv : VSys x) (hs : x.States ≤ 100) (hl : x.Costs.length ≤ 100) : Ok (shrink_Bisimulation_p x) fun r => r.2 = none ∧ IsBis (TSof x hv) r.1 := by
  unfold shrink_Bisimulation_p
  have s1 := hv.s1
  have hg := hv.g
  simp only [tV, valB_iff.2 hv, Option.bind_some, Bool.not_true, Bool.false_eq_true, if_false]
  obtain ⟨n, hn⟩ : ∃ n : Nat, x.States = (n : Int) := ⟨x.States.toNat, by omega⟩
  have hnt : x.States.toNat = n := by omega
  have hXn : (TSof x hv).n = n := hnt
  have hmk : mk 16 (⟨#[]⟩ : ByteArray) x.States = some (List.replicate n ⟨#[]⟩) := by rw [hn]; exact mk_ok (by omega) (by omega)
  refine Ok.step hmk (Ok.bind ?_)
  refine Ok.forS (fun m (T : List ByteArray) => T.length = n ∧ ∀ j, j < m → T[j]? = some (strconv_FormatBool_t (x.Goals[j]?.getD false))) ⟨by simp, fun j h => absurd h (Nat.not_lt_zero _)⟩ ?_ ?_
  · rintro m T hm ⟨hT, hd⟩
    obtain ⟨g, hgm⟩ := get_some hm
    obtain ⟨y, hy⟩ := get_some (show m < T.length by omega)
    simp only [idx_nat, hgm, hy, Option.bind_some]
    refine Ok.step (setI_nat (by omega)) (Ok.ret ⟨by simp [hT], fun j hj => ?_⟩)
    by_cases e : j = m
    · subst e; rw [List.getElem?_set_self (by omega), hgm]; rfl
    · rw [List.getElem?_set_ne (Ne.symm e)]; exact hd j (by omega)
  · rintro T ⟨hT, hd⟩
    have hgl : x.Goals.length = n := by omega
    rw [hgl] at hd
    have hsz : ∀ s ∈ T, s.size ≤ 100000000 := by
      intro s hs'
      obtain ⟨j, hj⟩ := List.mem_iff_getElem?.1 hs'
      have hjn : j < n := by have := (List.getElem?_eq_some_iff.1 hj).1; omega
      rw [hd j hjn] at hj; cases hj
      have := fmtB_size (x.Goals[j]?.getD false)
      omega
    refine Ok.bind ((numbered_ok T (by omega) hsz).mono ?_)
    rintro ⟨c, k⟩ ⟨h1, h2⟩
    simp only at h1 h2
    rw [hT] at h1 h2
    have hgoal : ∀ i j, i < n → j < n → (eqL T i j ↔ goalR (TSof x hv) i j) := by
      intro i j hi hj
      unfold eqL goalR
      rw [hd i hi, hd j hj]
      exact ⟨fun e => fmtB_inj (Option.some.inj e), fun e => by rw [show x.Goals[i]?.getD false = x.Goals[j]?.getD false from e]⟩
    obtain ⟨e1, e2⟩ := (h1.congr hgoal).eqL (by have := goalR_eqv (TSof x hv); rw [hXn] at this; exact this)
    have hI : BisI (TSof x hv) c := by
      refine ⟨?_, ?_, by rw [hXn]; exact e2⟩
      · rw [hXn]; exact fun i j hi hj q => (e1 i j hi hj).2 q
      · intro S hS
        have := hS.goal
        rw [hXn] at this ⊢
        exact fun i j hi hj q => (e1 i j hi hj).1 (this i j hi hj q)
    have hk : k = (rnk (eqL c) n : Int) := by
      rw [h2, rnk_congr (fun i j hi hj => (hgoal i j hi hj).trans (e1 i j hi hj)) (Nat.le_refl _)]
    simp only [un2]
    refine Ok.while (fun s : List Int × Int => BisI (TSof x hv) s.1 ∧ s.2 = (rnk (eqL s.1) n : Int)) (fun _ => False) (fun r => r.2 = none ∧ IsBis (TSof x hv) r.1) (fun s => n - s.2.toNat) ⟨hI, hk⟩ ?_ (fun r h => Ok.ret h) (fun _ h => h.elim)
    rintro ⟨c, k⟩ ⟨hI, hk⟩
    simp only at hI hk
    subst hk
    have hcl := hI.cls
    rw [hXn] at hcl
    simp only
    refine (Ok.bind ((refine_ok hv hs hl (by rw [hnt]; exact hcl.clsOf (by omega))).mono ?_)).mono fun c hc => hc
    rintro ⟨d, k⟩ ⟨h3, h4⟩
    simp only at h3 h4
    rw [hnt] at h4
    have h3' : ClsL ((eqL c).and (sig (TSof x hv) (eqL c))) (TSof x hv).n d := h3
    have hE : Eqv (TSof x hv).n ((eqL c).and (sig (TSof x hv) (eqL c))) := (eqL_eqv c _).and (sig_eqv (eqL_eqv c _))
    obtain ⟨e3, e4⟩ := h3'.eqL hE
    rw [hXn] at e3
    rw [rnk_congr e3 (Nat.le_refl _)] at h4
    have hle := BisI.rnk_le h3'
    rw [hXn] at hle
    have hle2 := rnk_n (eqL d) n
    simp only [un2]
    subst h4
    by_cases hkk : ((rnk (eqL d) n : Nat) : Int) = ((rnk (eqL c) n : Nat) : Int)
    · rw [if_pos (by simpa using hkk)]
      refine ⟨_, rfl, fun s' e => (by cases e), fun s' e => (by cases e), fun r e => ?_⟩
      cases e
      have hst : rnk (eqL c) (TSof x hv).n = rnk (eqL d) (TSof x hv).n := by rw [hXn]; omega
      exact ⟨rfl, hI.stop h3' hst⟩
    · rw [if_neg (by simpa using hkk)]
      refine ⟨_, rfl, fun s' e => ?_, fun s' e => (by cases e), fun r e => (by cases e)⟩
      cases e
      exact ⟨⟨hI.next h3', rfl⟩, by simp only; omega⟩
end Go.Pw
