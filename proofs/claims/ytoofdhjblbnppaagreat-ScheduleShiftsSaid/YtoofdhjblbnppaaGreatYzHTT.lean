/-
  The slack of launches.
-/
import Derived.Test.YtoofdhjblbnppaaGreatYzHLL
import Derived.Test.YtoofdhjblbnppaaGreatYzNN
set_option linter.unusedVariables false
set_option linter.unusedSimpArgs false
namespace Go.Pw
theorem forC_congr {S R : Type} {B B' : Nat → S → Option (Ctl S R)} : ∀ (n i : Nat) (s : S), (∀ j s, i ≤ j → j < i + n → B j s = B' j s) → forC B n i s = forC B' n i s
  | 0, i, s, _ => rfl
  | n + 1, i, s, h => by
    simp only [forC]
    rw [h i s (Nat.le_refl _) (by omega)]
    congr 1
    funext c
    exact forC_congr n (i + 1) c fun j s h1 h2 => h j s (by omega) (by omega)
/-- The bounds of the makespan. -/
def UB (n : Nat) (m : Int) : List Bound := (List.range n).map fun i : Nat => ⟨0, 2 * (i : Int) + 2, m⟩
theorem UB_len (n : Nat) (m : Int) : (UB n m).length = n := by simp [UB]
theorem UB_get {n : Nat} {m : Int} {i : Nat} (h : i < n) : idx (UB n m) (i : Int) = some ⟨0, 2 * (i : Int) + 2, m⟩ := by rw [idx_nat]; simp [UB, h]
theorem mem_UB {n : Nat} {m : Int} {b : Bound} : b ∈ UB n m ↔ ∃ i, i < n ∧ b = ⟨0, 2 * (i : Int) + 2, m⟩ := by
  unfold UB
  simp only [List.mem_map, List.mem_range]
  exact ⟨fun ⟨i, h1, h2⟩ => ⟨i, h1, h2.symm⟩, fun ⟨i, h1, h2⟩ => ⟨i, h1, h2.symm⟩⟩
section
variable {t : Temporal} {L S : List Launch}
theorem UB_rt {m : Int} (hm : 0 ≤ m ∧ m ≤ 1048700) (n : Nat) : ∀ b ∈ UB n m, Rt (2 * n + 1) b := by
  intro b hb
  obtain ⟨i, hi, rfl⟩ := mem_UB.1 hb
  exact ⟨by simp only; omega, by simp only; omega, by simp only; omega, by simp only; omega, by simp only; omega, by simp only; omega⟩
/-- All of it: the least times U, the latest ones V. -/
structure SlackOf (t : Temporal) (S : List Launch) (U : Nat → Int) (m : Int) (f : MM) : Prop where
  cl : Cl (GrOf (BD t S ++ UB S.length m)) (2 * S.length + 1) (2 * S.length + 1) f
  di : ∀ i, i < 2 * S.length + 1 → f i i = 0
  fin : ∀ i, i < S.length → f 0 (2 * i + 1) < 1125899906842624
  ge : ∀ i, i < S.length → U i ≤ f 0 (2 * i + 1)
  le : ∀ i, i < S.length → f 0 (2 * i + 1) + (jb t (lau S i)).Duration ≤ m
theorem slackOf (hA : Acc t S) {U : Nat → Int} {m : Int} {f : MM} (hs : Sat (BD t S ++ UB S.length m) (tmN t S U)) (hcl : Cl (GrOf (BD t S ++ UB S.length m)) (2 * S.length + 1) (2 * S.length + 1) f) (hdi : ∀ i, i < 2 * S.length + 1 → f i i = 0) : SlackOf t S U m f := by
  have g1 : ∀ i, i < S.length → GrOf (BD t S ++ UB S.length m) 0 (2 * i + 2) m := fun i hi => ⟨_, List.mem_append_right _ (mem_UB.2 ⟨i, hi, rfl⟩), by simp, by simp, rfl⟩
  have g2 : ∀ i, i < S.length → GrOf (BD t S ++ UB S.length m) (2 * i + 2) (2 * i + 1) (-(jb t (lau S i)).Duration) := fun i hi => ⟨_, List.mem_append_left _ (mem_BD.2 (.inl (mem_durL.2 ⟨i, hi, .inr (.inl rfl)⟩))), by simp, by simp, rfl⟩
  have hw := fun i hi => hcl.all ((Wk.one (g1 i hi)).app (Wk.one (g2 i hi))) (by omega)
  refine ⟨hcl, hdi, fun i hi => (hw i hi).2, fun i hi => ?_, fun i hi => by have := (hw i hi).1; omega⟩
  have := hs.le hcl (i := 0) (j := 2 * i + 1) (by omega) (by omega) (hw i hi).2
  rw [tmN_start] at this
  have e0 : tmN t S U 0 = 0 := rfl
  omega
theorem sat_UB (hA : Acc t S) {U : Nat → Int} (hs : Sat (BD t S) (tmN t S U)) {m : Int} (hm : ∀ i, i < S.length → U i + (jb t (lau S i)).Duration ≤ m) : Sat (BD t S ++ UB S.length m) (tmN t S U) := by
  intro i j c ⟨b, hb, h1, h2, h3⟩
  rcases List.mem_append.1 hb with h | h
  · exact hs i j c ⟨b, h, h1, h2, h3⟩
  · obtain ⟨k, hk, rfl⟩ := mem_UB.1 h
    simp only at h1 h2 h3
    have e1 : i = 0 := by omega
    have e2 : j = 2 * k + 2 := by omega
    subst e1 e2 h3
    rw [tmN_end]
    have e0 : tmN t S U 0 = 0 := rfl
    have := hm k hk
    omega
theorem LU_end {U : Nat → Int} {i : Nat} (h : i < S.length) : endT t (lau (LU S U) i) = U i + (jb t (lau S i)).Duration := by
  unfold endT; rw [LU_lau h]; rfl
theorem mk_ge {U : Nat → Int} {i : Nat} (h : i < S.length) : U i + (jb t (lau S i)).Duration ≤ mkS t (LU S U) := by
  rw [← LU_end h]
  exact mkS_ge.2 _ (lau_mem (by rw [LU_len]; exact h))
theorem makespan_loop {U : Nat → Int} (hA : Acc t (LU S U)) : (forS (fun i103 => fun (makespan101 : Int) => (idx (LU S U) (i103 : Int)).bind fun x103 => (idx t.Jobs x103.Job).bind fun x104 => some (max makespan101 (IntKind.i64.wrap (x103.At + x104.Duration)))) (LU S U).length 0 0) = some (mkS t (LU S U)) := by
  refine Ok.eq (Ok.forL (fun l m => m = l.foldl (fun m l => max m (endT t l)) 0) rfl ?_ fun s hs => hs)
  rintro j l x m hx _ rfl
  have hok := hA.ok x (List.mem_of_getElem? hx)
  have hd := endT_gt hA.chk hok
  have := hok.a0; have := hok.a1
  unfold endT at hd
  refine Ok.step (by rw [idx_nat]; exact hx) (Ok.step (jb_idx hok) ⟨_, rfl, ?_⟩)
  rw [List.foldl_append, wrap_id (by omega) (by omega)]
  rfl
theorem mk_rng {U : Nat → Int} (hA : Acc t (LU S U)) : 0 ≤ mkS t (LU S U) ∧ mkS t (LU S U) ≤ 1048700 := by
  refine ⟨mkS_ge.1, mkS_le (by omega) fun l hl => ?_⟩
  have := endT_gt hA.chk (hA.ok l hl)
  have := (hA.ok l hl).a1
  omega
theorem adds_UB (hA : Acc t S) (hl : S.length ≤ 63) {U : Nat → Int} {m : Int} (hm : 0 ≤ m ∧ m ≤ 1048700) (hs : Sat (BD t S ++ UB S.length m) (tmN t S U)) {d0 : List (List Int)} (h0 : Net (2 * S.length + 1) (BD t S) d0) {R : Type} (g : Option Int → R) (p : Nat → Int) (hp : ∀ i, i < S.length → p i = 2 * (i : Int) + 2) :
    ∃ d f, Mx (2 * S.length + 1) d f ∧ Net (2 * S.length + 1) (BD t S ++ UB S.length m) d ∧ SlackOf t S U m f ∧ forC (fun i l => (stn_Network_Add_p ⟨l⟩ ⟨0, p i, m⟩).bind <| un2 fun e l1 => if e.isSome then some (Ctl.ret (g e)) else some (Ctl.next l1)) S.length 0 d0 = some (Ctl.next d) := by
  obtain ⟨d, h1, h2⟩ := adds_ok (n := 2 * S.length + 1) (by omega) (UB_rt hm S.length) hs h0 g
  obtain ⟨_, f, hd, hcl, hdi⟩ := id h1
  refine ⟨d, f, hd, h1, slackOf hA hs hcl hdi, ?_⟩
  rw [UB_len] at h2
  rw [← h2]
  refine forC_congr _ _ _ fun j s _ hj => ?_
  rw [UB_get (by omega), Option.bind_some, hp j (by omega)]
/-- What Slack returns. -/
theorem Slack_ok (ht : Tight t) (hA : Acc t L) (hF : Fine t L) (hl : L.length ≤ 63) : ∃ (U : Nat → Int) (f : MM), Shifted t (srtL L) U ∧ Moved t (srtL L) U ∧ Sat (BD t (srtL L) ++ UB (srtL L).length (mkS t (LU (srtL L) U))) (tmN t (srtL L) U) ∧ SlackOf t (srtL L) U (mkS t (LU (srtL L) U)) f ∧
    schedule_Shift_p t L = some (LU (srtL L) U, none) ∧ schedule_Slack_p t L = some ((List.range (srtL L).length).map fun i => f 0 (2 * i + 1) - U i, none) := by
  have hp := (srtL_perm L).symm
  have hAS := hA.perm hp
  have hFS := hF.perm hp
  have hSL := SL.of (srtL_le L)
  have hlen : (srtL L).length = L.length := (srtL_perm L).length_eq
  obtain ⟨f0, d0, hN, hd0, hcl0, hdi0, hnet, hshp, hLe, hSh⟩ := Shift_ok ht hA hF hl
  have hsh := hLe.shifted hAS hFS
  have hmv := hsh.moved hAS hFS hSL
  have hsat := hsh.sol.sat hAS hFS
  generalize hU : (fun i => -(f0 (2 * i + 1) 0)) = U at hshp hSh hsh hmv hsat
  have hr := read_ok ht hA hF hl
  rw [← hlen] at hl
  generalize srtL L = S at *
  have hm := mk_rng hmv.acc
  have hsUB := sat_UB hAS hsat (m := mkS t (LU S U)) fun i hi => mk_ge hi
  obtain ⟨d, f, hd, hN2, hSO, hadd⟩ := adds_UB hAS hl hm hsUB hN (R := List Int × Option Int) (fun e => ([], e)) (fun i => schedule_end_t (i : Int)) (fun i hi => end_ok' (by omega))
  refine ⟨U, f, hsh, hmv, hsUB, hSO, hSh, ?_⟩
  unfold schedule_Slack_p
  rw [hr, Option.bind_some]
  simp only [un2, optC, Option.isSome_none, Bool.false_eq_true, if_false]
  rw [hnet, Option.bind_some]
  simp only [un2, optC, Option.isSome_none, Bool.false_eq_true, if_false]
  rw [hshp, Option.bind_some]
  simp only [un2, optC, Option.isSome_none, Bool.false_eq_true, if_false]
  rw [makespan_loop hmv.acc, Option.bind_some]
  unfold un2 at hadd
  rw [LU_len]
  unfold ctl
  rw [show (forC (R := List Int × Option Int) _ S.length 0 d0) = _ from hadd, Option.bind_some]
  refine Ok.eq ?_
  show Ok (ctl (forC (R := List Int × Option Int) _ S.length 0 []) _ _) _
  refine Ok.ctl (fun j out => out = (List.range j).map fun i => f 0 (2 * i + 1) - U i) (fun _ => False) rfl ?_ (fun r hr => hr.elim) fun out ho => ⟨_, rfl, by rw [ho]⟩
  rintro j out hj rfl
  have h1 := hSO.ge j hj
  have h2 := hSO.le j hj
  have h3 := hmv.le j hj
  have h4 := (hAS.chk.job _ (jb_mem (hAS.ok _ (lau_mem hj)))).dur
  have h5 := (hAS.ok _ (lau_mem hj)).a1
  refine Ok.step (by rw [idx_nat]; exact lau_get (by rw [LU_len]; exact hj)) ?_
  rw [start_ok (by omega), show 2 * (j : Int) + 1 = ((2 * j + 1 : Nat) : Int) by omega, Latest_in hd (by omega) (by omega), if_pos (hSO.fin j hj), Option.bind_some]
  show Ok (if (none : Option Int).isSome = true then _ else _) _
  rw [if_neg (by simp)]
  refine Ok.step (app_ok (by simp; omega)) ⟨_, rfl, ?_⟩
  show _ = (List.range (j + 1)).map _
  rw [range_snoc_map, LU_lau hj]
  show _ ++ [IntKind.i64.wrap (f 0 (2 * j + 1) - U j)] = _
  rw [wrap_id (by omega) (by omega)]
end
end Go.Pw
/-
  P57.4: ScheduleSlack.
-/
namespace Go.Pw
section
variable {t : Temporal} {L S : List Launch}
theorem rend_any {l : Launch} (hA : Acc t L) (hl : l ∈ L) : ref55_End_p t l = some (endT t l) := by
  have hok := hA.ok l hl
  have hd := endT_gt hA.chk hok
  have := hok.a0; have := hok.a1
  unfold ref55_End_p
  rw [jb_idx hok, Option.bind_some, wrap_id]
  · rfl
  · unfold endT at hd; omega
  · unfold endT at hd; omega
theorem rmk_ok (hA : Acc t L) : ref55_Makespan_p t L = some (mkS t L) := by
  unfold ref55_Makespan_p
  have h : Ok (forS (fun i100 => fun (m100 : Int) => (idx L (i100 : Int)).bind fun x100 => (ref55_End_p t x100).bind <| fun (y100 : Int) => some (max m100 y100)) (L.length) 0 0) (fun r => r = mkS t L) := by
    refine Ok.forL (fun l m => m = l.foldl (fun m l => max m (endT t l)) 0) rfl ?_ fun s hs => hs
    rintro j l x m hx _ rfl
    refine Ok.step (by rw [idx_nat]; exact hx) (Ok.step (rend_any hA (List.mem_of_getElem? hx)) ⟨_, rfl, ?_⟩)
    rw [List.foldl_append]; rfl
  obtain ⟨r, h1, rfl⟩ := h
  rw [h1]; rfl
end
end Go.Pw
