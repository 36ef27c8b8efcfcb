/-
  SimplifyIdle, in plain Lean.
-/
import Derived.Test.YtkfcbmecmdpilaaSsVw
set_option maxHeartbeats 8000000
set_option linter.unusedSimpArgs false
set_option linter.unusedVariables false
namespace Go.Pw
/-- One more at place i. -/
def ins {α : Type} (i : Nat) (x : α) (l : List α) : List α := (l.take i ++ [x]) ++ l.drop i
def sh (i k : Nat) : Nat := if k < i then k else k + 1
theorem ins_len {α : Type} {i : Nat} {x : α} {l : List α} (hi : i ≤ l.length) : (ins i x l).length = l.length + 1 := by unfold ins; simp; omega
theorem ins_at {α : Type} {i : Nat} {x : α} {l : List α} (hi : i ≤ l.length) : (ins i x l)[i]? = some x := by
  unfold ins
  have ht : (l.take i).length = i := by simp; omega
  rw [List.getElem?_append_left (by simp; omega), List.getElem?_append_right (by omega), ht]
  simp
theorem ins_sh {α : Type} {i : Nat} {x : α} {l : List α} (hi : i ≤ l.length) (k : Nat) : (ins i x l)[sh i k]? = l[k]? := by
  unfold ins sh
  have ht : (l.take i).length = i := by simp; omega
  by_cases h : k < i
  · rw [if_pos h, List.getElem?_append_left (by simp; omega), List.getElem?_append_left (by omega), List.getElem?_take_of_lt h]
  · rw [if_neg h, List.getElem?_append_right (by simp; omega), List.getElem?_drop]
    congr 1
    simp; omega
theorem sh_lt {i p q : Nat} : sh i p < sh i q ↔ p < q := by unfold sh; split <;> split <;> omega
theorem sh_inj {i p q : Nat} : sh i p = sh i q ↔ p = q := by unfold sh; split <;> split <;> omega
theorem sh_surj {i k : Nat} (h : k ≠ i) : ∃ p, k = sh i p := by
  unfold sh
  by_cases hk : k < i
  · exact ⟨k, by rw [if_pos hk]⟩
  · exact ⟨k - 1, by rw [if_neg (by omega)]; omega⟩
theorem ins_map {α β : Type} (f : α → β) (i : Nat) (x : α) (l : List α) : (ins i x l).map f = ins i (f x) (l.map f) := by unfold ins; simp [List.map_take, List.map_drop]
theorem keep_snoc {α : Type} {S : List Bool} {xs : List α} (hl : xs.length = S.length) (x : α) : keep (S ++ [false]) (xs ++ [x]) = keep S xs := by
  rw [keep_append (T := [false]) (ys := [x]) hl rfl, keep_no, List.append_nil]
theorem keep_ins {α : Type} {S : List Bool} {xs : List α} {i : Nat} (hl : xs.length = S.length) (hi : i ≤ S.length) (x : α) : keep (ins i false S) (ins i x xs) = keep S xs := by
  unfold ins
  rw [keep_append (by simp; omega) (by simp; omega), keep_snoc (by simp; omega)]
  have := keep_append (S := S.take i) (T := S.drop i) (xs := xs.take i) (ys := xs.drop i) (by simp; omega) (by simp; omega)
  rw [← this, List.take_append_drop, List.take_append_drop]
theorem beats_ins {M : List GOp} {i : Nat} {c : GOp} (hi : i ≤ M.length) {p q : Nat} : Beats (ins i c M) (sh i q) (sh i p) ↔ Beats M q p := by
  unfold Beats
  rw [ins_sh hi, ins_sh hi, sh_lt, Ne, sh_inj]
theorem stay_ins {T : List Bool} {M : List GOp} {i : Nat} {c : GOp} (hl : M.length = T.length) (hi : i ≤ M.length) : stayL (ins i false T) (ins i c M) = ins i false (stayL T M) := by
  have hiT : i ≤ T.length := by omega
  refine bl_ext (by rw [stayL_len, ins_len hi, ins_len (by rw [stayL_len]; exact hi), stayL_len]) fun k hk => ?_
  rw [stayL_len] at hk
  rw [stayL_get hk]
  rw [ins_len hi] at hk
  by_cases e : k = i
  · subst e
    rw [ins_at hiT, ins_at (by rw [stayL_len]; exact hi)]
    simp
  · obtain ⟨p, rfl⟩ := sh_surj e
    have hp : p < M.length := by unfold sh at hk; split at hk <;> omega
    rw [ins_sh hiT, ins_sh (by rw [stayL_len]; exact hi), stayL_get hp]
    refine and_congr_right fun _ => not_congr ?_
    constructor
    · rintro ⟨j, hj, hb⟩
      by_cases ej : j = i
      · subst ej
        rw [ins_at hiT] at hj
        cases hj
      · obtain ⟨q, rfl⟩ := sh_surj ej
        rw [ins_sh hiT] at hj
        exact ⟨q, hj, (beats_ins hi).1 hb⟩
    · rintro ⟨q, hq, hb⟩
      exact ⟨sh i q, by rw [ins_sh hiT]; exact hq, (beats_ins hi).2 hb⟩
theorem mk_snoc (A : List Bool) : Mk (A ++ [false]) = Mk A := by
  funext i
  unfold Mk
  rw [eq_iff_iff]
  refine and_congr_right fun _ => ?_
  rcases Nat.lt_trichotomy i.toNat A.length with h | h | h
  · rw [List.getElem?_append_left h]
  · rw [List.getElem?_append_right (by omega), List.getElem?_eq_none (l := A) (by omega), h]
    simp
  · rw [List.getElem?_eq_none (l := A) (by omega), List.getElem?_eq_none (by simp; omega)]
theorem at0_snoc (l : List Int) : at0 (l ++ [-1]) = at0 l := by
  funext i
  unfold at0
  rcases Nat.lt_trichotomy i.toNat l.length with h | h | h
  · rw [List.getElem?_append_left h]
  · rw [List.getElem?_append_right (by omega), List.getElem?_eq_none (l := l) (by omega), h]
    simp
  · rw [List.getElem?_eq_none (l := l) (by omega), List.getElem?_eq_none (by simp; omega)]
abbrev idleAtom : Atom := ⟨⟨#[105, 100, 108, 101]⟩, []⟩
abbrev idleOp (n : Nat) (add : Bool) : GOp := ⟨⟨#[40, 105, 100, 108, 101, 41]⟩, 0, ⟨[], [], []⟩, [⟨⟨[], [], []⟩, (n : Int), add⟩], []⟩
/-- A task with an idle atom, and an operator that only changes it at place i. -/
def idleG (g : Ground) (i : Nat) (add : Bool) : Ground := ⟨g.Atoms ++ [idleAtom], g.Fluents, g.Init, g.Goal, ins i (idleOp g.Atoms.length add) g.Ops⟩
theorem ins_mem {α : Type} {i : Nat} {x y : α} {l : List α} (h : y ∈ ins i x l) : y ∈ l ∨ y = x := by
  unfold ins at h
  rcases List.mem_append.1 h with h | h
  · rcases List.mem_append.1 h with h | h
    · exact .inl (List.mem_of_mem_take h)
    · simp only [List.mem_singleton] at h; exact .inr h
  · exact .inl (List.mem_of_mem_drop h)
theorem mem_ins {α : Type} {i : Nat} {x y : α} {l : List α} (h : y ∈ l) : y ∈ ins i x l := by
  unfold ins
  rw [← List.take_append_drop i l] at h
  rcases List.mem_append.1 h with h | h
  · simp [h]
  · simp [h]
section
variable {A F : List Bool} {g : Ground} {i : Nat} {add : Bool}
theorem Asc.up {l : List Int} {n m : Int} (h : Asc l n) (hm : n ≤ m) : Asc l m := fun i x hx => ⟨(h i x hx).1, by have := (h i x hx).2.1; omega, (h i x hx).2.2⟩
theorem CondOK.up {na nf m : Int} {c : Cond} (h : CondOK na nf c) (hm : na ≤ m) : CondOK m nf c := ⟨h.p.up hm, h.n.up hm, h.t⟩
theorem GOpOK.up {na nf m : Int} {o : GOp} (h : GOpOK na nf o) (hm : na ≤ m) : GOpOK m nf o :=
  ⟨h.c0, h.c1, h.nm, h.ch, h.nc, h.pre.up hm, fun c hc => ⟨(h.chg c hc).r0, by have := (h.chg c hc).r1; omega, (h.chg c hc).w.up hm⟩, h.as⟩
theorem asc_nil {n : Int} : Asc [] n := fun i x hx => by simp at hx
theorem idle_ok {nf : Int} {n : Nat} : GOpOK ((n + 1 : Nat) : Int) nf (idleOp n add) :=
  ⟨Int.le_refl _, by show (0 : Int) ≤ 1048576; omega, by show (6 : Nat) ≤ 256; omega, by
    have : bytesOf (⟨#[40, 105, 100, 108, 101, 41]⟩ : ByteArray) = [40, 105, 100, 108, 101, 41] := by with_unfolding_all rfl
    intro x hx
    simp only [this, List.mem_cons, List.not_mem_nil, or_false] at hx
    unfold ChrOK
    omega, by simp, ⟨asc_nil, asc_nil, by simp⟩, fun c hc => by
    simp only [List.mem_singleton] at hc
    subst hc
    exact ⟨by simp only; omega, by simp only; omega, asc_nil, asc_nil, by simp⟩, fun j a ha => by simp at ha⟩
theorem valid_idle (hv : ValidG g) (h30 : g.Ops.length ≤ 30) (h1000 : g.Atoms.length ≤ 1000) (hi : i ≤ g.Ops.length) : ValidG (idleG g i add) := by
  have hle : (g.Atoms.length : Int) ≤ ((idleG g i add).Atoms.length : Int) := by simp [idleG]; omega
  refine ⟨by simp [idleG]; omega, hv.f, by simp only [idleG]; rw [ins_len hi]; omega, hv.gl, hv.i.up hle, hv.flu, fun c hc => (hv.goal c hc).up hle, fun o ho => ?_⟩
  rcases ins_mem ho with ho | rfl
  · exact (hv.op o ho).up hle
  · have : ((idleG g i add).Atoms.length : Int) = ((g.Atoms.length + 1 : Nat) : Int) := by simp [idleG]
    rw [this]
    exact idle_ok
theorem idle_touch (la : A.length = g.Atoms.length) : ¬ Touch (Mk A) (Mk F) (idleOp g.Atoms.length add) := by
  rintro (⟨c, hc, q⟩ | ⟨a, ha, q⟩)
  · simp only [List.mem_singleton] at hc
    subst hc
    have := (mk_lt q).2
    simp only at this
    omega
  · simp at ha
theorem least_idle (hL : Least g A F) : Least (idleG g i add) (A ++ [false]) F := by
  refine ⟨by simp [idleG, hL.la], hL.lf, ?_, fun RA RF h => ?_⟩
  · rw [mk_snoc]
    refine ⟨hL.c.1, fun o ho => ?_⟩
    rcases ins_mem ho with ho | rfl
    · exact hL.c.2 o ho
    · exact fun hT => absurd hT (idle_touch hL.la)
  · rw [mk_snoc]
    exact hL.s RA RF ⟨h.1, fun o ho => h.2 o (mem_ins ho)⟩
theorem mapL_idle : mapL (A ++ [false]) F (idleG g i add) = ins i (mapO (at0 (numF A)) (at0 (numF F)) (idleOp g.Atoms.length add)) (mapL A F g) := by
  unfold mapL
  rw [numF_snoc, at0_snoc]
  exact ins_map _ _ _ _
open Classical in
theorem touL_idle (la : A.length = g.Atoms.length) : touL (A ++ [false]) F (idleG g i add) = ins i false (touL A F g) := by
  unfold touL
  rw [mk_snoc]
  show (ins i (idleOp g.Atoms.length add) g.Ops).map _ = _
  rw [ins_map]
  congr 1
  exact decide_eq_false (idle_touch la)
theorem staL_idle (la : A.length = g.Atoms.length) (hi : i ≤ g.Ops.length) : staL (A ++ [false]) F (idleG g i add) = ins i false (staL A F g) := by
  unfold staL
  rw [touL_idle la, mapL_idle, stay_ins (by simp [mapL, touL]) (by simpa [mapL] using hi)]
theorem simp_idle (hL : Least g A F) (hi : i ≤ g.Ops.length) : simpG (A ++ [false]) F (idleG g i add) = simpG A F g := by
  have la := hL.la
  unfold simpG
  rw [staL_idle la hi, mapL_idle, keep_ins (by unfold staL; rw [stayL_len]) (by unfold staL; rw [stayL_len]; simpa [mapL] using hi), numF_snoc, at0_snoc]
  have : keep (A ++ [false]) (idleG g i add).Atoms = keep A g.Atoms := by
    show keep (A ++ [false]) (g.Atoms ++ [idleAtom]) = _
    rw [keep_snoc (by omega)]
  rw [this]
  rfl
theorem simplifyIdle_ok {at_ : Int} (hl : LenG g) (hr : RoomT g) (w0 : 0 ≤ at_) (w1 : at_ < 256) : ∃ fu, law19_SimplifyIdle_p fu g at_ add = some true := by
  obtain ⟨s, hs1⟩ : ∃ s : simplify_sets, ValidG g → Least g s.atoms s.fluents := by
    by_cases hv : ValidG g
    · obtain ⟨s, _, h⟩ := mrelevant_ok hv (Nat.le_refl _)
      exact ⟨s, fun _ => h⟩
    · exact ⟨⟨[], [], false⟩, fun h => absurd h hv⟩
  obtain ⟨A, F, zz⟩ := s
  simp only at hs1
  have hn : 0 < ((g.Ops.length + 1 : Nat) : Int) := by omega
  have ht0 : 0 ≤ at_.tmod ((g.Ops.length + 1 : Nat) : Int) := Int.tmod_nonneg _ w0
  have ht1 : at_.tmod ((g.Ops.length + 1 : Nat) : Int) < ((g.Ops.length + 1 : Nat) : Int) := Int.tmod_lt_of_pos _ hn
  obtain ⟨i, hi0⟩ := Int.eq_ofNat_of_zero_le ht0
  rw [hi0] at ht1
  have hi : i ≤ g.Ops.length := by omega
  refine ⟨fuelOf A F g + fuelOf (A ++ [false]) F (idleG g i add), ?_⟩
  have hs : SizeOf.sizeOf g ≤ fuelOf A F g + fuelOf (A ++ [false]) F (idleG g i add) := by unfold fuelOf; omega
  have hs2 : SizeOf.sizeOf (idleG g i add) ≤ fuelOf A F g + fuelOf (A ++ [false]) F (idleG g i add) := by unfold fuelOf; omega
  have hs3 : SizeOf.sizeOf (simpG A F g) ≤ fuelOf A F g + fuelOf (A ++ [false]) F (idleG g i add) := by unfold fuelOf; omega
  unfold law19_SimplifyIdle_p
  refine law_start2 hl hs ?_ fun h30 hb => ?_
  · simp [awake_ok]
  have h1000 : g.Atoms.length ≤ 1000 := by have := of_decide_eq_false hb; omega
  simp only [Bool.false_eq_true, if_false]
  rw [valid_ok hl hs]
  by_cases hv : ValidG g
  rotate_left
  · simp [hv]
  simp only [hv, decide_true, Option.bind_some, Bool.not_true, Bool.false_eq_true, if_false]
  have hL := hs1 hv
  have hL2 : Least (idleG g i add) (A ++ [false]) F := least_idle hL
  have hv2 : ValidG (idleG g i add) := valid_idle hv h30 h1000 hi
  have hl2 : LenG (idleG g i add) := ⟨by have := hv2.a; omega, hl.f, hl.i, hl.gl, by have := hv2.o; omega, hl.goal, fun o ho => by
    rcases ins_mem ho with ho | rfl
    · exact hl.op o ho
    · have lc : LenC ⟨[], [], []⟩ := ⟨by simp, by simp, by simp, by simp⟩
      exact ⟨by show (6 : Nat) ≤ 9223372036854775807; omega, lc, by simp, fun c hc => by
        simp only [List.mem_singleton] at hc
        subst hc
        exact lc, by simp, by simp⟩⟩
  have hr2 : RoomT (idleG g i add) := ⟨⟨hr.c.1, fun o ho => by
    rcases ins_mem ho with ho | rfl
    · exact hr.c.2 o ho
    · exact ⟨by show 0 * 112 ≤ _; omega, fun c hc => by
        simp only [List.mem_singleton] at hc
        subst hc
        show 0 * 112 ≤ _; omega⟩⟩, fun x hx => by
    rcases List.mem_append.1 hx with hx | hx
    · exact hr.a x hx
    · simp only [List.mem_singleton] at hx
      subst hx
      show 0 * 16 ≤ _; omega, hr.f⟩
  rw [app_ok (by simp; omega)]
  simp only [Option.bind_some, List.nil_append]
  rw [app_ok (by simp; omega), wrap_small w0 w1, wrap_id (n := (g.Ops.length : Int) + 1) (by omega) (by omega), show (g.Ops.length : Int) + 1 = ((g.Ops.length + 1 : Nat) : Int) by omega, hi0,
    show must (!decide (((g.Ops.length + 1 : Nat) : Int) = 0)) = some () by rw [decide_eq_false (by omega)]; rfl]
  have c1 : cut g.Ops 0 (i : Int) = some (g.Ops.take i) := by unfold cut; rw [if_pos (by omega)]; simp
  have c2 : cut g.Ops (i : Int) (g.Ops.length : Int) = some (g.Ops.drop i) := by unfold cut; rw [if_pos (by omega)]; simp
  simp only [Option.bind_some]
  rw [c1, c2]
  simp only [Option.bind_some]
  rw [app_ok (by simp; omega)]
  simp only [Option.bind_some, List.nil_append]
  rw [app_ok (by simp; omega)]
  simp only [Option.bind_some]
  rw [app_ok (by simp; omega)]
  simp only [Option.bind_some]
  rw [show (⟨g.Atoms ++ [⟨⟨#[105, 100, 108, 101]⟩, []⟩], g.Fluents, g.Init, g.Goal, (g.Ops.take i ++ [⟨⟨#[40, 105, 100, 108, 101, 41]⟩, 0, ⟨[], [], []⟩, [⟨⟨[], [], []⟩, (g.Atoms.length : Int), add⟩], []⟩]) ++ g.Ops.drop i⟩ : Ground) = idleG g i add from rfl,
    simplify_ok hv hl hr hs hL (fun y hy => Nat.le_trans (fuel_map y hy) (Nat.le_add_right _ _)), simplify_ok hv2 hl2 hr2 hs2 hL2 (fun y hy => Nat.le_trans (fuel_map y hy) (Nat.le_add_left _ _))]
  simp only [Option.bind_some, un3, Option.isNone_none, if_true]
  have lS : (staL A F g).length = g.Ops.length := by unfold staL; rw [stayL_len]; simp [mapL]
  rw [simp_idle hL hi, same_ok (lenG_simp hl) (roomT_simp hr) hs3, staL_idle hL.la hi, numF_snoc, idx_nat, idx_nat]
  have n1 : (numF (ins i false (staL A F g)))[i]? = some (-1) := by
    rw [numF_get (by rw [ins_len (by omega)]; omega), ins_at (by omega)]; simp
  have n2 : (numF A ++ [-1])[g.Atoms.length]? = some (-1 : Int) := by
    rw [List.getElem?_append_right (by rw [numF_len, hL.la]; exact Nat.le_refl _), numF_len, hL.la]; simp
  have n3 : (numF (ins i false (staL A F g))).length = g.Ops.length + 1 := by rw [numF_len, ins_len (by omega), lS]
  have n4 : ((g.Ops.take i ++ [idleOp g.Atoms.length add]) ++ g.Ops.drop i).length = g.Ops.length + 1 := ins_len hi
  have n5 : (numF A ++ [(-1 : Int)]).length = g.Atoms.length + 1 := by simp [numF_len, hL.la]
  simp only [Option.bind_some, if_true, n1, n2, n3, n4, n5, decide_true, List.length_append, List.length_cons, List.length_nil]
end
end Go.Pw
