/-
  SimplifyCopies, in plain Lean.
-/
import Derived.Test.YtkfcbmecmdpilaaSsVv
set_option maxHeartbeats 8000000
set_option linter.unusedSimpArgs false
set_option linter.unusedVariables false
namespace Go.Pw
theorem bl_ext {a b : List Bool} (hl : a.length = b.length) (h : ∀ i, i < a.length → (a[i]? = some true ↔ b[i]? = some true)) : a = b := by
  refine mk_ext hl fun i => ?_
  constructor
  · intro q
    have := mk_lt q
    exact ⟨q.1, (h i.toNat (by omega)).1 q.2⟩
  · intro q
    have := mk_lt q
    exact ⟨q.1, (h i.toNat (by omega)).2 q.2⟩
/-! ### what stays of lists put together -/
theorem keep_zip {α : Type} {S : List Bool} {xs : List α} (hl : xs.length = S.length) : keep S xs = (S.zip xs).filterMap fun p => if p.1 then some p.2 else none := by
  have key : ∀ j, j ≤ xs.length → keepTo S xs j = ((S.zip xs).take j).filterMap fun p => if p.1 then some p.2 else none := by
    intro j
    induction j with
    | zero => intro _; simp [keepTo]
    | succ j ih =>
      intro hj
      obtain ⟨x, hx⟩ := get_len (xs := xs) (i := j) (by omega)
      obtain ⟨b, hb⟩ := get_len (xs := S) (i := j) (by omega)
      have hz : (S.zip xs)[j]? = some (b, x) := by rw [List.getElem?_zip_eq_some]; exact ⟨hb, hx⟩
      rw [keepTo_succ hx, ih (by omega), take_snoc hz, List.filterMap_append, hb]
      cases b <;> simp
  rw [← keepTo_len, key _ (Nat.le_refl _)]
  congr 1
  rw [List.take_of_length_le]
  simp; omega
theorem keep_append {α : Type} {S T : List Bool} {xs ys : List α} (hl : xs.length = S.length) (hk : ys.length = T.length) : keep (S ++ T) (xs ++ ys) = keep S xs ++ keep T ys := by
  rw [keep_zip (by simp; omega), keep_zip hl, keep_zip hk, List.zip_append (by omega), List.filterMap_append]
theorem keep_no {α : Type} (x : α) : keep [false] [x] = [] := by simp [keep]
theorem numF_snoc (A : List Bool) : numF (A ++ [false]) = numF A ++ [-1] := by
  apply List.ext_getElem?
  intro i
  rcases Nat.lt_trichotomy i A.length with h | h | h
  · rw [List.getElem?_append_left (by rw [numF_len]; omega), numF_get h, numF_get (by simp; omega), List.getElem?_append_left h]
    rw [List.take_append_of_le_length (by omega)]
  · subst h
    rw [numF_get (by simp), if_neg (by simp), List.getElem?_append_right (by rw [numF_len]; exact Nat.le_refl _)]
    simp [numF_len]
  · rw [List.getElem?_eq_none (by rw [numF_len]; simp; omega), List.getElem?_eq_none (by simp [numF_len]; omega)]
section
variable {A F : List Bool} {g : Ground} {c x : GOp} {i0 : Nat}
/-- A task with one more operator. -/
def moreG (g : Ground) (c : GOp) : Ground := ⟨g.Atoms, g.Fluents, g.Init, g.Goal, g.Ops ++ [c]⟩
theorem closed_more (hx : x ∈ g.Ops) (ha : Alike c x) {RA RF : Int → Prop} : Closed (moreG g c) RA RF ↔ Closed g RA RF := by
  refine ⟨fun h => ⟨h.1, fun o ho => h.2 o (List.mem_append_left _ ho)⟩, fun h => ⟨h.1, fun o ho => ?_⟩⟩
  rcases List.mem_append.1 ho with ho | ho
  · exact h.2 o ho
  · simp only [List.mem_singleton] at ho
    subst ho
    exact ha.rule (h.2 x hx)
theorem least_more (hx : x ∈ g.Ops) (ha : Alike c x) (hL : Least g A F) : Least (moreG g c) A F :=
  ⟨hL.la, hL.lf, (closed_more hx ha).2 hL.c, fun RA RF h => hL.s RA RF ((closed_more hx ha).1 h)⟩
theorem alike_map {a f : Int → Int} {x y : GOp} (h : Alike x y) : Alike (mapO a f x) (mapO a f y) := by
  unfold Alike mapO
  simp only
  rw [h.1, h.2.1, h.2.2]
  exact ⟨rfl, rfl, rfl⟩
theorem sta_more (hx : g.Ops[i0]? = some x) (ha : Alike c x) (hc : x.Cost ≤ c.Cost) : staL A F (moreG g c) = staL A F g ++ [false] := by
  have lM : (mapL A F g).length = g.Ops.length := by simp [mapL]
  have lT : (touL A F g).length = g.Ops.length := by simp [touL]
  have hi0 := (List.getElem?_eq_some_iff.1 hx).1
  generalize hM : mapL A F g = M at lM
  generalize hT : touL A F g = T at lT
  generalize hc' : mapO (at0 (numF A)) (at0 (numF F)) c = c'
  have hM2 : mapL A F (moreG g c) = M ++ [c'] := by rw [← hM, ← hc']; unfold mapL moreG; simp
  obtain ⟨b, hb⟩ : ∃ b, touL A F (moreG g c) = T ++ [b] := by rw [← hT]; unfold touL moreG; simp
  have hMx : M[i0]? = some (mapO (at0 (numF A)) (at0 (numF F)) x) := by rw [← hM]; exact map_get hx
  have hbT : b = true ↔ T[i0]? = some true := by
    have h1 := tou_get (A := A) (F := F) hx
    have h2 := tou_get (A := A) (F := F) (g := moreG g c) (i := g.Ops.length) (o := c) (by unfold moreG; simp)
    rw [hb, List.getElem?_append_right (by omega), lT] at h2
    rw [hT] at h1
    rw [h1]
    simp only [Nat.sub_self, List.getElem?_cons_zero, Option.some.injEq] at h2
    rw [h2]
    unfold Touch
    rw [ha.2.1, ha.2.2]
  have hal : Alike c' (mapO (at0 (numF A)) (at0 (numF F)) x) := by rw [← hc']; exact alike_map ha
  have hcost : c'.Cost = c.Cost := by rw [← hc']; rfl
  unfold staL
  rw [hM2, hb, hM, hT]
  refine bl_ext (by simp [stayL_len]) fun i hi => ?_
  rw [stayL_len] at hi
  rw [stayL_get hi]
  simp only [List.length_append, List.length_cons, List.length_nil] at hi
  by_cases hin : i < g.Ops.length
  · rw [List.getElem?_append_left (by omega), List.getElem?_append_left (by rw [stayL_len]; omega), stayL_get (by omega)]
    refine and_congr_right fun hti => not_congr ?_
    constructor
    · rintro ⟨j, hj, u, v, hu, hv, hne, hlt, hal2⟩
      rw [List.getElem?_append_left (by omega)] at hu
      by_cases hjn : j < g.Ops.length
      · rw [List.getElem?_append_left (by omega)] at hj hv
        exact ⟨j, hj, u, v, hu, hv, hne, hlt, hal2⟩
      · have hjl := (List.getElem?_eq_some_iff.1 hv).1
        simp only [List.length_append, List.length_cons, List.length_nil] at hjl
        obtain rfl : j = g.Ops.length := by omega
        rw [List.getElem?_append_right (by omega), lT] at hj
        rw [List.getElem?_append_right (by omega), lM] at hv
        simp only [Nat.sub_self, List.getElem?_cons_zero, Option.some.injEq] at hj hv
        subst hv
        have hlt' : c'.Cost < u.Cost := by
          rcases hlt with h | h
          · exact h
          · omega
        refine ⟨i0, hbT.1 hj, u, _, hu, hMx, fun e => ?_, .inl ?_, hal2.trans hal⟩
        · subst e
          rw [hMx] at hu; cases hu
          have : (mapO (at0 (numF A)) (at0 (numF F)) x).Cost = x.Cost := rfl
          omega
        · have : (mapO (at0 (numF A)) (at0 (numF F)) x).Cost = x.Cost := rfl
          omega
    · rintro ⟨j, hj, u, v, hu, hv, r⟩
      have hj' := (List.getElem?_eq_some_iff.1 hj).1
      exact ⟨j, by rw [List.getElem?_append_left (by omega)]; exact hj, u, v, by rw [List.getElem?_append_left (by omega)]; exact hu, by rw [List.getElem?_append_left (by omega)]; exact hv, r⟩
  · obtain rfl : i = g.Ops.length := by omega
    rw [List.getElem?_append_right (by omega), List.getElem?_append_right (by rw [stayL_len]; omega), stayL_len, lT, lM]
    simp only [Nat.sub_self, List.getElem?_cons_zero]
    refine ⟨fun ⟨h1, h2⟩ => absurd ?_ h2, fun h => by simp at h⟩
    have hti := hbT.1 (Zu h1)
    refine ⟨i0, by rw [List.getElem?_append_left (by omega)]; exact hti, c', _, by rw [List.getElem?_append_right (by omega), lM]; simp, by rw [List.getElem?_append_left (by omega)]; exact hMx, by omega, ?_, hal⟩
    have : (mapO (at0 (numF A)) (at0 (numF F)) x).Cost = x.Cost := rfl
    by_cases e : x.Cost = c.Cost
    · exact .inr ⟨by omega, hi0⟩
    · exact .inl (by omega)
theorem simp_more (hx : g.Ops[i0]? = some x) (ha : Alike c x) (hc : x.Cost ≤ c.Cost) : simpG A F (moreG g c) = simpG A F g := by
  unfold simpG
  rw [sta_more hx ha hc]
  have hM2 : mapL A F (moreG g c) = mapL A F g ++ [mapO (at0 (numF A)) (at0 (numF F)) c] := by unfold mapL moreG; simp
  rw [hM2, keep_append (S := staL A F g) (T := [false]) (xs := mapL A F g) (ys := [mapO (at0 (numF A)) (at0 (numF F)) c]) (by unfold staL; rw [stayL_len]) rfl, keep_no, List.append_nil]
  rfl
end
section
variable {fu : Nat} {g : Ground}
open Classical in
theorem bintsO_ok (xs ys : List Int) : base_Ints_o_p xs ys = some (decide (xs = ys)) := by
  unfold base_Ints_o_p
  refine eqf_ok fun _ i x y hx hy => ?_
  simp only [idx_nat, hx, hy, Option.bind_some]
  by_cases e : x = y <;> simp [e]
theorem wrap_small {n : Int} (h0 : 0 ≤ n) (h1 : n < 256) : IntKind.i64.wrap n = n := wrap_id (by omega) (by omega)
/-- The start of a law with one more guard. -/
theorem law_start2 {β : Type} {g : Ground} (hl : LenG g) (hs : SizeOf.sizeOf g ≤ fu) {b2 : Bool} {K : Bool → Option β} {r : Option β} (h1 : K true = r) (h0 : g.Ops.length ≤ 30 → b2 = false → K false = r) :
    (((law18_Large_p fu g).bind fun (y100 : Bool) => if y100 then (some true) else (if decide (30 < (g.Ops.length : Int)) then (some true) else (if b2 then (some true) else ((law19_awake_p fu).bind fun (y101 : Bool) => some (!y101))))).bind K) = r := by
  obtain ⟨b, hb, _⟩ := large_ok (fu := fu) hl hs
  rw [hb, awake_ok]
  simp only [Option.bind_some]
  cases b with
  | true => simpa using h1
  | false =>
    by_cases h : 30 < (g.Ops.length : Int)
    · simpa [h] using h1
    · have h' : decide (30 < (g.Ops.length : Int)) = false := decide_eq_false h
      have h2 := h0 (by omega)
      rw [h']
      cases b2 with
      | true => simpa using h1
      | false => simpa using h2 rfl
theorem simplifyCopies_ok {which more : Int} (hl : LenG g) (hr : RoomT g) (w0 : 0 ≤ which) (w1 : which < 256) : ∃ fu, law19_SimplifyCopies_p fu g which more = some true := by
  obtain ⟨s, hs1⟩ : ∃ s : simplify_sets, ValidG g → Least g s.atoms s.fluents := by
    by_cases hv : ValidG g
    · obtain ⟨s, _, h⟩ := mrelevant_ok hv (Nat.le_refl _)
      exact ⟨s, fun _ => h⟩
    · exact ⟨⟨[], [], false⟩, fun h => absurd h hv⟩
  obtain ⟨A, F, zz⟩ := s
  simp only at hs1
  by_cases h0 : g.Ops.length = 0
  · refine ⟨SizeOf.sizeOf g, ?_⟩
    unfold law19_SimplifyCopies_p
    refine law_start2 hl (Nat.le_refl _) ?_ fun _ hb => ?_
    · simp [awake_ok]
    · simp [h0] at hb
  have hn : 0 < (g.Ops.length : Int) := by omega
  have ht0 : 0 ≤ which.tmod (g.Ops.length : Int) := Int.tmod_nonneg _ w0
  have ht1 : which.tmod (g.Ops.length : Int) < (g.Ops.length : Int) := Int.tmod_lt_of_pos _ hn
  obtain ⟨i0, hi0⟩ := Int.eq_ofNat_of_zero_le ht0
  rw [hi0] at ht1
  have hi : i0 < g.Ops.length := by omega
  obtain ⟨x, hx⟩ := get_len hi
  have hxm := List.mem_of_getElem? hx
  generalize hcc : (⟨⟨#[40, 99, 111, 112, 121, 41]⟩, IntKind.i64.wrap (x.Cost + (base_Clip_t more 0 5)), x.Pre, x.Changes, x.Assigns⟩ : GOp) = c
  have hal : Alike c x := by rw [← hcc]; exact ⟨rfl, rfl, rfl⟩
  refine ⟨fuelOf A F g + fuelOf A F (moreG g c), ?_⟩
  have hs : SizeOf.sizeOf g ≤ fuelOf A F g + fuelOf A F (moreG g c) := by unfold fuelOf; omega
  have hs2 : SizeOf.sizeOf (moreG g c) ≤ fuelOf A F g + fuelOf A F (moreG g c) := by unfold fuelOf; omega
  have hs3 : SizeOf.sizeOf (simpG A F g) ≤ fuelOf A F g + fuelOf A F (moreG g c) := by unfold fuelOf; omega
  unfold law19_SimplifyCopies_p
  refine law_start2 hl hs ?_ fun h30 _ => ?_
  · simp [awake_ok]
  have hlx := hl.op x hxm
  have hl2 : LenG (moreG g c) := ⟨hl.a, hl.f, hl.i, hl.gl, by simp only [moreG, List.length_append, List.length_cons, List.length_nil]; omega, hl.goal, fun o ho => by
    rcases List.mem_append.1 ho with ho | ho
    · exact hl.op o ho
    · simp only [List.mem_singleton] at ho
      subst ho
      rw [← hcc]
      exact ⟨by show (6 : Nat) ≤ 9223372036854775807; omega, hlx.pre, hlx.ch, hlx.whn, hlx.as, hlx.val⟩⟩
  have hr2 : RoomT (moreG g c) := ⟨⟨hr.c.1, fun o ho => by
    rcases List.mem_append.1 ho with ho | ho
    · exact hr.c.2 o ho
    · simp only [List.mem_singleton] at ho
      subst ho
      rw [← hcc]
      exact hr.c.2 x hxm⟩, hr.a, hr.f⟩
  simp only [Bool.false_eq_true, if_false]
  rw [wrap_small w0 w1, hi0, show must (!decide ((g.Ops.length : Int) = 0)) = some () by rw [decide_eq_false (by omega)]; rfl]
  simp only [Option.bind_some, idx_nat, hx, hcc]
  rw [app_ok (by simp; omega)]
  simp only [Option.bind_some, List.nil_append]
  rw [app_ok (by simp; omega)]
  simp only [Option.bind_some]
  rw [show (⟨g.Atoms, g.Fluents, g.Init, g.Goal, g.Ops ++ [c]⟩ : Ground) = moreG g c from rfl, valid_ok hl hs, valid_ok hl2 hs2]
  by_cases hv : ValidG g
  rotate_left
  · simp [hv, un2]
  by_cases hv2 : ValidG (moreG g c)
  rotate_left
  · simp [hv, hv2, un2]
  simp only [hv, hv2, decide_true, Option.bind_some, Bool.not_true, Bool.false_eq_true, if_false, un2]
  have hL := hs1 hv
  have hL2 := least_more hxm hal hL
  have hO := hv.op x hxm
  have hcost : x.Cost ≤ c.Cost := by
    have h1 := hO.c0
    have h2 := hO.c1
    have h3 : 0 ≤ base_Clip_t more 0 5 ∧ base_Clip_t more 0 5 ≤ 5 := by
      have := base_Clip_tot more 0 5
      unfold base_Clip_p at this
      have := Zu this
      omega
    rw [← hcc]
    simp only
    rw [wrap_id (by omega) (by omega)]
    omega
  rw [simplify_ok hv hl hr hs hL (fun y hy => Nat.le_trans (fuel_map y hy) (Nat.le_add_right _ _)), show (⟨g.Atoms, g.Fluents, g.Init, g.Goal, g.Ops ++ [c]⟩ : Ground) = moreG g c from rfl, simplify_ok hv2 hl2 hr2 hs2 hL2 (fun y hy => Nat.le_trans (fuel_map y hy) (Nat.le_add_left _ _))]
  simp only [Option.bind_some, un3, Option.isNone_none, if_true]
  rw [simp_more hx hal hcost, same_ok (lenG_simp hl) (roomT_simp hr) hs3, sta_more hx hal hcost, numF_snoc]
  have hnl : (numF (staL A F g)).length = g.Ops.length := by rw [numF_len]; unfold staL; rw [stayL_len]; simp [mapL]
  simp only [Option.bind_some, if_true]
  rw [app_ok (by simp; omega)]
  simp only [Option.bind_some, List.nil_append]
  rw [app_ok (by simp; omega)]
  simp only [Option.bind_some]
  rw [bintsO_ok, bints_ok]
  simp
end
end Go.Pw
