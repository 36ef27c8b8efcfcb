/-
  The classes of labels, in plain Lean: what the reference computes.
-/
import Derived.Test.YtagooehmocpcjaaDoorReRd
import Derived.Test.YtagooehmocpcjaaDoorReW
set_option maxHeartbeats 4000000
set_option maxRecDepth 100000
set_option linter.unusedSimpArgs false
set_option linter.unusedVariables false
namespace Go.Pw
theorem Ints_i (xs ys : List Int) : base_Ints_p xs ys = some (decide (xs = ys)) := ints_gen xs ys
theorem mem_pairsOf {x : System} (hv : VSys x) {l f t : Nat} : (f, t) ∈ pairsOf x l x.Edges.length ↔ edgeN x f l t := by
  unfold pairsOf
  rw [List.take_length]
  simp only [List.mem_map, List.mem_filter, decide_eq_true_eq, Prod.mk.injEq]
  constructor
  · rintro ⟨d, ⟨hd, hl⟩, h1, h2⟩
    obtain ⟨f', l', t', rfl, _, _, _⟩ := edge_nat hv hd
    simp only [Int.toNat_natCast] at h1 h2
    simp only at hl
    subst h1 h2
    have : l' = l := by omega
    subst this
    exact hd
  · intro h
    exact ⟨_, ⟨h, rfl⟩, by simp, by simp⟩
theorem pairsOf_srt {x : System} (hv : VSys x) (l : Nat) : (pairsOf x l x.Edges.length).Pairwise fun p q => p.1 < q.1 ∨ p.1 = q.1 ∧ p.2 < q.2 := by
  unfold pairsOf
  rw [List.take_length]
  refine List.pairwise_map.2 ?_
  refine List.Pairwise.imp_of_mem ?_ (hv.srt.sublist List.filter_sublist)
  intro d e hd he h
  obtain ⟨hd1, hd2⟩ := List.mem_filter.1 hd
  obtain ⟨he1, he2⟩ := List.mem_filter.1 he
  obtain ⟨f, l1, t, rfl, _, _, _⟩ := edge_nat hv hd1
  obtain ⟨f', l2, t', rfl, _, _, _⟩ := edge_nat hv he1
  simp only [decide_eq_true_eq] at hd2 he2
  unfold EdLt at h
  simp only [Int.toNat_natCast] at h ⊢
  omega
theorem pairsOf_iff {x : System} (hv : VSys x) {a b : Nat} : pairsOf x a x.Edges.length = pairsOf x b x.Edges.length ↔ ∀ f t, edgeN x f a t ↔ edgeN x f b t := by
  constructor
  · intro h f t
    rw [← mem_pairsOf hv, h, mem_pairsOf hv]
  · intro h
    refine strict_ext (lt := fun p q : Nat × Nat => p.1 < q.1 ∨ p.1 = q.1 ∧ p.2 < q.2) (fun p h => by omega) (fun p q r h1 h2 => by omega) (pairsOf_srt hv a) (pairsOf_srt hv b) ?_
    rintro ⟨f, t⟩
    rw [mem_pairsOf hv, mem_pairsOf hv, h]
open Classical in
noncomputable def alikeB (x : System) (a b : Nat) : Bool := decide (∀ f t, edgeN x f a t ↔ edgeN x f b t)
theorem alikeB_iff {x : System} {a b : Nat} : alikeB x a b = true ↔ ∀ f t, edgeN x f a t ↔ edgeN x f b t := by unfold alikeB; simp
open Classical in
/-- The inner loop of 'alike': is an edge there? -/
theorem there_ok {x : System} (e : Edge) : forS (fun i => fun (z : Bool) => (idx x.Edges (i : Int)).bind fun d => some (z || eqs [d.From, d.Label, d.To] [e.From, e.Label, e.To])) x.Edges.length 0 false = some (decide (e ∈ x.Edges)) := by
  refine Ok.eq (Ok.forS (fun i (z : Bool) => z = decide (e ∈ x.Edges.take i)) (by simp) ?_ (fun s hs => by rw [hs, List.take_length]))
  intro i z hi hz
  obtain ⟨d, hd⟩ := get_some hi
  simp only [idx_nat, hd, Option.bind_some]
  refine Ok.ret ?_
  rw [hz, List.take_add_one, hd, Bool.eq_iff_iff]
  have he : eqs [d.From, d.Label, d.To] [e.From, e.Label, e.To] = true ↔ d = e := by
    obtain ⟨a1, a2, a3⟩ := d
    obtain ⟨b1, b2, b3⟩ := e
    simp [eqs]
  rw [Bool.or_eq_true, he]
  simp only [decide_eq_true_eq, Option.toList_some, List.mem_append, List.mem_singleton]
  constructor
  · rintro (h | h)
    · exact .inl h
    · exact .inr h.symm
  · rintro (h | h)
    · exact .inl h
    · exact .inr h.symm
open Classical in
noncomputable def pairB (x : System) (a b : Nat) (j : Nat) : Bool := match x.Edges[j]? with
  | some d => if d.Label = (b : Int) then decide ((⟨d.From, (a : Int), d.To⟩ : Edge) ∈ x.Edges) else if d.Label = (a : Int) then decide ((⟨d.From, (b : Int), d.To⟩ : Edge) ∈ x.Edges) else true
  | none => true
open Classical in
theorem alike_eq {x : System} (hv : VSys x) (a b : Nat) : ref45_alike_p x (a : Int) (b : Int) = some (alikeB x a b) := by
  unfold ref45_alike_p
  rw [ctl_all (p := pairB x a b) (r := false) ?_]
  · have hiff : (List.range x.Edges.length).all (pairB x a b) = true ↔ ∀ f t, edgeN x f a t ↔ edgeN x f b t := by
      rw [List.all_eq_true]
      constructor
      · intro h
        have key : ∀ d, d ∈ x.Edges → (d.Label = (b : Int) → (⟨d.From, (a : Int), d.To⟩ : Edge) ∈ x.Edges) ∧ (d.Label ≠ (b : Int) → d.Label = (a : Int) → (⟨d.From, (b : Int), d.To⟩ : Edge) ∈ x.Edges) := by
          intro d hd
          obtain ⟨j, hj⟩ := List.mem_iff_getElem?.1 hd
          have := h j (by have := (List.getElem?_eq_some_iff.1 hj).1; simpa using this)
          unfold pairB at this
          rw [hj] at this
          simp only at this
          constructor
          · intro e; rw [if_pos e] at this; simpa using this
          · intro e e2; rw [if_neg e, if_pos e2] at this; simpa using this
        intro f t
        constructor
        · intro he
          by_cases e : (a : Int) = (b : Int)
          · have : a = b := by omega
            subst this; exact he
          · exact (key _ he).2 e rfl
        · intro he
          exact (key _ he).1 rfl
      · intro h j hj
        obtain ⟨d, hd⟩ := get_some (show j < x.Edges.length by simpa using hj)
        unfold pairB
        rw [hd]
        have hdm := List.mem_of_getElem? hd
        obtain ⟨f, l, t, rfl, _, _, _⟩ := edge_nat hv hdm
        simp only
        by_cases e : (l : Int) = (b : Int)
        · rw [if_pos e]
          have : l = b := by omega
          subst this
          exact decide_eq_true ((h f t).2 hdm)
        · rw [if_neg e]
          by_cases e2 : (l : Int) = (a : Int)
          · rw [if_pos e2]
            have : l = a := by omega
            subst this
            exact decide_eq_true ((h f t).1 hdm)
          · rw [if_neg e2]
    by_cases h : ∀ f t, edgeN x f a t ↔ edgeN x f b t
    · rw [if_pos (hiff.2 h)]
      rw [alikeB_iff.2 h]
    · rw [if_neg fun h' => h (hiff.1 h')]
      have : alikeB x a b = false := by
        cases hb : alikeB x a b with
        | false => rfl
        | true => exact absurd (alikeB_iff.1 hb) h
      rw [this]
  · intro j hj
    obtain ⟨d, hd⟩ := get_some hj
    simp only [idx_nat, hd, Option.bind_some, pairB]
    have t1 := there_ok (x := x) ⟨d.From, (a : Int), d.To⟩
    have t2 := there_ok (x := x) ⟨d.From, (b : Int), d.To⟩
    simp only [idx_nat] at t1 t2
    by_cases e : d.Label = (b : Int)
    · simp only [e, decide_true, if_true]
      rw [t1]
      simp only [Option.bind_some]
      by_cases hm : (⟨d.From, (a : Int), d.To⟩ : Edge) ∈ x.Edges <;> simp [hm]
    · simp only [e, decide_false, Bool.false_eq_true, if_false]
      by_cases e2 : d.Label = (a : Int)
      · simp only [e2, decide_true, Bool.not_true, Bool.false_eq_true, if_false, if_true]
        rw [t2]
        simp only [Option.bind_some]
        by_cases hm : (⟨d.From, (b : Int), d.To⟩ : Edge) ∈ x.Edges <;> simp [hm]
      · simp [e2]
theorem redR_eqv (list : List System) (cs : List Int) (k : Int) (n : Nat) : Eqv n (redR list cs k) :=
  ⟨fun _ _ => ⟨rfl, fun _ _ _ _ => rfl⟩, fun _ _ _ _ h => ⟨h.1.symm, fun i x h1 h2 => (h.2 i x h1 h2).symm⟩, fun _ _ _ _ _ _ h g => ⟨h.1.trans g.1, fun i x h1 h2 => (h.2 i x h1 h2).trans (g.2 i x h1 h2)⟩⟩
open Classical in
theorem refReduce_ok {list : List System} {cs : List Int} (h : LOK list cs) {k : Nat} (hk : k < list.length) (hcl : cs.length ≤ 100) : Ok (ref45_Reduce_p list (k : Int)) fun r => r.2 = 0 ∧ ClsL (redR list cs (k : Int)) cs.length r.1 := by
  unfold ref45_Reduce_p
  obtain ⟨x0, hx0⟩ := get_some (show 0 < list.length by omega)
  have hx0c := h.c x0 (List.mem_of_getElem? hx0)
  have hi0 : idx list 0 = some x0 := by rw [show (0 : Int) = ((0 : Nat) : Int) from rfl, idx_nat, hx0]
  have hE := redR_eqv list cs (k : Int) cs.length
  have hn4 := h.n
  rw [ctl_all (p := fun _ => true) (r := ([], 2)) ?_]
  · rw [if_pos (by simp), if_neg (by simp; omega), hi0]
    simp only [Option.bind_some, hx0c]
    refine Ok.bind (Ok.forS (fun m (s : List Int × Int) => s.1.length = m ∧ (∀ q, q < m → ∃ c : Nat, s.1[q]? = some (c : Int) ∧ IsCls (redR list cs (k : Int)) q c) ∧ s.2 = (rnk (redR list cs (k : Int)) m : Int)) ⟨rfl, fun q h => absurd h (Nat.not_lt_zero _), rfl⟩ ?_ ?_)
    · rintro m ⟨out, nx⟩ hm ⟨h1, h2, h3⟩
      simp only at h1 h2 h3
      obtain ⟨cm, hcm⟩ := get_some hm
      simp only [un2, idx_nat, hcm, Option.bind_some]
      refine Ok.must (by simp; omega) (Ok.bind ?_)
      rw [show ((m : Int)).toNat = m by omega]
      refine Ok.forS (fun j (c : Int) => (c = -1 ∧ ∀ q, q < j → ¬ redR list cs (k : Int) q m) ∨ ∃ q kq : Nat, q < j ∧ redR list cs (k : Int) q m ∧ isRep (redR list cs (k : Int)) q ∧ c = (kq : Int) ∧ IsCls (redR list cs (k : Int)) q kq) (.inl ⟨rfl, fun q h => absurd h (Nat.not_lt_zero _)⟩) ?_ ?_
      · rintro j c hj hI
        obtain ⟨cj, hcj⟩ := get_some (show j < cs.length by omega)
        simp only [idx_nat, hcj, Option.bind_some]
        -- whether the labels are the same
        have hsame : forS (fun i => fun (z : Bool) => (idx list (i : Int)).bind fun x => (if z then (if decide ((i : Int) = (k : Int)) then (some true) else ((ref45_alike_p x (m : Int) (j : Int)).bind <| fun (y : Bool) => some y)) else (some false)).bind (fun (z' : Bool) => some z')) list.length 0 (decide (cm = cj)) = some (open Classical in decide (redR list cs (k : Int) j m)) := by
          have := Ok.forS (n := list.length) (s := decide (cm = cj)) (Q := fun z => z = (open Classical in decide (redR list cs (k : Int) j m)))
            (B := fun i => fun (z : Bool) => (idx list (i : Int)).bind fun x => (if z then (if decide ((i : Int) = (k : Int)) then (some true) else ((ref45_alike_p x (m : Int) (j : Int)).bind <| fun (y : Bool) => some y)) else (some false)).bind (fun (z' : Bool) => some z'))
            (fun i z => z = true ↔ cm = cj ∧ ∀ (i' : Nat) (x : System), i' < i → list[i']? = some x → (i' : Int) ≠ (k : Int) → pairsOf x j x.Edges.length = pairsOf x m x.Edges.length) (by simp) ?_ ?_
          · exact this.eq
          · rintro i z hi hz
            obtain ⟨x, hx⟩ := get_some hi
            have hxv := h.v x (List.mem_of_getElem? hx)
            simp only [idx_nat, hx, Option.bind_some]
            cases z with
            | false =>
              simp only [Bool.false_eq_true, if_false, Option.bind_some]
              refine Ok.ret ⟨fun h => (by cases h), fun h => ?_⟩
              exact hz.2 ⟨h.1, fun i' y hi' => h.2 i' y (by omega)⟩
            | true =>
              have hz' := hz.1 rfl
              simp only [if_true]
              by_cases e : (i : Int) = (k : Int)
              · simp only [e, decide_true, if_true, Option.bind_some]
                refine Ok.ret ⟨fun _ => ⟨hz'.1, fun i' y hi' hy hk' => ?_⟩, fun _ => rfl⟩
                by_cases ei : i' = i
                · subst ei; exact absurd e hk'
                · exact hz'.2 i' y (by omega) hy hk'
              · simp only [e, decide_false, Bool.false_eq_true, if_false, alike_eq hxv, Option.bind_some]
                refine Ok.ret ?_
                rw [alikeB_iff]
                constructor
                · intro hal
                  refine ⟨hz'.1, fun i' y hi' hy hk' => ?_⟩
                  by_cases ei : i' = i
                  · subst ei
                    rw [hx] at hy; cases hy
                    exact (pairsOf_iff hxv).2 fun f t => (hal f t).symm
                  · exact hz'.2 i' y (by omega) hy hk'
                · intro hal f t
                  exact ((pairsOf_iff hxv).1 (hal.2 i x (by omega) hx e) f t).symm
          · intro z hz
            rw [Bool.eq_iff_iff, hz, decide_eq_true_eq]
            unfold redR
            rw [hcm, hcj]
            constructor
            · rintro ⟨e, h2⟩
              exact ⟨by rw [e], fun i x hx hk' => h2 i x (List.getElem?_eq_some_iff.1 hx).1 hx hk'⟩
            · rintro ⟨e, h2⟩
              exact ⟨by simpa using e.symm, fun i x _ hx hk' => h2 i x hx hk'⟩
        simp only [idx_nat] at hsame
        rw [hsame]
        simp only [Option.bind_some]
        by_cases hR : redR list cs (k : Int) j m
        · simp only [hR, decide_true, Bool.true_and]
          rcases hI with ⟨rfl, hno⟩ | ⟨q, kq, hq, hqR, hrep, rfl, hcl'⟩
          · rw [if_pos (by decide)]
            obtain ⟨c', c1, c2⟩ := h2 j (by omega)
            simp only [c1, Option.bind_some]
            refine Ok.ret (.inr ⟨j, c', by omega, hR, fun q hq hqR => hno q hq (hE.trans q j m (by omega) (by omega) (by omega) hqR hR), rfl, c2⟩)
          · have n1 : ¬ ((kq : Int) < 0) := by omega
            simp only [n1, decide_false, Bool.false_eq_true, if_false, Option.bind_some]
            exact Ok.ret (.inr ⟨q, kq, by omega, hqR, hrep, rfl, hcl'⟩)
        · simp only [hR, decide_false, Bool.false_and, Bool.false_eq_true, if_false, Option.bind_some]
          refine Ok.ret ?_
          rcases hI with ⟨rfl, hno⟩ | ⟨q, kq, hq, hqR, hrep, rfl, hcl'⟩
          · refine .inl ⟨rfl, fun q hq hqR => ?_⟩
            by_cases eq : q = j
            · subst eq; exact hR hqR
            · exact hno q (by omega) hqR
          · exact .inr ⟨q, kq, by omega, hqR, hrep, rfl, hcl'⟩
      · rintro c hI
        have hkb := rnk_n (redR list cs (k : Int)) m
        rcases hI with ⟨rfl, hno⟩ | ⟨q, kq, hq, hqR, hrep, rfl, hcl'⟩
        · have hrep : isRep (redR list cs (k : Int)) m := fun q hq => hno q hq
          rw [if_pos (by decide)]
          simp only [Option.bind_some, un2]
          refine Ok.step (app_ok (by simp only [List.length_singleton]; omega)) (Ok.ret ⟨by simp only [List.length_append, List.length_singleton]; omega, fun q hq => ?_, ?_⟩)
          · simp only
            by_cases e : q = m
            · subst e
              exact ⟨rnk (redR list cs (k : Int)) q, by rw [List.getElem?_append_right (by omega), h1, Nat.sub_self, h3]; rfl, q, Nat.le_refl _, hE.refl q hm, hrep, rfl⟩
            · rw [List.getElem?_append_left (by omega)]; exact h2 q (by omega)
          · simp only
            rw [h3, rnk_succ, wrap_id (by omega) (by omega)]
            simp [hrep]
        · have n1 : ¬ ((kq : Int) < 0) := by omega
          simp only [n1, decide_false, Bool.false_eq_true, if_false, Option.bind_some, un2]
          have hnr : ¬ isRep (redR list cs (k : Int)) m := fun h => h q hq hqR
          obtain ⟨r, a1, a2, a3, a4⟩ := hcl'
          have hrq : r = q := by
            rcases Nat.lt_or_ge r q with hlt | hge
            · exact absurd a2 (hrep r hlt)
            · omega
          subst hrq
          refine Ok.step (app_ok (by simp only [List.length_singleton]; omega)) (Ok.ret ⟨by simp only [List.length_append, List.length_singleton]; omega, fun p hp => ?_, ?_⟩)
          · simp only
            by_cases e : p = m
            · subst e
              exact ⟨kq, by rw [List.getElem?_append_right (by omega), h1, Nat.sub_self]; rfl, r, by omega, hqR, hrep, a4⟩
            · rw [List.getElem?_append_left (by omega)]; exact h2 p (by omega)
          · simp only
            rw [h3, rnk_succ]; simp [hnr]
    · rintro ⟨out, nx⟩ ⟨h1, h2, _⟩
      exact Ok.ret ⟨rfl, h1, h2⟩
  · intro j hj
    obtain ⟨x, hx⟩ := get_some hj
    have hxm := List.mem_of_getElem? hx
    simp only [idx_nat, hx, Option.bind_some, rV, valB_iff.2 (h.v x hxm), Bool.not_true, Bool.false_eq_true, if_false, hi0, Ints_i, h.c x hxm, hx0c, decide_true, if_true]
end Go.Pw
