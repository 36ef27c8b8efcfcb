/-
  The least costs of plans by brute force, in plain Lean.
-/
import Derived.Test.YtdhfofhginfdnaaWhRk
set_option maxHeartbeats 4000000
set_option linter.unusedSimpArgs false
set_option linter.unusedVariables false
namespace Go.Pw
theorem rank_ok {vars s : List Int} (hv : ∀ n ∈ vars, 1 ≤ n ∧ n ≤ 64) (hp : prd vars ≤ 4096) (hs : StateOK vars s) : base_Rank_p vars s = some (rk vars s) := by
  unfold base_Rank_p
  refine Ok.eq (Ok.bind (Ok.forS (fun i n => n = rk (vars.take i) (s.take i)) (by simp [rk_nil]) ?_ ?_))
  · rintro i n hi rfl
    obtain ⟨x, hx⟩ := get_len hi
    obtain ⟨k, hk⟩ := get_len (xs := vars) (i := i) (by rw [← hs.len]; exact hi)
    have hkr := hv k (List.mem_of_getElem? hk)
    have hst := hs.take i
    have hst1 := hs.take (i + 1)
    have hpos : ∀ m, ∀ n ∈ vars.take m, 1 ≤ n := fun m n hn => (hv n (List.mem_of_mem_take hn)).1
    have h0 := rk_lt (hpos i) hst
    have h1 := rk_lt (hpos (i + 1)) hst1
    have hle := prd_take_le (l := vars) (fun x hx => (hv x hx).1) i
    have hle1 := prd_take_le (l := vars) (fun x hx => (hv x hx).1) (i + 1)
    have hsn : rk (vars.take (i + 1)) (s.take (i + 1)) = rk (vars.take i) (s.take i) * k + x := by
      rw [take_snoc hk, take_snoc hx, rk_snoc hst.len]
    have hxr := hs.r i x k hx hk
    have b1 : rk (vars.take i) (s.take i) * k ≤ 4096 * 64 := Int.mul_le_mul (by omega) hkr.2 (by omega) (by omega)
    have b0 : 0 ≤ rk (vars.take i) (s.take i) * k := Int.mul_nonneg h0.1 (by omega)
    rw [hsn]
    simp only [idx_nat, hk, hx, Option.bind_some]
    rw [wrap_id (n := rk (vars.take i) (s.take i) * k) (by omega) (by omega), wrap_id (by omega) (by omega)]
    exact Ok.ret rfl
  · rintro n rfl
    rw [List.take_length, hs.len, List.take_length]
    exact Ok.ret rfl
/-- The steps between states, by their numbers; against their direction. -/
def BA (t : Task) : Arcs := fun v u w => ∃ (s : List Int) (i : Nat) (o : Op), StateOK t.Vars s ∧ t.Ops[i]? = some o ∧ hold o.Pre s ∧ w = o.Cost ∧ rk t.Vars (applyL o.Effs s) = (v : Int) ∧ rk t.Vars s = (u : Int)
def bsrc (t : Task) : Nat → Prop := fun i => ∃ s, StateOK t.Vars s ∧ rk t.Vars s = (i : Int) ∧ hold t.Goal s
def BE (t : Task) (e : base_Edge) : Prop := ∃ (s : List Int) (i : Nat) (o : Op), StateOK t.Vars s ∧ t.Ops[i]? = some o ∧ hold o.Pre s ∧ e = ⟨rk t.Vars s, (i : Int), rk t.Vars (applyL o.Effs s)⟩
theorem edges_ok {t : Task} (ht : SmallT t) : Ok (base_Edges_p t) fun L => ∀ e, e ∈ L ↔ BE t e := by
  have hno := ht.no
  have hp := ht.p
  have hv1 : ∀ n ∈ t.Vars, 1 ≤ n := fun n hn => (ht.g.v n hn).1
  unfold base_Edges_p
  rw [states_ok ht.g.v ht.g.nv (by omega)]
  have hL := statesL_len (vars := t.Vars) fun x hx => by have := ht.g.v x hx; omega
  have hLm : ∀ s, s ∈ statesL t.Vars ↔ StateOK t.Vars s := fun s => statesL_mem
  have hLr : ∀ (i : Nat) s, (statesL t.Vars)[i]? = some s → rk t.Vars s = (i : Int) := fun i s h => rk_at hv1 h
  generalize statesL t.Vars = L at *
  simp only [Option.bind_some]
  refine Ok.bind (Ok.forS (fun j E => (∀ e, e ∈ E ↔ ∃ (s : List Int) (i : Nat) (o : Op), s ∈ L.take j ∧ t.Ops[i]? = some o ∧ hold o.Pre s ∧ e = ⟨rk t.Vars s, (i : Int), rk t.Vars (applyL o.Effs s)⟩) ∧ E.length ≤ j * 20) ⟨by simp, by simp⟩ ?_ ?_)
  · rintro j E hj ⟨f2, f3⟩
    obtain ⟨s, hs⟩ := get_len hj
    have hsm := List.mem_of_getElem? hs
    have hok := (hLm s).1 hsm
    have hrk := hLr j s hs
    simp only [idx_nat, hs, Option.bind_some]
    refine Ok.bind (Ok.forS (fun i E' => (∀ e, e ∈ E' ↔ e ∈ E ∨ ∃ (k : Nat) (o : Op), k < i ∧ t.Ops[k]? = some o ∧ hold o.Pre s ∧ e = ⟨rk t.Vars s, (k : Int), rk t.Vars (applyL o.Effs s)⟩) ∧ E'.length ≤ E.length + i) ⟨fun e => ⟨fun h => .inl h, fun h => ?_⟩, by simp⟩ ?_ ?_)
    · rcases h with h | ⟨k, _, hk, _⟩
      · exact h
      · omega
    · rintro i E' hi ⟨g2, g3⟩
      obtain ⟨o, ho⟩ := get_len hi
      have hop := ht.g.op o (List.mem_of_getElem? ho)
      obtain ⟨r, hr, hr1, hr2⟩ := apply_ok ht.g ho hok
      rw [hr]
      simp only [Option.bind_some]
      have hnew : ∀ e : base_Edge, (∃ (k : Nat) (o' : Op), k < i + 1 ∧ t.Ops[k]? = some o' ∧ hold o'.Pre s ∧ e = ⟨rk t.Vars s, (k : Int), rk t.Vars (applyL o'.Effs s)⟩) ↔
          (∃ (k : Nat) (o' : Op), k < i ∧ t.Ops[k]? = some o' ∧ hold o'.Pre s ∧ e = ⟨rk t.Vars s, (k : Int), rk t.Vars (applyL o'.Effs s)⟩) ∨ (hold o.Pre s ∧ e = ⟨rk t.Vars s, (i : Int), rk t.Vars (applyL o.Effs s)⟩) := by
        intro e
        constructor
        · rintro ⟨k, o', hk, ho', h2, h3⟩
          by_cases he : k = i
          · subst he
            rw [ho] at ho'; cases ho'
            exact .inr ⟨h2, h3⟩
          · exact .inl ⟨k, o', by omega, ho', h2, h3⟩
        · rintro (⟨k, o', hk, ho', h⟩ | ⟨h2, rfl⟩)
          · exact ⟨k, o', by omega, ho', h⟩
          · exact ⟨i, o, by omega, ho, h2, rfl⟩
      by_cases hh : hold o.Pre s
      · rw [hr1 hh]
        have haok := applyL_ok hok (effs := o.Effs) fun e he => (hop.eff e he).2
        simp only [un2, if_true, rank_ok ht.g.v (by omega) haok, Option.bind_some]
        rw [app_ok (by simp only [List.length_singleton]; omega)]
        simp only [Option.bind_some]
        refine Ok.ret ⟨fun e => ?_, by simp; omega⟩
        rw [List.mem_append, List.mem_singleton, g2, hnew, ← hrk]
        constructor
        · rintro ((h | h) | h)
          · exact .inl h
          · exact .inr (.inl h)
          · exact .inr (.inr ⟨hh, h⟩)
        · rintro (h | h | ⟨_, h⟩)
          · exact .inl (.inl h)
          · exact .inl (.inr h)
          · exact .inr h
      · rw [hr2 hh]
        simp only [un2, Bool.false_eq_true, if_false, Option.bind_some]
        refine Ok.ret ⟨fun e => ?_, by omega⟩
        rw [g2, hnew]
        constructor
        · rintro (h | h)
          · exact .inl h
          · exact .inr (.inl h)
        · rintro (h | h | ⟨h, _⟩)
          · exact .inl h
          · exact .inr h
          · exact absurd h hh
    · rintro E' ⟨g2, g3⟩
      refine Ok.ret ⟨fun e => ?_, by rw [Nat.succ_mul]; omega⟩
      rw [g2, f2, take_snoc hs]
      constructor
      · rintro (⟨s', i, o, a1, a2⟩ | ⟨k, o, _, a1, a2⟩)
        · exact ⟨s', i, o, List.mem_append_left _ a1, a2⟩
        · exact ⟨s, k, o, by simp, a1, a2⟩
      · rintro ⟨s', i, o, a1, a2, a3⟩
        rcases List.mem_append.1 a1 with a1 | a1
        · exact .inl ⟨s', i, o, a1, a2, a3⟩
        · simp only [List.mem_singleton] at a1; subst a1
          exact .inr ⟨i, o, (List.getElem?_eq_some_iff.1 a2).1, a2, a3⟩
  · rintro E ⟨f2, f3⟩
    rw [List.take_length] at f2
    refine Ok.ret fun e => ?_
    rw [f2]
    unfold BE
    constructor
    · rintro ⟨s, i, o, a1, a2⟩; exact ⟨s, i, o, (hLm s).1 a1, a2⟩
    · rintro ⟨s, i, o, a1, a2⟩; exact ⟨s, i, o, (hLm s).2 a1, a2⟩
theorem ba_aok {t : Task} (ht : SmallT t) : AOK (BA t) (bsrc t) (prd t.Vars).toNat := by
  have hv1 : ∀ n ∈ t.Vars, 1 ≤ n := fun n hn => (ht.g.v n hn).1
  constructor
  · rintro v u w ⟨s, i, o, hs, ho, hp, rfl, h1, h2⟩
    have hop := ht.g.op o (List.mem_of_getElem? ho)
    have haok := applyL_ok hs (effs := o.Effs) fun e he => (hop.eff e he).2
    have := rk_lt hv1 hs
    have := rk_lt hv1 haok
    exact ⟨by omega, by omega, hop.c0, hop.c1⟩
  · rintro i ⟨s, hs, h1, _⟩
    have := rk_lt hv1 hs
    omega
theorem bdist_ok {t : Task} (ht : SmallT t) : Ok (base_Distances_nil_p t) (SP (BA t) (bsrc t) (prd t.Vars).toNat) := by
  classical
  have hA := ba_aok ht
  have hI : (Inf : Int) = 1125899906842624 := rfl
  have hp := ht.p
  have hv1 : ∀ n ∈ t.Vars, 1 ≤ n := fun n hn => (ht.g.v n hn).1
  have hpp := prd_pos hv1
  obtain ⟨E, hE, hEm⟩ := edges_ok ht
  unfold base_Distances_nil_p
  rw [states_ok ht.g.v ht.g.nv (by omega)]
  have hL := statesL_len (vars := t.Vars) fun x hx => by have := ht.g.v x hx; omega
  have hLm : ∀ s, s ∈ statesL t.Vars ↔ StateOK t.Vars s := fun s => statesL_mem
  have hLr : ∀ (i : Nat) s, (statesL t.Vars)[i]? = some s → rk t.Vars s = (i : Int) := fun i s h => rk_at hv1 h
  have hLg : ∀ s, StateOK t.Vars s → (statesL t.Vars)[(rk t.Vars s).toNat]? = some s := fun s h => (rk_get hv1 h).2
  generalize statesL t.Vars = L at *
  have hn : (prd t.Vars).toNat = L.length := by omega
  rw [hn] at hA ⊢
  simp only [Option.bind_some]
  refine Ok.step (mk_ok (by omega) (by omega)) (Ok.bind ?_)
  refine Ok.forS (fun i l => l.length = L.length ∧ ∀ j s, j < i → L[j]? = some s → l[j]? = some (if hold t.Goal s then 0 else Inf)) ⟨by simp, fun j s hj => by omega⟩ ?_ ?_
  · rintro i l hi ⟨h1, h2⟩
    obtain ⟨s, hs⟩ := get_len hi
    have hok := (hLm s).1 (List.mem_of_getElem? hs)
    obtain ⟨y, hy⟩ := get_len (xs := l) (i := i) (by omega)
    simp only [idx_nat, hs, hy, Option.bind_some, setI_nat (show i < l.length by omega), tHolds ht.g.goal hok.len]
    by_cases hg : hold t.Goal s
    · simp only [hg, decide_true, if_true]
      rw [List.getElem?_set_self (by omega)]
      simp only [Option.bind_some]
      rw [setI_nat (by simp; omega)]
      refine Ok.ret ⟨by simp [h1], fun j s' hj hs' => ?_⟩
      by_cases e : j = i
      · subst e
        rw [hs] at hs'; cases hs'
        rw [List.getElem?_set_self (by simp; omega), if_pos hg]
      · rw [List.getElem?_set_ne (Ne.symm e), List.getElem?_set_ne (Ne.symm e)]
        exact h2 j s' (by omega) hs'
    · simp only [hg, decide_false, Bool.false_eq_true, if_false, Option.bind_some]
      refine Ok.ret ⟨by simp [h1], fun j s' hj hs' => ?_⟩
      by_cases e : j = i
      · subst e
        rw [hs] at hs'; cases hs'
        rw [List.getElem?_set_self (by omega), if_neg hg]
      · rw [List.getElem?_set_ne (Ne.symm e)]
        exact h2 j s' (by omega) hs'
  rintro l0 ⟨hl1, hl2⟩
  have hD0 : Dst (BA t) (bsrc t) L.length l0 := by
    have get : ∀ (i : Nat) (y : Int), l0[i]? = some y → ∃ s, L[i]? = some s ∧ y = if hold t.Goal s then 0 else Inf := by
      intro i y hy
      have hi := (List.getElem?_eq_some_iff.1 hy).1
      obtain ⟨s, hs⟩ := get_len (show i < L.length by omega)
      have := hl2 i s (by omega) hs
      rw [hy] at this
      exact ⟨s, hs, Zu this⟩
    refine ⟨hl1, fun i y hy => ?_, fun i hi => ?_, fun i y hy hlt => ?_⟩
    · obtain ⟨s, hs, rfl⟩ := get i y hy
      split <;> omega
    · obtain ⟨s, hs, hr, hg⟩ := hi
      have := hLg s hs
      rw [hr, Int.toNat_natCast] at this
      have h := hl2 i s (List.getElem?_eq_some_iff.1 this).1 this
      rw [h, if_pos hg]
    · obtain ⟨s, hs, rfl⟩ := get i y hy
      by_cases hg : hold t.Goal s
      · rw [if_pos hg]
        exact .base ⟨s, (hLm s).1 (List.mem_of_getElem? hs), hLr i s hs, hg⟩
      · rw [if_neg hg] at hlt; omega
  refine Ok.step hE ?_
  refine Ok.while (fun s : Bool × List Int => Dst (BA t) (bsrc t) L.length s.2 ∧ (s.1 = false → ∀ v, ClAt (BA t) s.2 v)) (fun s => Dst (BA t) (bsrc t) L.length s.2 ∧ ∀ v, ClAt (BA t) s.2 v) (fun _ => False) (fun s => tot s.2 + (if s.1 then 1 else 0)) ⟨hD0, by simp⟩ ?_ (fun _ h => h.elim) ?_
  · rintro ⟨ch, l⟩ ⟨hD, hcl⟩
    cases ch with
    | false => exact ⟨.brk (false, l), rfl, by simp, fun s' e => by cases e; exact ⟨hD, hcl rfl⟩, by simp⟩
    | true =>
      suffices hpass : Ok (forS (fun i101 => un2 fun (changed101 : Bool) (l106 : (List Int)) => (idx E (i101 : Int)).bind fun x103 =>
          (idx t.Ops x103.Op).bind fun x104 =>
          ((idx l106 x103.To).bind fun x105 =>
          if decide (x105 < 1125899906842624) then ((idx l106 x103.From).bind fun x106 =>
          some (decide ((IntKind.i64.wrap (x105 + x104.Cost)) < x106)))
          else (some false)).bind (fun (z100 : Bool) => (if z100 then ((idx l106 x103.To).bind fun x107 =>
          (idx l106 x103.From).bind fun x108 =>
          (setI l106 x103.From (IntKind.i64.wrap (x107 + x104.Cost))).bind fun l107 =>
          some (true, l107))
          else (some (changed101, l106))).bind (un2 fun (changed102 : Bool) (l108 : (List Int)) => some (changed102, l108)))) (E.length) 0 (false, l))
          (fun s => Dst (BA t) (bsrc t) L.length s.2 ∧ (s.1 = true → tot s.2 < tot l) ∧ (s.1 = false → s.2 = l ∧ ∀ v, ClAt (BA t) l v)) by
        obtain ⟨⟨ch', l'⟩, hr, h1, h2, h3⟩ := hpass
        refine ⟨.next (ch', l'), ?_, fun s' e => ?_, by simp, by simp⟩
        · show ((forS _ _ 0 (false, l)).bind _) = _
          rw [hr]; rfl
        · cases e
          cases ch' with
          | true => have := h2 rfl; exact ⟨⟨h1, by simp⟩, by simp; omega⟩
          | false =>
            obtain ⟨e, hc⟩ := h3 rfl
            simp only at e
            subst e
            exact ⟨⟨h1, fun _ => hc⟩, by simp⟩
      refine Ok.forS (fun i s => Dst (BA t) (bsrc t) L.length s.2 ∧ tot s.2 ≤ tot l ∧ (s.1 = true → tot s.2 < tot l) ∧ (s.1 = false → s.2 = l ∧ ∀ e ∈ E.take i, ∀ (v u k : Nat) (o : Op) (a b : Int), e = ⟨(u : Int), (k : Int), (v : Int)⟩ → t.Ops[k]? = some o → l[v]? = some a → l[u]? = some b → a < Inf → b ≤ a + o.Cost)) ?_ ?_ ?_
      · exact ⟨hD, Nat.le_refl _, by simp, fun _ => ⟨rfl, by simp⟩⟩
      · rintro i ⟨ch, k⟩ hi ⟨h1, h2, h3, h4⟩
        simp only at h1 h2 h3 h4
        obtain ⟨d, hd⟩ := get_len hi
        have hdm := List.mem_of_getElem? hd
        obtain ⟨s, lb, o, hs, ho, hpre, rfl⟩ := (hEm d).1 hdm
        have hop := ht.g.op o (List.mem_of_getElem? ho)
        have haok := applyL_ok hs (effs := o.Effs) fun e he => (hop.eff e he).2
        have r1 := rk_lt hv1 hs
        have r2 := rk_lt hv1 haok
        obtain ⟨f, hf⟩ : ∃ f : Nat, rk t.Vars s = (f : Int) := ⟨(rk t.Vars s).toNat, by omega⟩
        obtain ⟨g, hg⟩ : ∃ g : Nat, rk t.Vars (applyL o.Effs s) = (g : Int) := ⟨(rk t.Vars (applyL o.Effs s)).toNat, by omega⟩
        have harc : BA t g f o.Cost := ⟨s, lb, o, hs, ho, hpre, rfl, hg, hf⟩
        rw [hf, hg] at hd
        have hfl : f < L.length := by omega
        have hgl : g < L.length := by omega
        obtain ⟨a, ha⟩ := get_len (xs := k) (i := g) (by rw [h1.len]; exact hgl)
        obtain ⟨b, hb⟩ := get_len (xs := k) (i := f) (by rw [h1.len]; exact hfl)
        have ra := h1.rng g a ha
        have rb := h1.rng f b hb
        have c0 := hop.c0
        have c1 := hop.c1
        have hw : IntKind.i64.wrap (a + o.Cost) = a + o.Cost := wrap_id (by omega) (by omega)
        have hmore : ∀ (hk : ch = false), ¬ (a < Inf ∧ a + o.Cost < b) → k = l ∧ ∀ e ∈ E.take (i + 1), ∀ (v u k : Nat) (o : Op) (a b : Int), e = ⟨(u : Int), (k : Int), (v : Int)⟩ → t.Ops[k]? = some o → l[v]? = some a → l[u]? = some b → a < Inf → b ≤ a + o.Cost := by
          intro hk hnot
          obtain ⟨e1, e2⟩ := h4 hk
          refine ⟨e1, ?_⟩
          intro e he v u kk o' a' b' hee ho' ha' hb' hlt
          rw [take_snoc hd] at he
          rcases List.mem_append.1 he with he | he
          · exact e2 e he v u kk o' a' b' hee ho' ha' hb' hlt
          · simp only [List.mem_singleton] at he
            subst he
            simp only [base_Edge.mk.injEq] at hee
            have g1 : lb = kk := by omega
            have g2 : g = v := by omega
            have g3 : f = u := by omega
            subst g1 g2 g3
            rw [ho] at ho'; cases ho'
            rw [e1] at ha hb
            rw [ha] at ha'; cases ha'
            rw [hb] at hb'; cases hb'
            omega
        simp only [un2, idx_nat, hd, ho, ha, hb, Option.bind_some, hw]
        by_cases hlt : a < 1125899906842624
        · simp only [hlt, decide_true, if_true, Option.bind_some]
          by_cases hl2 : a + o.Cost < b
          · simp only [hl2, decide_true, if_true, setI_nat (show f < k.length by rw [h1.len]; exact hfl), Option.bind_some]
            have htt := tot_set (l := k) (u := f) (y := b) (z := a + o.Cost) hb (by omega) hl2
            refine Ok.ret ⟨h1.set hA harc ha hb hl2, by simp only; omega, fun _ => by simp only; omega, by simp⟩
          · simp only [hl2, decide_false, Bool.false_eq_true, if_false, Option.bind_some]
            exact Ok.ret ⟨h1, h2, h3, fun hk => hmore hk (fun hx => hl2 hx.2)⟩
        · simp only [hlt, decide_false, Bool.false_eq_true, if_false, Option.bind_some]
          exact Ok.ret ⟨h1, h2, h3, fun hk => hmore hk (fun hx => hlt hx.1)⟩
      · rintro ⟨ch, k⟩ ⟨h1, h2, h3, h4⟩
        refine ⟨h1, h3, fun hk => ⟨(h4 hk).1, ?_⟩⟩
        rintro v u w a b ⟨s, i, o, hs, ho, hpre, rfl, e1, e2⟩ hx hy hlt
        have h5 := (h4 hk).2
        rw [List.take_length] at h5
        exact h5 _ ((hEm _).2 ⟨s, i, o, hs, ho, hpre, rfl⟩) v u i o a b (by rw [e1, e2]) ho hx hy hlt
  · rintro ⟨ch, l⟩ ⟨h1, h2⟩
    exact Ok.ret { h1 with cl := h2 }
end Go.Pw
