/-
  Plain Lean: P54.1, StnCopies.
-/
import Derived.Test.YtcapbkcdeeinoaaCS3
namespace Go.Pw
section
variable {n : Nat} {E : List Bound} {d : List (List Int)} {f : MM} {b : Bound}
theorem Mx.uniq {l l' : List (List Int)} (h : Mx n l f) (h' : Mx n l' f) : l = l' := by
  refine List.ext_getElem? fun i => ?_
  by_cases hi : i < n
  · obtain ⟨r, a1, a2, a3⟩ := h.2 i hi
    obtain ⟨r', b1, b2, b3⟩ := h'.2 i hi
    rw [a1, b1]
    congr 1
    refine List.ext_getElem? fun j => ?_
    by_cases hj : j < n
    · rw [a3 j hj, b3 j hj]
    · rw [List.getElem?_eq_none (by omega), List.getElem?_eq_none (by omega)]
  · have := h.1
    have := h'.1
    rw [List.getElem?_eq_none (by omega), List.getElem?_eq_none (by omega)]
theorem Copy_ok (hn : n ≤ 32) (hd : Mx n d f) : Ok (stn_Network_Copy_p ⟨d⟩) (fun r => r = ⟨d⟩) := by
  unfold stn_Network_Copy_p
  refine Ok.bind ?_
  show Ok (forS _ d.length 0 []) _
  rw [hd.1]
  refine Ok.forS (fun i l => Rc i n l f) ⟨rfl, fun i hi => by omega⟩ ?_ (fun l hl => Ok.ret (by rw [Mx.uniq hl hd]))
  intro i l hi hl
  obtain ⟨row, r1, r2, r3⟩ := hd.row hi
  refine Ok.step r1 (Ok.step (a := row) ?_ (Ok.step (a := l ++ [row]) ?_ (Ok.ret (hl.push r2 (fun j hj => by have := r3 j hj; rwa [idx_nat] at this) fun _ _ _ _ => rfl))))
  · unfold slices_Clone___int_int__o_p app
    rw [if_pos (by simp; omega)]
    rfl
  · unfold app
    rw [if_pos]
    rw [hl.1]; simp; omega

/-- One bound more, to the reference's list and to the network. -/
theorem both {m : Nat} (hm : m ≤ 32) (hm0 : 0 < m) {l : List Bound} {d : List (List Int)} (hnet : Net m l d) (hl : l.length ≤ 100) (b : Bound) {k : List Bound × List (List Int) → Prop} (hk : ∀ l' d', Net m l' d' → l'.length ≤ l.length + 1 → k (l', d')) :
    Ok ((ref54_Add_p (m : Int) l b).bind <| un2 fun (l' : List Bound) (_ : Int) => (stn_Network_Add_p ⟨d⟩ b).bind <| un2 fun (e : Option Int) (d' : List (List Int)) =>
      if (e.isSome && ((!(base_Is_t e 1)) && !(base_Is_t e 21))) = true then some (Ctl.ret false) else some (Ctl.next (l', d'))) (CtlP (R := Bool) k (fun _ => False)) := by
  refine Ok.bind ((RefAdd_ok hm hm0 hnet.1 hl b).mono fun q hq => Ok.bind ((Add_ok hm hnet b).mono fun r hr => ?_))
  obtain ⟨a1, a2, a3⟩ := agree hnet hr hq
  simp only [un2]
  rw [if_neg]
  · exact Ok.ret (hk _ _ a2 a3)
  · rcases hr with ⟨_, rfl⟩ | ⟨_, _, rfl⟩ | ⟨_, h2, _⟩
    · simp [Is_ok]
    · simp [Is_ok]
    · simp [h2]
end

theorem StnCopies_ok (n : Int) (bounds more : List Bound) (hn : 0 ≤ n ∧ n < 256) : law54_StnCopies_p n bounds more = some true := by
  suffices Ok (law54_StnCopies_p n bounds more) (fun r => r = true) by obtain ⟨r, h1, h2⟩ := this; rw [h1, h2]
  obtain ⟨m, hm, hm0, hm8⟩ : ∃ m : Nat, IntKind.i64.wrap (1 + (IntKind.i64.wrap n).tmod 8) = (m : Int) ∧ 0 < m ∧ m ≤ 8 := by
    obtain ⟨k, rfl⟩ : ∃ k : Nat, n = (k : Int) := ⟨n.toNat, by omega⟩
    rw [wrap_i64 (n := (k : Int)) (by omega) (by omega)]
    have e : (k : Int).tmod 8 = ((k % 8 : Nat) : Int) := by rw [Int.tmod_eq_emod_of_nonneg (by omega)]; rfl
    rw [e, wrap_i64 (by omega) (by omega)]
    exact ⟨1 + k % 8, by omega, by omega, by omega⟩
  have hm32 : m ≤ 32 := by omega
  unfold law54_StnCopies_p
  simp only [hm]
  have hz : Ok (law54_awake_p.bind fun y => if (!y) = true then some true else if decide (20 < (bounds.length : Int)) = true then some true else some (decide (20 < (more.length : Int)))) (fun z => z = false → bounds.length ≤ 20 ∧ more.length ≤ 20) := by
    refine Ok.step awake_ok (Ok.ite (fun h => by cases h) fun _ => Ok.ite (fun _ => Ok.ret fun h => by cases h) fun h => Ok.ret fun h2 => ?_)
    have := dec_f h; have := dec_f h2; omega
  refine Ok.bind (hz.mono fun z hz => Ok.ite (fun _ => Ok.step awake_ok (Ok.ret rfl)) fun h => ?_)
  obtain ⟨hb, hmo⟩ := hz h
  refine Ok.bind ((New_ok hm0 (by omega)).mono ?_)
  rintro _ ⟨d0, rfl, hd0⟩
  simp only [un2, optC, Option.isSome_none, Bool.false_eq_true, if_false]
  refine Ok.ctl (fun i s => Net m s.1 s.2 ∧ s.1.length ≤ i) (fun _ => False) ⟨Net.new hd0, Nat.le_refl _⟩ ?_ (fun _ h => h.elim) ?_
  · rintro i ⟨l, d⟩ hi ⟨hnet, hl⟩
    obtain ⟨b, hb'⟩ : ∃ b, bounds[i]? = some b := ⟨bounds[i], by simp [hi]⟩
    simp only at hl hnet
    refine Ok.step (by rw [idx_nat]; exact hb') ?_
    exact both hm32 hm0 hnet (by omega) b fun l' d' h1 h2 => ⟨h1, by simp only; omega⟩
  rintro ⟨l, d⟩ ⟨hnet, hl⟩
  simp only at hnet hl
  obtain ⟨_, f, hd, _⟩ := id hnet
  refine Ok.bind ((Copy_ok hm32 hd).mono ?_)
  rintro _ rfl
  refine Ok.bind ((is_ok hm32 hm0 hnet).mono ?_)
  rintro _ rfl
  rw [if_neg (by simp)]
  have happ : app 24 ([] : List Bound) l = some l := by unfold app; rw [if_pos]; rfl; simp; omega
  refine Ok.step happ ?_
  refine Ok.ctl (fun i s => Net m s.1 s.2 ∧ s.1.length ≤ 20 + i) (fun _ => False) ⟨hnet, by simp only; omega⟩ ?_ (fun _ h => h.elim) ?_
  · rintro i ⟨k, d'⟩ hi ⟨hnet', hl'⟩
    obtain ⟨b, hb'⟩ : ∃ b, more[i]? = some b := ⟨more[i], by simp [hi]⟩
    simp only at hl' hnet'
    refine Ok.step (by rw [idx_nat]; exact hb') ?_
    exact both hm32 hm0 hnet' (by omega) b fun l' d'' h1 h2 => ⟨h1, by simp only; omega⟩
  rintro ⟨k, d'⟩ ⟨hnet', hl'⟩
  simp only at hnet'
  refine Ok.bind (Ok.bind ((is_ok hm32 hm0 hnet).mono ?_))
  rintro _ rfl
  rw [if_pos rfl]
  refine Ok.bind ((is_ok hm32 hm0 hnet').mono ?_)
  rintro _ rfl
  exact Ok.ret (Ok.ret rfl)
end Go.Pw
