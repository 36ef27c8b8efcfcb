/- -/
import Derived.Test.YtjbjflndiajoiaaGreatDoorLC
import Derived.OrdersIn
import Derived.Test.YtjbjflndiajoiaaGreatDoorLB
import Derived.Shelf.SlSortCmp.NoneTotal
import Derived.Test.YtjbjflndiajoiaaGreatDoorWsPb
import Derived.Test.YtjbjflndiajoiaaGreatDoorLF
set_option linter.unusedSimpArgs false
set_option linter.unusedVariables false
namespace Go.Pw
section
variable {P : Program} {N : Nat} {Q : QbR}
theorem QmH {n0 : Nat} {ops : List Oper} {f : Fr} {w : World} (hm : P.follows .mixedOrders = true) (hok : Qcu N n0 ops = true)
  (I : (Nat → Bool) → Fr → World → Prop) (hI : I (fun _ => false) f w.drew)
  (head : ∀ (i : Nat) (o : Oper) (dn : Nat → Bool) (g : Fr) (w : World), i < n0 → ops[i]? = some o → dn i = false → (∀ e ∈ o.after, Region.binds .any e = true → dn e.on = true) →
   (∀ e ∈ o.after, Region.binds .any e = true → e.on < i) → I dn g w →
   (if Region.wanted o (Jg ops.toArray g) then Exec P (ev g) o w fun v w' => I (fun j => if j = i then true else dn j) (J7 g o.dst v) w' else I (fun j => if j = i then true else dn j) (J7 g o.dst undef) w))
  (tail : ∀ (dn : Nat → Bool) (g : Fr) (w : World), (∀ i, i < n0 → dn i = true) → I dn g w → WL P N ops.toArray Q (ops.drop n0) g w) :
  ∀ a, Fits N a f → wpAny P .any ops.toArray (Qdo N Q) ops.toArray.size (Array.replicate ops.toArray.size false) a w.drew := by
 simp only [Qcu, Bool.and_eq_true, decide_eq_true_eq, List.all_eq_true, Bool.or_eq_true] at hok
 obtain ⟨⟨⟨⟨⟨hn0, hwait⟩, hdst⟩, _⟩, hnodup⟩, hback⟩ := hok
 have hn0' : n0 ≤ ops.length := by simpa [Nat.ble_eq] using hn0
 have hdsti : ∀ (i : Nat) (o : Oper), i < n0 → ops[i]? = some o → QdX N o.dst = true := by
  intro i o hi ho
  exact hdst o (List.mem_of_getElem? (i := i) (by rw [List.getElem?_take, if_pos hi]; exact ho))
 have hb : ∀ (i : Nat) (o : Oper) (e : Edge), ops[i]? = some o → e ∈ o.after → Region.binds .any e = true → e.on < i := by
  intro i o e ho he hbi
  have hi : i < ops.length := (List.getElem?_eq_some_iff.1 ho).1
  have := hback i (by simpa using hi)
  simp only [ho] at this
  have := Array.all_eq_true'.1 this e he
  simpa [Nat.blt_eq, hbi] using this
 have both : ∀ (listed : Array Bool) (i : Nat), listed.size = ops.length → i < ops.length → listed.getD i true = listed.getD i false := by
  intro listed i hl hi
  have : i < listed.size := by omega
  simp [this]
 have tailrun : ∀ (l : List Oper) (k : Nat) (listed : Array Bool) (a : Act) (w : World), ops.drop k = l → n0 ≤ k → listed.size = ops.length →
   (∀ i, i < k → listed.getD i false = true) → (∀ i, k ≤ i → i < ops.length → listed.getD i false = false) → wpList P ops.toArray (Qdo N Q) l a w → wpAny P .any ops.toArray (Qdo N Q) l.length listed a w := by
  intro l
  induction l with
  | nil =>
   intro k listed a w hl hk hls hdone hnot h
   have hkl : ops.length ≤ k := by simpa [List.drop_eq_nil_iff] using hl
   refine ⟨?_, h⟩
   rw [List.eq_nil_iff_forall_not_mem]
   intro i hi
   obtain ⟨hun, oi, hoi, _⟩ := mem_ready.1 hi
   have hilt : i < ops.length := by have := (Array.getElem?_eq_some_iff.1 hoi).1; simpa using this
   rw [both listed i hls hilt, hdone i (by omega)] at hun
   cases hun
  | cons o l ih =>
   intro k listed a w hl hk hls hdone hnot h
   have hkl : k < ops.length := by
    rcases Nat.lt_or_ge k ops.length with h | h
    ·exact h
    ·rw [List.drop_eq_nil_of_le h] at hl; cases hl
   have hok : ops[k]? = some o := by
    have := congrArg List.head? hl
    simpa [List.head?_drop] using this
   have hl' : ops.drop (k + 1) = l := by
    have := congrArg List.tail hl
    simpa [List.tail_drop] using this
   have hready : ∀ i, i ∈ Region.ready .any ops.toArray listed → i = k := by
    intro i hi
    obtain ⟨hun, oi, hoi, hall⟩ := mem_ready.1 hi
    have hilt : i < ops.length := by have := (Array.getElem?_eq_some_iff.1 hoi).1; simpa using this
    rcases Nat.lt_trichotomy i k with hlt | heq | hgt
    ·rw [both listed i hls hilt, hdone i hlt] at hun; cases hun
    ·exact heq
    ·rcases hwait i (by simpa using hilt) with (hw | hw) | ⟨_, hw⟩
     rotate_right
     ·have hoi' : ops[i]? = some oi := by simpa using hoi
      simp only [Qe3, hoi'] at hw
      obtain ⟨e, he, hbb⟩ := Array.any_eq_true'.1 hw
      simp only [Bool.and_eq_true] at hbb
      have hon : e.on = i - 1 := Nat.eq_of_beq_eq_true hbb.2
      have h2 := hall e he hbb.1
      rw [hon, hnot (i - 1) (by omega) (by omega)] at h2
      cases h2
     ·simp [Nat.blt_eq] at hw; omega
     ·have hoi' : ops[i]? = some oi := by simpa using hoi
      simp only [Qdq, hoi', List.all_eq_true, List.mem_range] at hw
      obtain ⟨e, he, hbb⟩ := Array.any_eq_true'.1 (hw k hgt)
      simp only [Bool.and_eq_true] at hbb
      have hon : e.on = k := Nat.eq_of_beq_eq_true hbb.2
      have h2 := hall e he hbb.1
      rw [hon, hnot k (Nat.le_refl _) hkl] at h2
      cases h2
   have hkready : k ∈ Region.ready .any ops.toArray listed :=
    mem_ready.2 ⟨by rw [both listed k hls hkl]; exact hnot k (Nat.le_refl _) hkl, o, by simpa using hok, fun e he q => hdone e.on (hb k o e hok he q)⟩
   refine ⟨fun h0 => (by rw [h0] at hkready; cases hkready), fun i hi => ?_⟩
   have hik := hready i hi
   subst hik
   have hnext : ∀ a w, wpList P ops.toArray (Qdo N Q) l a w → wpAny P .any ops.toArray (Qdo N Q) l.length (listed.setIfInBounds i true) a w := fun a w hh =>
    ih (i + 1) _ a w hl' (by omega) (by simpa using hls)
     (fun j hj => by
      by_cases e : j = i
      ·subst e; simp [hls, hkl]
      ·rw [getD_set_ne false (Ne.symm e)]; exact hdone j (by omega))
     (fun j hj hj' => by rw [getD_set_ne false (by omega)]; exact hnot j (by omega) hj') hh
   unfold wpOp
   have : ops.toArray[i]? = some o := by simpa using hok
   simp only [this]
   simp only [wpList] at h
   split
   ·rename_i hw
    rw [if_pos hw] at h
    exact h.imp (Oper.wp_mono hnext) (fun h => h)
   ·rename_i hw
    rw [if_neg hw] at h
    exact hnext _ _ h
 have headrun : ∀ (c : Nat) (listed : Array Bool) (a : Act) (w : World), (List.range n0).countP (fun i => !listed.getD i false) = c →
   (∃ (g : Fr), Fits N a g ∧ I (fun i => listed.getD i false) g w ∧ listed.size = ops.length ∧
    (∀ i, n0 ≤ i → i < ops.length → listed.getD i false = false)) →
   wpAny P .any ops.toArray (Qdo N Q) (c + (ops.drop n0).length) listed a w := by
  intro c
  induction c with
  | zero =>
   intro listed a w hc ⟨g, hg, hIw, hls, hnot⟩
   rw [Nat.zero_add]
   have hdone : ∀ i, i < n0 → listed.getD i false = true := by
    intro i hi
    have := List.countP_eq_zero.1 hc i (by simpa using hi)
    cases h : listed.getD i false with
    | true => rfl
    | false => rw [h] at this; simp at this
   exact tailrun (ops.drop n0) n0 listed a w Z (Nat.le_refl _) hls hdone hnot (tail _ g w hdone hIw a hg)
  | succ c ih =>
   intro listed a w hc ⟨g, hg, hIw, hls, hnot⟩
   rw [Nat.add_right_comm]
   have hex : ∃ i, i < n0 ∧ listed.getD i false = false ∧ ∀ j, j < i → listed.getD j false = true := by
    have h1 : ∃ i, i < n0 ∧ listed.getD i false = false := by
     have : 0 < (List.range n0).countP (fun i => !listed.getD i false) := by omega
     obtain ⟨i, hi, hp⟩ := List.countP_pos_iff.1 this
     exact ⟨i, by simpa using hi, by simpa using hp⟩
    obtain ⟨i, hi, hu⟩ := h1
    induction i using Nat.strongRecOn with
    | _ i ihi =>
     by_cases hm : ∃ j, j < i ∧ listed.getD j false = false
     ·obtain ⟨j, hj, hju⟩ := hm
      exact ihi j hj (by omega) hju
     ·refine ⟨i, hi, hu, fun j hj => ?_⟩
      cases h : listed.getD j false with
      | true => rfl
      | false => exact absurd ⟨j, hj, h⟩ hm
   obtain ⟨k, hk, hku, hkleast⟩ := hex
   have hkl : k < ops.length := by omega
   have hready : ∀ i, i ∈ Region.ready .any ops.toArray listed → i < n0 := by
    intro i hi
    obtain ⟨hun, oi, hoi, hall⟩ := mem_ready.1 hi
    have hilt : i < ops.length := by have := (Array.getElem?_eq_some_iff.1 hoi).1; simpa using this
    rcases hwait i (by simpa using hilt) with (hw | hw) | ⟨hw0, hw⟩
    rotate_right
    ·have hn0i : n0 < i := by simpa [Nat.blt_eq] using hw0
     have hoi' : ops[i]? = some oi := by simpa using hoi
     simp only [Qe3, hoi'] at hw
     obtain ⟨e, he, hbb⟩ := Array.any_eq_true'.1 hw
     simp only [Bool.and_eq_true] at hbb
     have hon : e.on = i - 1 := Nat.eq_of_beq_eq_true hbb.2
     have h2 := hall e he hbb.1
     rw [hon, hnot (i - 1) (by omega) (by omega)] at h2
     cases h2
    ·simpa [Nat.blt_eq] using hw
    ·rcases Nat.lt_or_ge i n0 with h | h
     ·exact h
     ·have hoi' : ops[i]? = some oi := by simpa using hoi
      simp only [Qdq, hoi', List.all_eq_true, List.mem_range] at hw
      obtain ⟨e, he, hbb⟩ := Array.any_eq_true'.1 (hw k (by omega))
      simp only [Bool.and_eq_true] at hbb
      have hon : e.on = k := Nat.eq_of_beq_eq_true hbb.2
      have h2 := hall e he hbb.1
      rw [hon, hku] at h2
      cases h2
   obtain ⟨ok, hok⟩ : ∃ o, ops[k]? = some o := ⟨ops[k], by simp [hkl]⟩
   have hkready : k ∈ Region.ready .any ops.toArray listed :=
    mem_ready.2 ⟨by rw [both listed k hls hkl]; exact hku, ok, by simpa using hok, fun e he q => hkleast e.on (hb k ok e hok he q)⟩
   refine ⟨fun h0 => (by rw [h0] at hkready; cases hkready), fun i hi => ?_⟩
   have hin := hready i hi
   obtain ⟨hun, o, hoi, hall⟩ := mem_ready.1 hi
   have ho : ops[i]? = some o := by simpa using hoi
   have hilt : i < ops.length := by omega
   rw [both listed i hls hilt] at hun
   have hdN := hdsti i o hin ho
   have hset : (fun j => (listed.setIfInBounds i true).getD j false) = fun j => if j = i then true else listed.getD j false := by
    funext j
    by_cases e : j = i
    ·subst e; simp [hls, hilt]
    ·rw [if_neg e, getD_set_ne false (Ne.symm e)]
   have hnext : ∀ (v : Value) (w' : World), I (fun j => if j = i then true else listed.getD j false) (J7 g o.dst v) w' →
     wpAny P .any ops.toArray (Qdo N Q) (c + (ops.drop n0).length) (listed.setIfInBounds i true) (a.put o.dst v) w' := by
    intro v w' hIw'
    refine ih _ _ _ ?_ ⟨J7 g o.dst v, hg.put hdN v, by rw [hset]; exact hIw', by simpa using hls, ?_⟩
    ·have := QhT (p := fun j => !listed.getD j false) (q := fun j => !(listed.setIfInBounds i true).getD j false) (i := i) (by show (!listed.getD i false) = true; rw [hun]; rfl)
      (by simp [hls, hilt]) (fun j hj => by show (!listed.getD j false) = _; rw [getD_set_ne false (Ne.symm hj)]) n0 hin
     omega
    ·intro j hj hj'
     rw [getD_set_ne false (by omega)]
     exact hnot j hj hj'
   have hop := head i o _ g w hin ho hun (fun e he hbe => hall e he hbe) (fun e he q => hb i o e ho he q) hIw
   unfold wpOp
   simp only [hoi]
   rw [← QbU hg] at hop
   split
   ·rename_i hw
    rw [if_pos hw] at hop
    refine .inl (QdH ?_)
    rw [hg.eval]
    exact hop.mono fun v w' h => hnext v w' h
   ·rename_i hw
    rw [if_neg hw] at hop
    exact hnext undef w hop
 intro a ha
 have hcount : (List.range n0).countP (fun i => !(Array.replicate ops.toArray.size false).getD i false) = n0 := by
  rw [List.countP_eq_length.2]
  ·simp
  ·intro i hi
   have hi' : i < n0 := by simpa using hi
   simp [show i < ops.length by omega]
 have := headrun n0 (Array.replicate ops.toArray.size false) a w.drew hcount ⟨f, ha, by
  have e : (fun i => (Array.replicate ops.toArray.size false).getD i false) = fun _ => false := by
   funext i
   by_cases h : i < ops.length <;> simp [h]
  rw [e]; exact hI, by simp, fun i _ hi => by simp [hi]⟩
 have hlen : n0 + (ops.drop n0).length = ops.toArray.size := by simp; omega
 rw [hlen] at this
 exact this
variable {f : Fr} {w : World}
theorem QpW {n0 : Nat} {ops : List Oper} (p : DPlan) (hm : P.follows .mixedOrders = true) (hok : Qcu N n0 ops = true) (hp : QmV n0 ops p = true)
  (h : DL P ops (fun g w' => WL P N ops.toArray Q (ops.drop n0) g w') p f w.drew) : ∀ a, Fits N a f → wpAny P .any ops.toArray (Qdo N Q) ops.toArray.size (Array.replicate ops.toArray.size false) a w.drew := by
 have hok0 := hok
 simp only [Qcu, Bool.and_eq_true, decide_eq_true_eq, List.all_eq_true, Bool.or_eq_true] at hok
 obtain ⟨⟨⟨⟨⟨hn0, hwait⟩, hdst⟩, _⟩, hnodup⟩, hback⟩ := hok
 have hn0' : n0 ≤ ops.length := by simpa [Nat.ble_eq] using hn0
 have hI : QmX n0 ops := by
  refine ⟨fun i hi => ⟨ops[i]'(by omega), by simp [show i < ops.length by omega]⟩, fun i j oi oj d hi hj hoi hoj hdi hdj => ?_⟩
  exact QkU (f := fun o : Oper => o.dst) hnodup (by rw [List.getElem?_take, if_pos hi]; exact hoi) (by rw [List.getElem?_take, if_pos hj]; exact hoj) hdi hdj
 have hb : ∀ (i : Nat) (o : Oper), ops[i]? = some o → ∀ j ∈ Yq o, j < i := by
  intro i o ho j hj
  obtain ⟨e, he, hbi, rfl⟩ := Qf5.1 hj
  have hi : i < ops.length := (List.getElem?_eq_some_iff.1 ho).1
  have := hback i (by simpa using hi)
  simp only [ho] at this
  have := Array.all_eq_true'.1 this e he
  simpa [Nat.blt_eq, hbi] using this
 simp only [QmV, Bool.and_eq_true] at hp
 obtain ⟨⟨hT, _⟩, hpl⟩ := hp
 generalize QkX ops = T at hT hpl
 let K : Fr → World → Prop := fun g w' => WL P N ops.toArray Q (ops.drop n0) g w'
 let I : (Nat → Bool) → Fr → World → Prop := fun dn g w => ∃ p gk qd ed, Canon P n0 ops T K p gk w qd ed dn ∧ QmU p ∧ (∀ i, dn i = true → i < n0 ∧ (i ∈ qd ∨ i ∈ ed)) ∧ (∀ i ∈ ed, dn i = true) ∧ Agr n0 ops (fun i => dn i = true ∨ isQ n0 ops i = false) g gk ∧
  (∀ i o, dn i = true → ops[i]? = some o → ∀ j ∈ Yq o, dn j = true)
 refine QmH hm hok0 I ?_ ?_ ?_
 ·obtain ⟨p', gk', qd', hc, h1, _, h3⟩ := QaA (P := P) (K := K) (T := T) hI (w := w.drew) (ed := []) (dn := fun _ => false) p f [] ⟨hpl, h, by simp, by simp, by simp⟩
  exact ⟨p', gk', qd', [], hc, h1, by simp, by simp, ⟨h3.1, fun i d hi hS hd => h3.2 i d hi (hS.elim (fun h => by cases h) .inr) hd⟩, by simp⟩
 ·rintro i o dn g w hi ho hdn hdeps _ ⟨p, gk, qd, ed, hc, hnq, hd1, hd2, hagr, hdc⟩
  have hdepdn : ∀ j ∈ Yq o, dn j = true := by
   intro j hj
   obtain ⟨e, he, hbi, rfl⟩ := Qf5.1 hj
   exact hdeps e he hbi
  have hdepS : ∀ j ∈ Yq o, dn j = true ∨ isQ n0 ops j = false := fun j hj => .inl (hdepdn j hj)
  have hanc := Qjo hT hdc hb i o ho hdepdn
  have hnoted : i ∉ ed := fun hm => by have := hd2 i hm; rw [hdn] at this; cases this
  have heff : ∀ j, isQ n0 ops j = false → dn j = true → j ∈ ed := by
   intro j hj hjd
   rcases (hd1 j hjd).2 with hm | hm
   ·have h5 := (hc.nq j hm).2.1
    rw [hj] at h5; cases h5
   ·exact hm
  have hdc' : ∀ k ok, (if k = i then true else dn k) = true → ops[k]? = some ok → ∀ j ∈ Yq ok, (if j = i then true else dn j) = true := by
   intro k ok hk hok j hj
   by_cases e : k = i
   ·subst e
    rw [ho] at hok; cases hok
    have := hdepdn j hj
    split <;> first | rfl | exact this
   ·rw [if_neg e] at hk
    have := hdc k ok hk hok j hj
    split <;> first | rfl | exact this
  have hnode := Qe8 p hnq hc.ok hc.dl
  have hstage : ∀ l, QdB n0 ops T l qd ed = true → i ∈ qd ∨ i ∈ l := by
   intro l hst
   simp only [QdB, List.all_eq_true, List.mem_range, Bool.or_eq_true, List.any_eq_true, Bool.and_eq_true] at hst
   rcases hst i hi with ((h | h) | h) | ⟨j, hj, ⟨he, _⟩, hn⟩
   ·exact .inl (by simpa using h)
   ·exact (hnoted (by simpa using h)).elim
   ·exact .inr (by simpa using h)
   ·have := heff j (by simpa using he) (hanc j hj)
    simp [this] at hn
  have hdoneq : Kd n0 ops T .done none qd ed = true → i ∈ qd := by
   intro hok
   simp only [Kd, Bool.and_eq_true, List.all_eq_true, List.mem_range, Bool.or_eq_true] at hok
   rcases hok.2 i hi with h | h
   ·simpa using h
   ·exact (hnoted (by simpa using h)).elim
  cases hq : isQ n0 ops i with
  | true =>
   have hiq : i ∈ qd := by
    rcases hnode with e | ⟨hst, _, hsp⟩
    ·subst e; exact hdoneq hc.ok
    ·rcases hstage _ hst with h | h
     ·exact h
     ·obtain ⟨ag, r, hok, _⟩ := hsp i h
      simp [Kd, ho, hq] at hok
   obtain ⟨_, _, o', ho', _, hopn, _⟩ := hc.nq i hiq
   rw [ho] at ho'; cases ho'
   have hag := hc.ag i hiq hdn o ho
   obtain ⟨d, hd⟩ := Qe5 hq ho
   rw [← QaO hopn hdepS hagr] at hag
   have key : ∀ v, v = gk (QbT ops i) → I (fun j => if j = i then true else dn j) (J7 g o.dst v) w := by
    rintro v rfl
    refine ⟨p, gk, qd, ed, ⟨hc.ok, hc.dl, hc.nq, hc.ne, fun j hj hdj => hc.ag j hj ?_⟩, hnq, ?_, ?_, ⟨?_, ?_⟩, hdc'⟩
    ·by_cases e : j = i
     ·simp only [if_pos e] at hdj; cases hdj
     ·simp only [if_neg e] at hdj; exact hdj
    ·intro j hj
     by_cases e : j = i
     ·rw [e]; exact ⟨hi, .inl hiq⟩
     ·simp only [if_neg e] at hj; exact hd1 j hj
    ·intro j hj
     by_cases e : j = i
     ·simp only [if_pos e]
     ·simp only [if_neg e]; exact hd2 j hj
    ·intro n hn
     have hne : n ≠ d := by rintro rfl; have := hn i hi; rw [Qem ho hd] at this; cases this
     rw [hd]; simp only [J7, Qd7 _ _ hne]
     exact hagr.1 n hn
    ·intro j dj hj hjd hdj
     by_cases e : dj = d
     ·subst e
      rw [hd, Qf6 ho hd]; simp only [J7, Qf1]
     ·have hji : j ≠ i := by
       rintro rfl
       obtain ⟨oj, hoj, hdj'⟩ := Qd1 hdj
       rw [ho] at hoj; cases hoj; rw [hd] at hdj'; cases hdj'; exact e rfl
      have hjd' : dn j = true ∨ isQ n0 ops j = false := by simp only [if_neg hji] at hjd; exact hjd
      rw [hd]; simp only [J7, Qd7 _ _ e]
      exact hagr.2 j dj hj hjd' hdj
   split
   ·rename_i hw
    rw [if_pos hw] at hag
    refine (QcF (Qdt hopn hdepS (fun _ _ _ hk _ _ => .inr hk) hagr).symm hag).mono ?_
    rintro v w' ⟨rfl, hv⟩
    exact key v hv
   ·rename_i hw
    rw [if_neg hw] at hag
    exact key undef hag.symm
  | false =>
   have hniq : i ∉ qd := fun hm => by have := (hc.nq i hm).2.1; rw [hq] at this; cases this
   obtain ⟨l, ag, r, hok, hdl⟩ : ∃ l ag r, Kd n0 ops T (.e i ag r) (some l) qd ed = true ∧ DL P ops K (.e i ag r) gk w := by
    rcases hnode with e | ⟨hst, _, hsp⟩
    ·subst e; exact (hniq (hdoneq hc.ok)).elim
    ·rcases hstage _ hst with h | h
     ·exact (hniq h).elim
     ·obtain ⟨ag, r, h1, h2⟩ := hsp i h; exact ⟨_, ag, r, h1, h2⟩
   simp only [Kd, Bool.and_eq_true] at hok
   obtain ⟨⟨⟨⟨_, hb'⟩, _⟩, hagq⟩, hrest⟩ := hok
   obtain ⟨o', ho', hdl⟩ := hdl
   rw [ho] at ho'; cases ho'
   simp only [ho, Bool.and_eq_true] at hb'
   obtain ⟨⟨⟨_, _⟩, hdep⟩, hopn⟩ := hb'
   rw [← QaO hopn hdepS hagr] at hdl
   have key : ∀ v w', (∀ j ∈ qd, (if j = i then true else dn j) = false → QX P ops (J7 gk o.dst v) w' j) → DL P ops K r (J7 gk o.dst v) w' → I (fun j => if j = i then true else dn j) (J7 g o.dst v) w' := by
    intro v w' hag hdl
    have hc1 : Canon P n0 ops T K r (J7 gk o.dst v) w' qd (i :: ed) (fun j => if j = i then true else dn j) := by
     refine ⟨hrest, hdl, ?_, ?_, hag⟩
     ·intro j hj
      obtain ⟨hj0, hjq, oj, hoj, hqj, hopj, hdj⟩ := hc.nq j hj
      exact ⟨hj0, hjq, oj, hoj, hqj, hopj, fun k hk => (hdj k hk).imp (fun h => h) (List.mem_cons_of_mem _)⟩
     ·intro j hj
      rcases List.mem_cons.1 hj with e | hj
      ·rw [e]; exact ⟨hi, hq⟩
      ·exact hc.ne j hj
    obtain ⟨p', gk', qd', hc', h1, h2, h3⟩ := QaA hI r (J7 gk o.dst v) qd hc1
    refine ⟨p', gk', qd', i :: ed, hc', h1, ?_, ?_, ?_, hdc'⟩
    ·intro j hj
     by_cases e : j = i
     ·rw [e]; exact ⟨hi, .inr (by simp)⟩
     ·simp only [if_neg e] at hj
      exact ⟨(hd1 j hj).1, (hd1 j hj).2.imp (h2 j) (List.mem_cons_of_mem _)⟩
    ·intro j hj
     by_cases e : j = i
     ·simp only [if_pos e]
     ·simp only [if_neg e]
      exact hd2 j ((List.mem_cons.1 hj).resolve_left e)
    ·refine Agr.trans (S := fun j => (if j = i then true else dn j) = true ∨ isQ n0 ops j = false) (S' := fun j => (j ∈ qd ∨ j ∈ i :: ed) ∨ isQ n0 ops j = false) (g' := J7 gk o.dst v) (Qkz hI hi ho hagr fun j hj hne => by simp only [if_neg hne] at hj; exact hj) h3 ?_
     ·intro j hj
      by_cases e : j = i
      ·rw [e]; exact .inl (.inr (by simp))
      ·simp only [if_neg e] at hj
       exact hj.imp (fun h => (hd1 j h).2.imp (fun h => h) (List.mem_cons_of_mem _)) (fun h => h)
   split
   ·rename_i hw
    rw [if_pos hw] at hdl
    refine (QcF (Qdt hopn hdepS (fun _ _ _ hk _ _ => .inr hk) hagr).symm hdl).mono ?_
    rintro v w' ⟨hagv, hdlv⟩
    refine key v w' ?_ hdlv
    intro j hj hjd
    have hjd' : dn j = false := by
     split at hjd
     ·cases hjd
     ·exact hjd
    have := List.all_eq_true.1 hagq j hj
    simp only [Bool.or_eq_true, List.any_eq_true] at this
    rcases this with (h | h) | ⟨k, hk, h⟩
    ·exact hagv j (by simpa using h)
    ·have := hanc j (by simpa using h); rw [hjd'] at this; cases this
    ·obtain ⟨hk0, _⟩ := hc.ne k hk
     obtain ⟨ok, hok⟩ := hI.1 k hk0
     have := Qjo hT hdc hb k ok hok (hdc k ok (hd2 k hk) hok) j (by simpa using h)
     rw [hjd'] at this; cases this
   ·rename_i hw
    rw [if_neg hw] at hdl
    refine key undef w ?_ hdl
    intro j hj hjd
    have hjd' : dn j = false := by
     split at hjd
     ·cases hjd
     ·exact hjd
    obtain ⟨hj0, hjq, oj, hoj, hqj, hopj, hdj⟩ := hc.nq j hj
    have hne : ∀ k, k ∈ qd ∨ k ∈ ed → k ≠ i := by
     rintro k (h | h) rfl
     ·exact hniq h
     ·exact hnoted h
    refine Qgq (S := fun k => ((k ∈ qd ∨ k ∈ ed) ∨ isQ n0 ops k = false) ∧ k ≠ i) hj0 hoj hopj (fun k hk => ⟨.inl (hdj k hk), hne k (hdj k hk)⟩) ?_ ⟨.inl (.inl hj), hne j (.inl hj)⟩ (Qe5 hjq hoj) (QgZ hI hi ho (fun hm => hm.2 Z)) (hc.ag j hj hjd')
    intro k ok _ hkq hok hjk
    refine ⟨.inr hkq, ?_⟩
    rintro rfl
    rw [ho] at hok; cases hok
    have := hdepdn j hjk
    rw [hjd'] at this; cases this
 ·rintro dn g w hall ⟨p, gk, qd, ed, hc, hnq, hd1, hd2, hagr, hdc⟩
  have hg : g = gk := by
   funext n
   by_cases hn : ∀ k, k < n0 → Qa6 ops k n = false
   ·exact hagr.1 n hn
   ·obtain ⟨k, hk, hd'⟩ : ∃ k, k < n0 ∧ Qa6 ops k n = true := by
     refine Classical.byContradiction fun hc => hn fun k hk => ?_
     cases hd : Qa6 ops k n with
     | false => rfl
     | true => exact absurd ⟨k, hk, hd⟩ hc
    exact hagr.2 k n hk (.inl (hall k hk)) hd'
  subst hg
  rcases Qe8 p hnq hc.ok hc.dl with e | ⟨_, hne, hsp⟩
  ·subst e; exact hc.dl
  ·obtain ⟨i', hi'⟩ := List.exists_mem_of_ne_nil _ hne
   obtain ⟨ag, r, hok, _⟩ := hsp i' hi'
   simp only [Kd, Bool.and_eq_true] at hok
   obtain ⟨⟨⟨⟨hi', hb'⟩, _⟩, _⟩, _⟩ := hok
   have hi'' : i' < n0 := by simpa [Nat.blt_eq] using hi'
   have hdn := hall i' hi''
   obtain ⟨o', ho'⟩ := hI.1 i' hi''
   simp only [ho', Bool.and_eq_true, Bool.not_eq_true'] at hb'
   rcases (hd1 i' hdn).2 with hm | hm
   ·have := (hc.nq i' hm).2.1
    rw [hb'.1.1.1] at this; cases this
   ·have := hb'.1.1.2
    simp [hm] at this
end
def Qc9 (o : Oper) : Bool := match o.op with
 | .move _ | .assign _ | .load _ _ | .store _ _ _ | .fieldAddr _ _ _ | .indexAddr _ _ _ | .binOp _ _ _ _ _ => true
 | _ => false
section
variable {F : Fence} {n : Nat} {P : Program} {Q : Exit → Act → World → Prop} {K : Act → World → Prop} {a : Act} {w : World}
theorem Qkx {ρ : Operand → Value} {o : Oper} {w w' : World} {nx : Next} (hq : Qc9 o = true) (h : (execOp ρ o).run P w = .ok nx w') : QjX nx ∨ nx = .skip := by
 obtain ⟨dst, op, type, pos, after, guard⟩ := o
 cases op <;> simp only [Qc9] at hq <;> first | (cases hq; done) | skip
 case store T x y =>
  simp only [execOp, Sem.run_bind] at h
  cases hs : (Instr.storeAt T (ρ x) (ρ y)).run P w with
  | ok b w1 => rw [hs] at h; simp only [Result.andThen_ok, Sem.run_pure, Result.ok.injEq] at h; exact .inr h.1.symm
  | halt x w1 => rw [hs] at h; simp [Result.andThen] at h
 all_goals exact .inl (QiK (by rfl) h)
theorem QoW {o : Oper} (hc : Qc9 o = true) (h : o.wp P a w K Q) : o.wpIn F n P a w K Q := by
 refine ⟨fun f hf => ?_, ?_⟩
 ·obtain ⟨dst, op, type, pos, after, guard⟩ := o
  cases op <;> simp only [Qc9] at hc <;> first | (cases hc; done) | skip
  all_goals simp [Oper.about] at hf
 ·rw [Oper.semAt_eq _ _ _ (by
   intro c hcd
   simp only [Qc9, hcd] at hc
   cases hc)]
  unfold Oper.wp at h
  cases hr : (execOp a.eval o).run P w with
  | ok nx w' =>
   rw [hr] at h
   rcases Qkx hc hr with hv | rfl
   ·cases nx with
    | value v => exact h
    | _ => exact hv.elim
   ·exact h
  | halt x w' =>
   rw [hr] at h
   cases x with
   | panic v => exact h
   | _ => exact h.elim
theorem QhV {o : Oper} (hc : Qc9 o = true) {ρ : Operand → Value} : o.about P w ρ = none := by
 obtain ⟨dst, op, type, pos, after, guard⟩ := o
 cases op <;> simp only [Qc9] at hc <;> first | (cases hc; done) | skip
 all_goals simp [Oper.about]
theorem QpV {ops : Array Oper} (hc : ∀ (i : Nat) (o : Oper), ops[i]? = some o → Qc9 o = true) (hL : ¬ LetsOut Q) : ∀ (fuel : Nat) (listed : Array Bool) (a : Act) (w : World), wpAny P .any ops Q fuel listed a w → wpAnyIn F n P .any ops Q fuel listed a w := by
 intro fuel
 induction fuel with
 | zero => exact fun _ _ _ h => h
 | succ fuel ih =>
  intro listed a w h
  refine ⟨h.1, fun i hi => ?_⟩
  have h2 := h.2 i hi
  unfold wpOp at h2
  unfold wpOpIn
  cases ho : ops[i]? with
  | none => rw [ho] at h2; exact ih _ _ _ h2
  | some o =>
   rw [ho] at h2
   simp only at h2 ⊢
   have hco := hc i o ho
   split
   ·rename_i hw
    rw [if_pos hw] at h2
    rcases h2 with h2 | ⟨_, h2⟩
    ·exact Oper.wpIn_mono (fun a w => ih _ a w) (QoW hco h2)
    ·exact absurd h2 hL
   ·rename_i hw
    rw [if_neg hw] at h2
    exact ⟨fun f hf => absurd hf (by rw [QhV hco]; simp), ih _ _ _ h2⟩
end
section
variable {F : Fence} {n : Nat} {P : Program} {N : Nat} {a : Act} {f : Fr} {w : World}
theorem QlA {id n0 : Nat} {ops : List Oper} {Q : QbR} {Q' : Exit → Act → World → Prop} (p : DPlan) (hm : P.follows .mixedOrders = true) (hok : Qcu N n0 ops = true) (hp : QmV n0 ops p = true) (hc : ops.all Qc9 = true) (ha : Fits N a f)
  (hQ : ∀ e a' w', Qdo N Q e a' w' → Q' e a' w') (hL : ¬ LetsOut (Qdo N Q)) (h : DL P ops (fun g w' => WL P N ops.toArray Q (ops.drop n0) g w') p f w.drew) : (Code.region id ops.toArray true).wpIn F n P Q' a w :=
 wpIn_mono (wpIn_region_any hm (QpV (fun i o ho => List.all_eq_true.1 hc o (List.mem_of_getElem? (by simpa using ho))) hL _ _ _ _ (QpW p hm hok hp h a ha))) hQ
end
end Go.Pw
/- -/
set_option linter.unusedSectionVars false
namespace Go.Pw
open Go.Proofs Go.Shelf Go.RowKit Go.Lib Go.Sort
section
variable {α : Type} [Inhabited α] {E : Enc α} {enc : α → List Value} {k : Nat}
theorem Qe6 {s : PHeap} (hrep : ∀ s cs x, E.rep s cs x ↔ cs = enc x) : ∀ xs : List α, reps E s (xs.map enc).flatten xs
 | [] => rfl
 | x :: xs => ⟨enc x, _, by simp, (hrep _ _ _).2 rfl, Qe6 hrep xs⟩
theorem Qfx {s : PHeap} (hrep : ∀ s cs x, E.rep s cs x ↔ cs = enc x) : ∀ {xs : List α} {cells : List Value}, reps E s cells xs → cells = (xs.map enc).flatten
 | [], _, h => h
 | x :: xs, _, ⟨c, r, e, h1, h2⟩ => by rw [e, (hrep _ _ _).1 h1, Qfx hrep h2]; simp
theorem Qh0 (hk : ∀ x, (enc x).length = k) : ∀ xs : List α, (xs.map enc).flatten.length = xs.length * k
 | [] => by simp
 | x :: xs => by simp only [List.map_cons, List.flatten_cons, List.length_append, hk, Qh0 hk xs, List.length_cons, Nat.add_mul]; omega
theorem Qh1 (hk : ∀ x, (enc x).length = k) : ∀ (xs : List α) (t : Nat), t < xs.length * k → ((xs.map enc).flatten)[t]? = some ((enc (xs[t / k]!))[t % k]!)
 | [], t, h => by simp at h
 | x :: xs, t, h => by
  have hk0 : 0 < k := Nat.pos_of_ne_zero (by rintro rfl; simp at h)
  rw [List.map_cons, List.flatten_cons]
  by_cases hlt : t < k
  ·rw [List.getElem?_append_left (by rw [hk]; exact hlt), Nat.div_eq_of_lt hlt, Nat.mod_eq_of_lt hlt]
   have : t < (enc x).length := by rw [hk]; exact hlt
   simp [this]
  ·have hge : k ≤ t := by omega
   rw [List.getElem?_append_right (by rw [hk]; exact hge), hk, Qh1 hk xs (t - k) (by rw [List.length_cons, Nat.add_mul] at h; omega)]
   have e1 : t / k = (t - k) / k + 1 := by rw [← Nat.sub_add_cancel hge, Nat.add_div_right _ hk0, Nat.add_sub_cancel]
   have e2 : t % k = (t - k) % k := by rw [Nat.mod_eq_sub_mod hge]
   rw [e1, e2]
   simp
end
theorem Qlj {W w' : World} {s' : PHeap} (hle : PHeap.le (σH W) s') (hS : St W s' [] w') : ∃ q os', w' = grow (W.drewN q) os' := by
 refine ⟨w'.drawn - W.drawn, w'.heap.extract W.heap.size w'.heap.size, ?_⟩
 have hh : w'.heap = W.heap ++ w'.heap.extract W.heap.size w'.heap.size := by
  apply Array.ext_getElem?
  intro b
  have hsz := hS.size
  by_cases hb : b < W.heap.size
  ·rw [Array.getElem?_append_left hb]
   obtain ⟨o, ho⟩ : ∃ o, W.heap[b]? = some o := ⟨W.heap[b], by simp [hb]⟩
   rw [ho]
   exact hS.stay b o (hle b o ho)
  ·rw [Array.getElem?_append_right (by omega)]
   by_cases hb2 : b < w'.heap.size
   ·rw [Array.getElem?_extract]
    rw [if_pos (by omega)]
    congr 1
    omega
   ·rw [Array.getElem?_eq_none (by omega), Array.getElem?_eq_none (by simp; omega)]
 obtain ⟨h1, h2, h3, h4, h5⟩ := w'
 have e1 := hS.os
 have e2 := hS.tape
 have e3 := hS.output
 have e4 := hS.drawn
 simp only at e1 e2 e3 e4 hh
 unfold grow World.drewN
 simp only [World.mk.injEq]
 exact ⟨hh, e2, by omega, e1, e3⟩
section
variable {P : Program} {ρ : Ren} {α : Type} [Inhabited α] {E : Enc α} {enc : α → List Value} {k : Nat} {w w0 : World} {s : PHeap} {H : List Res} {Te : TypeId} {v : Value} {xs : List α}
theorem Qhr (L : SlLaysF0.n6 P ρ) (aE : ∀ w, (isAgg (ρ.t 24)).run P w = .ok true w) (zE : ∀ w, (Go.sizeOf (ρ.t 24)).run P w = .ok k w) (_hk0 : 0 < k) (hk : ∀ x, (enc x).length = k) (h1 : ∀ x, ∀ v ∈ enc x, v.oneCell' = true) (hrep : ∀ s cs x, E.rep s cs x ↔ cs = enc x) (hE : E.sz = k)
  (cf : α → α → Int) (hO : SWO (ltOf cf)) (g : Nat) (eg : ∀ args w, (callFunc g args).run P w = .ok (.enter g args) w)
  (hcmp : ∀ (W : World) (x y : α), Calls P g #[.agg (enc x).toArray, .agg (enc y).toArray] W fun e w' => ∃ v, e = .returned v ∧ ∃ s', PHeap.le (σH W) s' ∧ St W s' [] w' ∧ v = .int .i64 (cf x y))
  (hT : ∀ x y, (ltOf cf) x y = false → (ltOf cf) y x = false → x = y) (hlen : xs.length < 4611686018427387904) (hS : St w0 s (.arr E Te v xs :: H) w) :
  Calls P (ρ.f 6) #[v, .func (.func g) #[] #[]] w fun e w' => e = .returned (.tuple #[]) ∧ St w0 s (.arr E Te v (xs.mergeSort fun x y => !(ltOf cf) y x) :: H) w' := by
 have hS0 := hS
 obtain ⟨bs, hn, hs, b1, b2, e, ⟨cells, h2, h3, rfl⟩, h4⟩ := hS.own
 rcases h3.2 with ⟨rfl, hx⟩ | ⟨gb, cap, cur, rfl, _, hg, hnc, hcm, hcs, htake⟩
 ·have hx0 : xs = [] := List.eq_nil_of_length_eq_zero hx
  subst hx0
  refine (AnyF.slices_SortFunc_none L none 0 _ w).mono ?_
  rintro e w' ⟨rfl, rfl⟩
  exact ⟨Z, by simpa using hS0⟩
 ·have hcells := Qfx hrep h2
  have hsz : cur.size = cap * k := by rw [hcs, hE]
  have hle : xs.length * k ≤ cur.size := by rw [hsz]; exact Nat.mul_le_mul_right _ hnc
  have hblk : gb < w.heap.size := (Array.getElem?_eq_some_iff.1 hg).1
  have hH : HoldsK enc k w gb 0 xs.toArray := by
   intro j hj
   have hj' : j < xs.length * k := by simpa using hj
   refine ⟨?_, by simp [World.frozen?, hg]⟩
   rw [hE] at htake
   have h5 : (cur.toList.take (xs.length * k))[j]? = cells[j]? := by rw [htake]
   rw [List.getElem?_take_of_lt hj', hcells, Qh1 hk xs j hj'] at h5
   simp only [World.cell?, hg, Nat.zero_add, Option.isSome_none, Bool.false_eq_true, if_false]
   rw [← Array.getElem?_toList, h5, get_flatK enc k xs.toArray j (by simpa using hj')]
   simp
  have hlays : CmpLays P g #[] enc k cf gb 0 xs.toArray.size w := by
   intro m os dk _ x y
   refine (hcmp _ x y).mono ?_
   rintro e w' ⟨v, rfl, s', hle, hSt, rfl⟩
   exact ⟨Z, Qlj hle hSt⟩
  have hcon := AnyQ.slices_SortFunc_total L k aE zE enc hk h1 cf hO g #[] gb 0 cap xs.toArray w eg hlays hH hblk (by simpa using hlen) hT
  have harg : xs.toArray.size = xs.length := by simp
  rw [harg] at hcon
  refine hcon.mono ?_
  rintro e w' ⟨rfl, n, os, hw⟩
  refine ⟨Z, ?_⟩
  generalize hys : (xs.toArray.toList.mergeSort fun x y => !(ltOf cf) y x) = ys at hw
  have hys' : (xs.mergeSort fun x y => !(ltOf cf) y x) = ys := by simpa using hys
  have hyl : ys.length = xs.length := by rw [← hys', List.length_mergeSort]
  have hheap : w'.heap[gb]? = some (.cells (putCells id 0 (flatK enc k ys.toArray) cur) Te (0, 0)) := by
   rw [hw]
   unfold sortWorldK putRowK
   rw [heap_grow_old _ _ (by simpa using hblk)]
   simp [putRow, mapBlock, Sort.ahead, Array.getElem?_modify, hg, onCells]
  have hother : ∀ b, b < w.heap.size → b ≠ gb → w'.heap[b]? = w.heap[b]? := by
   intro b hb hne
   rw [hw]
   unfold sortWorldK putRowK
   rw [heap_grow_old _ _ (by simpa using hb)]
   simp [putRow, mapBlock, Sort.ahead, Array.getElem?_modify, Ne.symm hne]
  have hsize : w.heap.size ≤ w'.heap.size := by rw [hw]; unfold sortWorldK putRowK grow; simp [Sort.ahead]
  refine hS0.turn (by rw [hw]; rfl) (by rw [hw]; rfl) (by rw [hw]; rfl) (by rw [hw]; unfold sortWorldK putRowK grow; simp [Sort.ahead, putRow, mapBlock]) hsize ?_
  rintro c1 ⟨_, _, _, rfl⟩
  refine ⟨[gb], ⟨(ys.map enc).flatten, Qe6 hrep ys, ⟨by rw [hE]; exact Qh0 hk ys, .inr ⟨gb, cap, putCells id 0 (flatK enc k ys.toArray) cur, by rw [hyl], Nat.zero_le _, hheap, by rw [hyl]; exact hnc, hcm, by simp [putCells, hcs], ?_⟩⟩, by simp [Value.ownBlock]⟩, by simp, fun x hx => .inl (by simpa [Value.ownBlock] using hx), fun x hx hne => hother x hx (by simpa [Value.ownBlock] using hne)⟩
  rw [hE]
  apply List.ext_getElem?
  intro j
  by_cases hj : j < ys.length * k
  ·rw [List.getElem?_take_of_lt hj, Array.getElem?_toList, Qh1 hk ys j hj]
   have hj2 : j < cur.size := by rw [hyl] at hj; omega
   simp only [putCells, Array.getElem?_mapIdx, Nat.zero_le, Nat.zero_add, size_flatK, List.size_toArray, true_and]
   simp only [hj2, Array.getElem?_eq_getElem, Option.map_some, hj, if_true, Nat.sub_zero, id]
   rw [get_flatK enc k ys.toArray j (by simpa using hj)]
   simp
  ·rw [List.getElem?_take_eq_none (by omega), List.getElem?_eq_none (by rw [Qh0 hk]; omega)]
end
end Go.Pw
/- -/
namespace Go.Pw
open Go.Proofs Go.RowKit Go.Shelf
theorem QcD {s t : PHeap} {w : World} {T : TypeId} {v : Value} {xs : List Int} {bs : List Nat} (h : (Res.arr (U .i64) T v xs).p s w bs) : (Res.arr (U .i64) T v xs).p t w bs := by
 obtain ⟨cells, h1, h2, h3⟩ := h
 have hrep : ∀ (s : PHeap) (cs : List Value) (x : Int), (U .i64).rep s cs x ↔ cs = [Value.int .i64 x] := fun s cs x => Iff.rfl
 exact ⟨cells, by rw [Qfx (enc := fun x => [Value.int .i64 x]) hrep h1]; exact Qe6 (enc := fun x => [Value.int .i64 x]) hrep xs, h2, h3⟩
structure PutW (w : World) (gb : Nat) (c4 : List Value) (v vs : Value) (xs : List Int) (m : Int) (W : World) : Prop where
 os : W.os = w.os
 tape : W.tape = w.tape
 output : W.output = w.output
 drawn : w.drawn ≤ W.drawn
 size : w.heap.size + 4 ≤ W.heap.size
 b4 : W.heap[w.heap.size]? = some (.cells c4.toArray 26 (0, 0))
 b6 : W.heap[w.heap.size + 1]? = some (.cells #[v] 22 (0, 0))
 b7 : W.heap[w.heap.size + 1 + 1]? = some (.cells #[.int .i64 m] 3 (0, 0))
 b11 : W.heap[w.heap.size + 1 + 1 + 1]? = some (.cells #[vs] 22 (0, 0))
 row : (Res.arr (U .i64) 3 v xs).p (fun _ => none) W [gb]
 old : ∀ b, b < w.heap.size → b ≠ gb → W.heap[b]? = w.heap[b]?
 lt : gb < w.heap.size
def Qhc (w : World) (gb : Nat) (W : World) : PHeap := fun b => if b = w.heap.size + 1 + 1 ∨ b = w.heap.size + 1 ∨ b = w.heap.size ∨ b = gb then none else W.heap[b]?
theorem PutW.st {w W : World} {gb : Nat} {c4 : List Value} {v vs : Value} {xs : List Int} {m : Int} (h : PutW w gb c4 v vs xs m W) :
  St W (Qhc w gb W) [Res.box (w.heap.size + 1 + 1) 3 [.int .i64 m], Res.box (w.heap.size + 1) 22 [v], Res.box w.heap.size 26 c4, Res.arr (U .i64) 3 v xs] W := by
 have hlt := h.lt
 refine ⟨Z, Z, Z, Nat.le_refl _, Nat.le_refl _, fun b o hb => ?_, [w.heap.size + 1 + 1, w.heap.size + 1, w.heap.size, gb], ?_, ?_, [w.heap.size + 1 + 1], [w.heap.size + 1, w.heap.size, gb], Z, ⟨Z, h.b7⟩, [w.heap.size + 1], [w.heap.size, gb], Z, ⟨Z, h.b6⟩, [w.heap.size], [gb], Z, ⟨Z, h.b4⟩, [gb], [], Z, QcD h.row, Z⟩
 ·unfold Qhc at hb
  split at hb
  ·cases hb
  ·exact hb
 ·simp; omega
 ·intro b hb
  unfold Qhc
  simp only [List.mem_cons, List.not_mem_nil, or_false] at hb
  rw [if_pos hb]
theorem PutW.stays {w0 w W : World} {s : PHeap} {gb : Nat} {c4 : List Value} {v vs : Value} {xs : List Int} {m : Int} (h : PutW w gb c4 v vs xs m W) (hs : ∀ b o, s b = some o → w.heap[b]? = some o) (hg : s gb = none) : PHeap.le s (Qhc w gb W) := by
 intro b o hb
 have h1 := hs b o hb
 have hlt := (Array.getElem?_eq_some_iff.1 h1).1
 have hne : b ≠ gb := by rintro rfl; rw [hg] at hb; cases hb
 unfold Qhc
 rw [if_neg (by omega), h.old b hlt hne, h1]
theorem PutW.back {w W W2 : World} {gb bv : Nat} {c4 : List Value} {v vs : Value} {xs ys : List Int} {m k : Int} {t : PHeap} (h : PutW w gb c4 v vs xs m W) (hle : PHeap.le (Qhc w gb W) t) (hgv : bv < w.heap.size) (hne : bv ≠ gb)
  (hS : St W t [Res.box (w.heap.size + 1 + 1) 3 [.int .i64 k], Res.box (w.heap.size + 1) 22 [v], Res.box w.heap.size 26 c4, Res.arr (U .i64) 3 v ys] W2) :
  PutW w gb c4 v vs ys k W2 ∧ KeepsFrom (w.heap.size + 1 + 1 + 1 + 1) W W2 ∧ KeepT bv (w.heap.size + 1 + 1 + 1) W W2 := by
 have hlt := h.lt
 have hsz := h.size
 have hkeep : ∀ b o, b ≠ w.heap.size + 1 + 1 → b ≠ w.heap.size + 1 → b ≠ w.heap.size → b ≠ gb → W.heap[b]? = some o → W2.heap[b]? = some o := by
  intro b o h1 h2 h3 h4 hb
  refine hS.stay b o (hle b o ?_)
  unfold Qhc
  rw [if_neg (by simp [h1, h2, h3, h4])]
  exact hb
 have hsome : ∀ b, b < W.heap.size → ∃ o, W.heap[b]? = some o := fun b hb => ⟨W.heap[b], by simp [hb]⟩
 have hS' := hS
 obtain ⟨bs, hn, hs, b1, b2, e1, ⟨rfl, h7⟩, b3, b4, rfl, ⟨rfl, h6⟩, b5, b6, rfl, ⟨rfl, h4⟩, b8, b9, rfl, hrow, rfl⟩ := hS'.own
 have hb8 : b8 = [gb] := by
  obtain ⟨_, _, _, rfl⟩ := hrow
  obtain ⟨_, _, _, e⟩ := h.row
  exact e.symm
 subst hb8
 refine ⟨⟨hS.os.trans h.os, hS.tape.trans h.tape, hS.output.trans h.output, Nat.le_trans h.drawn hS.drawn, Nat.le_trans h.size hS.size, h4, h6, h7, hkeep _ _ (by omega) (by omega) (by omega) (by omega) h.b11, QcD hrow, fun b hb hne => ?_, hlt⟩, ⟨hS.size, fun k o hk ho hc => hkeep k o (by omega) (by omega) (by omega) (by omega) ho⟩, fun x hx ⟨o, ho, _⟩ => ?_⟩
 ·obtain ⟨o, ho⟩ := hsome b (by omega)
  rw [hkeep b o (by omega) (by omega) (by omega) hne ho, ← ho, h.old b hb hne]
 ·rw [ho]
  rcases hx with rfl | rfl
  ·exact hkeep _ _ (by omega) (by omega) (by omega) hne ho
  ·exact hkeep _ _ (by omega) (by omega) (by omega) (by omega) ho
theorem PutW.alloc {w W : World} {gb : Nat} {c4 : List Value} {v vs : Value} {xs : List Int} {m : Int} (h : PutW w gb c4 v vs xs m W) (o : Obj) : PutW w gb c4 v vs xs m (W.alloc o) := by
 have hk : ∀ b, b < W.heap.size → (W.alloc o).heap[b]? = W.heap[b]? := fun b hb => Ks W o hb
 have hsz := h.size
 have hlt := h.lt
 refine ⟨h.os, h.tape, h.output, h.drawn, Nat.le_trans hsz (by simp), (hk _ (by omega)).trans h.b4, (hk _ (by omega)).trans h.b6, (hk _ (by omega)).trans h.b7, (hk _ (by omega)).trans h.b11, (Res.arr _ _ _ _).loc h.row fun b hb => ?_, fun b hb hne => (hk b (by omega)).trans (h.old b hb hne), hlt⟩
 simp only [List.mem_singleton] at hb
 subst hb
 exact hk _ (by omega)
theorem PutW.putObj {w W : World} {gb : Nat} {c4 : List Value} {v vs : Value} {xs : List Int} {m : Int} (h : PutW w gb c4 v vs xs m W) {l : Nat} (o : Obj) (hl : w.heap.size + 4 ≤ l) : PutW w gb c4 v vs xs m (W.putObj l o) := by
 have hk : ∀ b, b < w.heap.size + 4 → (W.putObj l o).heap[b]? = W.heap[b]? := fun b hb => World.putObj_heap_other (by omega)
 have hsz := h.size
 have hlt := h.lt
 refine ⟨h.os, h.tape, h.output, h.drawn, Nat.le_trans hsz (by simp [World.putObj]), (hk _ (by omega)).trans h.b4, (hk _ (by omega)).trans h.b6, (hk _ (by omega)).trans h.b7, (hk _ (by omega)).trans h.b11, (Res.arr _ _ _ _).loc h.row fun b hb => ?_, fun b hb hne => (hk b (by omega)).trans (h.old b hb hne), hlt⟩
 simp only [List.mem_singleton] at hb
 subst hb
 exact hk _ (by omega)
end Go.Pw
