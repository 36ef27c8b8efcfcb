/- -/
import Derived.Test.YtpjojkomdndamaaGreatDoorL10
import Derived.OrdersIn
set_option linter.unusedSimpArgs false
set_option linter.unusedVariables false
namespace Go.Pw
section
variable {P : Program} {N : Nat} {Q : QbC}
theorem QkQ {n0 : Nat} {ops : List Oper} {f : Fr} {w : World} (hm : P.follows .mixedOrders = true) (hok : Qb5 N n0 ops = true)
  (I : (Nat → Bool) → Fr → World → Prop) (hI : I (fun _ => false) f w.drew)
  (head : ∀ (i : Nat) (o : Oper) (dn : Nat → Bool) (g : Fr) (w : World), i < n0 → ops[i]? = some o → dn i = false → (∀ e ∈ o.after, Region.binds .any e = true → dn e.on = true) →
   (∀ e ∈ o.after, Region.binds .any e = true → e.on < i) → I dn g w →
   (if Region.wanted o (JA ops.toArray g) then Exec P (ev g) o w fun v w' => I (fun j => if j = i then true else dn j) (JF g o.dst v) w' else I (fun j => if j = i then true else dn j) (JF g o.dst undef) w))
  (tail : ∀ (dn : Nat → Bool) (g : Fr) (w : World), (∀ i, i < n0 → dn i = true) → I dn g w → WL P N ops.toArray Q (ops.drop n0) g w) :
  ∀ a, Fits N a f → wpAny P .any ops.toArray (Qco N Q) ops.toArray.size (Array.replicate ops.toArray.size false) a w.drew := by
 simp only [Qb5, Bool.and_eq_true, decide_eq_true_eq, List.all_eq_true, Bool.or_eq_true] at hok
 obtain ⟨⟨⟨⟨⟨hn0, hwait⟩, hdst⟩, _⟩, hnodup⟩, hback⟩ := hok
 have hn0' : n0 ≤ ops.length := by simpa [Nat.ble_eq] using hn0
 have hdsti : ∀ (i : Nat) (o : Oper), i < n0 → ops[i]? = some o → QcR N o.dst = true := by
  intro i o hi ho
  exact hdst o (List.mem_of_getElem? (i := i) (by rw [List.getElem?_take, if_pos hi]; exact ho))
 have hb : ∀ (i : Nat) (o : Oper) (e : Edge), ops[i]? = some o → e ∈ o.after → Region.binds .any e = true → e.on < i := by
  intro i o e ho he hbi
  have hi : i < ops.length := (List.getElem?_eq_some_iff.1 ho).1
  have := hback i (by simpa using hi)
  simp only [ho] at this
  have := Array.all_eq_true'.1 this e he
  simpa [Nat.blt_eq, hbi] using this
 have both : ∀ (listed : Array Bool) (i : Nat), listed.size = ops.length → i < ops.length → listed.getD i true = listed.getD i false := by
  intro listed i hl hi
  have : i < listed.size := by omega
  simp [this]
 have tailrun : ∀ (l : List Oper) (k : Nat) (listed : Array Bool) (a : Act) (w : World), ops.drop k = l → n0 ≤ k → listed.size = ops.length →
   (∀ i, i < k → listed.getD i false = true) → (∀ i, k ≤ i → i < ops.length → listed.getD i false = false) → wpList P ops.toArray (Qco N Q) l a w → wpAny P .any ops.toArray (Qco N Q) l.length listed a w := by
  intro l
  induction l with
  | nil =>
   intro k listed a w hl hk hls hdone hnot h
   have hkl : ops.length ≤ k := by simpa [List.drop_eq_nil_iff] using hl
   refine ⟨?_, h⟩
   rw [List.eq_nil_iff_forall_not_mem]
   intro i hi
   obtain ⟨hun, oi, hoi, _⟩ := mem_ready.1 hi
   have hilt : i < ops.length := by have := (Array.getElem?_eq_some_iff.1 hoi).1; simpa using this
   rw [both listed i hls hilt, hdone i (by omega)] at hun
   cases hun
  | cons o l ih =>
   intro k listed a w hl hk hls hdone hnot h
   have hkl : k < ops.length := by
    rcases Nat.lt_or_ge k ops.length with h | h
    ·exact h
    ·rw [List.drop_eq_nil_of_le h] at hl; cases hl
   have hok : ops[k]? = some o := by
    have := congrArg List.head? hl
    simpa [List.head?_drop] using this
   have hl' : ops.drop (k + 1) = l := by
    have := congrArg List.tail hl
    simpa [List.tail_drop] using this
   have hready : ∀ i, i ∈ Region.ready .any ops.toArray listed → i = k := by
    intro i hi
    obtain ⟨hun, oi, hoi, hall⟩ := mem_ready.1 hi
    have hilt : i < ops.length := by have := (Array.getElem?_eq_some_iff.1 hoi).1; simpa using this
    rcases Nat.lt_trichotomy i k with hlt | heq | hgt
    ·rw [both listed i hls hilt, hdone i hlt] at hun; cases hun
    ·exact heq
    ·rcases hwait i (by simpa using hilt) with (hw | hw) | ⟨_, hw⟩
     rotate_right
     ·have hoi' : ops[i]? = some oi := by simpa using hoi
      simp only [Qdx, hoi'] at hw
      obtain ⟨e, he, hbb⟩ := Array.any_eq_true'.1 hw
      simp only [Bool.and_eq_true] at hbb
      have hon : e.on = i - 1 := Nat.eq_of_beq_eq_true hbb.2
      have h2 := hall e he hbb.1
      rw [hon, hnot (i - 1) (by omega) (by omega)] at h2
      cases h2
     ·simp [Nat.blt_eq] at hw; omega
     ·have hoi' : ops[i]? = some oi := by simpa using hoi
      simp only [Qcr, hoi', List.all_eq_true, List.mem_range] at hw
      obtain ⟨e, he, hbb⟩ := Array.any_eq_true'.1 (hw k hgt)
      simp only [Bool.and_eq_true] at hbb
      have hon : e.on = k := Nat.eq_of_beq_eq_true hbb.2
      have h2 := hall e he hbb.1
      rw [hon, hnot k (Nat.le_refl _) hkl] at h2
      cases h2
   have hkready : k ∈ Region.ready .any ops.toArray listed :=
    mem_ready.2 ⟨by rw [both listed k hls hkl]; exact hnot k (Nat.le_refl _) hkl, o, by simpa using hok, fun e he q => hdone e.on (hb k o e hok he q)⟩
   refine ⟨fun h0 => (by rw [h0] at hkready; cases hkready), fun i hi => ?_⟩
   have hik := hready i hi
   subst hik
   have hnext : ∀ a w, wpList P ops.toArray (Qco N Q) l a w → wpAny P .any ops.toArray (Qco N Q) l.length (listed.setIfInBounds i true) a w := fun a w hh =>
    ih (i + 1) _ a w hl' (by omega) (by simpa using hls)
     (fun j hj => by
      by_cases e : j = i
      ·subst e; simp [hls, hkl]
      ·rw [getD_set_ne false (Ne.symm e)]; exact hdone j (by omega))
     (fun j hj hj' => by rw [getD_set_ne false (by omega)]; exact hnot j (by omega) hj') hh
   unfold wpOp
   have : ops.toArray[i]? = some o := by simpa using hok
   simp only [this]
   simp only [wpList] at h
   split
   ·rename_i hw
    rw [if_pos hw] at h
    exact h.imp (Oper.wp_mono hnext) (fun h => h)
   ·rename_i hw
    rw [if_neg hw] at h
    exact hnext _ _ h
 have headrun : ∀ (c : Nat) (listed : Array Bool) (a : Act) (w : World), (List.range n0).countP (fun i => !listed.getD i false) = c →
   (∃ (g : Fr), Fits N a g ∧ I (fun i => listed.getD i false) g w ∧ listed.size = ops.length ∧
    (∀ i, n0 ≤ i → i < ops.length → listed.getD i false = false)) →
   wpAny P .any ops.toArray (Qco N Q) (c + (ops.drop n0).length) listed a w := by
  intro c
  induction c with
  | zero =>
   intro listed a w hc ⟨g, hg, hIw, hls, hnot⟩
   rw [Nat.zero_add]
   have hdone : ∀ i, i < n0 → listed.getD i false = true := by
    intro i hi
    have := List.countP_eq_zero.1 hc i (by simpa using hi)
    cases h : listed.getD i false with
    | true => rfl
    | false => rw [h] at this; simp at this
   exact tailrun (ops.drop n0) n0 listed a w Z (Nat.le_refl _) hls hdone hnot (tail _ g w hdone hIw a hg)
  | succ c ih =>
   intro listed a w hc ⟨g, hg, hIw, hls, hnot⟩
   rw [Nat.add_right_comm]
   have hex : ∃ i, i < n0 ∧ listed.getD i false = false ∧ ∀ j, j < i → listed.getD j false = true := by
    have h1 : ∃ i, i < n0 ∧ listed.getD i false = false := by
     have : 0 < (List.range n0).countP (fun i => !listed.getD i false) := by omega
     obtain ⟨i, hi, hp⟩ := List.countP_pos_iff.1 this
     exact ⟨i, by simpa using hi, by simpa using hp⟩
    obtain ⟨i, hi, hu⟩ := h1
    induction i using Nat.strongRecOn with
    | _ i ihi =>
     by_cases hm : ∃ j, j < i ∧ listed.getD j false = false
     ·obtain ⟨j, hj, hju⟩ := hm
      exact ihi j hj (by omega) hju
     ·refine ⟨i, hi, hu, fun j hj => ?_⟩
      cases h : listed.getD j false with
      | true => rfl
      | false => exact absurd ⟨j, hj, h⟩ hm
   obtain ⟨k, hk, hku, hkleast⟩ := hex
   have hkl : k < ops.length := by omega
   have hready : ∀ i, i ∈ Region.ready .any ops.toArray listed → i < n0 := by
    intro i hi
    obtain ⟨hun, oi, hoi, hall⟩ := mem_ready.1 hi
    have hilt : i < ops.length := by have := (Array.getElem?_eq_some_iff.1 hoi).1; simpa using this
    rcases hwait i (by simpa using hilt) with (hw | hw) | ⟨hw0, hw⟩
    rotate_right
    ·have hn0i : n0 < i := by simpa [Nat.blt_eq] using hw0
     have hoi' : ops[i]? = some oi := by simpa using hoi
     simp only [Qdx, hoi'] at hw
     obtain ⟨e, he, hbb⟩ := Array.any_eq_true'.1 hw
     simp only [Bool.and_eq_true] at hbb
     have hon : e.on = i - 1 := Nat.eq_of_beq_eq_true hbb.2
     have h2 := hall e he hbb.1
     rw [hon, hnot (i - 1) (by omega) (by omega)] at h2
     cases h2
    ·simpa [Nat.blt_eq] using hw
    ·rcases Nat.lt_or_ge i n0 with h | h
     ·exact h
     ·have hoi' : ops[i]? = some oi := by simpa using hoi
      simp only [Qcr, hoi', List.all_eq_true, List.mem_range] at hw
      obtain ⟨e, he, hbb⟩ := Array.any_eq_true'.1 (hw k (by omega))
      simp only [Bool.and_eq_true] at hbb
      have hon : e.on = k := Nat.eq_of_beq_eq_true hbb.2
      have h2 := hall e he hbb.1
      rw [hon, hku] at h2
      cases h2
   obtain ⟨ok, hok⟩ : ∃ o, ops[k]? = some o := ⟨ops[k], by simp [hkl]⟩
   have hkready : k ∈ Region.ready .any ops.toArray listed :=
    mem_ready.2 ⟨by rw [both listed k hls hkl]; exact hku, ok, by simpa using hok, fun e he q => hkleast e.on (hb k ok e hok he q)⟩
   refine ⟨fun h0 => (by rw [h0] at hkready; cases hkready), fun i hi => ?_⟩
   have hin := hready i hi
   obtain ⟨hun, o, hoi, hall⟩ := mem_ready.1 hi
   have ho : ops[i]? = some o := by simpa using hoi
   have hilt : i < ops.length := by omega
   rw [both listed i hls hilt] at hun
   have hdN := hdsti i o hin ho
   have hset : (fun j => (listed.setIfInBounds i true).getD j false) = fun j => if j = i then true else listed.getD j false := by
    funext j
    by_cases e : j = i
    ·subst e; simp [hls, hilt]
    ·rw [if_neg e, getD_set_ne false (Ne.symm e)]
   have hnext : ∀ (v : Value) (w' : World), I (fun j => if j = i then true else listed.getD j false) (JF g o.dst v) w' →
     wpAny P .any ops.toArray (Qco N Q) (c + (ops.drop n0).length) (listed.setIfInBounds i true) (a.put o.dst v) w' := by
    intro v w' hIw'
    refine ih _ _ _ ?_ ⟨JF g o.dst v, hg.put hdN v, by rw [hset]; exact hIw', by simpa using hls, ?_⟩
    ·have := Qgr (p := fun j => !listed.getD j false) (q := fun j => !(listed.setIfInBounds i true).getD j false) (i := i) (by show (!listed.getD i false) = true; rw [hun]; rfl)
      (by simp [hls, hilt]) (fun j hj => by show (!listed.getD j false) = _; rw [getD_set_ne false (Ne.symm hj)]) n0 hin
     omega
    ·intro j hj hj'
     rw [getD_set_ne false (by omega)]
     exact hnot j hj hj'
   have hop := head i o _ g w hin ho hun (fun e he hbe => hall e he hbe) (fun e he q => hb i o e ho he q) hIw
   unfold wpOp
   simp only [hoi]
   rw [← Qbd hg] at hop
   split
   ·rename_i hw
    rw [if_pos hw] at hop
    refine .inl (QcF ?_)
    rw [hg.eval]
    exact hop.mono fun v w' h => hnext v w' h
   ·rename_i hw
    rw [if_neg hw] at hop
    exact hnext undef w hop
 intro a ha
 have hcount : (List.range n0).countP (fun i => !(Array.replicate ops.toArray.size false).getD i false) = n0 := by
  rw [List.countP_eq_length.2]
  ·simp
  ·intro i hi
   have hi' : i < n0 := by simpa using hi
   simp [show i < ops.length by omega]
 have := headrun n0 (Array.replicate ops.toArray.size false) a w.drew hcount ⟨f, ha, by
  have e : (fun i => (Array.replicate ops.toArray.size false).getD i false) = fun _ => false := by
   funext i
   by_cases h : i < ops.length <;> simp [h]
  rw [e]; exact hI, by simp, fun i _ hi => by simp [hi]⟩
 have hlen : n0 + (ops.drop n0).length = ops.toArray.size := by simp; omega
 rw [hlen] at this
 exact this
variable {f : Fr} {w : World}
theorem Qn8 {n0 : Nat} {ops : List Oper} (p : DPlan) (hm : P.follows .mixedOrders = true) (hok : Qb5 N n0 ops = true) (hp : QkZ n0 ops p = true)
  (h : DL P ops (fun g w' => WL P N ops.toArray Q (ops.drop n0) g w') p f w.drew) : ∀ a, Fits N a f → wpAny P .any ops.toArray (Qco N Q) ops.toArray.size (Array.replicate ops.toArray.size false) a w.drew := by
 have hok0 := hok
 simp only [Qb5, Bool.and_eq_true, decide_eq_true_eq, List.all_eq_true, Bool.or_eq_true] at hok
 obtain ⟨⟨⟨⟨⟨hn0, hwait⟩, hdst⟩, _⟩, hnodup⟩, hback⟩ := hok
 have hn0' : n0 ≤ ops.length := by simpa [Nat.ble_eq] using hn0
 have hI : Qld n0 ops := by
  refine ⟨fun i hi => ⟨ops[i]'(by omega), by simp [show i < ops.length by omega]⟩, fun i j oi oj d hi hj hoi hoj hdi hdj => ?_⟩
  exact Qjm (f := fun o : Oper => o.dst) hnodup (by rw [List.getElem?_take, if_pos hi]; exact hoi) (by rw [List.getElem?_take, if_pos hj]; exact hoj) hdi hdj
 have hb : ∀ (i : Nat) (o : Oper), ops[i]? = some o → ∀ j ∈ YA o, j < i := by
  intro i o ho j hj
  obtain ⟨e, he, hbi, rfl⟩ := Qer.1 hj
  have hi : i < ops.length := (List.getElem?_eq_some_iff.1 ho).1
  have := hback i (by simpa using hi)
  simp only [ho] at this
  have := Array.all_eq_true'.1 this e he
  simpa [Nat.blt_eq, hbi] using this
 simp only [QkZ, Bool.and_eq_true] at hp
 obtain ⟨⟨hT, _⟩, hpl⟩ := hp
 generalize Qjo ops = T at hT hpl
 let K : Fr → World → Prop := fun g w' => WL P N ops.toArray Q (ops.drop n0) g w'
 let I : (Nat → Bool) → Fr → World → Prop := fun dn g w => ∃ p gk qd ed, Canon P n0 ops T K p gk w qd ed dn ∧ QkY p ∧ (∀ i, dn i = true → i < n0 ∧ (i ∈ qd ∨ i ∈ ed)) ∧ (∀ i ∈ ed, dn i = true) ∧ Agr n0 ops (fun i => dn i = true ∨ isQ n0 ops i = false) g gk ∧
  (∀ i o, dn i = true → ops[i]? = some o → ∀ j ∈ YA o, dn j = true)
 refine QkQ hm hok0 I ?_ ?_ ?_
 ·obtain ⟨p', gk', qd', hc, h1, _, h3⟩ := Qad (P := P) (K := K) (T := T) hI (w := w.drew) (ed := []) (dn := fun _ => false) p f [] ⟨hpl, h, by simp, by simp, by simp⟩
  exact ⟨p', gk', qd', [], hc, h1, by simp, by simp, ⟨h3.1, fun i d hi hS hd => h3.2 i d hi (hS.elim (fun h => by cases h) .inr) hd⟩, by simp⟩
 ·rintro i o dn g w hi ho hdn hdeps _ ⟨p, gk, qd, ed, hc, hnq, hd1, hd2, hagr, hdc⟩
  have hdepdn : ∀ j ∈ YA o, dn j = true := by
   intro j hj
   obtain ⟨e, he, hbi, rfl⟩ := Qer.1 hj
   exact hdeps e he hbi
  have hdepS : ∀ j ∈ YA o, dn j = true ∨ isQ n0 ops j = false := fun j hj => .inl (hdepdn j hj)
  have hanc := Qh6 hT hdc hb i o ho hdepdn
  have hnoted : i ∉ ed := fun hm => by have := hd2 i hm; rw [hdn] at this; cases this
  have heff : ∀ j, isQ n0 ops j = false → dn j = true → j ∈ ed := by
   intro j hj hjd
   rcases (hd1 j hjd).2 with hm | hm
   ·have h5 := (hc.nq j hm).2.1
    rw [hj] at h5; cases h5
   ·exact hm
  have hdc' : ∀ k ok, (if k = i then true else dn k) = true → ops[k]? = some ok → ∀ j ∈ YA ok, (if j = i then true else dn j) = true := by
   intro k ok hk hok j hj
   by_cases e : k = i
   ·subst e
    rw [ho] at hok; cases hok
    have := hdepdn j hj
    split <;> first | rfl | exact this
   ·rw [if_neg e] at hk
    have := hdc k ok hk hok j hj
    split <;> first | rfl | exact this
  have hnode := Qd2 p hnq hc.ok hc.dl
  have hstage : ∀ l, QcB n0 ops T l qd ed = true → i ∈ qd ∨ i ∈ l := by
   intro l hst
   simp only [QcB, List.all_eq_true, List.mem_range, Bool.or_eq_true, List.any_eq_true, Bool.and_eq_true] at hst
   rcases hst i hi with ((h | h) | h) | ⟨j, hj, ⟨he, _⟩, hn⟩
   ·exact .inl (by simpa using h)
   ·exact (hnoted (by simpa using h)).elim
   ·exact .inr (by simpa using h)
   ·have := heff j (by simpa using he) (hanc j hj)
    simp [this] at hn
  have hdoneq : Km n0 ops T .done none qd ed = true → i ∈ qd := by
   intro hok
   simp only [Km, Bool.and_eq_true, List.all_eq_true, List.mem_range, Bool.or_eq_true] at hok
   rcases hok.2 i hi with h | h
   ·simpa using h
   ·exact (hnoted (by simpa using h)).elim
  cases hq : isQ n0 ops i with
  | true =>
   have hiq : i ∈ qd := by
    rcases hnode with e | ⟨hst, _, hsp⟩
    ·subst e; exact hdoneq hc.ok
    ·rcases hstage _ hst with h | h
     ·exact h
     ·obtain ⟨ag, r, hok, _⟩ := hsp i h
      simp [Km, ho, hq] at hok
   obtain ⟨_, _, o', ho', _, hopn, _⟩ := hc.nq i hiq
   rw [ho] at ho'; cases ho'
   have hag := hc.ag i hiq hdn o ho
   obtain ⟨d, hd⟩ := Qdz hq ho
   rw [← Qak hopn hdepS hagr] at hag
   have key : ∀ v, v = gk (QdI ops i) → I (fun j => if j = i then true else dn j) (JF g o.dst v) w := by
    rintro v rfl
    refine ⟨p, gk, qd, ed, ⟨hc.ok, hc.dl, hc.nq, hc.ne, fun j hj hdj => hc.ag j hj ?_⟩, hnq, ?_, ?_, ⟨?_, ?_⟩, hdc'⟩
    ·by_cases e : j = i
     ·simp only [if_pos e] at hdj; cases hdj
     ·simp only [if_neg e] at hdj; exact hdj
    ·intro j hj
     by_cases e : j = i
     ·rw [e]; exact ⟨hi, .inl hiq⟩
     ·simp only [if_neg e] at hj; exact hd1 j hj
    ·intro j hj
     by_cases e : j = i
     ·simp only [if_pos e]
     ·simp only [if_neg e]; exact hd2 j hj
    ·intro n hn
     have hne : n ≠ d := by rintro rfl; have := hn i hi; rw [Qde ho hd] at this; cases this
     rw [hd]; simp only [JF, Qc7 _ _ hne]
     exact hagr.1 n hn
    ·intro j dj hj hjd hdj
     by_cases e : dj = d
     ·subst e
      rw [hd, Qes ho hd]; simp only [JF, Qem]
     ·have hji : j ≠ i := by
       rintro rfl
       obtain ⟨oj, hoj, hdj'⟩ := Qc4 hdj
       rw [ho] at hoj; cases hoj; rw [hd] at hdj'; cases hdj'; exact e rfl
      have hjd' : dn j = true ∨ isQ n0 ops j = false := by simp only [if_neg hji] at hjd; exact hjd
      rw [hd]; simp only [JF, Qc7 _ _ e]
      exact hagr.2 j dj hj hjd' hdj
   split
   ·rename_i hw
    rw [if_pos hw] at hag
    refine (QbI (Qcu hopn hdepS (fun _ _ _ hk _ _ => .inr hk) hagr).symm hag).mono ?_
    rintro v w' ⟨rfl, hv⟩
    exact key v hv
   ·rename_i hw
    rw [if_neg hw] at hag
    exact key undef hag.symm
  | false =>
   have hniq : i ∉ qd := fun hm => by have := (hc.nq i hm).2.1; rw [hq] at this; cases this
   obtain ⟨l, ag, r, hok, hdl⟩ : ∃ l ag r, Km n0 ops T (.e i ag r) (some l) qd ed = true ∧ DL P ops K (.e i ag r) gk w := by
    rcases hnode with e | ⟨hst, _, hsp⟩
    ·subst e; exact (hniq (hdoneq hc.ok)).elim
    ·rcases hstage _ hst with h | h
     ·exact (hniq h).elim
     ·obtain ⟨ag, r, h1, h2⟩ := hsp i h; exact ⟨_, ag, r, h1, h2⟩
   simp only [Km, Bool.and_eq_true] at hok
   obtain ⟨⟨⟨⟨_, hb'⟩, _⟩, hagq⟩, hrest⟩ := hok
   obtain ⟨o', ho', hdl⟩ := hdl
   rw [ho] at ho'; cases ho'
   simp only [ho, Bool.and_eq_true] at hb'
   obtain ⟨⟨⟨_, _⟩, hdep⟩, hopn⟩ := hb'
   rw [← Qak hopn hdepS hagr] at hdl
   have key : ∀ v w', (∀ j ∈ qd, (if j = i then true else dn j) = false → QaT P ops (JF gk o.dst v) w' j) → DL P ops K r (JF gk o.dst v) w' → I (fun j => if j = i then true else dn j) (JF g o.dst v) w' := by
    intro v w' hag hdl
    have hc1 : Canon P n0 ops T K r (JF gk o.dst v) w' qd (i :: ed) (fun j => if j = i then true else dn j) := by
     refine ⟨hrest, hdl, ?_, ?_, hag⟩
     ·intro j hj
      obtain ⟨hj0, hjq, oj, hoj, hqj, hopj, hdj⟩ := hc.nq j hj
      exact ⟨hj0, hjq, oj, hoj, hqj, hopj, fun k hk => (hdj k hk).imp (fun h => h) (List.mem_cons_of_mem _)⟩
     ·intro j hj
      rcases List.mem_cons.1 hj with e | hj
      ·rw [e]; exact ⟨hi, hq⟩
      ·exact hc.ne j hj
    obtain ⟨p', gk', qd', hc', h1, h2, h3⟩ := Qad hI r (JF gk o.dst v) qd hc1
    refine ⟨p', gk', qd', i :: ed, hc', h1, ?_, ?_, ?_, hdc'⟩
    ·intro j hj
     by_cases e : j = i
     ·rw [e]; exact ⟨hi, .inr (by simp)⟩
     ·simp only [if_neg e] at hj
      exact ⟨(hd1 j hj).1, (hd1 j hj).2.imp (h2 j) (List.mem_cons_of_mem _)⟩
    ·intro j hj
     by_cases e : j = i
     ·simp only [if_pos e]
     ·simp only [if_neg e]
      exact hd2 j ((List.mem_cons.1 hj).resolve_left e)
    ·refine Agr.trans (S := fun j => (if j = i then true else dn j) = true ∨ isQ n0 ops j = false) (S' := fun j => (j ∈ qd ∨ j ∈ i :: ed) ∨ isQ n0 ops j = false) (g' := JF gk o.dst v) (QiB hI hi ho hagr fun j hj hne => by simp only [if_neg hne] at hj; exact hj) h3 ?_
     ·intro j hj
      by_cases e : j = i
      ·rw [e]; exact .inl (.inr (by simp))
      ·simp only [if_neg e] at hj
       exact hj.imp (fun h => (hd1 j h).2.imp (fun h => h) (List.mem_cons_of_mem _)) (fun h => h)
   split
   ·rename_i hw
    rw [if_pos hw] at hdl
    refine (QbI (Qcu hopn hdepS (fun _ _ _ hk _ _ => .inr hk) hagr).symm hdl).mono ?_
    rintro v w' ⟨hagv, hdlv⟩
    refine key v w' ?_ hdlv
    intro j hj hjd
    have hjd' : dn j = false := by
     split at hjd
     ·cases hjd
     ·exact hjd
    have := List.all_eq_true.1 hagq j hj
    simp only [Bool.or_eq_true, List.any_eq_true] at this
    rcases this with (h | h) | ⟨k, hk, h⟩
    ·exact hagv j (by simpa using h)
    ·have := hanc j (by simpa using h); rw [hjd'] at this; cases this
    ·obtain ⟨hk0, _⟩ := hc.ne k hk
     obtain ⟨ok, hok⟩ := hI.1 k hk0
     have := Qh6 hT hdc hb k ok hok (hdc k ok (hd2 k hk) hok) j (by simpa using h)
     rw [hjd'] at this; cases this
   ·rename_i hw
    rw [if_neg hw] at hdl
    refine key undef w ?_ hdl
    intro j hj hjd
    have hjd' : dn j = false := by
     split at hjd
     ·cases hjd
     ·exact hjd
    obtain ⟨hj0, hjq, oj, hoj, hqj, hopj, hdj⟩ := hc.nq j hj
    have hne : ∀ k, k ∈ qd ∨ k ∈ ed → k ≠ i := by
     rintro k (h | h) rfl
     ·exact hniq h
     ·exact hnoted h
    refine QeT (S := fun k => ((k ∈ qd ∨ k ∈ ed) ∨ isQ n0 ops k = false) ∧ k ≠ i) hj0 hoj hopj (fun k hk => ⟨.inl (hdj k hk), hne k (hdj k hk)⟩) ?_ ⟨.inl (.inl hj), hne j (.inl hj)⟩ (Qdz hjq hoj) (Qf6 hI hi ho (fun hm => hm.2 Z)) (hc.ag j hj hjd')
    intro k ok _ hkq hok hjk
    refine ⟨.inr hkq, ?_⟩
    rintro rfl
    rw [ho] at hok; cases hok
    have := hdepdn j hjk
    rw [hjd'] at this; cases this
 ·rintro dn g w hall ⟨p, gk, qd, ed, hc, hnq, hd1, hd2, hagr, hdc⟩
  have hg : g = gk := by
   funext n
   by_cases hn : ∀ k, k < n0 → Qau ops k n = false
   ·exact hagr.1 n hn
   ·obtain ⟨k, hk, hd'⟩ : ∃ k, k < n0 ∧ Qau ops k n = true := by
     refine Classical.byContradiction fun hc => hn fun k hk => ?_
     cases hd : Qau ops k n with
     | false => rfl
     | true => exact absurd ⟨k, hk, hd⟩ hc
    exact hagr.2 k n hk (.inl (hall k hk)) hd'
  subst hg
  rcases Qd2 p hnq hc.ok hc.dl with e | ⟨_, hne, hsp⟩
  ·subst e; exact hc.dl
  ·obtain ⟨i', hi'⟩ := List.exists_mem_of_ne_nil _ hne
   obtain ⟨ag, r, hok, _⟩ := hsp i' hi'
   simp only [Km, Bool.and_eq_true] at hok
   obtain ⟨⟨⟨⟨hi', hb'⟩, _⟩, _⟩, _⟩ := hok
   have hi'' : i' < n0 := by simpa [Nat.blt_eq] using hi'
   have hdn := hall i' hi''
   obtain ⟨o', ho'⟩ := hI.1 i' hi''
   simp only [ho', Bool.and_eq_true, Bool.not_eq_true'] at hb'
   rcases (hd1 i' hdn).2 with hm | hm
   ·have := (hc.nq i' hm).2.1
    rw [hb'.1.1.1] at this; cases this
   ·have := hb'.1.1.2
    simp [hm] at this
end
def QbD (o : Oper) : Bool := match o.op with
 | .move _ | .assign _ | .load _ _ | .store _ _ _ | .fieldAddr _ _ _ | .indexAddr _ _ _ | .binOp _ _ _ _ _ => true
 | _ => false
section
variable {F : Fence} {n : Nat} {P : Program} {Q : Exit → Act → World → Prop} {K : Act → World → Prop} {a : Act} {w : World}
theorem Qi9 {ρ : Operand → Value} {o : Oper} {w w' : World} {nx : Next} (hq : QbD o = true) (h : (execOp ρ o).run P w = .ok nx w') : Qik nx ∨ nx = .skip := by
 obtain ⟨dst, op, type, pos, after, guard⟩ := o
 cases op <;> simp only [QbD] at hq <;> first | (cases hq; done) | skip
 case store T x y =>
  simp only [execOp, Sem.run_bind] at h
  cases hs : (Instr.storeAt T (ρ x) (ρ y)).run P w with
  | ok b w1 => rw [hs] at h; simp only [Result.andThen_ok, Sem.run_pure, Result.ok.injEq] at h; exact .inr h.1.symm
  | halt x w1 => rw [hs] at h; simp [Result.andThen] at h
 all_goals exact .inl (Qhc (by rfl) h)
theorem QmL {o : Oper} (hc : QbD o = true) (h : o.wp P a w K Q) : o.wpIn F n P a w K Q := by
 refine ⟨fun f hf => ?_, ?_⟩
 ·obtain ⟨dst, op, type, pos, after, guard⟩ := o
  cases op <;> simp only [QbD] at hc <;> first | (cases hc; done) | skip
  all_goals simp [Oper.about] at hf
 ·rw [Oper.semAt_eq _ _ _ (by
   intro c hcd
   simp only [QbD, hcd] at hc
   cases hc)]
  unfold Oper.wp at h
  cases hr : (execOp a.eval o).run P w with
  | ok nx w' =>
   rw [hr] at h
   rcases Qi9 hc hr with hv | rfl
   ·cases nx with
    | value v => exact h
    | _ => exact hv.elim
   ·exact h
  | halt x w' =>
   rw [hr] at h
   cases x with
   | panic v => exact h
   | _ => exact h.elim
theorem Qgt {o : Oper} (hc : QbD o = true) {ρ : Operand → Value} : o.about P w ρ = none := by
 obtain ⟨dst, op, type, pos, after, guard⟩ := o
 cases op <;> simp only [QbD] at hc <;> first | (cases hc; done) | skip
 all_goals simp [Oper.about]
theorem Qn7 {ops : Array Oper} (hc : ∀ (i : Nat) (o : Oper), ops[i]? = some o → QbD o = true) (hL : ¬ LetsOut Q) : ∀ (fuel : Nat) (listed : Array Bool) (a : Act) (w : World), wpAny P .any ops Q fuel listed a w → wpAnyIn F n P .any ops Q fuel listed a w := by
 intro fuel
 induction fuel with
 | zero => exact fun _ _ _ h => h
 | succ fuel ih =>
  intro listed a w h
  refine ⟨h.1, fun i hi => ?_⟩
  have h2 := h.2 i hi
  unfold wpOp at h2
  unfold wpOpIn
  cases ho : ops[i]? with
  | none => rw [ho] at h2; exact ih _ _ _ h2
  | some o =>
   rw [ho] at h2
   simp only at h2 ⊢
   have hco := hc i o ho
   split
   ·rename_i hw
    rw [if_pos hw] at h2
    rcases h2 with h2 | ⟨_, h2⟩
    ·exact Oper.wpIn_mono (fun a w => ih _ a w) (QmL hco h2)
    ·exact absurd h2 hL
   ·rename_i hw
    rw [if_neg hw] at h2
    exact ⟨fun f hf => absurd hf (by rw [Qgt hco]; simp), ih _ _ _ h2⟩
end
section
variable {F : Fence} {n : Nat} {P : Program} {N : Nat} {a : Act} {f : Fr} {w : World}
theorem QjP {id n0 : Nat} {ops : List Oper} {Q : QbC} {Q' : Exit → Act → World → Prop} (p : DPlan) (hm : P.follows .mixedOrders = true) (hok : Qb5 N n0 ops = true) (hp : QkZ n0 ops p = true) (hc : ops.all QbD = true) (ha : Fits N a f)
  (hQ : ∀ e a' w', Qco N Q e a' w' → Q' e a' w') (hL : ¬ LetsOut (Qco N Q)) (h : DL P ops (fun g w' => WL P N ops.toArray Q (ops.drop n0) g w') p f w.drew) : (Code.region id ops.toArray true).wpIn F n P Q' a w :=
 wpIn_mono (wpIn_region_any hm (Qn7 (fun i o ho => List.all_eq_true.1 hc o (List.mem_of_getElem? (by simpa using ho))) hL _ _ _ _ (Qn8 p hm hok hp h a ha))) hQ
end
end Go.Pw
