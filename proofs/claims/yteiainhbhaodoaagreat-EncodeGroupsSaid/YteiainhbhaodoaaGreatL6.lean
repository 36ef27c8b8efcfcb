/- -/
import Derived.Test.YteiainhbhaodoaaGreatL5
namespace Go.Pw
section
variable {P : Program} {N : Nat} {Q : Qaz}
def QeA (N n0 : Nat) (ops : List Oper) : Bool :=
 (Nat.ble n0 ops.length) && ((List.range ops.length).all fun t => Nat.blt t n0 || Qdv ops t || (Nat.blt n0 t && Qe5 ops t (t - 1))) &&
 (ops.take n0).all (fun o => Qca N o.dst) &&
 (ops.drop n0).all (fun o => Qca N o.dst) &&
 decide (((ops.take n0).filterMap (·.dst)).Nodup) &&
 ((List.range ops.length).all fun t => match ops[t]? with | some o => o.after.all fun e => !(Region.binds .any e) || Nat.blt e.on t | none => true)
theorem QjU {id n0 : Nat} {ops : List Oper} {f : Fr} {w : World} (hm : P.follows .mixedOrders = true) (hok : QeA N n0 ops = true)
  (I : (Nat → Bool) → Fr → World → Prop) (hI : I (fun _ => false) f w.drew)
  (head : ∀ (i : Nat) (o : Oper) (dn : Nat → Bool) (g : Fr) (w : World), i < n0 → ops[i]? = some o → dn i = false → (∀ e ∈ o.after, Region.binds .any e = true → dn e.on = true) →
   (∀ e ∈ o.after, Region.binds .any e = true → e.on < i) → I dn g w →
   (if Region.wanted o (Jf ops.toArray g) then Exec P (ev g) o w fun v w' => I (fun j => if j = i then true else dn j) (J9 g o.dst v) w' else I (fun j => if j = i then true else dn j) (J9 g o.dst undef) w))
  (tail : ∀ (dn : Nat → Bool) (g : Fr) (w : World), (∀ i, i < n0 → dn i = true) → I dn g w → WL P N ops.toArray Q (ops.drop n0) g w) :
  W P N (.region id ops.toArray true) Q f w := by
 simp only [QeA, Bool.and_eq_true, decide_eq_true_eq, List.all_eq_true, Bool.or_eq_true] at hok
 obtain ⟨⟨⟨⟨⟨hn0, hwait⟩, hdst⟩, _⟩, hnodup⟩, hback⟩ := hok
 have hn0' : n0 ≤ ops.length := by simpa [Nat.ble_eq] using hn0
 have hdsti : ∀ (i : Nat) (o : Oper), i < n0 → ops[i]? = some o → Qca N o.dst = true := by
  intro i o hi ho
  exact hdst o (List.mem_of_getElem? (i := i) (by rw [List.getElem?_take, if_pos hi]; exact ho))
 have hb : ∀ (i : Nat) (o : Oper) (e : Edge), ops[i]? = some o → e ∈ o.after → Region.binds .any e = true → e.on < i := by
  intro i o e ho he hbi
  have hi : i < ops.length := (List.getElem?_eq_some_iff.1 ho).1
  have := hback i (by simpa using hi)
  simp only [ho] at this
  have := Array.all_eq_true'.1 this e he
  simpa [Nat.blt_eq, hbi] using this
 have both : ∀ (listed : Array Bool) (i : Nat), listed.size = ops.length → i < ops.length → listed.getD i true = listed.getD i false := by
  intro listed i hl hi
  have : i < listed.size := by omega
  simp [this]
 have tailrun : ∀ (l : List Oper) (k : Nat) (listed : Array Bool) (a : Act) (w : World), ops.drop k = l → n0 ≤ k → listed.size = ops.length →
   (∀ i, i < k → listed.getD i false = true) → (∀ i, k ≤ i → i < ops.length → listed.getD i false = false) → wpList P ops.toArray (Qgq N Q) l a w → wpAny P .any ops.toArray (Qgq N Q) l.length listed a w := by
  intro l
  induction l with
  | nil =>
   intro k listed a w hl hk hls hdone hnot h
   have hkl : ops.length ≤ k := by simpa [List.drop_eq_nil_iff] using hl
   refine ⟨?_, h⟩
   rw [List.eq_nil_iff_forall_not_mem]
   intro i hi
   obtain ⟨hun, oi, hoi, _⟩ := mem_ready.1 hi
   have hilt : i < ops.length := by have := (Array.getElem?_eq_some_iff.1 hoi).1; simpa using this
   rw [both listed i hls hilt, hdone i (by omega)] at hun
   cases hun
  | cons o l ih =>
   intro k listed a w hl hk hls hdone hnot h
   have hkl : k < ops.length := by
    rcases Nat.lt_or_ge k ops.length with h | h
    ·exact h
    ·rw [List.drop_eq_nil_of_le h] at hl; cases hl
   have hok : ops[k]? = some o := by
    have := congrArg List.head? hl
    simpa [List.head?_drop] using this
   have hl' : ops.drop (k + 1) = l := by
    have := congrArg List.tail hl
    simpa [List.tail_drop] using this
   have hready : ∀ i, i ∈ Region.ready .any ops.toArray listed → i = k := by
    intro i hi
    obtain ⟨hun, oi, hoi, hall⟩ := mem_ready.1 hi
    have hilt : i < ops.length := by have := (Array.getElem?_eq_some_iff.1 hoi).1; simpa using this
    rcases Nat.lt_trichotomy i k with hlt | heq | hgt
    ·rw [both listed i hls hilt, hdone i hlt] at hun; cases hun
    ·exact heq
    ·rcases hwait i (by simpa using hilt) with (hw | hw) | ⟨_, hw⟩
     rotate_right
     ·have hoi' : ops[i]? = some oi := by simpa using hoi
      simp only [Qe5, hoi'] at hw
      obtain ⟨e, he, hbb⟩ := Array.any_eq_true'.1 hw
      simp only [Bool.and_eq_true] at hbb
      have hon : e.on = i - 1 := Nat.eq_of_beq_eq_true hbb.2
      have h2 := hall e he hbb.1
      rw [hon, hnot (i - 1) (by omega) (by omega)] at h2
      cases h2
     ·simp [Nat.blt_eq] at hw; omega
     ·have hoi' : ops[i]? = some oi := by simpa using hoi
      simp only [Qdv, hoi', List.all_eq_true, List.mem_range] at hw
      obtain ⟨e, he, hbb⟩ := Array.any_eq_true'.1 (hw k hgt)
      simp only [Bool.and_eq_true] at hbb
      have hon : e.on = k := Nat.eq_of_beq_eq_true hbb.2
      have h2 := hall e he hbb.1
      rw [hon, hnot k (Nat.le_refl _) hkl] at h2
      cases h2
   have hkready : k ∈ Region.ready .any ops.toArray listed :=
    mem_ready.2 ⟨by rw [both listed k hls hkl]; exact hnot k (Nat.le_refl _) hkl, o, by simpa using hok, fun e he q => hdone e.on (hb k o e hok he q)⟩
   refine ⟨fun h0 => (by rw [h0] at hkready; cases hkready), fun i hi => ?_⟩
   have hik := hready i hi
   subst hik
   have hnext : ∀ a w, wpList P ops.toArray (Qgq N Q) l a w → wpAny P .any ops.toArray (Qgq N Q) l.length (listed.setIfInBounds i true) a w := fun a w hh =>
    ih (i + 1) _ a w hl' (by omega) (by simpa using hls)
     (fun j hj => by
      by_cases e : j = i
      ·subst e; simp [hls, hkl]
      ·rw [getD_set_ne false (Ne.symm e)]; exact hdone j (by omega))
     (fun j hj hj' => by rw [getD_set_ne false (by omega)]; exact hnot j (by omega) hj') hh
   unfold wpOp
   have : ops.toArray[i]? = some o := by simpa using hok
   simp only [this]
   simp only [wpList] at h
   split
   ·rename_i hw
    rw [if_pos hw] at h
    exact h.imp (Oper.wp_mono hnext) (fun h => h)
   ·rename_i hw
    rw [if_neg hw] at h
    exact hnext _ _ h
 have headrun : ∀ (c : Nat) (listed : Array Bool) (a : Act) (w : World), (List.range n0).countP (fun i => !listed.getD i false) = c →
   (∃ (g : Fr), Fits N a g ∧ I (fun i => listed.getD i false) g w ∧ listed.size = ops.length ∧
    (∀ i, n0 ≤ i → i < ops.length → listed.getD i false = false)) →
   wpAny P .any ops.toArray (Qgq N Q) (c + (ops.drop n0).length) listed a w := by
  intro c
  induction c with
  | zero =>
   intro listed a w hc ⟨g, hg, hIw, hls, hnot⟩
   rw [Nat.zero_add]
   have hdone : ∀ i, i < n0 → listed.getD i false = true := by
    intro i hi
    have := List.countP_eq_zero.1 hc i (by simpa using hi)
    cases h : listed.getD i false with
    | true => rfl
    | false => rw [h] at this; simp at this
   exact tailrun (ops.drop n0) n0 listed a w Z (Nat.le_refl _) hls hdone hnot (tail _ g w hdone hIw a hg)
  | succ c ih =>
   intro listed a w hc ⟨g, hg, hIw, hls, hnot⟩
   rw [Nat.add_right_comm]
   have hex : ∃ i, i < n0 ∧ listed.getD i false = false ∧ ∀ j, j < i → listed.getD j false = true := by
    have h1 : ∃ i, i < n0 ∧ listed.getD i false = false := by
     have : 0 < (List.range n0).countP (fun i => !listed.getD i false) := by omega
     obtain ⟨i, hi, hp⟩ := List.countP_pos_iff.1 this
     exact ⟨i, by simpa using hi, by simpa using hp⟩
    obtain ⟨i, hi, hu⟩ := h1
    induction i using Nat.strongRecOn with
    | _ i ihi =>
     by_cases hm : ∃ j, j < i ∧ listed.getD j false = false
     ·obtain ⟨j, hj, hju⟩ := hm
      exact ihi j hj (by omega) hju
     ·refine ⟨i, hi, hu, fun j hj => ?_⟩
      cases h : listed.getD j false with
      | true => rfl
      | false => exact absurd ⟨j, hj, h⟩ hm
   obtain ⟨k, hk, hku, hkleast⟩ := hex
   have hkl : k < ops.length := by omega
   have hready : ∀ i, i ∈ Region.ready .any ops.toArray listed → i < n0 := by
    intro i hi
    obtain ⟨hun, oi, hoi, hall⟩ := mem_ready.1 hi
    have hilt : i < ops.length := by have := (Array.getElem?_eq_some_iff.1 hoi).1; simpa using this
    rcases hwait i (by simpa using hilt) with (hw | hw) | ⟨hw0, hw⟩
    rotate_right
    ·have hn0i : n0 < i := by simpa [Nat.blt_eq] using hw0
     have hoi' : ops[i]? = some oi := by simpa using hoi
     simp only [Qe5, hoi'] at hw
     obtain ⟨e, he, hbb⟩ := Array.any_eq_true'.1 hw
     simp only [Bool.and_eq_true] at hbb
     have hon : e.on = i - 1 := Nat.eq_of_beq_eq_true hbb.2
     have h2 := hall e he hbb.1
     rw [hon, hnot (i - 1) (by omega) (by omega)] at h2
     cases h2
    ·simpa [Nat.blt_eq] using hw
    ·rcases Nat.lt_or_ge i n0 with h | h
     ·exact h
     ·have hoi' : ops[i]? = some oi := by simpa using hoi
      simp only [Qdv, hoi', List.all_eq_true, List.mem_range] at hw
      obtain ⟨e, he, hbb⟩ := Array.any_eq_true'.1 (hw k (by omega))
      simp only [Bool.and_eq_true] at hbb
      have hon : e.on = k := Nat.eq_of_beq_eq_true hbb.2
      have h2 := hall e he hbb.1
      rw [hon, hku] at h2
      cases h2
   obtain ⟨ok, hok⟩ : ∃ o, ops[k]? = some o := ⟨ops[k], by simp [hkl]⟩
   have hkready : k ∈ Region.ready .any ops.toArray listed :=
    mem_ready.2 ⟨by rw [both listed k hls hkl]; exact hku, ok, by simpa using hok, fun e he q => hkleast e.on (hb k ok e hok he q)⟩
   refine ⟨fun h0 => (by rw [h0] at hkready; cases hkready), fun i hi => ?_⟩
   have hin := hready i hi
   obtain ⟨hun, o, hoi, hall⟩ := mem_ready.1 hi
   have ho : ops[i]? = some o := by simpa using hoi
   have hilt : i < ops.length := by omega
   rw [both listed i hls hilt] at hun
   have hdN := hdsti i o hin ho
   have hset : (fun j => (listed.setIfInBounds i true).getD j false) = fun j => if j = i then true else listed.getD j false := by
    funext j
    by_cases e : j = i
    ·subst e; simp [hls, hilt]
    ·rw [if_neg e, getD_set_ne false (Ne.symm e)]
   have hnext : ∀ (v : Value) (w' : World), I (fun j => if j = i then true else listed.getD j false) (J9 g o.dst v) w' →
     wpAny P .any ops.toArray (Qgq N Q) (c + (ops.drop n0).length) (listed.setIfInBounds i true) (a.put o.dst v) w' := by
    intro v w' hIw'
    refine ih _ _ _ ?_ ⟨J9 g o.dst v, hg.put hdN v, by rw [hset]; exact hIw', by simpa using hls, ?_⟩
    ·have := Qhy (p := fun j => !listed.getD j false) (q := fun j => !(listed.setIfInBounds i true).getD j false) (i := i) (by show (!listed.getD i false) = true; rw [hun]; rfl)
      (by simp [hls, hilt]) (fun j hj => by show (!listed.getD j false) = _; rw [getD_set_ne false (Ne.symm hj)]) n0 hin
     omega
    ·intro j hj hj'
     rw [getD_set_ne false (by omega)]
     exact hnot j hj hj'
   have hop := head i o _ g w hin ho hun (fun e he hbe => hall e he hbe) (fun e he q => hb i o e ho he q) hIw
   unfold wpOp
   simp only [hoi]
   rw [← Qbo hg] at hop
   split
   ·rename_i hw
    rw [if_pos hw] at hop
    refine .inl (Qdb ?_)
    rw [hg.eval]
    exact hop.mono fun v w' h => hnext v w' h
   ·rename_i hw
    rw [if_neg hw] at hop
    exact hnext undef w hop
 intro a ha
 refine wp_region_any hm ?_
 have hcount : (List.range n0).countP (fun i => !(Array.replicate ops.toArray.size false).getD i false) = n0 := by
  rw [List.countP_eq_length.2]
  ·simp
  ·intro i hi
   have hi' : i < n0 := by simpa using hi
   simp [show i < ops.length by omega]
 have := headrun n0 (Array.replicate ops.toArray.size false) a w.drew hcount ⟨f, ha, by
  have e : (fun i => (Array.replicate ops.toArray.size false).getD i false) = fun _ => false := by
   funext i
   by_cases h : i < ops.length <;> simp [h]
  rw [e]; exact hI, by simp, fun i _ hi => by simp [hi]⟩
 have hlen : n0 + (ops.drop n0).length = ops.toArray.size := by simp; omega
 rw [hlen] at this
 exact this
end
structure RR where
 own : Bool
 p : PHeap → Value → List Res → Prop
 mono : ∀ {s t v L}, PHeap.le s t → p s v L → p t v L
 nil : own = false → ∀ {s v L}, p s v L → L = []
def RR.of (R : RP) : RR := ⟨false, fun s v L => L = [] ∧ R.p s v, fun l h => ⟨h.1, R.mono l h.2⟩, fun _ _ _ _ h => h.1⟩
def RR.arr {α : Type} (E : Enc α) (T : TypeId) (xs : List α) : RR := ⟨true, fun _ v L => L = [.arr E T v xs], fun _ h => h, fun h => by cases h⟩
def RR.lit {α : Type} (E : Enc α) (T : TypeId) (n : Nat) (xs : List α) : RR := ⟨true, fun s v L => ∃ b cs, v = .slice (some ⟨b, 0, none⟩) n n ∧ L = [.box b T cs] ∧ reps E s cs xs, fun l ⟨b, cs, h1, h2, h3⟩ => ⟨b, cs, h1, h2, h3.mono l⟩, fun h => by cases h⟩
def RR.box (T : TypeId) (cs : List Value) : RR := ⟨true, fun _ v L => ∃ b, v = .pointer (some ⟨b, 0, none⟩) ∧ L = [.box b T cs], fun _ h => h, fun h => by cases h⟩
section
variable {P : Program} {N : Nat} {Q : Qaz} {f : Fr} {w w0 : World} {s : PHeap} {H Hs : List Res}
end
end Go.Pw
namespace Go.Pw
section
variable {P : Program} {ρ : Operand → Value} {o : Oper} {w w0 : World} {K : Value → World → Prop} {T : TypeId} {s : PHeap} {H : List Res}
theorem SliceRep.nilShape {α : Type} {E : Enc α} {v : Value} {xs : List α} (h : SliceRep E s v xs) : ∃ (a : Option Addr) (n c : Nat), v = .slice a n c ∧ (a.isNone = true → xs = []) := by
 rcases h with ⟨rfl, rfl⟩ | ⟨a, cap, rfl, rfl⟩ | ⟨b, off, cap, c, T, fz, cells, rfl, _⟩
 ·exact ⟨_, _, _, Z, fun _ => rfl⟩
 ·exact ⟨_, _, _, Z, fun _ => rfl⟩
 ·exact ⟨_, _, _, Z, fun h => by cases h⟩
theorem St.nilShape {α : Type} {E : Enc α} {Te : TypeId} {v : Value} {xs : List α} (hS : St w0 s (.arr E Te v xs :: H) w) : ∃ (a : Option Addr) (n c : Nat), v = .slice a n c ∧ (a.isNone = true → xs = []) := by
 obtain ⟨t, _, _, h⟩ := hS.freezeArr
 exact h.nilShape
end
end Go.Pw
