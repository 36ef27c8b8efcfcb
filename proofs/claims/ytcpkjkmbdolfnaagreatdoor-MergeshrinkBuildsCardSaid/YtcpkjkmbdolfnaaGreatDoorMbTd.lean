/- -/
import Derived.Test.YtcpkjkmbdolfnaaGreatDoorMbTb
import Derived.Test.YtcpkjkmbdolfnaaGreatDoorBB
import Derived.Test.YtcpkjkmbdolfnaaGreatDoorMbTc
set_option maxHeartbeats 4000000
set_option linter.unusedSimpArgs false
set_option linter.unusedVariables false
namespace Go.Pw
open Classical in
theorem Qnl {α β : Type} (t : α → α → Bool) (ht : ∀ x y, t x y = true ↔ x ≠ y) (xs ys : List α) (hl : xs.length = ys.length) {kr : Bool → Option β} {k : Unit → Option β} :
  ctl (Js (R := Bool) (fun i => fun (_ : Unit) => (Qz xs (i : Int)).bind fun x => (Qz ys (i : Int)).bind fun y => if t x y then some (Ctl.ret false) else some (Ctl.next ())) xs.length 0 ()) kr k = if xs = ys then k () else kr false := by
 rw [YF (p := fun i => decide (xs[i]? = ys[i]?)) (r := false)]
 ·by_cases h : xs = ys
  ·subst h; simp
  ·rw [if_neg h, if_neg]
   intro hall
   apply h
   apply List.ext_getElem?
   intro i
   by_cases hi : i < xs.length
   ·have := List.all_eq_true.1 hall i (by simpa using hi)
    simpa using this
   ·rw [List.getElem?_eq_none (by omega), List.getElem?_eq_none (by omega)]
 ·intro i hi
  obtain ⟨x, hx⟩ := Qy hi
  obtain ⟨y, hy⟩ := Qy (show i < ys.length by omega)
  simp only [Qn, hx, hy, Option.bind_some, Option.some.injEq]
  by_cases e : x = y
  ·have : t x y = false := by
    cases ht' : t x y with
    | false => rfl
    | true => exact absurd e ((ht x y).1 ht')
   subst e
   simp [this]
  ·simp [(ht x y).2 e, e]
theorem QkN (xs ys : List Int) : QZ xs ys = some (decide (xs = ys)) := by
 unfold QZ
 by_cases h : xs.length = ys.length
 ·rw [if_neg (by simp [h]), Qnl (fun x y => !decide (x = y)) (by simp) xs ys h]
  by_cases e : xs = ys <;> simp [e]
 ·rw [if_pos (by simp; omega)]
  have : xs ≠ ys := fun e => h (by rw [e])
  simp [this]
theorem Qop (xs ys : List Int) : Qcf xs ys = some (decide (xs = ys)) := QkN xs ys
end Go.Pw
/- -/
set_option maxHeartbeats 4000000
namespace Go.Pw
theorem Qe1 (a b : System) (l : Nat) : (Qhm a b l).length = (Jl a l).length * (Jl b l).length := by
 unfold Qhm
 induction Jl a l with
 | nil => simp
 | cons d r ih => rw [List.flatMap_cons, List.length_append, ih, List.length_map, List.length_cons, Nat.succ_mul, Nat.add_comm]
theorem Qf6 {a b : System} (ha : VSys a) (hb : VSys b) (hc : a.Costs = b.Costs) (hs : a.States * b.States ≤ 4096) {C : Nat} (hC : ∀ l, l < a.Costs.length → (Jl a l).length * (Jl b l).length ≤ C) (hm : C * a.Costs.length ≤ 65536) :
  Ok (KJ a b) fun r => r.1 = none ∧ ProdRes a b r.2 ∧ r.2.Edges.length ≤ C * a.Costs.length := by
 have hC1 : ∀ l, l < a.Costs.length → C ≤ 65536 := fun l hl => Nat.le_trans (Nat.le_mul_of_pos_right C (by omega)) hm
 unfold KJ
 have va := Qa1.2 ha
 have vb := Qa1.2 hb
 simp only [tV, va, vb, QkN, hc, Option.bind_some, Bool.not_true, Bool.false_eq_true, if_false, decide_true]
 have s1 := ha.s1; have s2 := ha.s2; have s3 := hb.s1; have s4 := hb.s2; have i0 := ha.i0; have i1 := ha.i1; have j0 := hb.i0; have j1 := hb.i1
 have g1 := ha.g; have g2 := hb.g; have c1 := ha.c; have c2 := hb.c; have e1 := ha.e; have e2 := hb.e
 have m1 := Qfa (x := a.States) (n := b.States) (by omega) (by omega) (by omega) (by omega)
 have m2 := Qfa (x := a.Init) (n := b.States) (by omega) (by omega) (by omega) (by omega)
 have w1 : IntKind.i64.wrap (a.States * b.States) = a.States * b.States := QA (by omega) (by omega)
 have w2 : IntKind.i64.wrap (a.Init * b.States) = a.Init * b.States := QA (by omega) (by omega)
 have w3 : IntKind.i64.wrap (a.Init * b.States + b.Init) = a.Init * b.States + b.Init := QA (by omega) (by omega)
 rw [w1, w2, w3]
 have hng : ¬ 4096 < a.States * b.States := by omega
 simp only [hng, decide_false, Bool.false_eq_true, if_false]
 have hclone : Qx b.Costs = some b.Costs := by
  unfold Qx
  rw [Jh (by simp; omega)]
  simp
 rw [hclone]
 simp only [Option.bind_some]
 refine Ok.must (by simp; omega) ?_
 have hga : a.States.toNat = a.Goals.length := by omega
 have hgb : b.States.toNat = b.Goals.length := by omega
 have hmust : must (decide (b.States ≤ 9223372036854775807)) = some () := by unfold must; rw [if_pos (by simp; omega)]
 simp only [hmust, Option.bind_some, hga, hgb]
 rw [QgM a b (by omega) (by omega) _ (fun _ _ => rfl)]
 simp only [Option.bind_some]
 obtain ⟨L, hL, hL1, hL2⟩ := QdQ a ha
 obtain ⟨M, hM, hM1, hM2⟩ := QdQ b hb
 rw [hL, hM]
 simp only [Option.bind_some, hL1]
 refine Ok.bind (QO (fun i many => 0 ≤ many ∧ many ≤ ((C * i : Nat) : Int)) ?_ ?_ ?_)
 ·constructor
  ·exact Int.le_refl _
  ·exact Int.natCast_nonneg _
 ·rintro i many hi ⟨h1, h2⟩
  rw [Qn, hL2 i hi, Qn, hM2 i (by rw [← hc]; exact hi)]
  simp only [Option.bind_some]
  have hprod := hC i hi
  have hc1 := hC1 i hi
  have htot : C * (i + 1) ≤ C * a.Costs.length := Nat.mul_le_mul_left _ hi
  have hsum : C * (i + 1) = C * i + C := Nat.mul_succ _ _
  have hcast : ((Jl a i).length : Int) * ((Jl b i).length : Int) = (((Jl a i).length * (Jl b i).length : Nat) : Int) := by simp
  rw [hcast, QA (n := (((Jl a i).length * (Jl b i).length : Nat) : Int)) (by omega) (by omega), QA (by omega) (by omega)]
  refine Ok.ret ⟨by omega, by omega⟩
 ·rintro many ⟨h1, h2⟩
  have hno : ¬ 65536 < many := by omega
  simp only [hno, decide_false, Bool.false_eq_true, if_false]
  have hloop : forS (fun i11301 => fun (z12151 : List Edge) => (Qz L (i11301 : Int)).bind fun x13032 =>
    (forS (fun i13040 => fun (l13297 : List Edge) => (Qz x13032 (i13040 : Int)).bind fun x13598 =>
    (Qz M (i11301 : Int)).bind fun x13618 =>
    (forS (fun i13626 => fun (l13676 : List Edge) => (Qz x13618 (i13626 : Int)).bind fun x13775 =>
    (app 24 l13676 [(⟨IntKind.i64.wrap ((IntKind.i64.wrap (x13598.From * b.States)) + x13775.From), (i11301 : Int), IntKind.i64.wrap ((IntKind.i64.wrap (x13598.To * b.States)) + x13775.To)⟩ : Edge)]).bind fun l13802 =>
    some l13802) (x13618.length) 0 l13297).bind (fun (l13676 : List Edge) => some l13676)) (x13032.length) 0 z12151).bind (fun (l13297 : List Edge) => some l13297)) a.Costs.length 0 [] = some (QfG a b) := by
   have := Qeh a.Costs.length (Qhm a b) (s0 := []) (B := fun i11301 => fun (z12151 : List Edge) => (Qz L (i11301 : Int)).bind fun x13032 =>
    (forS (fun i13040 => fun (l13297 : List Edge) => (Qz x13032 (i13040 : Int)).bind fun x13598 =>
    (Qz M (i11301 : Int)).bind fun x13618 =>
    (forS (fun i13626 => fun (l13676 : List Edge) => (Qz x13618 (i13626 : Int)).bind fun x13775 =>
    (app 24 l13676 [(⟨IntKind.i64.wrap ((IntKind.i64.wrap (x13598.From * b.States)) + x13775.From), (i11301 : Int), IntKind.i64.wrap ((IntKind.i64.wrap (x13598.To * b.States)) + x13775.To)⟩ : Edge)]).bind fun l13802 =>
    some l13802) (x13618.length) 0 l13297).bind (fun (l13676 : List Edge) => some l13676)) (x13032.length) 0 z12151).bind (fun (l13297 : List Edge) => some l13297)) ?_
   ·simpa [QfG] using this
   ·intro l s hl hsl
    have hsl' : s.length ≤ 4096 * 65536 := by
     rw [hsl, List.nil_append]
     have hfl := Qb7 (xs := List.range l) (g := Qhm a b) (M := C) fun k hk => by rw [Qe1]; exact hC k (by have := List.mem_range.1 hk; omega)
     have hb2 : (List.range l).length * C ≤ 4096 * 65536 := Nat.mul_le_mul (by simp; omega) (hC1 l hl)
     omega
    have hCl := hC l hl
    have hC1l := hC1 l hl
    simp only [Qn, hL2 l hl, hM2 l (by rw [← hc]; exact hl), Option.bind_some]
    rw [Yr (Jl a l) (fun d => (Jl b l).map fun f => mkE b.States (l : Int) d f) (s0 := s)]
    ·rfl
    ·intro i d t hd ht
     have hdm := K2.1 (List.mem_of_getElem? hd)
     have htl : t.length ≤ 4096 * 65536 + 65536 := by
      rw [ht, List.length_append]
      have : (((Jl a l).take i).flatMap fun d => (Jl b l).map fun f => mkE b.States (l : Int) d f).length ≤ (Jl a l).length * (Jl b l).length := by
       refine Nat.le_trans (Qb7 (M := (Jl b l).length) fun d _ => by rw [List.length_map]; exact Nat.le_refl _) (Nat.mul_le_mul_right _ ?_)
       simp; omega
      omega
     simp only [hd, Option.bind_some]
     rw [Yr (Jl b l) (fun f => [mkE b.States (l : Int) d f]) (s0 := t)]
     ·simp [Kp]
     ·intro j f u hf hu
      have hfm := K2.1 (List.mem_of_getElem? hf)
      have hul : u.length ≤ 4096 * 65536 + 65536 + 65536 := by
       rw [hu, List.length_append, Kp, List.length_map, List.length_take]
       have := Qlg b l
       omega
      simp only [hf, Option.bind_some]
      rw [Qjb ha hb hdm.1 hfm.1, Jh (by simp; omega)]
      rfl
  rw [hloop]
  simp only [Option.bind_some]
  have hall : (QfG a b).length ≤ C * a.Costs.length := by
   have := Qb7 (xs := List.range a.Costs.length) (g := Qhm a b) (M := C) fun k hk => by rw [Qe1]; exact hC k (List.mem_range.1 hk)
   rw [List.length_range, Nat.mul_comm] at this
   exact this
  obtain ⟨k, hk1, hk2, hk3⟩ := Qld (QgH ha hb) (by omega)
  rw [show QcD (QfG a b) = Ku (QfG a b) from rfl, hk1]
  simp only [Option.bind_some]
  refine Ok.ret ⟨Z, ⟨Z, Z, hc.symm, Z, hk2, fun e => (hk3 e).trans (Qjd ha e)⟩, ?_⟩
  have hperm : k.Perm (QfG a b) := (List.perm_ext_iff_of_nodup hk2.nodup (QgH ha hb)).2 hk3
  show k.length ≤ _
  rw [hperm.length_eq]
  have hall' := hall
  rw [hc] at hall'
  exact hall'
theorem QhO {α β : Type} {f : α → List β} {m : Nat} (hf : ∀ g, (f g).length = m) : ∀ gs : List α, (gs.flatMap f).length = gs.length * m
 | [] => by simp
 | g :: gs => by rw [List.flatMap_cons, List.length_append, hf, QhO hf gs, List.length_cons, Nat.add_mul, Nat.one_mul, Nat.add_comm]
theorem ProdRes.v {a b x : System} (h : ProdRes a b x) (ha : VSys a) (hb : VSys b) (hc : a.Costs = b.Costs) (hs : a.States * b.States ≤ 4096) (hl : x.Edges.length ≤ 65536) : VSys x := by
 have s1 := ha.s1; have s2 := hb.s1; have i0 := ha.i0; have i1 := ha.i1; have j0 := hb.i0; have j1 := hb.i1
 have g1 := ha.g; have g2 := hb.g
 have hlin : ∀ u v : Int, 0 ≤ u → u < a.States → 0 ≤ v → v < b.States → 0 ≤ u * b.States + v ∧ u * b.States + v < a.States * b.States := by
  intro u v h1 h2 h3 h4
  have e1 : 0 ≤ u * b.States := Int.mul_nonneg h1 (by omega)
  have e2 : (u + 1) * b.States ≤ a.States * b.States := Int.mul_le_mul_of_nonneg_right (by omega) (by omega)
  rw [Int.add_mul, Int.one_mul] at e2
  omega
 have hpos : 1 ≤ a.States * b.States := by
  have := hlin 0 0 (Int.le_refl _) (by omega) (Int.le_refl _) (by omega)
  omega
 have hi := hlin a.Init b.Init i0 i1 j0 j1
 refine ⟨by rw [h.s]; exact hpos, by rw [h.s]; exact hs, by rw [h.i]; exact hi.1, by rw [h.i, h.s]; exact hi.2, ?_, by rw [h.c]; exact ha.c, hl, by rw [h.c]; exact ha.cost, ?_, ?_⟩
 ·rw [h.g, h.s, ← g1, ← g2]
  unfold Qgl
  rw [QhO (m := b.Goals.length) fun g => by simp]
  simp
 ·intro d hd
  obtain ⟨e, he, f, hf, hef, rfl⟩ := (h.e d).1 hd
  obtain ⟨a1, a2, a3, a4, a5, a6⟩ := ha.edge e he
  obtain ⟨b1, b2, b3, b4, b5, b6⟩ := hb.edge f hf
  have k1 := hlin e.From f.From a1 a2 b1 b2
  have k2 := hlin e.To f.To a3 a4 b3 b4
  rw [h.s, h.c]
  exact ⟨k1.1, k1.2, k2.1, k2.2, a5, a6⟩
 ·intro i d e hd he
  have hp := List.pairwise_iff_getElem.1 h.o
  obtain ⟨h1, rfl⟩ := List.getElem?_eq_some_iff.1 hd
  obtain ⟨h2, rfl⟩ := List.getElem?_eq_some_iff.1 he
  exact hp i (i + 1) h1 h2 (by omega)
end Go.Pw
/- -/
set_option maxHeartbeats 4000000
namespace Go.Pw
theorem Qbb {α : Type} : ∀ {C M : List α}, C.Nodup → (∀ x ∈ C, x ∈ M) → C.length ≤ M.length
 | [], _, _, _ => by simp
 | c :: C, M, hn, h => by
  classical
  obtain ⟨h1, h2⟩ := List.nodup_cons.1 hn
  have hm := h c (by simp)
  have := Qbb (C := C) (M := M.erase c) h2 fun x hx => (List.mem_erase_of_ne (fun e => h1 (by rw [← e]; exact hx))).2 (h x (by simp [hx]))
  rw [List.length_erase_of_mem hm] at this
  have := List.length_pos_of_mem hm
  simp only [List.length_cons]
  omega
def QiD (o : Op) (v : Int) : Nat := (o.Effs.filter fun e => decide (e.Var = v)).length
theorem Qkj (v : Int) (s : List Int) (effs : List Effect) : YT effs v s = s[v.toNat]?.getD 0 ∨ ∃ e ∈ effs, e.Var = v ∧ e.Val = YT effs v s := by
 refine Qd4 (P := fun effs => YT effs v s = s[v.toNat]?.getD 0 ∨ ∃ e ∈ effs, e.Var = v ∧ e.Val = YT effs v s) (.inl Z) ?_ effs
 intro l e ih
 rw [Qc0]
 by_cases hc : e.Var = v ∧ JD e.When s
 ·rw [if_pos hc]
  exact .inr ⟨e, by simp, hc.1, Z⟩
 ·rw [if_neg hc]
  rcases ih with h | ⟨e', he', h⟩
  ·exact .inl h
  ·exact .inr ⟨e', by simp [he'], h⟩
theorem Ql4 {t : Task} {v : Int} {x : System} (ht : GoodT t) (h0 : 0 ≤ v) (h1 : v < (t.Vars.length : Int)) (hx : AtomRes t v x) {l : Nat} {o : Op} (ho : t.Ops[l]? = some o) :
  (Jl x l).length ≤ (JO t.Vars v).toNat + QiD o v * ((JO t.Vars v).toNat - 1) := by
 have hop := ht.op o (List.mem_of_getElem? ho)
 have hd := Kf ht.v h0 h1
 have hnd : (Jl x l).Nodup := List.Pairwise.filter _ (Srt.nodup hx.srt)
 have hsub : ∀ d ∈ Jl x l, d ∈ ((List.range (JO t.Vars v).toNat).map fun (a : Nat) => (⟨(a : Int), (l : Int), (a : Int)⟩ : Edge)) ++
   (o.Effs.filter fun e => decide (e.Var = v)).flatMap fun e => ((List.range (JO t.Vars v).toNat).filter fun (a : Nat) => !decide ((a : Int) = e.Val)).map fun (a : Nat) => (⟨(a : Int), (l : Int), e.Val⟩ : Edge) := by
  intro d hd'
  obtain ⟨hd1, hd2⟩ := K2.1 hd'
  obtain ⟨i, o', ho', hl, σ, s1, s2, s3, s4⟩ := (hx.mem d).1 hd1
  obtain rfl : i = l := by omega
  rw [ho] at ho'; cases ho'
  obtain ⟨y, hy, hy0, hy1⟩ := s1.at h0 h1
  rw [hy] at s2
  have s2 := Zu s2
  obtain ⟨f, lb, g⟩ := d
  simp only at s2 s4 hl
  subst s2 hl
  rw [List.mem_append]
  by_cases e : g = y
  ·left
   rw [List.mem_map]
   exact ⟨y.toNat, by simp; omega, by rw [Int.toNat_of_nonneg hy0, e]⟩
  ·right
   rcases Qkj v σ o.Effs with h | ⟨e', he', hv', hval⟩
   ·rw [hy] at h
    exact absurd (s4.trans h) e
   ·rw [List.mem_flatMap]
    refine ⟨e', by simp [he', hv'], ?_⟩
    rw [List.mem_map]
    refine ⟨y.toNat, ?_, ?_⟩
    ·simp only [List.mem_filter, List.mem_range, Bool.not_eq_true', decide_eq_false_iff_not]
     exact ⟨by omega, by rw [Int.toNat_of_nonneg hy0, hval, ← s4]; exact fun h => e h.symm⟩
    ·rw [Int.toNat_of_nonneg hy0, hval, s4]
 have hlen := Qbb hnd hsub
 rw [List.length_append, List.length_map, List.length_range] at hlen
 refine Nat.le_trans hlen (Nat.add_le_add_left ?_ _)
 unfold QiD
 refine Qb7 (M := (JO t.Vars v).toNat - 1) fun e he => ?_
 rw [List.length_map]
 simp only [List.mem_filter, decide_eq_true_eq] at he
 have her := (hop.eff e he.1).2
 have hv2 := her.2.2.2
 have hv1 := her.2.2.1
 simp only at hv1 hv2
 rw [he.2] at hv2
 have hdv : JO t.Vars v = t.Vars[v.toNat]?.getD 0 := rfl
 have : ((List.range (JO t.Vars v).toNat).filter fun (a : Nat) => !decide ((a : Int) = e.Val)).length < (List.range (JO t.Vars v).toNat).length := by
  rw [List.length_filter_lt_length_iff_exists]
  exact ⟨e.Val.toNat, by simp; omega, by simp; omega⟩
 rw [List.length_range] at this
 omega
theorem Qof : ∀ k, k < 65 → ∀ e, e < 9 → 1 ≤ k → (k + e * (k - 1)) ^ 2 * 16 ^ e ≤ 25 ^ e * k ^ 3 := by decide +kernel
def QoR (o : Op) (m : Nat) : Nat := (o.Effs.filter fun e => decide (e.Var < (m : Int))).length
def EB (f S P : Nat) : Prop := f ^ 2 * 16 ^ S ≤ 25 ^ S * P ^ 3
theorem EB.mul {f g S e P k : Nat} (h : EB f S P) (h' : EB g e k) : EB (f * g) (S + e) (P * k) := by
 unfold EB at *
 have := Nat.mul_le_mul h h'
 have e1 : (f * g) ^ 2 * 16 ^ (S + e) = f ^ 2 * 16 ^ S * (g ^ 2 * 16 ^ e) := by rw [Nat.mul_pow, Nat.pow_add]; ac_rfl
 have e2 : 25 ^ (S + e) * (P * k) ^ 3 = 25 ^ S * P ^ 3 * (25 ^ e * k ^ 3) := by rw [Nat.mul_pow, Nat.pow_add]; ac_rfl
 rw [e1, e2]
 exact this
theorem EB.le {f f' S P : Nat} (h : EB f S P) (hf : f' ≤ f) : EB f' S P := Nat.le_trans (Nat.mul_le_mul_right _ (Nat.pow_le_pow_left hf 2)) h
theorem EB.top {f S P : Nat} (h : EB f S P) (hS : S ≤ 8) (hP : P ≤ 100) : f ≤ 8192 := by
 unfold EB at h
 have h1 : f ^ 2 * 16 ^ 8 ≤ 25 ^ 8 * 100 ^ 3 := by
  have e16 : (16 : Nat) ^ 8 = 16 ^ S * 16 ^ (8 - S) := by rw [← Nat.pow_add]; congr 1; omega
  have e25 : (25 : Nat) ^ 8 = 25 ^ S * 25 ^ (8 - S) := by rw [← Nat.pow_add]; congr 1; omega
  have a1 : (16 : Nat) ^ (8 - S) ≤ 25 ^ (8 - S) := Nat.pow_le_pow_left (by omega) _
  have a2 : P ^ 3 ≤ 100 ^ 3 := Nat.pow_le_pow_left hP 3
  have b1 : f ^ 2 * 16 ^ 8 = f ^ 2 * 16 ^ S * 16 ^ (8 - S) := by rw [e16]; ac_rfl
  have b2 : f ^ 2 * 16 ^ S * 16 ^ (8 - S) ≤ 25 ^ S * P ^ 3 * 25 ^ (8 - S) := Nat.mul_le_mul h a1
  have b3 : 25 ^ S * P ^ 3 * 25 ^ (8 - S) ≤ 25 ^ S * 100 ^ 3 * 25 ^ (8 - S) := Nat.mul_le_mul_right _ (Nat.mul_le_mul_left _ a2)
  have b4 : 25 ^ S * 100 ^ 3 * 25 ^ (8 - S) = 25 ^ 8 * 100 ^ 3 := by rw [e25]; ac_rfl
  rw [b1, ← b4]
  exact Nat.le_trans b2 b3
 by_cases hf : f ≤ 8192
 ·exact hf
 ·have h2 : 8193 ^ 2 * 16 ^ 8 ≤ f ^ 2 * 16 ^ 8 := Nat.mul_le_mul_right _ (Nat.pow_le_pow_left (by omega) 2)
  have := Nat.le_trans h2 h1
  exact absurd this (by decide)
theorem Qns {t : Task} {v : Int} {x : System} (ht : GoodT t) (h0 : 0 ≤ v) (h1 : v < (t.Vars.length : Int)) (hx : AtomRes t v x) {l : Nat} {o : Op} (ho : t.Ops[l]? = some o) (he : o.Effs.length ≤ 8) : EB (Jl x l).length (QiD o v) (JO t.Vars v).toNat := by
 have hd := Kf ht.v h0 h1
 have hle : QiD o v ≤ o.Effs.length := List.length_filter_le _ _
 have h := Qof (JO t.Vars v).toNat (by omega) (QiD o v) (by omega) (by omega)
 exact EB.le (f := (JO t.Vars v).toNat + QiD o v * ((JO t.Vars v).toNat - 1)) h (Ql4 ht h0 h1 hx ho)
theorem AtomRes.vsys {t : Task} {v : Int} {x : System} (ht : GoodT t) (h0 : 0 ≤ v) (h1 : v < (t.Vars.length : Int)) (hx : AtomRes t v x) : VSys x := by
 have hd := Kf ht.v h0 h1
 have hno := ht.no
 obtain ⟨x0, hx0, hx1, hx2⟩ := ht.init.at h0 h1
 have hi := hx.i
 rw [hx0] at hi
 have hi := Zu hi
 have hs := hx.s
 refine ⟨by omega, by omega, by omega, by omega, by rw [hx.gl, hs], by rw [hx.c]; simpa using hno, hx.n, ?_, ?_, ?_⟩
 ·intro c hc
  rw [hx.c] at hc
  obtain ⟨o, ho, rfl⟩ := List.mem_map.1 hc
  exact ⟨(ht.op o ho).c0, (ht.op o ho).c1⟩
 ·intro d hd'
  obtain ⟨i, o, ho, hl, σ, s1, s2, s3, s4⟩ := (hx.mem d).1 hd'
  have hop := ht.op o (List.mem_of_getElem? ho)
  obtain ⟨y, hy, hy0, hy1⟩ := s1.at h0 h1
  have hr := QgO hy hy0 hy1 (effs := o.Effs) fun e he => (hop.eff e he).2
  rw [hy] at s2
  have s2 := Zu s2
  have hlt := (List.getElem?_eq_some_iff.1 ho).1
  rw [hs, hx.c, List.length_map]
  omega
 ·intro i d e hd' he
  have hp := List.pairwise_iff_getElem.1 hx.srt
  obtain ⟨h1, rfl⟩ := List.getElem?_eq_some_iff.1 hd'
  obtain ⟨h2, rfl⟩ := List.getElem?_eq_some_iff.1 he
  exact hp i (i + 1) h1 h2 (by omega)
def Qo4 (t : Task) (m : Nat) (s : List Int) : Prop := ∀ f ∈ t.Goal, f.Var < (m : Int) → s[f.Var.toNat]? = some f.Val
def QoA (t : Task) (o : Op) (m : Nat) (s s' : List Int) : Prop := ∀ (w : Nat) (a b : Int), w < m → s[w]? = some a → s'[w]? = some b → TB t o w a b
structure XRes (t : Task) (m : Nat) (x : System) : Prop where
 v : VSys x
 s : x.States = Ke (t.Vars.take m)
 c : x.Costs = t.Ops.map fun o => o.Cost
 g : ∀ s, StateOK (t.Vars.take m) s → ∃ b, x.Goals[(rk (t.Vars.take m) s).toNat]? = some b ∧ (b = true ↔ Qo4 t m s)
 e : ∀ d, d ∈ x.Edges ↔ ∃ (s s' : List Int) (i : Nat) (o : Op), StateOK (t.Vars.take m) s ∧ StateOK (t.Vars.take m) s' ∧ t.Ops[i]? = some o ∧ d = ⟨rk (t.Vars.take m) s, (i : Int), rk (t.Vars.take m) s'⟩ ∧ QoA t o m s s'
 b : ∀ (l : Nat) (o : Op), t.Ops[l]? = some o → EB (Jl x l).length (QoR o m) (Ke (t.Vars.take m)).toNat
theorem StateOK.one {k : Int} {s : List Int} : StateOK [k] s ↔ ∃ x, s = [x] ∧ 0 ≤ x ∧ x < k := by
 have := StateOK.snoc (vars := []) (k := k) (s := s)
 simp only [List.nil_append] at this
 rw [this]
 constructor
 ·rintro ⟨s', x, rfl, h, h0, h1⟩
  rw [h.eq_nil]
  exact ⟨x, Z, h0, h1⟩
 ·rintro ⟨x, rfl, h0, h1⟩
  exact ⟨[], x, Z, StateOK.nil, h0, h1⟩
theorem Qlf {a b z : System} (hz : ProdRes a b z) (ha : VSys a) (hb : VSys b) (l : Nat) : (Jl z l).length ≤ (Jl a l).length * (Jl b l).length := by
 rw [← Qe1]
 refine Qbb (List.Pairwise.filter _ (Srt.nodup hz.o)) fun d hd => ?_
 obtain ⟨hd1, hd2⟩ := K2.1 hd
 obtain ⟨e, he, f, hf, hef, rfl⟩ := (hz.e d).1 hd1
 have hl : e.Label = (l : Int) := hd2
 unfold Qhm
 rw [List.mem_flatMap]
 refine ⟨e, K2.2 ⟨he, hl⟩, ?_⟩
 rw [List.mem_map]
 exact ⟨f, K2.2 ⟨hf, by rw [← hef]; exact hl⟩, by rw [hl]⟩
end Go.Pw
/- -/
set_option maxHeartbeats 4000000
namespace Go.Pw
def BA (t : Task) : QhV := fun v u w => ∃ (s : List Int) (i : Nat) (o : Op), StateOK t.Vars s ∧ t.Ops[i]? = some o ∧ JD o.Pre s ∧ w = o.Cost ∧ rk t.Vars (JH o.Effs s) = (v : Int) ∧ rk t.Vars s = (u : Int)
def QfF (t : Task) : Nat → Prop := fun i => ∃ s, StateOK t.Vars s ∧ rk t.Vars s = (i : Int) ∧ JD t.Goal s
theorem Qmb {t : Task} (ht : SmallT t) : AOK (BA t) (QfF t) (Ke t.Vars).toNat := by
 have hv1 : ∀ n ∈ t.Vars, 1 ≤ n := fun n hn => (ht.g.v n hn).1
 constructor
 ·rintro v u w ⟨s, i, o, hs, ho, hp, rfl, h1, h2⟩
  have hop := ht.g.op o (List.mem_of_getElem? ho)
  have haok := QdA hs (effs := o.Effs) fun e he => (hop.eff e he).2
  have := QiH hv1 hs
  have := QiH hv1 haok
  exact ⟨by omega, by omega, hop.c0, hop.c1⟩
 ·rintro i ⟨s, hs, h1, _⟩
  have := QiH hv1 hs
  omega
end Go.Pw
/- -/
set_option maxHeartbeats 4000000
namespace Go.Pw
structure WS (n : Nat) (x : System) : Prop where
 s : x.States = (n : Int)
 n1 : n ≤ 4096
 g : x.Goals.length = n
 e : x.Edges.length ≤ 65536
 edge : ∀ d ∈ x.Edges, ∃ f t l : Nat, d = ⟨(f : Int), (l : Int), (t : Int)⟩ ∧ f < n ∧ t < n ∧ ∃ c, x.Costs[l]? = some c ∧ 0 ≤ c ∧ c ≤ 1048576
theorem VSys.ws {x : System} (h : VSys x) : WS x.States.toNat x := by
 have h1 := h.s1; have h2 := h.s2; have h3 := h.g
 refine ⟨by omega, by omega, by omega, h.e, fun d hd => ?_⟩
 obtain ⟨a1, a2, a3, a4, a5, a6⟩ := h.edge d hd
 refine ⟨d.From.toNat, d.To.toNat, d.Label.toNat, ?_, by omega, by omega, ?_⟩
 ·obtain ⟨f, l, t⟩ := d
  simp only [Edge.mk.injEq] at *
  omega
 ·obtain ⟨c, hc⟩ := Qy (xs := x.Costs) (i := d.Label.toNat) (by omega)
  obtain ⟨b1, b2⟩ := h.cost c (List.mem_of_getElem? hc)
  exact ⟨c, hc, b1, b2⟩
def Kz (x : System) (back : Bool) : QhV := fun v u w => ∃ d ∈ x.Edges, ∃ l : Nat, d.Label = (l : Int) ∧ x.Costs[l]? = some w ∧ (if back then d.To = (v : Int) ∧ d.From = (u : Int) else d.From = (v : Int) ∧ d.To = (u : Int))
theorem WS.aok {n : Nat} {x : System} (h : WS n x) (back : Bool) {src : Nat → Prop} (hs : ∀ i, src i → i < n) : AOK (Kz x back) src n := by
 refine ⟨?_, hs⟩
 rintro v u w ⟨d, hd, l, hl, hw, hb⟩
 obtain ⟨f, t, l', rfl, hf, ht, c, hc, c0, c1⟩ := h.edge d hd
 have : l' = l := by simp only at hl; omega
 subst this
 rw [hw] at hc; cases hc
 cases back <;> simp at hb <;> omega
def QdD (x : System) : Nat → Prop := fun i => x.Goals[i]? = some true
end Go.Pw
/- -/
set_option maxHeartbeats 4000000
namespace Go.Pw
def Qbu (Q : List Nat) : List Int := Q.map Int.ofNat
theorem QgG (q : Nat) : Int.ofNat q = (q : Int) := rfl
theorem Qnx {n : Nat} {x : System} (h : WS n x) (back : Bool) : Ok ((mk 24 ([] : (List Arc)) x.States).bind fun l5202 =>
 (forS (fun i5208 => fun (l5432 : (List (List Arc))) => (Qz x.Edges (i5208 : Int)).bind fun x5691 =>
 (Qz x.Costs x5691.Label).bind fun x5742 =>
 (if back then (some (x5691.To, x5691.From))
 else (some (x5691.From, x5691.To))).bind (QM fun (z5763 : Int) (z5764 : Int) => (Qz l5432 z5763).bind fun row5873 =>
 (app 24 row5873 [(⟨z5763, z5764, x5742⟩ : Arc)]).bind fun l5887 =>
 (JG l5432 z5763 l5887).bind fun l5894 =>
 some l5894)) (x.Edges.length) 0 l5202)) fun L => L.length = n ∧ ∀ v, v < n → ∃ row, L[v]? = some row ∧ row.length ≤ 65536 ∧ ∀ a, a ∈ row ↔ ∃ (u : Nat) (w : Int), a = ⟨(v : Int), (u : Int), w⟩ ∧ Kz x back v u w := by
 have hn := h.n1
 have he := h.e
 rw [h.s]
 refine Ok.step (Qb0 (by omega) (by omega)) ?_
 refine QO (fun i L => L.length = n ∧ ∀ v, v < n → ∃ row, L[v]? = some row ∧ row.length ≤ i ∧ ∀ a, a ∈ row ↔ ∃ (u : Nat) (w : Int), a = ⟨(v : Int), (u : Int), w⟩ ∧ ∃ d ∈ x.Edges.take i, ∃ l : Nat, d.Label = (l : Int) ∧ x.Costs[l]? = some w ∧ (if back then d.To = (v : Int) ∧ d.From = (u : Int) else d.From = (v : Int) ∧ d.To = (u : Int))) ?_ ?_ ?_
 ·exact ⟨by simp, fun v hv => ⟨[], by simp [hv], by simp, by simp⟩⟩
 ·rintro i L hi ⟨h1, h2⟩
  obtain ⟨d, hd⟩ := Qy hi
  obtain ⟨f, t, lb, rfl, hf, ht, c, hc, c0, c1⟩ := h.edge d (List.mem_of_getElem? hd)
  have key : ∀ (v u : Nat), v < n → (∀ (v' u' : Nat), (if back then (t : Int) = (v' : Int) ∧ (f : Int) = (u' : Int) else (f : Int) = (v' : Int) ∧ (t : Int) = (u' : Int)) ↔ v' = v ∧ u' = u) →
    Ok ((Qz L (v : Int)).bind fun row5873 => (app 24 row5873 [(⟨(v : Int), (u : Int), c⟩ : Arc)]).bind fun l5887 => (JG L (v : Int) l5887).bind fun l5894 => some l5894)
    (fun L => L.length = n ∧ ∀ v, v < n → ∃ row, L[v]? = some row ∧ row.length ≤ i + 1 ∧ ∀ a, a ∈ row ↔ ∃ (u : Nat) (w : Int), a = ⟨(v : Int), (u : Int), w⟩ ∧ ∃ d ∈ x.Edges.take (i + 1), ∃ l : Nat, d.Label = (l : Int) ∧ x.Costs[l]? = some w ∧ (if back then d.To = (v : Int) ∧ d.From = (u : Int) else d.From = (v : Int) ∧ d.To = (u : Int))) := by
   intro v u hv hvu
   obtain ⟨row, hrow, hlen, hmem⟩ := h2 v hv
   rw [Qn, hrow]
   simp only [Option.bind_some]
   refine Ok.step (Jh (by simp only [List.length_singleton]; omega)) (Ok.step (QX (by omega)) (Ok.ret ⟨by simp [h1], fun v' hv' => ?_⟩))
   have hpart : ∀ (u' : Nat) (w : Int), (∃ d ∈ x.Edges.take (i + 1), ∃ l : Nat, d.Label = (l : Int) ∧ x.Costs[l]? = some w ∧ (if back then d.To = (v' : Int) ∧ d.From = (u' : Int) else d.From = (v' : Int) ∧ d.To = (u' : Int))) ↔
     (∃ d ∈ x.Edges.take i, ∃ l : Nat, d.Label = (l : Int) ∧ x.Costs[l]? = some w ∧ (if back then d.To = (v' : Int) ∧ d.From = (u' : Int) else d.From = (v' : Int) ∧ d.To = (u' : Int))) ∨ (w = c ∧ v' = v ∧ u' = u) := by
    intro u' w
    rw [List.take_add_one, hd]
    simp only [Option.toList_some, List.mem_append, List.mem_singleton, exists_or, or_and_right, exists_eq_left, hvu]
    constructor
    ·rintro (h | ⟨l, hl, hw, hb⟩)
     ·exact .inl h
     ·have : lb = l := by omega
      subst this
      rw [hc] at hw; cases hw
      exact .inr ⟨Z, hb⟩
    ·rintro (h | ⟨rfl, hb⟩)
     ·exact .inl h
     ·exact .inr ⟨lb, Z, hc, hb⟩
   by_cases e : v' = v
   ·subst e
    refine ⟨row ++ [⟨(v' : Int), (u : Int), c⟩], by simp [h1, hv], by simp; omega, fun a => ?_⟩
    rw [List.mem_append, hmem, List.mem_singleton]
    constructor
    ·rintro (⟨u', w, rfl, hh⟩ | rfl)
     ·exact ⟨u', w, Z, (hpart u' w).2 (.inl hh)⟩
     ·exact ⟨u, c, Z, (hpart u c).2 (.inr ⟨Z, Z, Z⟩)⟩
    ·rintro ⟨u', w, rfl, hh⟩
     rcases (hpart u' w).1 hh with hh | ⟨rfl, _, rfl⟩
     ·exact .inl ⟨u', w, Z, hh⟩
     ·exact .inr Z
   ·obtain ⟨row', hrow', hlen', hmem'⟩ := h2 v' hv'
    refine ⟨row', by rw [List.getElem?_set_ne (Ne.symm e)]; exact hrow', by omega, fun a => ?_⟩
    rw [hmem']
    constructor
    ·rintro ⟨u', w, rfl, hh⟩
     exact ⟨u', w, Z, (hpart u' w).2 (.inl hh)⟩
    ·rintro ⟨u', w, rfl, hh⟩
     rcases (hpart u' w).1 hh with hh | ⟨_, h, _⟩
     ·exact ⟨u', w, Z, hh⟩
     ·exact absurd h e
  simp only [Qn, hd, hc, Option.bind_some]
  cases back with
  | true =>
   simp only [if_true, Option.bind_some, QM]
   exact key t f ht (by intro v' u'; simp; omega)
  | false =>
   simp only [Bool.false_eq_true, if_false, Option.bind_some, QM]
   exact key f t hf (by intro v' u'; simp; omega)
 ·rintro L ⟨h1, h2⟩
  refine ⟨h1, fun v hv => ?_⟩
  obtain ⟨row, hrow, hlen, hmem⟩ := h2 v hv
  refine ⟨row, hrow, by omega, fun a => ?_⟩
  rw [hmem, List.take_length]
  rfl
structure QS (n : Nat) (Q : List Nat) (ws : List Bool) (ls : List Int) : Prop where
 l : ls = Qbu Q
 nd : Q.Nodup
 lt : ∀ q ∈ Q, q < n
 wl : ws.length = n
 w : ∀ j, j < n → ws[j]? = some (decide (j ∈ Q))
theorem Qjs {n : Nat} {x : System} (h : WS n x) (back : Bool) {S : List Nat} (hS : S.Nodup) (hSn : ∀ i ∈ S, i < n) : Ok (K7 x (Qbu S) back) (SP (Kz x back) (fun i => i ∈ S) n) := by
 have hA : AOK (Kz x back) (fun i => i ∈ S) n := h.aok back hSn
 have hn := h.n1
 have hI : (Inf : Int) = 1125899906842624 := rfl
 have hSl : S.length ≤ n := nodup_short' hS hSn
 unfold K7
 obtain ⟨L, hL, hL1, hL2⟩ := Qnx h back
 obtain ⟨L0, hL0, hL0'⟩ := V hL
 refine Ok.step hL0 (Ok.step hL0' ?_)
 rw [h.s]
 refine Ok.step (Qb0 (by omega) (by omega)) (Ok.bind ?_)
 refine QO (fun i l => l.length = n ∧ ∀ j, j < i → l[j]? = some Inf) ⟨by simp, by simp⟩ ?_ ?_
 ·rintro i l hi ⟨h1, h2⟩
  have hi' : i < n := by simpa using hi
  obtain ⟨y, hy⟩ := Qy (xs := l) (i := i) (by omega)
  simp only [Qn, hy, Option.bind_some, QX (show i < l.length by omega)]
  refine Ok.ret ⟨by simp [h1], fun j hj => ?_⟩
  by_cases e : j = i
  ·subst e; simp [h1, hi']
  ·rw [List.getElem?_set_ne (Ne.symm e)]; exact h2 j (by omega)
 rintro l1 ⟨hl1, hl2⟩
 have hl2' : ∀ j, j < n → l1[j]? = some Inf := fun j hj => hl2 j (by simpa using hj)
 refine Ok.step (Qb0 (by omega) (by omega)) ?_
 have hclone : Qx (Qbu S) = some (Qbu S) := by
  unfold Qx
  rw [Jh (by simp [Qbu]; omega)]
  simp
 refine Ok.step hclone (Ok.bind ?_)
 refine QO (fun i s => s.1.length = n ∧ s.2.length = n ∧ (∀ j, j < n → s.1[j]? = some (if j ∈ S.take i then 0 else Inf)) ∧ ∀ j, j < n → s.2[j]? = some (decide (j ∈ S.take i))) ?_ ?_ ?_
 ·exact ⟨hl1, by simp, fun j hj => by simp [hl2' j hj], fun j hj => by simp [hj]⟩
 ·rintro i ⟨o, ws⟩ hi ⟨h1, h2, h3, h4⟩
  simp only at h1 h2 h3 h4
  have hi' : i < S.length := by simpa [Qbu] using hi
  obtain ⟨q, hq⟩ := Qy hi'
  have hqn := hSn q (List.mem_of_getElem? hq)
  have hiq : Qz (Qbu S) (i : Int) = some (q : Int) := by rw [Qn]; simp [Qbu, hq, QgG]
  simp only [QM, hiq, Option.bind_some, Qn, h3 q hqn, h4 q hqn, QX (show q < o.length by omega), QX (show q < ws.length by omega)]
  refine Ok.ret ⟨by simp [h1], by simp [h2], fun j hj => ?_, fun j hj => ?_⟩
  ·rw [List.take_add_one, hq]
   by_cases e : j = q
   ·subst e; simp [h1, hj]
   ·rw [List.getElem?_set_ne (Ne.symm e), h3 j hj]; simp [e]
  ·rw [List.take_add_one, hq]
   by_cases e : j = q
   ·subst e; simp [h2, hj]
   ·rw [List.getElem?_set_ne (Ne.symm e), h4 j hj]; simp [e]
 rintro ⟨o1, ws1⟩ ⟨ho1, hw1, ho2, hw2⟩
 simp only at ho1 hw1 ho2 hw2
 have hlen : (Qbu S).length = S.length := by simp [Qbu]
 rw [hlen, List.take_length] at ho2 hw2
 have hD : Dst (Kz x back) (fun i => i ∈ S) n o1 := by
  refine ⟨ho1, fun i y hy => ?_, fun i hi => ?_, fun i y hy hlt => ?_⟩
  ·have hi : i < n := by have := (List.getElem?_eq_some_iff.1 hy).1; omega
   rw [ho2 i hi] at hy
   cases hy
   split <;> omega
  ·rw [ho2 i (hSn i hi), if_pos hi]
  ·have hi : i < n := by have := (List.getElem?_eq_some_iff.1 hy).1; omega
   rw [ho2 i hi] at hy
   by_cases hs : i ∈ S
   ·rw [if_pos hs] at hy; cases hy; exact .base hs
   ·rw [if_neg hs] at hy; cases hy; omega
 refine K3 (fun s : List Int × List Bool × List Int => ∃ Q, QS n Q s.2.1 s.2.2 ∧ Dst (Kz x back) (fun i => i ∈ S) n s.1 ∧ ∀ v, v ∉ Q → QiG (Kz x back) s.1 v) (fun s => SP (Kz x back) (fun i => i ∈ S) n s.1) (fun _ => False) (fun s => 2 * tot s.1 + s.2.2.length)
  ⟨S, ⟨rfl, hS, hSn, hw1, hw2⟩, hD, fun v hv u w a b ha hb _ hlt => ?_⟩ ?_ (fun _ h => h.elim) ?_
 ·have hvn := (hA.a v u w ha).1
  simp only at hb
  rw [ho2 v hvn, if_neg hv] at hb
  cases hb
  omega
 ·rintro ⟨o, ws, ls⟩ ⟨Q, hQ, hDo, hCl⟩
  simp only at hQ hDo hCl
  cases Q with
  | nil =>
   have hls : ls = [] := by rw [hQ.l]; rfl
   subst hls
   exact ⟨.brk (o, ws, []), Z, by simp, fun s' e => by cases e; exact { hDo with cl := fun v => hCl v (by simp) }, by simp⟩
  | cons q Q =>
   have hls : ls = (q : Int) :: Qbu Q := by rw [hQ.l]; rfl
   obtain ⟨hqQ, hndQ⟩ := List.nodup_cons.1 hQ.nd
   have hqn : q < n := hQ.lt q (by simp)
   obtain ⟨row, hrow, hrl, hrm⟩ := hL2 q hqn
   obtain ⟨xq, hxq⟩ := Qy (xs := o) (i := q) (by rw [hDo.len]; exact hqn)
   have rxq := hDo.rng q xq hxq
   have hcut : cut ls 1 (ls.length : Int) = some (Qbu Q) := by unfold cut; rw [if_pos (by rw [hls]; simp; omega)]; rw [hls]; simp
   have hwq := hQ.w q hqn
   have hpos : (0 : Int) < (ls.length : Int) := by rw [hls]; simp
   have hi0 : Qz ls 0 = some (q : Int) := by rw [hls]; rfl
   suffices hin : Ok (forS (fun i23833 => un3 fun (l24123 : (List Int)) (l24124 : (List Bool)) (l24125 : (List Int)) => (Qz row (i23833 : Int)).bind fun x24458 =>
     (Qz l24123 (q : Int)).bind fun x24516 =>
     (Qz l24123 x24458.To).bind fun x24523 =>
     if decide (x24523 ≤ (IntKind.i64.wrap (x24516 + x24458.Weight))) then (some (l24123, l24124, l24125))
     else ((JG l24123 x24458.To (IntKind.i64.wrap (x24516 + x24458.Weight))).bind fun l24572 =>
     (Qz l24124 x24458.To).bind fun x24584 =>
     (if !x24584 then ((app 8 l24125 [x24458.To]).bind fun l24696 =>
     (JG l24124 x24458.To true).bind fun l24705 =>
     some (l24705, l24696))
     else (some (l24124, l24125))).bind (QM fun (l24647 : (List Bool)) (l24648 : (List Int)) => some (l24572, l24647, l24648)))) (row.length) 0 (o, ws.set q false, Qbu Q))
     (fun s => ∃ Q2, QS n Q2 s.2.1 s.2.2 ∧ Dst (Kz x back) (fun i => i ∈ S) n s.1 ∧ (∀ v, v ∉ Q2 → QiG (Kz x back) s.1 v) ∧ 2 * tot s.1 + Q2.length ≤ 2 * tot o + Q.length) by
    obtain ⟨⟨o', ws', ls'⟩, hr, Q2, g1, g2, g3, g4⟩ := hin
    simp only at g1 g2 g3 g4
    refine ⟨.next (o', ws', ls'), ?_, fun s' e => ?_, by simp, by simp⟩
    ·simp only [un3, hpos, decide_true, if_true, hi0, hcut, Qn, hwq, QX (show q < ws.length by rw [hQ.wl]; exact hqn), hrow, Option.bind_some]
     have hmust : must (decide (row.length ≤ 9223372036854775807)) = some () := by unfold must; rw [if_pos (by simp; omega)]
     rw [hmust]
     simp only [Option.bind_some]
     show ((forS _ _ 0 (o, ws.set q false, Qbu Q)).bind _) = _
     simp only [un3, Qn] at hr
     rw [hr]
     rfl
    ·cases e
     refine ⟨⟨Q2, g1, g2, g3⟩, ?_⟩
     have e1 : ls'.length = Q2.length := by rw [g1.l]; simp [Qbu]
     have e2 : ls.length = Q.length + 1 := by rw [hls]; simp [Qbu]
     simp only [e1, e2]
     omega
   refine QO (fun i s => ∃ Q2, QS n Q2 s.2.1 s.2.2 ∧ q ∉ Q2 ∧ Dst (Kz x back) (fun i => i ∈ S) n s.1 ∧ s.1[q]? = some xq ∧ (∀ v, v ∉ Q2 → v ≠ q → QiG (Kz x back) s.1 v) ∧
    (∀ (u : Nat) (w y : Int), (⟨(q : Int), (u : Int), w⟩ : Arc) ∈ row.take i → s.1[u]? = some y → y ≤ xq + w) ∧ 2 * tot s.1 + Q2.length ≤ 2 * tot o + Q.length) ?_ ?_ ?_
   ·refine ⟨Q, ⟨Z, hndQ, fun q' h' => hQ.lt q' (by simp [h']), by simp [hQ.wl], fun j hj => ?_⟩, hqQ, hDo, hxq, fun v hv hne => hCl v (by simp [hv, hne]), by simp, Nat.le_refl _⟩
    by_cases e : j = q
    ·subst e; simp [hQ.wl, hj, hqQ]
    ·simp only
     rw [List.getElem?_set_ne (Ne.symm e), hQ.w j hj]; simp [e]
   ·rintro i ⟨k, ws', ls'⟩ hi ⟨Q2, g1, g2, g3, g4, g5, g6, g7⟩
    simp only at g1 g2 g3 g4 g5 g6 g7
    obtain ⟨a, ha⟩ := Qy hi
    obtain ⟨u, w, rfl, harc⟩ := (hrm a).1 (List.mem_of_getElem? ha)
    obtain ⟨_, hu, hw0, hw1'⟩ := hA.a q u w harc
    obtain ⟨y, hy⟩ := Qy (xs := k) (i := u) (by rw [g3.len]; exact hu)
    have ry := g3.rng u y hy
    have hwr : IntKind.i64.wrap (xq + w) = xq + w := QA (by omega) (by omega)
    have htk : row.take (i + 1) = row.take i ++ [⟨(q : Int), (u : Int), w⟩] := by rw [List.take_add_one, ha]; rfl
    simp only [un3, Qn, ha, g4, hy, Option.bind_some, hwr]
    by_cases hle : y ≤ xq + w
    ·simp only [hle, decide_true, if_true]
     refine Ok.ret ⟨Q2, g1, g2, g3, g4, g5, ?_, g7⟩
     intro u' w' y' hm hy'
     rw [htk] at hm
     rcases List.mem_append.1 hm with hm | hm
     ·exact g6 u' w' y' hm hy'
     ·simp only [List.mem_singleton, Arc.mk.injEq] at hm
      obtain ⟨_, e1, e2⟩ := hm
      have e1' : u' = u := by omega
      subst e1' e2
      simp only at hy'
      rw [hy] at hy'; cases hy'; exact hle
    ·have hlt : xq + w < y := by omega
     have huq : u ≠ q := by
      rintro rfl
      rw [g4] at hy; cases hy; omega
     have hD' := g3.set hA harc g4 hy hlt
     have hq' : (k.set u (xq + w))[q]? = some xq := by rw [List.getElem?_set_ne huq]; exact g4
     have hmono : ∀ (v : Nat) (b : Int), (k.set u (xq + w))[v]? = some b → ∃ b', k[v]? = some b' ∧ b ≤ b' := by
      intro v b hb
      by_cases e : u = v
      ·subst e
       rw [List.getElem?_set_self (by rw [g3.len]; exact hu)] at hb
       cases hb
       exact ⟨y, hy, by omega⟩
      ·rw [List.getElem?_set_ne e] at hb; exact ⟨b, hb, Int.le_refl _⟩
     have htot := Qif (l := k) (u := u) (y := y) (z := xq + w) hy (by omega) hlt
     have hcl' : ∀ Q3 : List Nat, u ∈ Q3 → (∀ v, v ∉ Q3 → v ∉ Q2) → ∀ v, v ∉ Q3 → v ≠ q → QiG (Kz x back) (k.set u (xq + w)) v := by
      intro Q3 hu3 hsub v hv hvq u2 w2 a2 b2 harc2 ha2 hb2 hlt2
      have hvu : u ≠ v := by rintro rfl; exact hv hu3
      rw [List.getElem?_set_ne hvu] at ha2
      obtain ⟨b', hb', hle'⟩ := hmono u2 b2 hb2
      have := g5 v (hsub v hv) hvq u2 w2 a2 b' harc2 ha2 hb' hlt2
      omega
     have hproc : ∀ (u' : Nat) (w' y' : Int), (⟨(q : Int), (u' : Int), w'⟩ : Arc) ∈ row.take (i + 1) → (k.set u (xq + w))[u']? = some y' → y' ≤ xq + w' := by
      intro u' w' y' hm hy'
      rw [htk] at hm
      rcases List.mem_append.1 hm with hm | hm
      ·obtain ⟨b', hb', hle'⟩ := hmono u' y' hy'
       have := g6 u' w' b' hm hb'
       omega
      ·simp only [List.mem_singleton, Arc.mk.injEq] at hm
       obtain ⟨_, e1, e2⟩ := hm
       have e1' : u' = u := by omega
       subst e1' e2
       rw [List.getElem?_set_self (by rw [g3.len]; exact hu)] at hy'
       cases hy'; exact Int.le_refl _
     simp only [hle, decide_false, Bool.false_eq_true, if_false, QX (show u < k.length by rw [g3.len]; exact hu), g1.w u hu, Option.bind_some]
     by_cases hin : u ∈ Q2
     ·simp only [hin, decide_true, Bool.not_true, Bool.false_eq_true, if_false, Option.bind_some, QM]
      exact Ok.ret ⟨Q2, g1, g2, hD', hq', hcl' Q2 hin (fun v hv => hv), hproc, by simp only; omega⟩
     ·have hQl := nodup_short' g1.nd g1.lt
      have hll : ls'.length = Q2.length := by rw [g1.l]; simp [Qbu]
      simp only [hin, decide_false, Bool.not_false, if_true, Option.bind_some, QM, Jh (show (ls'.length + [((u : Nat) : Int)].length) * 8 ≤ 140737488355328 by rw [hll, List.length_singleton]; omega), QX (show u < ws'.length by rw [g1.wl]; exact hu)]
      refine Ok.ret ⟨Q2 ++ [u], ⟨by rw [g1.l]; simp [Qbu], ?_, ?_, by simp [g1.wl], fun j hj => ?_⟩, ?_, hD', hq', hcl' _ (by simp) (fun v hv h' => hv (by simp [h'])), hproc, ?_⟩
      ·exact List.nodup_append.2 ⟨g1.nd, by simp, fun a hma b hmb e => by simp only [List.mem_singleton] at hmb; exact hin (hmb ▸ e ▸ hma)⟩
      ·intro q' h'
       rcases List.mem_append.1 h' with h' | h'
       ·exact g1.lt q' h'
       ·simp at h'; subst h'; exact hu
      ·by_cases e : j = u
       ·subst e; simp [g1.wl, hj]
       ·simp only
        rw [List.getElem?_set_ne (Ne.symm e), g1.w j hj]; simp [e]
      ·simp [g2, Ne.symm huq]
      ·simp only [List.length_append, List.length_singleton]; omega
   ·rintro ⟨k, ws', ls'⟩ ⟨Q2, g1, g2, g3, g4, g5, g6, g7⟩
    refine ⟨Q2, g1, g3, fun v hv => ?_, g7⟩
    by_cases e : v = q
    ·subst e
     intro u w a b harc ha hb hlt
     simp only at ha hb g4 g6
     rw [g4] at ha; cases ha
     exact g6 u w b (by rw [List.take_length]; exact (hrm _).2 ⟨u, w, Z, harc⟩) hb
    ·exact g5 v hv e
 ·rintro ⟨o, ws, ls⟩ hsp
  exact Ok.ret hsp
end Go.Pw
/- -/
set_option maxHeartbeats 4000000
namespace Go.Pw
theorem Qm3 {n : Nat} {x : System} (h : WS n x) : Ok (Yh x) fun l => ∃ S : List Nat, l = Qbu S ∧ S.Nodup ∧ (∀ i ∈ S, i < n) ∧ ∀ i, i ∈ S ↔ QdD x i := by
 have hn := h.n1
 unfold Yh
 refine Ok.bind (QO (fun i l => ∃ S : List Nat, l = Qbu S ∧ S.Nodup ∧ (∀ j ∈ S, j < i) ∧ ∀ j, j ∈ S ↔ j < i ∧ x.Goals[j]? = some true) ?_ ?_ ?_)
 ·exact ⟨[], Z, List.Pairwise.nil, by simp, by simp⟩
 ·rintro i l hi ⟨S, rfl, h1, h2, h3⟩
  obtain ⟨g, hg⟩ := Qy hi
  have hgl := h.g
  rw [Qn, hg]
  simp only [Option.bind_some]
  cases g with
  | true =>
   have hSl := nodup_short' h1 h2
   simp only [if_true, Jh (show ((Qbu S).length + [(i : Int)].length) * 8 ≤ 140737488355328 by simp [Qbu]; omega), Option.bind_some]
   refine Ok.ret ⟨S ++ [i], by simp [Qbu, QgG], ?_, ?_, fun j => ?_⟩
   ·exact List.nodup_append.2 ⟨h1, by simp, fun a ha b hb e => by simp only [List.mem_singleton] at hb; have := h2 a ha; omega⟩
   ·intro j hj
    rcases List.mem_append.1 hj with hj | hj
    ·have := h2 j hj; omega
    ·simp at hj; omega
   ·rw [List.mem_append, h3, List.mem_singleton]
    constructor
    ·rintro (⟨a, b⟩ | rfl)
     ·exact ⟨by omega, b⟩
     ·exact ⟨by omega, hg⟩
    ·rintro ⟨a, b⟩
     by_cases e : j = i
     ·exact .inr e
     ·exact .inl ⟨by omega, b⟩
  | false =>
   simp only [Bool.false_eq_true, if_false, Option.bind_some]
   refine Ok.ret ⟨S, Z, h1, fun j hj => by have := h2 j hj; omega, fun j => ?_⟩
   rw [h3]
   constructor
   ·rintro ⟨a, b⟩; exact ⟨by omega, b⟩
   ·rintro ⟨a, b⟩
    refine ⟨?_, b⟩
    by_cases e : j = i
    ·subst e; rw [hg] at b; cases b
    ·omega
 ·rintro l ⟨S, rfl, h1, h2, h3⟩
  refine Ok.ret ⟨S, Z, h1, fun i hi => by have := h2 i hi; have := h.g; omega, fun i => ?_⟩
  rw [h3]
  unfold QdD
  constructor
  ·exact fun h => h.2
  ·exact fun h => ⟨(List.getElem?_eq_some_iff.1 h).1, h⟩
theorem SP.congr {A : QhV} {s t : Nat → Prop} {n : Nat} {l : List Int} (h : SP A s n l) (e : ∀ i, s i ↔ t i) : SP A t n l := by
 have : s = t := funext fun i => propext (e i)
 subst this; exact h
theorem QkG {x : System} (hv : VSys x) : Ok (Kq x) fun r => r.2 = none ∧ SP (Kz x true) (QdD x) x.States.toNat r.1 := by
 unfold Kq
 simp only [tV, Qa1.2 hv, Option.bind_some, Bool.not_true, Bool.false_eq_true, if_false]
 obtain ⟨l, hl, S, rfl, h1, h2, h3⟩ := Qm3 hv.ws
 refine Ok.step hl (Ok.bind ((Qjs hv.ws true h1 h2).mono fun r hr => Ok.ret ⟨Z, hr.congr h3⟩))
theorem QoS {x : System} (hv : VSys x) : AOK (Kz x true) (QdD x) x.States.toNat := hv.ws.aok true fun i hi => by
 have := (List.getElem?_eq_some_iff.1 hi).1
 have := hv.g
 omega
end Go.Pw
