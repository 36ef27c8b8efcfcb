/- -/
import Derived.Test.YtpjojkomdndamaaGreatDoorLA
import Derived.Test.YtpjojkomdndamaaGreatDoorL7
import Derived.Test.YtpjojkomdndamaaGreatDoorL10
set_option linter.unusedSimpArgs false
namespace Go.Pw
def Qcc (N : Nat) (ops : Array Oper) : Nat → List Oper → Fr → Option (List Oper × Fr)
 | 0, l, f => some (l, f)
 | _ + 1, [], _ => none
 | n + 1, o :: r, f =>
  match QcG N o.dst, o.guard with
  | true, some (j, b) => match J6 ops f j with
   | some c => match c == b with
    | false => Qcc N ops n r (JA f o.dst undef)
    | true => none
   | none => Qcc N ops n r (JA f o.dst undef)
  | true, none => match o.op with
   | .move x => match ev f x with
    | .bool c => Qcc N ops n r (JA f o.dst (.bool c))
    | _ => none
   | .assign x => match ev f x with
    | .bool c => Qcc N ops n r (JA f o.dst (.bool c))
    | _ => none
   | .pick c a b => match ev f c with
    | .bool true => (match ev f a with
     | .bool v => Qcc N ops n r (JA f o.dst (.bool v))
     | _ => none)
    | .bool false => (match ev f b with
     | .bool v => Qcc N ops n r (JA f o.dst (.bool v))
     | _ => none)
    | _ => none
   | _ => none
  | _, _ => none
theorem Qz {P : Program} {N : Nat} {ops : Array Oper} {Q : Qb7} {w : World} : ∀ (n : Nat) {l l' : List Oper} {f f' : Fr}, Qcc N ops n l f = some (l', f') → WL P N ops Q l' f' w → WL P N ops Q l f w
 | 0, l, l', f, f', h, hk => by
  simp only [Qcc, Option.some.injEq, Prod.mk.injEq] at h
  obtain ⟨rfl, rfl⟩ := h
  exact hk
 | n + 1, [], l', f, f', h, hk => by simp [Qcc] at h
 | n + 1, o :: r, l', f, f', h, hk => by
  unfold Qcc at h
  split at h
  ·rename_i j b hd hg
   split at h
   ·rename_i c hy
    split at h
    ·rename_i hc
     exact Zl hg hy hc hd (Qz n h hk)
    ·cases h
   ·rename_i hy
    exact QhS hg hy hd (Qz n h hk)
  ·rename_i hd hg
   split at h
   ·rename_i x ho
    split at h
    ·rename_i c hv
     exact O hg hd (Zm ho hv (Qz n h hk))
    ·cases h
   ·rename_i x ho
    split at h
    ·rename_i c hv
     exact O hg hd (Zo ho hv (Qz n h hk))
    ·cases h
   ·rename_i c a b ho
    split at h
    ·rename_i hc
     split at h
     ·rename_i v hv
      exact O hg hd (Zs ho hc hv (Qz n h hk))
     ·cases h
    ·rename_i hc
     split at h
     ·rename_i v hv
      exact O hg hd (QB ho hc hv (Qz n h hk))
     ·cases h
    ·cases h
   ·cases h
  ·cases h
end Go.Pw
/- -/
namespace Go.Pw
theorem Qmc {H α : Type} {enc : TypeId × Value → H} {P : Program} {w : World} {base : Nat} {spare : Nat → Bool} {held : Bool} {T e : TypeId} {v : Value} {d : DataW H} {ps : List MemPlace} {E : Enc α} {s : PHeap} {xs : List α} {k : Nat} (hT : P.underlying T = some (.slice e)) (hk : P.bytesOf e = k)
  (ht : DataW.Trod enc P w base spare held T v d ps) (hw : (d.weights P T).all (· ≤ reachBytes) = true) (hr : SliceRep E s v xs) : xs.length * k ≤ 140737488351232 := by
 obtain ⟨fuel, hf⟩ := ht
 rcases hr with ⟨rfl, rfl⟩ | ⟨a, cap, rfl, rfl⟩ | ⟨b, off, cap, c, T', fz, cells, rfl, h1, h2, h3, h4, h5⟩
 ·simp
 ·simp
 ·rcases DataW.trod_slice hT hf with ⟨h, _⟩ | ⟨a, len, cap', elems, rest, n, _, hc, hx, _, _, _, hlen, _⟩
  ·simp [Value.cells] at h
  ·simp only [Value.cells, List.cons.injEq, Value.slice.injEq, and_true] at hc
   obtain ⟨_, hl, _⟩ := hc
   simp only [Prod.mk.injEq] at hx
   obtain ⟨rfl, _⟩ := hx
   simp only [DataW.weights, hT, List.all_cons, Bool.and_eq_true, decide_eq_true_eq, List.length_map, hk] at hw
   have h6 := hw.1
   unfold reachBytes at h6
   have : xs.length * k ≤ (elems.length + rest.length) * k := Nat.mul_le_mul_right _ (by omega)
   omega
end Go.Pw
/- -/
namespace Go.Pw
def qs : Nat → Nat → DPlan → DPlan
 | _, 0, r => r
 | i, n + 1, r => .q i (qs (i + 1) n r)
def Qh6 (o : Oper) (f : Fr) : Option Bool := match o.op with
 | .move x => (match ev f x with
  | .bool c => some c
  | _ => none)
 | .assign x => (match ev f x with
  | .bool c => some c
  | _ => none)
 | .pick c a b => (match ev f c with
  | .bool true => (match ev f a with
   | .bool v => some v
   | _ => none)
  | .bool false => (match ev f b with
   | .bool v => some v
   | _ => none)
  | _ => none)
 | _ => none
theorem Qfk {P : Program} {o : Oper} {f : Fr} {w : World} {c : Bool} {K : Value → World → Prop} (h : Qh6 o f = some c) (hk : K (.bool c) w) : Exec P (ev f) o w K := by
 unfold Qh6 at h
 split at h
 ·rename_i x ho
  split at h
  ·rename_i b hv; cases h; exact Zm ho hv hk
  ·cases h
 ·rename_i x ho
  split at h
  ·rename_i b hv; cases h; exact Zo ho hv hk
  ·cases h
 ·rename_i x a b ho
  split at h
  ·rename_i hc
   split at h
   ·rename_i v hv; cases h; exact Zs ho hc hv hk
   ·cases h
  ·rename_i hc
   split at h
   ·rename_i v hv; cases h; exact QB ho hc hv hk
   ·cases h
  ·cases h
 ·cases h
def YS (ops : List Oper) : Nat → DPlan → Fr → Option (DPlan × Fr)
 | 0, p, f => some (p, f)
 | n + 1, .q i r, f => match ops[i]? with
  | some o => (match o.guard with
   | some (j, b) => (match J6 ops.toArray f j with
    | some c => (match c == b with
     | false => YS ops n r (JA f o.dst undef)
     | true => (match Qh6 o f with
      | some v => YS ops n r (JA f o.dst (.bool v))
      | none => none))
    | none => YS ops n r (JA f o.dst undef))
   | none => (match Qh6 o f with
    | some v => YS ops n r (JA f o.dst (.bool v))
    | none => none))
  | none => none
 | n + 1, .e i _ r, f => match ops[i]? with
  | some o => (match o.guard with
   | some (j, b) => (match J6 ops.toArray f j with
    | some c => (match c == b with
     | false => YS ops n r (JA f o.dst undef)
     | true => none)
    | none => YS ops n r (JA f o.dst undef))
   | none => none)
  | none => none
 | _, _, _ => none
theorem QZ {P : Program} {ops : List Oper} {K : Fr → World → Prop} {w : World} : ∀ (n : Nat) {p p' : DPlan} {f f' : Fr}, YS ops n p f = some (p', f') → DL P ops K p' f' w → DL P ops K p f w
 | 0, p, p', f, f', h, hk => by
  simp only [YS, Option.some.injEq, Prod.mk.injEq] at h
  obtain ⟨rfl, rfl⟩ := h
  exact hk
 | n + 1, .done, p', f, f', h, hk => by simp [YS] at h
 | n + 1, .alt p q, p', f, f', h, hk => by simp [YS] at h
 | n + 1, .q i r, p', f, f', h, hk => by
  unfold YS at h
  split at h
  ·rename_i o ho
   split at h
   ·rename_i j b hg
    split at h
    ·rename_i c hy
     split at h
     ·rename_i hc
      exact QnS ho hg hy hc (QZ n h hk)
     ·rename_i hc
      split at h
      ·rename_i v hv
       have e : c = b := by cases c <;> cases b <;> simp_all
       subst e
       exact QA ho hg hy (Qfk hv ⟨Z, QZ n h hk⟩)
      ·cases h
    ·rename_i hy
     exact QnT ho hg hy (QZ n h hk)
   ·rename_i hg
    split at h
    ·rename_i v hv
     exact Qn ho hg (Qfk hv ⟨Z, QZ n h hk⟩)
    ·cases h
  ·cases h
 | n + 1, .e i ag r, p', f, f', h, hk => by
  unfold YS at h
  split at h
  ·rename_i o ho
   split at h
   ·rename_i j b hg
    split at h
    ·rename_i c hy
     split at h
     ·rename_i hc
      exact QnU ho hg hy hc (QZ n h hk)
     ·cases h
    ·rename_i hy
     exact QnV ho hg hy (QZ n h hk)
   ·cases h
  ·cases h
end Go.Pw
