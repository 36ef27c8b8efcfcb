/- -/
import Derived.Test.YtpjojkomdndamaaGreatDoorLA
import Derived.Test.YtpjojkomdndamaaGreatDoorL7
import Derived.Test.YtpjojkomdndamaaGreatDoorL10
set_option linter.unusedSimpArgs false
namespace Go.Pw
def QbZ (N : Nat) (ops : Array Oper) : Nat → List Oper → Fr → Option (List Oper × Fr)
 | 0, l, f => some (l, f)
 | _ + 1, [], _ => none
 | n + 1, o :: r, f =>
  match QcE N o.dst, o.guard with
  | true, some (j, b) => match J1 ops f j with
   | some c => match c == b with
    | false => QbZ N ops n r (J8 f o.dst undef)
    | true => none
   | none => QbZ N ops n r (J8 f o.dst undef)
  | true, none => match o.op with
   | .move x => match ev f x with
    | .bool c => QbZ N ops n r (J8 f o.dst (.bool c))
    | _ => none
   | .assign x => match ev f x with
    | .bool c => QbZ N ops n r (J8 f o.dst (.bool c))
    | _ => none
   | .pick c a b => match ev f c with
    | .bool true => (match ev f a with
     | .bool v => QbZ N ops n r (J8 f o.dst (.bool v))
     | _ => none)
    | .bool false => (match ev f b with
     | .bool v => QbZ N ops n r (J8 f o.dst (.bool v))
     | _ => none)
    | _ => none
   | _ => none
  | _, _ => none
theorem Qz {P : Program} {N : Nat} {ops : Array Oper} {Q : Qb4} {w : World} : ∀ (n : Nat) {l l' : List Oper} {f f' : Fr}, QbZ N ops n l f = some (l', f') → WL P N ops Q l' f' w → WL P N ops Q l f w
 | 0, l, l', f, f', h, hk => by
  simp only [QbZ, Option.some.injEq, Prod.mk.injEq] at h
  obtain ⟨rfl, rfl⟩ := h
  exact hk
 | n + 1, [], l', f, f', h, hk => by simp [QbZ] at h
 | n + 1, o :: r, l', f, f', h, hk => by
  unfold QbZ at h
  split at h
  ·rename_i j b hd hg
   split at h
   ·rename_i c hy
    split at h
    ·rename_i hc
     exact Zl hg hy hc hd (Qz n h hk)
    ·cases h
   ·rename_i hy
    exact QhN hg hy hd (Qz n h hk)
  ·rename_i hd hg
   split at h
   ·rename_i x ho
    split at h
    ·rename_i c hv
     exact O hg hd (Zm ho hv (Qz n h hk))
    ·cases h
   ·rename_i x ho
    split at h
    ·rename_i c hv
     exact O hg hd (Zo ho hv (Qz n h hk))
    ·cases h
   ·rename_i c a b ho
    split at h
    ·rename_i hc
     split at h
     ·rename_i v hv
      exact O hg hd (Zs ho hc hv (Qz n h hk))
     ·cases h
    ·rename_i hc
     split at h
     ·rename_i v hv
      exact O hg hd (Q9 ho hc hv (Qz n h hk))
     ·cases h
    ·cases h
   ·cases h
  ·cases h
end Go.Pw
/- -/
namespace Go.Pw
theorem QlX {H α : Type} {enc : TypeId × Value → H} {P : Program} {w : World} {base : Nat} {spare : Nat → Bool} {held : Bool} {T e : TypeId} {v : Value} {d : DataW H} {ps : List MemPlace} {E : Enc α} {s : PHeap} {xs : List α} {k : Nat} (hT : P.underlying T = some (.slice e)) (hk : P.bytesOf e = k)
  (ht : DataW.Trod enc P w base spare held T v d ps) (hw : (d.weights P T).all (· ≤ reachBytes) = true) (hr : SliceRep E s v xs) : xs.length * k ≤ 140737488351232 := by
 obtain ⟨fuel, hf⟩ := ht
 rcases hr with ⟨rfl, rfl⟩ | ⟨a, cap, rfl, rfl⟩ | ⟨b, off, cap, c, T', fz, cells, rfl, h1, h2, h3, h4, h5⟩
 ·simp
 ·simp
 ·rcases DataW.trod_slice hT hf with ⟨h, _⟩ | ⟨a, len, cap', elems, rest, n, _, hc, hx, _, _, _, hlen, _⟩
  ·simp [Value.cells] at h
  ·simp only [Value.cells, List.cons.injEq, Value.slice.injEq, and_true] at hc
   obtain ⟨_, hl, _⟩ := hc
   simp only [Prod.mk.injEq] at hx
   obtain ⟨rfl, _⟩ := hx
   simp only [DataW.weights, hT, List.all_cons, Bool.and_eq_true, decide_eq_true_eq, List.length_map, hk] at hw
   have h6 := hw.1
   unfold reachBytes at h6
   have : xs.length * k ≤ (elems.length + rest.length) * k := Nat.mul_le_mul_right _ (by omega)
   omega
end Go.Pw
/- -/
namespace Go.Pw
def qs : Nat → Nat → DPlan → DPlan
 | _, 0, r => r
 | i, n + 1, r => .q i (qs (i + 1) n r)
def Qhz (o : Oper) (f : Fr) : Option Bool := match o.op with
 | .move x => (match ev f x with
  | .bool c => some c
  | _ => none)
 | .assign x => (match ev f x with
  | .bool c => some c
  | _ => none)
 | .pick c a b => (match ev f c with
  | .bool true => (match ev f a with
   | .bool v => some v
   | _ => none)
  | .bool false => (match ev f b with
   | .bool v => some v
   | _ => none)
  | _ => none)
 | _ => none
theorem Qfh {P : Program} {o : Oper} {f : Fr} {w : World} {c : Bool} {K : Value → World → Prop} (h : Qhz o f = some c) (hk : K (.bool c) w) : Exec P (ev f) o w K := by
 unfold Qhz at h
 split at h
 ·rename_i x ho
  split at h
  ·rename_i b hv; cases h; exact Zm ho hv hk
  ·cases h
 ·rename_i x ho
  split at h
  ·rename_i b hv; cases h; exact Zo ho hv hk
  ·cases h
 ·rename_i x a b ho
  split at h
  ·rename_i hc
   split at h
   ·rename_i v hv; cases h; exact Zs ho hc hv hk
   ·cases h
  ·rename_i hc
   split at h
   ·rename_i v hv; cases h; exact Q9 ho hc hv hk
   ·cases h
  ·cases h
 ·cases h
def YQ (ops : List Oper) : Nat → DPlan → Fr → Option (DPlan × Fr)
 | 0, p, f => some (p, f)
 | n + 1, .q i r, f => match ops[i]? with
  | some o => (match o.guard with
   | some (j, b) => (match J1 ops.toArray f j with
    | some c => (match c == b with
     | false => YQ ops n r (J8 f o.dst undef)
     | true => (match Qhz o f with
      | some v => YQ ops n r (J8 f o.dst (.bool v))
      | none => none))
    | none => YQ ops n r (J8 f o.dst undef))
   | none => (match Qhz o f with
    | some v => YQ ops n r (J8 f o.dst (.bool v))
    | none => none))
  | none => none
 | n + 1, .e i _ r, f => match ops[i]? with
  | some o => (match o.guard with
   | some (j, b) => (match J1 ops.toArray f j with
    | some c => (match c == b with
     | false => YQ ops n r (J8 f o.dst undef)
     | true => none)
    | none => YQ ops n r (J8 f o.dst undef))
   | none => none)
  | none => none
 | _, _, _ => none
theorem QY {P : Program} {ops : List Oper} {K : Fr → World → Prop} {w : World} : ∀ (n : Nat) {p p' : DPlan} {f f' : Fr}, YQ ops n p f = some (p', f') → DL P ops K p' f' w → DL P ops K p f w
 | 0, p, p', f, f', h, hk => by
  simp only [YQ, Option.some.injEq, Prod.mk.injEq] at h
  obtain ⟨rfl, rfl⟩ := h
  exact hk
 | n + 1, .done, p', f, f', h, hk => by simp [YQ] at h
 | n + 1, .alt p q, p', f, f', h, hk => by simp [YQ] at h
 | n + 1, .q i r, p', f, f', h, hk => by
  unfold YQ at h
  split at h
  ·rename_i o ho
   split at h
   ·rename_i j b hg
    split at h
    ·rename_i c hy
     split at h
     ·rename_i hc
      exact QnR ho hg hy hc (QY n h hk)
     ·rename_i hc
      split at h
      ·rename_i v hv
       have e : c = b := by cases c <;> cases b <;> simp_all
       subst e
       exact Q6 ho hg hy (Qfh hv ⟨Z, QY n h hk⟩)
      ·cases h
    ·rename_i hy
     exact QnS ho hg hy (QY n h hk)
   ·rename_i hg
    split at h
    ·rename_i v hv
     exact Qn ho hg (Qfh hv ⟨Z, QY n h hk⟩)
    ·cases h
  ·cases h
 | n + 1, .e i ag r, p', f, f', h, hk => by
  unfold YQ at h
  split at h
  ·rename_i o ho
   split at h
   ·rename_i j b hg
    split at h
    ·rename_i c hy
     split at h
     ·rename_i hc
      exact QnT ho hg hy hc (QY n h hk)
     ·cases h
    ·rename_i hy
     exact QnU ho hg hy (QY n h hk)
   ·cases h
  ·cases h
end Go.Pw
