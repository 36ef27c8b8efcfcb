/-
  My walk's base, part 29: in a region that draws its order: operations that are passed over, and tests that are known, reckoned in one step; a plan of quiet operations in their order.
-/
import Derived.Test.YtcabhickgjhkhaaGreatDoorL10
set_option linter.unusedSimpArgs false
namespace Go.Pw
/-- The quiet operations from i on, n of them. -/
def qs : Nat → Nat → DPlan → DPlan
  | _, 0, r => r
  | i, n + 1, r => .q i (qs (i + 1) n r)
/-- The truth value that an operation hands on. -/
def boolOp (o : Oper) (f : Fr) : Option Bool := match o.op with
  | .move x => (match ev f x with
    | .bool c => some c
    | _ => none)
  | .assign x => (match ev f x with
    | .bool c => some c
    | _ => none)
  | .pick c a b => (match ev f c with
    | .bool true => (match ev f a with
      | .bool v => some v
      | _ => none)
    | .bool false => (match ev f b with
      | .bool v => some v
      | _ => none)
    | _ => none)
  | _ => none
theorem boolOp_exec {P : Program} {o : Oper} {f : Fr} {w : World} {c : Bool} {K : Value → World → Prop} (h : boolOp o f = some c) (hk : K (.bool c) w) : Exec P (ev f) o w K := by
  unfold boolOp at h
  split at h
  · rename_i x ho
    split at h
    · rename_i b hv; cases h; exact Zm ho hv hk
    · cases h
  · rename_i x ho
    split at h
    · rename_i b hv; cases h; exact Zo ho hv hk
    · cases h
  · rename_i x a b ho
    split at h
    · rename_i hc
      split at h
      · rename_i v hv; cases h; exact Zs ho hc hv hk
      · cases h
    · rename_i hc
      split at h
      · rename_i v hv; cases h; exact Exec.pick_f ho hc hv hk
      · cases h
    · cases h
  · cases h
/-- n operations of a plan that need no proof. -/
def dpasses (ops : List Oper) : Nat → DPlan → Fr → Option (DPlan × Fr)
  | 0, p, f => some (p, f)
  | n + 1, .q i r, f => match ops[i]? with
    | some o => (match o.guard with
      | some (j, b) => (match yieldedF ops.toArray f j with
        | some c => (match c == b with
          | false => dpasses ops n r (updo f o.dst undef)
          | true => (match boolOp o f with
            | some v => dpasses ops n r (updo f o.dst (.bool v))
            | none => none))
        | none => dpasses ops n r (updo f o.dst undef))
      | none => (match boolOp o f with
        | some v => dpasses ops n r (updo f o.dst (.bool v))
        | none => none))
    | none => none
  | n + 1, .e i _ r, f => match ops[i]? with
    | some o => (match o.guard with
      | some (j, b) => (match yieldedF ops.toArray f j with
        | some c => (match c == b with
          | false => dpasses ops n r (updo f o.dst undef)
          | true => none)
        | none => dpasses ops n r (updo f o.dst undef))
      | none => none)
    | none => none
  | _, _, _ => none
theorem DL_passes {P : Program} {ops : List Oper} {K : Fr → World → Prop} {w : World} : ∀ (n : Nat) {p p' : DPlan} {f f' : Fr}, dpasses ops n p f = some (p', f') → DL P ops K p' f' w → DL P ops K p f w
  | 0, p, p', f, f', h, hk => by
    simp only [dpasses, Option.some.injEq, Prod.mk.injEq] at h
    obtain ⟨rfl, rfl⟩ := h
    exact hk
  | n + 1, .done, p', f, f', h, hk => by simp [dpasses] at h
  | n + 1, .alt p q, p', f, f', h, hk => by simp [dpasses] at h
  | n + 1, .q i r, p', f, f', h, hk => by
    unfold dpasses at h
    split at h
    · rename_i o ho
      split at h
      · rename_i j b hg
        split at h
        · rename_i c hy
          split at h
          · rename_i hc
            exact DL_qp ho hg hy hc (DL_passes n h hk)
          · rename_i hc
            split at h
            · rename_i v hv
              have e : c = b := by cases c <;> cases b <;> simp_all
              subst e
              exact DL_qg ho hg hy (boolOp_exec hv ⟨rfl, DL_passes n h hk⟩)
            · cases h
        · rename_i hy
          exact DL_qn ho hg hy (DL_passes n h hk)
      · rename_i hg
        split at h
        · rename_i v hv
          exact DL_q ho hg (boolOp_exec hv ⟨rfl, DL_passes n h hk⟩)
        · cases h
    · cases h
  | n + 1, .e i ag r, p', f, f', h, hk => by
    unfold dpasses at h
    split at h
    · rename_i o ho
      split at h
      · rename_i j b hg
        split at h
        · rename_i c hy
          split at h
          · rename_i hc
            exact DL_ep ho hg hy hc (DL_passes n h hk)
          · cases h
        · rename_i hy
          exact DL_en ho hg hy (DL_passes n h hk)
      · cases h
    · cases h
end Go.Pw
