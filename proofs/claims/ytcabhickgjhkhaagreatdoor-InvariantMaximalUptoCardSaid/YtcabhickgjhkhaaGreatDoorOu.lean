/-
  The second form of a statement (what is read is of small bulk), with the tables that are laid: from a contract to the row; and data of small bulk read in.
-/
import Derived.Test.YtcabhickgjhkhaaGreatDoorL7
import Derived.Test.YtcabhickgjhkhaaGreatDoorRows
import Derived.JoinedCond
import Derived.LaidLaws
set_option linter.unusedVariables false
namespace Go.Pw
theorem returnsInHanded_of_cond_and {H : Type} {enc : TypeId × Value → H} {a : Assume} {C : Checked} {os : Os} {f : FuncId} {fn : Func} {s : OpenSpec} {k : (H : Type) → List (DataW H) → Bool} (hk : s.cond = some k) {F : Stop.Interp} {conds : List PathCond} {apart fresh handsOn again : Bool} {X : World → Array Value → Prop}
    (hX : ∀ (w w' : World) (args : Array Value), w.heap = w'.heap → X w args → X w' args)
    (own : ownKnob C.prog.godebug = none) (started : os.Started) (noInit : C.prog.inits.idxOf? f = none) (hfn : C.prog.funcs[f]? = some fn)
    (witness : ∃ (w : World) (tape : Tape) (i : Input), w.os = os ∧ (w.forCall tape i).Shaped C.prog ∧ i.vars = [] ∧ Input.okWide C.prog (w.forCall tape i) .any w.heap.size f i ∧
      ((s.pre enc C.prog fn conds apart (w.forCall tape i).memory i.args ∧ X (w.forCall tape i).memory i.args) ∧ sizedMet enc C.prog fn s apart (w.forCall tape i).memory i.args) ∧ a.holds C.prog (lone (Frame.enter C.prog f i.args .normal) [] (w.forCall tape i)))
    (contract : ∀ (W : World) (base : Nat) (args : Array Value) (ds gs : List (DataW H)) (before : List MemPlace),
      (∀ (j : Nat) t v, fn.params[j]? = some t → args[j]? = some v → Value.okWide C.prog W .any base t v) →
      DataW.Whole enc C.prog fn.params.toList s.vars apart W args.toList ds gs before →
      conds.all (PathCond.test C.prog ⟨fn.params.toList, ds, s.bare.plain.varTypes C.prog, gs⟩) = true → k H (ds ++ gs) = true → X W args →
      a.holds C.prog (lone (Frame.enter C.prog f args .normal) [] W) →
      Calls C.prog f args W fun e W' => ∃ v, e = .returned v ∧ (s.at F).post enc C.prog fn apart fresh handsOn again W args v W') :
    ReturnsInHanded a C os f .any (fun w args => (s.pre enc C.prog fn conds apart w args ∧ X w args) ∧ sizedMet enc C.prog fn s apart w args) ((s.at F).post enc C.prog fn apart fresh handsOn again) := by
  refine returnsInHanded_of_calls own started noInit witness ?_
  intro w tape i _ _ _ hok hpre hholds
  obtain ⟨_, _, _, fn', hfn', _, _, _, _, hval⟩ := hok
  have e : fn' = fn := Zu (hfn'.symm.trans hfn)
  subst e
  obtain ⟨⟨hp, hx⟩, hz⟩ := hpre
  obtain ⟨ds, gs, before, hw, hc, hkk⟩ := (OpenSpec.pre_some hk conds apart _ _).1 hp
  have hw' := DataW.Whole.of_heap (w' := w.forCall tape i) (by rfl) hw
  refine (contract (w.forCall tape i) w.heap.size i.args ds gs before hval hw' hc hkk (hX _ _ _ (by rfl) hx) hholds).mono fun e W' ⟨v, he, hp⟩ => ?_
  subst he
  exact ChangeSpec.post_blind hp
theorem OpenSpec.witness_shaped {H : Type} {enc : TypeId × Value → H} {C : Checked} {os : Os} {f : FuncId} {fn : Func} {s : OpenSpec} {k : (H : Type) → List (DataW H) → Bool} (hk : s.cond = some k) {conds : List PathCond} {apart : Bool} {X : World → Array Value → Prop} (modest : Bool) (w0 : World) (args : Array Value) (fuel : Nat) (hos : w0.os = os)
    (hsh : (w0.forCall (fun _ _ => 0) ⟨#[], args, []⟩).Shaped C.prog)
    (hok : Input.okWideB C.prog (w0.forCall (fun _ _ => 0) ⟨#[], args, []⟩) f ⟨#[], args, []⟩ = true)
    (hpre : (DataW.whole enc C.prog (w0.forCall (fun _ _ => 0) ⟨#[], args, []⟩).memory fn.params.toList s.vars apart args.toList fuel).any (fun x => conds.all (PathCond.test C.prog ⟨fn.params.toList, x.1, s.bare.plain.varTypes C.prog, x.2.1⟩) && k H (x.1 ++ x.2.1)) = true)
    (hsz : s.bare.sizedB enc C.prog fn apart (w0.forCall (fun _ _ => 0) ⟨#[], args, []⟩).memory args fuel = true)
    (hx : X (w0.forCall (fun _ _ => 0) ⟨#[], args, []⟩).memory args) :
    ∃ (w : World) (tape : Tape) (i : Input), w.os = os ∧ (w.forCall tape i).Shaped C.prog ∧ i.vars = [] ∧ Input.okWide C.prog (w.forCall tape i) .any w.heap.size f i ∧
      ((s.pre enc C.prog fn conds apart (w.forCall tape i).memory i.args ∧ X (w.forCall tape i).memory i.args) ∧ sizedMet enc C.prog fn s apart (w.forCall tape i).memory i.args) ∧ ({ modest := modest } : Assume).holds C.prog (lone (Frame.enter C.prog f i.args .normal) [] (w.forCall tape i)) := by
  refine ⟨w0, fun _ _ => 0, ⟨#[], args, []⟩, hos, hsh, (Input.okWide_of_okWideB (base := 0) hok).1, (Input.okWide_of_okWideB hok).2, ⟨⟨?_, hx⟩, sizedMet_of_sizedB hsz⟩, by
    simp only [Assume.holds]
    exact ⟨by simp, by simp, fun _ => Modest.zero, by simp, by simp⟩⟩
  cases hq : DataW.whole enc C.prog (w0.forCall (fun _ _ => 0) ⟨#[], args, []⟩).memory fn.params.toList s.vars apart args.toList fuel with
  | none => rw [hq] at hpre; cases hpre
  | some x =>
    rw [hq] at hpre
    simp only [Option.any_some, Bool.and_eq_true] at hpre
    exact (OpenSpec.pre_some hk conds apart _ _).2 ⟨x.1, x.2.1, x.2.2, DataW.Whole_of_whole hq, hpre.1, hpre.2⟩
open Go.ChangeShapes Go.WideShapes Go.ChangeAt Go.RowKit
open Go.Proofs.YtcabhickgjhkhaaGreatDoor.Rows (uptoBulk uptoBulkAll uptoSmall)
/-- As Opens, for data of bulk at most 1048576. -/
def OpensU (P : Program) (T : TypeId) {α : Type} (E : Enc α) (WF : α → Prop) : Prop :=
  ∀ {H : Type} (enc : TypeId × Value → H) (w : World) (base : Nat) (spare : Nat → Bool) (held : Bool) (fuel : Nat) (cs : List Value) (x : DataW H × List MemPlace),
    DataW.trod enc P w base spare held fuel T cs = some x → uptoBulk x.1 ≤ 1048576 → ∃ a, E.rep (σH w) cs a ∧ WF a
theorem bulkAll_get {H : Type} {y : DataW H} : ∀ {l : List (DataW H)} {i : Nat}, l[i]? = some y → uptoBulk y ≤ uptoBulkAll l
  | [], i, h => by simp at h
  | d :: l, 0, h => by
    simp only [List.getElem?_cons_zero, Option.some.injEq] at h
    subst h
    simp only [uptoBulkAll]
    omega
  | d :: l, i + 1, h => by
    have := bulkAll_get (l := l) (i := i) (by simpa using h)
    simp only [uptoBulkAll]
    omega
section
variable {P : Program} {T e : TypeId}
theorem Opens.toU {α : Type} {E : Enc α} {WF : α → Prop} (h : Opens P T E WF) : OpensU P T E WF := fun enc w base spare held fuel cs x hx _ => h enc w base spare held fuel cs x hx
theorem OpensU.str (hT : P.underlying T = some .string) : OpensU P T encStr (fun s => s.size ≤ 1048576) := by
  intro H enc w base spare held fuel cs x h hb
  obtain ⟨n, rfl, rfl, hw⟩ := DataW.trod_string hT h
  refine ⟨n, rfl, ?_⟩
  simp only [uptoBulk, Array.length_toList] at hb
  show n.data.size ≤ _
  omega
theorem OpensU.slice {α : Type} {E : Enc α} {WF : α → Prop} (hT : P.underlying T = some (.slice e)) (hc : P.cellsOf e = E.sz) (h : OpensU P e E WF) : OpensU P T (encSlice E) (fun xs => xs.length ≤ maxLen ∧ ∀ x ∈ xs, WF x) := by
  intro H enc w base spare held fuel cs x hx hw
  rcases DataW.trod_slice hT hx with ⟨rfl, _⟩ | ⟨a, len, cap, elems, rest, n, hfu, rfl, rfl, _, hlc, hcm, hlen, hel, _⟩
  · exact ⟨[], ⟨_, rfl, .inl ⟨rfl, rfl⟩⟩, by simp, by simp⟩
  rw [hc] at hel
  simp only [uptoBulk] at hw
  by_cases hl0 : len = 0
  · subst hl0
    exact ⟨[], ⟨_, rfl, .inr (.inl ⟨a, cap, rfl, rfl⟩)⟩, by simp, by simp⟩
  have each : ∀ i, i < len → ∃ cs' y, w.cells? base (a.add (i * E.sz)) E.sz = some cs' ∧ DataW.trod enc P w base spare held n e cs' = some y ∧ uptoBulk y.1 ≤ 1048576 := by
    intro i hi
    have := hel i hi
    have he : ∃ y, elems[i]? = some y := ⟨elems[i], by simp [hlen, hi]⟩
    obtain ⟨y, hy⟩ := he
    rw [hy] at this
    obtain ⟨cs', h1, h2⟩ := Option.bind_eq_some_iff.1 this
    have hb := bulkAll_get (y := y.1) (l := elems.map (·.1)) (i := i) (by rw [List.getElem?_map, hy]; rfl)
    exact ⟨cs', y, h1, h2, by omega⟩
  have hsp : a.spot = none := by
    obtain ⟨cs', y, h1, _, _⟩ := each 0 (by omega)
    rw [Nat.zero_mul] at h1
    obtain ⟨_, hl, hc⟩ := World.cells?_some h1
    have := hc 0 E.pos
    have hv : ∃ v, cs'[0]? = some v := ⟨cs'[0]'(by have := E.pos; omega), by simp⟩
    obtain ⟨v, hv⟩ := hv
    rw [hv] at this
    have ha : (a.add 0).add 0 = a := by simp [Addr.add]
    rw [ha] at this
    unfold World.cell? at this
    split at this
    · split at this
      · cases this
      · rename_i q; simpa using q
    · cases this
  obtain ⟨b, off, spot⟩ := a
  simp only at hsp
  subst hsp
  obtain ⟨c, Te, fz, hb⟩ : ∃ c Te fz, w.heap[b]? = some (.cells c Te fz) := by
    obtain ⟨cs', y, h1, _, _⟩ := each 0 (by omega)
    rw [Addr.add_lit] at h1
    obtain ⟨c, Te, fz, h2, _⟩ := cells_row rfl h1 E.pos
    exact ⟨c, Te, fz, h2⟩
  obtain ⟨xs, hxl, hxr, hxw⟩ := reps_rows (E := E) (WF := WF) (s := σH w) (l := c.toList) len off (fun i hi => by
    obtain ⟨cs', y, h1, h2, hwy⟩ := each i hi
    rw [Addr.add_lit] at h1
    obtain ⟨c', Te', fz', h3, h4⟩ := cells_row rfl h1 E.pos
    simp only at h3 h4
    rw [hb] at h3
    cases h3
    obtain ⟨x, hx1, hx2⟩ := h enc w base spare held n cs' y h2 hwy
    rw [h4] at hx1
    exact ⟨x, hx1, hx2⟩)
  subst hxl
  refine ⟨xs, ⟨_, rfl, .inr (.inr ⟨b, off, cap, c, Te, fz, _, rfl, hlc, hcm, hb, ?_, hxr⟩)⟩, by omega, hxw⟩
  rw [hxr.len]
/-- The fields of a struct, from the off-th cell on. -/
def FOpensU (P : Program) (fs : List Field) (off : Nat) {α : Type} (E : Enc α) (WF : α → Prop) : Prop :=
  ∀ {H : Type} (enc : TypeId × Value → H) (w : World) (base : Nat) (spare : Nat → Bool) (held : Bool) (n : Nat) (cs : List Value),
    (∀ f ∈ fs, ∃ y, DataW.trod enc P w base spare held n f.type ((cs.drop f.offset).take (P.cellsOf f.type)) = some y ∧ uptoBulk y.1 ≤ 1048576) → cs.length = off + E.sz → ∃ a, E.rep (σH w) (cs.drop off) a ∧ WF a
theorem FOpensU.one {α : Type} {E : Enc α} {WF : α → Prop} {f : Field} {off : Nat} (ho : f.offset = off) (hc : P.cellsOf f.type = E.sz) (h : OpensU P f.type E WF) : FOpensU P [f] off E WF := by
  intro H enc w base spare held n cs hy hl
  obtain ⟨y, hy, hwy⟩ := hy f (by simp)
  rw [ho, hc, List.take_of_length_le (by simp; omega)] at hy
  exact h enc w base spare held n _ y hy hwy
theorem FOpensU.cons {α β : Type} {A : Enc α} {B : Enc β} {WA : α → Prop} {WB : β → Prop} {f : Field} {fs : List Field} {off m : Nat} (ho : f.offset = off) (hc : P.cellsOf f.type = A.sz) (h : OpensU P f.type A WA) (hm : off + A.sz = m) (hs : FOpensU P fs m B WB) :
    FOpensU P (f :: fs) off (A.pair B) (fun p => WA p.1 ∧ WB p.2) := by
  intro H enc w base spare held n cs hy hl
  subst hm
  obtain ⟨y, hy1, hwy⟩ := hy f (by simp)
  rw [ho, hc] at hy1
  obtain ⟨a, ha, hwa⟩ := h enc w base spare held n _ y hy1 hwy
  obtain ⟨b, hb, hwb⟩ := hs enc w base spare held n cs (fun g hg => hy g (by simp [hg])) (by rw [hl]; exact (Nat.add_assoc _ _ _).symm)
  refine ⟨(a, b), ⟨_, _, ?_, ha, hb⟩, hwa, hwb⟩
  rw [← List.drop_drop, List.take_append_drop]
theorem OpensU.struct {α β : Type} {E : Enc α} {WF : α → Prop} {fs : Array Field} {f : β → α} (g : α → β) (hT : P.underlying T = some (.struct fs)) (hc : P.cellsOf T = E.sz) (hfg : ∀ a, f (g a) = a) (h : FOpensU P fs.toList 0 E WF) :
    OpensU P T (Enc.iso E f) (fun b => WF (f b)) := by
  intro H enc w base spare held fuel cs x hx hw
  obtain ⟨xs, n, hfu, rfl, hl, hxl, hf⟩ := DataW.trod_struct hT hx
  simp only [uptoBulk] at hw
  obtain ⟨a, h1, h2⟩ := h enc w base spare held n cs (fun fd hfd => by
    obtain ⟨i, hi⟩ := List.mem_iff_getElem?.1 hfd
    have hi' : fs[i]? = some fd := by simpa using hi
    have hlt : i < xs.length := by rw [hxl]; exact (Array.getElem?_eq_some_iff.1 hi').1
    have hb := bulkAll_get (y := xs[i].1) (l := xs.map (·.1)) (i := i) (by rw [List.getElem?_map, List.getElem?_eq_getElem hlt]; rfl)
    exact ⟨xs[i], by rw [hf i fd hi']; simp [hlt], by omega⟩) (by rw [hl, hc, Nat.zero_add])
  refine ⟨g a, ?_, by show WF (f (g a)); rw [hfg]; exact h2⟩
  show E.rep (σH w) cs (f (g a))
  rw [hfg]
  simpa using h1
theorem arg_aggU {H α : Type} {enc : TypeId × Value → H} {w : World} {base : Nat} {spare : Nat → Bool} {held : Bool} {r : Reach} {b0 : Nat} {v : Value} {d : DataW H} {ps : List MemPlace} {E : Enc α} {WF : α → Prop}
    (h : OpensU P T E WF) (hT : (∃ fs, P.underlying T = some (.struct fs)) ∨ ∃ n e, P.underlying T = some (.array n e)) (hE : E.agg = true) (hok : Value.okWide P w r b0 T v) (ht : DataW.Trod enc P w base spare held T v d ps) (hw : uptoBulk d ≤ 1048576) : ∃ a, E.val (σH w) v a ∧ WF a := by
  obtain ⟨fuel, hf⟩ := ht
  obtain ⟨a, h1, h2⟩ := h enc w base spare held fuel _ _ hf hw
  obtain ⟨cs, rfl⟩ := okWide_agg hok hT
  refine ⟨a, ?_, h2⟩
  unfold Enc.val
  rw [if_pos hE]
  exact ⟨cs, rfl, h1⟩
end
end Go.Pw
