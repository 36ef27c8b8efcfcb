/- -/
import Derived.Test.YteiainhbhaodoaaGreatL60
import Derived.Test.YteiainhbhaodoaaGreatL33
import Derived.Test.YteiainhbhaodoaaGreatL11
set_option linter.unusedSimpArgs false
set_option linter.unusedVariables false
namespace Go.Pw
inductive Pick (r : Res) : List Res → List Res → Prop
  | here {M : List Res} : Pick r (r :: M) M
  | there {x : Res} {M M' : List Res} (h : Pick r M M') : Pick r (x :: M) (x :: M')
inductive SubR : List Res → List Res → Prop
  | refl {L : List Res} : SubR L L
  | take {r : Res} {L M M' : List Res} (p : Pick r M M') (h : SubR L M') : SubR (r :: L) M
  | drop {r : Res} {L M : List Res} (h : SubR L M) : SubR L (r :: M)
theorem Pick.perm {r : Res} : ∀ {M M' : List Res}, Pick r M M' → M.Perm (r :: M')
  | _, _, .here => .refl _
  | _, _, .there h => (h.perm.cons _).trans (List.Perm.swap _ _ _)
theorem SubR.perm : ∀ {L M : List Res}, SubR L M → ∃ D, M.Perm (D ++ L)
  | _, _, .refl => ⟨[], .refl _⟩
  | _, _, .take p h =>
    let ⟨D, q⟩ := h.perm
    ⟨D, (p.perm.trans (q.cons _)).trans List.perm_middle.symm⟩
  | _, _, .drop h =>
    let ⟨D, q⟩ := h.perm
    ⟨_ :: D, q.cons _⟩
section
variable {w0 w : World} {s s' : PHeap} {H H' : List Res}
theorem St.drops : ∀ {D : List Res}, St w0 s (D ++ H) w → St w0 s H w
  | [], h => h
  | _ :: D, h => St.drops (D := D) h.drop
theorem St.sub (h : St w0 s H w) (k : SubR H' H) : St w0 s H' w :=
  let ⟨_, p⟩ := k.perm
  (h.perm p).drops
theorem lq (h : PHeap.le s s' := by repeat (first | exact Zv _ | assumption | refine Zt ?_ (by assumption))) : PHeap.le s s' := h
theorem QjZ {α : Type} {E : Enc α} {v : Value} {xs : List α} (h : SliceRep E s v xs) (l : PHeap.le s s') : SliceRep E s' v xs := h.mono l
theorem rq {α : Type} {E : Enc α} {v : Value} {xs : List α} (h : SliceRep E s v xs := by first | assumption | exact SliceRep.nil _ _ | exact QjZ (by assumption) lq) : SliceRep E s v xs := h
theorem hq (h : St w0 s H w := by
    first
    | assumption
    | (refine St.sub (by assumption) ?_
       repeat (first
         | exact SubR.refl
         | (apply SubR.take; (repeat (first | exact Pick.here | apply Pick.there)))
         | refine SubR.drop ?_))) : St w0 s H w := h
end
section
variable {P : Program} {ρ : Operand → Value} {o : Oper} {w w0 : World} {s : PHeap} {H : List Res} {K : Value → World → Prop} {T : TypeId}
theorem QI {α : Type} {E : Enc α} {xs : List α} {y : α} {x i : Operand} {v : Value} {k : IntKind} {n : Int} {e m by_ : Nat} [hT : STy P T e m by_] (ho : o.op = .indexAddr T x i) (hx : ρ x = v) (hi : ρ i = .int k n) (hy : Q9 xs n = some y)
    (hk : ∀ b off, At s b off E y → K (.pointer (some ⟨b, off, none⟩)) w) (hS : St w0 s H w := by assumption) (h : SliceRep E s v xs := by first | assumption | exact QjZ (by assumption) lq) (hm : m = E.sz := by rfl) : Exec P ρ o w K :=
  QJ (by rw [← hm]; exact hT.h) ho hx hi h hy hk
end
section
variable {P : Program} {ρ : Operand → Value} {o : Oper} {w w0 : World} {s : PHeap} {H : List Res} {K : Value → World → Prop} {T : TypeId}
theorem onq {v : Value} (h : v.oneCell' = true := by first | rfl | exact SliceRep.one (by assumption) | exact St.arr_one hq) : v.oneCell' = true := h
theorem Xst {x y : Operand} {b off n : Nat} {Tb : TypeId} {cs ds es : List Value} {v : Value} {ag : Bool} [hT : ATy P T ag n] (ho : o.op = .store T x y) (hx : ρ x = .pointer (some ⟨b, off, none⟩)) (hy : ρ y = v)
    (hk : ∀ w', St w0 s (.box b Tb es :: H) w' → K undef w') (hS : St w0 s (.box b Tb cs :: H) w := by
      first
      | assumption
      | (refine St.sub (by assumption) ?_
         repeat (first
           | exact SubR.refl
           | (apply SubR.take; (repeat (first | exact Pick.here | apply Pick.there)))
           | refine SubR.drop ?_)))
    (hc : v.cells = ds.toArray := by first | rfl | exact Qj onq) (hn : ds.length = n := by rfl) (h1 : ∀ v ∈ ds, v.oneCell' = true := by repeat (first | exact Qk | refine Zj onq ?_))
    (hfit : off + n ≤ cs.length := by exact Nat.le_of_ble_eq_true rfl) (he : cs.take off ++ ds ++ cs.drop (off + n) = es := by rfl) : Exec P ρ o w K := by
  subst hn
  exact Qe hS hT.h ho hx hy hc h1 hfit he hk
theorem JH {x : Operand} {v : Value} {cs : List Value} (ho : o.op = .box T x) (hx : ρ x = v) (hk : ∀ b w', St w0 s (.box b T cs :: H) w' → K (.pointer (some ⟨b, 0, none⟩)) w') (hS : St w0 s H w := by assumption) (hc : v.cells = cs.toArray := by first | rfl | exact Qj onq) : Exec P ρ o w K := Exec.box hS ho hx hc hk
end
theorem Qlo {a b c : Prop} (hb : b) (ha : a) (hc : c) : a ∧ b ∧ c := ⟨ha, hb, hc⟩
theorem Qlp {a b : Prop} (hb : b) (ha : a) : a ∧ b := ⟨ha, hb⟩
theorem fxq {f : Fr} {l : List (Nat × Value)} (h : FxL f l := by
    repeat (first
      | exact FxL.nil
      | refine FxL.cons rfl ?_
      | refine FxL.cons (J5 (by assumption) (SliceRep.le (by assumption))) ?_
      | refine FxL.cons (congrArg Value.bool (by simp only [*, Bool.true_and, Bool.false_and, Bool.true_or, Bool.false_or])) ?_)) : Fx f l := ⟨f, h.eq⟩
theorem fq {A : Prop} (h : A := by
    repeat (apply Exists.intro)
    first
    | (refine Qlo hq lq ?_
       repeat (first
         | exact fxq
         | exact rfl
         | exact rq
         | refine And.intro rfl ?_
         | refine And.intro fxq ?_
         | refine And.intro rq ?_))
    | exact Qlp hq lq) : A := h
theorem fr {P : Program} {fn : Func} {R : Value → World → Prop} {f : Fr} {w : World} {t : Nat} (hr : fn.results = #[.tmp t] := by rfl) (h : R (f t) w := by exact fq) : QiL P fn R .ret f w := ⟨_, Qa5 hr, h⟩
theorem Qv {α : Type} {c : Bool} {x y : Option α} {r : α} (h : (if c = true then x else y) = some r) : (c = true ∧ x = some r) ∨ (c = false ∧ y = some r) := by
  cases c with
  | true => exact .inl ⟨rfl, h⟩
  | false => exact .inr ⟨rfl, h⟩
theorem tf (c : Bool) : c = true ∨ c = false := by cases c <;> simp
end Go.Pw
