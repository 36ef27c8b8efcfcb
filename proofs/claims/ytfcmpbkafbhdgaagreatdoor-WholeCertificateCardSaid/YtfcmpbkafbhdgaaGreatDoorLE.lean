/- -/
import Derived.Test.YtfcmpbkafbhdgaaGreatDoorLC
import Derived.Maps.OwnSet
import Derived.StringKeys
import Derived.Carry
import Derived.Lib.AppendStr
import Derived.Lib.UnsafeStr
import Derived.Lib.Builder
import Derived.Laws.Externs
set_option linter.unusedSimpArgs false
namespace Go.Pw
/-! ### the pure words -/
abbrev Qhw := List (ByteArray × Int)
def Qfc (m : Qhw) (s : ByteArray) : Option Int := match m with
 | [] => none
 | (k, v) :: r => if k.data.toList = s.data.toList then some v else Qfc r s
def Qhu (m : Qhw) (s : ByteArray) (v : Int) : Qhw := match m with
 | [] => [(s, v)]
 | (k, u) :: r => if k.data.toList = s.data.toList then (k, v) :: r else (k, u) :: Qhu r s v
theorem QhP (m : Qhw) (s : ByteArray) (v : Int) : (Qhu m s v).length = if (Qfc m s).isSome then m.length else m.length + 1 := by
 induction m with
 | nil => simp [Qhu, Qfc]
 | cons p r ih =>
  obtain ⟨k, u⟩ := p
  unfold Qhu Qfc
  by_cases h : k.data.toList = s.data.toList
  ·rw [if_pos h, if_pos h]; simp
  ·rw [if_neg h, if_neg h, List.length_cons, ih]
   split <;> simp
theorem Qh2 (m : Qhw) (s t : ByteArray) (v : Int) : Qfc (Qhu m s v) t = if s.data.toList = t.data.toList then some v else Qfc m t := by
 induction m with
 | nil => simp [Qhu, Qfc]
 | cons p r ih =>
  obtain ⟨k, u⟩ := p
  unfold Qhu
  by_cases h : k.data.toList = s.data.toList
  ·rw [if_pos h]
   unfold Qfc
   by_cases h2 : s.data.toList = t.data.toList
   ·rw [if_pos h2, if_pos (h.trans h2)]
   ·have h3 : ¬ k.data.toList = t.data.toList := fun e => h2 (h.symm.trans e)
    rw [if_neg h2, if_neg h3, if_neg h3]
  ·rw [if_neg h]
   unfold Qfc
   rw [ih]
   by_cases h2 : k.data.toList = t.data.toList
   ·have h3 : ¬ s.data.toList = t.data.toList := fun e => h (h2.trans e.symm)
    rw [if_pos h2, if_neg h3, if_pos h2]
   ·rw [if_neg h2, if_neg h2]
/-! ### what is owned -/
abbrev Qfb (s : ByteArray) : Lit := .string s.data.toList
abbrev DM := DataW Unit
def Reads (D : DM) (m : Qhw) : Prop := (∀ s : ByteArray, Maps.has D (Qfb s) = (Qfc m s).isSome) ∧ (∀ (s : ByteArray) (v : Int) (z : DM), Qfc m s = some v → D.atKey (Qfb s) z = .lit (.int .i64 v)) ∧ Maps.size D = m.length
theorem QdI (l : List UInt8) : WideAt.IsKeyLit (.string l) := by
 simp [WideAt.IsKeyLit]
theorem Reads.put {D : DM} {m : Qhw} (h : Reads D m) (ht : Maps.Tidy D) (s : ByteArray) (v : Int) : Reads (D.put (Qfb s) (.lit (.int .i64 v))) (Qhu m s v) := by
 obtain ⟨h1, h2, h3⟩ := h
 refine ⟨fun t => ?_, fun t u z ht2 => ?_, ?_⟩
 ·rw [Qh2]
  by_cases e : s.data.toList = t.data.toList
  ·rw [if_pos e]
   have : Qfb t = Qfb s := by rw [Qfb, Qfb, e]
   rw [this, Maps.has_put_same ht.isMap (QdI _)]
   rfl
  ·rw [if_neg e, Maps.has_put_other (fun he => e (by injection he with he; exact he.symm)), h1]
 ·rw [Qh2] at ht2
  by_cases e : s.data.toList = t.data.toList
  ·rw [if_pos e] at ht2
   cases ht2
   have : Qfb t = Qfb s := by rw [Qfb, Qfb, e]
   rw [this, Maps.atKey_put_same ht.isMap (QdI _)]
  ·rw [if_neg e] at ht2
   rw [Maps.atKey_put_other (fun he => e (by injection he with he; exact he.symm))]
   exact h2 t u z ht2
 ·rw [Maps.size_put ht, h1, QhP, h3]
section
variable {P : Program} {ρ : Operand → Value} {o : Oper} {w w0 : World} {s : PHeap} {H : List Res} {K : Value → World → Prop} {T : TypeId} {k e : TypeId} {b : Nat} {m : Qhw}
end
end Go.Pw
/- -/
namespace Go.Pw
def cat (a b : ByteArray) : Option ByteArray := if a.size + b.size ≤ 9223372036854775807 then some (a ++ b) else none
section
variable {P : Program} {ρ : Operand → Value} {o : Oper} {w w0 : World} {s : PHeap} {H : List Res} {K : Value → World → Prop} {T T' : TypeId} {x y : Operand} {a b c : ByteArray}
theorem JS (ho : o.op = .binOp .add T x y T') (hx : ρ x = .string a) (hy : ρ y = .string b) (hc : cat a b = some c) (hk : K (.string c) w) : Exec P ρ o w K := by
 unfold cat at hc
 split at hc
 ·rename_i h
  cases hc
  refine YS (op := .add) (a := .string a) (b := .string b) ho hx hy (by simp [eqGuard]) ?_ hk
  have h2 : ¬ (IntKind.i64.max < (a.size : Int) + (b.size : Int)) := by
   have e : IntKind.i64.max = 9223372036854775807 := by decide
   rw [e]; omega
  simp [go_sem, Op.stringOp, h2]
  omega
 ·cases hc
end
end Go.Pw
/- -/
namespace Go.Pw
/-! ### the pure words -/
def QJ (s : ByteArray) : List Int := s.data.toList.map fun b => (b.toNat : Int)
def QdZ (xs : List Int) (s : ByteArray) : Option (List Int) := if xs.length + s.size ≤ 140737488355328 then some (xs ++ QJ s) else none
def u8s (xs : List Int) : List UInt8 := xs.map fun n => UInt8.ofNat n.toNat
def Qff (xs : List Int) : Option ByteArray := if xs ≠ [] ∧ xs.all (fun n => decide (0 ≤ n) && decide (n ≤ 255)) = true then some ⟨(u8s xs).toArray⟩ else none
theorem Qdg {s : PHeap} {cs : List Value} {xs : List Int} {k : IntKind} : reps (Qc k) s cs xs ↔ cs = xs.map (Value.int k) := by
 induction xs generalizing cs with
 | nil => simp [reps]
 | cons x xs ih =>
  unfold reps
  constructor
  ·rintro ⟨c, r, rfl, h1, h2⟩
   have : c = [Value.int k x] := h1
   subst this
   rw [ih.1 h2]; rfl
  ·rintro rfl
   exact ⟨[Value.int k x], xs.map (Value.int k), Z, Z, ih.2 Z⟩
theorem Qha (s : ByteArray) : Lib.strCells s = (QJ s).map (Value.int .u8) := by
 simp [Lib.strCells, QJ]
theorem YZ (s : ByteArray) : (QJ s).length = s.size := by
 rw [QJ, List.length_map, Array.length_toList]; rfl
theorem Qfy {xs : List Int} {c : ByteArray} (h : Qff xs = some c) : xs ≠ [] ∧ xs.map (Value.int .u8) = Lib.byteCells (u8s xs) ∧ c = ⟨(u8s xs).toArray⟩ := by
 unfold Qff at h
 split at h
 ·rename_i hc
  obtain ⟨h1, h2⟩ := hc
  cases h
  refine ⟨h1, ?_, Z⟩
  simp only [Lib.byteCells, u8s, List.map_map]
  apply List.map_congr_left
  intro n hn
  have := List.all_eq_true.1 h2 n hn
  simp only [Bool.and_eq_true, decide_eq_true_eq] at this
  have h3 : (UInt8.ofNat n.toNat).toNat = n.toNat := by
   rw [UInt8.toNat_ofNat']
   exact Nat.mod_eq_of_lt (by omega)
  simp only [Function.comp, h3]
  congr 1
  omega
 ·cases h
section
variable {P : Program} {ρ : Operand → Value} {o : Oper} {w w0 : World} {s : PHeap} {H : List Res} {K : Value → World → Prop} {Te : TypeId} {v : Value} {xs zs : List Int}
theorem QfV {t u ty : TypeId} (hS : St w0 s (.arr (Qc .u8) Te v xs :: H) w) (hT : QA P t = some (Te, 1, 1)) (hU : P.underlying u = some .string) (hz : Jl P Te = some (.int .u8 0)) {q : ByteArray} (hb : xs.length + q.size ≤ 140737488355328) :
  ∃ v' w', (Builtin.append_ #[t, u] ty #[v, .string q]).run P w = .ok v' w' ∧ St w0 s (.arr (Qc .u8) Te v' (xs ++ QJ q) :: H) w' := by
 obtain ⟨i, hu, hi, hsz, hbs⟩ := Qz hT
 obtain ⟨i', hi', hz'⟩ := Yr hz
 rw [hi] at hi'
 cases hi'
 have h63 : xs.length + q.size ≤ maxLen := by simp only [maxLen]; omega
 obtain ⟨bs, hn, hss, b1, b2, e, ⟨cells, h1, h2, rfl⟩, h3⟩ := hS.own
 have hcells : reps (Qc .u8) s (cells ++ Lib.strCells q) (xs ++ QJ q) := by
  rw [Qdg] at h1 ⊢
  rw [h1, Qha, List.map_append]
 have hql : (xs ++ QJ q).length = xs.length + q.size := by rw [List.length_append, YZ]
 have close : ∀ (v' : Value) (w' : World), w'.ownsRow 0 Te 1 v' (xs.length + q.size) (cells ++ Lib.strCells q) → w.grownBy w' v.ownBlock → (v'.ownBlock = v.ownBlock ∨ ∀ g, v'.ownBlock = some g → w.heap.size ≤ g) → w.drawn ≤ w'.drawn → St w0 s (.arr (Qc .u8) Te v' (xs ++ QJ q) :: H) w' := by
  intro v' w' hown hgrow hwhere hdr
  refine hS.turn hgrow.os hgrow.tape hgrow.output hdr hgrow.size ?_
  rintro c1 ⟨_, _, _, rfl⟩
  refine ⟨v'.ownBlock.toList, ⟨cells ++ Lib.strCells q, hcells, by rw [hql]; exact hown, Z⟩, ?_, ?_, ?_⟩
  ·cases v'.ownBlock <;> simp
  ·intro x hx
   rcases hwhere with h | h
   ·exact .inl (by rw [← h]; exact hx)
   ·exact .inr (h x (by simpa using hx))
  ·intro x hx hne
   refine hgrow.block x hx ?_
   intro e
   rw [← e] at hne
   simp at hne
 have zero : ∀ {v' : Value} {w' : World} {n : Nat} {cs : List Value}, w'.ownsRow w.heap.size Te 1 v' n cs → w'.ownsRow 0 Te 1 v' n cs := fun h =>
  ⟨h.1, h.2.imp (fun h => h) (fun ⟨g, cap, cur, a1, _, a2⟩ => ⟨g, cap, cur, a1, Nat.zero_le _, a2⟩)⟩
 have hsz8 : (Qc .u8).sz = 1 := rfl
 rcases h2.2 with ⟨rfl, hx0⟩ | ⟨g, cap, cur, rfl, hbg, hg, hnc, hcm, hcs, htake⟩
 ·have h2' : w.ownsRow w.heap.size Te 1 (.slice none 0 0) xs.length cells := ⟨h2.1, .inl ⟨rfl, hx0⟩⟩
  obtain ⟨v', w', hrun, hown, hgrow, _⟩ := Lib.run_append_own_string (P := P) w w.heap.size t u ty Te i hu hU hi hz' hsz hbs _ xs.length cells h2' q h63 hb (Nat.le_refl _)
  refine ⟨v', w', hrun, close v' w' (zero hown) hgrow (.inr fun g hg => (hown.lt g hg).1) ?_⟩
  by_cases hm : q.size = 0
  ·have hf := Lib.run_firstCells_string (P := P) w 1 q
   rw [hm] at hf
   have hrun0 : (Builtin.append_ #[t, u] ty #[.slice none 0 0, .string q]).run P w = .ok (.slice none 0 0) w := by
    simp [Builtin.append_, run_underlying hu, run_underlying hU, sizeOf, typeInfo, hi, hsz, Builtin.lenOf, hm, hf]
   rw [hrun0] at hrun
   cases hrun
   exact Nat.le_refl _
  ·have hrun0 := run_append_nil_string (P := P) w t u ty Te i (.int .u8 0) hu hU hi hz' q (by omega) (by omega) (by rw [hbs]; omega)
   rw [hrun] at hrun0
   cases hrun0
   exact Nat.le_succ _
 ·obtain ⟨v', w', hrun, hown, hgrow, _⟩ := Lib.run_append_own_string (P := P) w 0 t u ty Te i hu hU hi hz' hsz hbs _ xs.length cells h2 q h63 hb (Nat.zero_le _)
  by_cases hroom : xs.length + q.size ≤ cap
  ·have hrun0 := Lib.run_append_room_string (P := P) w t u ty Te i hu hU hi hsz g xs.length cap cur hg q hroom (by rw [hsz8] at hcs; omega)
   have hr := hrun
   rw [hrun0] at hr
   cases hr
   exact ⟨_, _, hrun0, close _ _ hown hgrow (.inl Z) (Nat.le_refl _)⟩
  ·have holds : ∀ j u, cells[j]? = some u → w.cell? ((⟨g, 0, none⟩ : Addr).add j) = some u := h2.cells (g := g) rfl
   have hrun0 := Lib.run_append_grow_string (P := P) w t u ty Te i (.int .u8 0) hu hU hi hz' ⟨g, 0, none⟩ xs.length cap cells (by rw [hsz]; have := h2.1; rw [hsz8] at this; exact this) holds q (by omega) (by omega) (by rw [hbs]; exact growslice_fits (by omega) (by omega))
   have hr := hrun
   rw [hrun0] at hr
   cases hr
   exact ⟨_, _, hrun0, close _ _ hown hgrow (.inr fun g' hg' => by simp [Value.ownBlock] at hg'; omega) (Nat.le_succ _)⟩
theorem QeN {t u : TypeId} {x y : Operand} {q : ByteArray} (hS : St w0 s (.arr (Qc .u8) Te v xs :: H) w) (hT : QA P t = some (Te, 1, 1)) (hU : P.underlying u = some .string) (hz : Jl P Te = some (.int .u8 0))
  (ho : o.op = .call { callee := .builtin .append, args := #[x, y], argTypes := #[t, u] }) (hx : ρ x = v) (hy : ρ y = .string q) (ha : QdZ xs q = some zs)
  (hk : ∀ v' w', St w0 s (.arr (Qc .u8) Te v' zs :: H) w' → K v' w') : Exec P ρ o w K := by
 unfold QdZ at ha
 split at ha
 ·rename_i hb
  cases ha
  obtain ⟨v', w', hrun, hS'⟩ := QfV (P := P) (ty := o.type) hS hT hU hz hb
  refine .of_run (v := v') (w' := w') ?_ (hk v' w' hS')
  unfold execOp
  simp only [ho, resolve, invoke, builtin, Sem.run_bind, Sem.run_pure, Result.andThen_ok, List.map_toArray, List.map_cons, List.map_nil, hx, hy, hrun]
 ·cases ha
theorem QeL {t : TypeId} {x : Operand} (hS : St w0 s (.arr (Qc .u8) Te v xs :: H) w) (hx0 : xs ≠ []) (ho : o.op = .call { callee := .builtin .unsafeSliceData, args := #[x], argTypes := #[t] }) (hx : ρ x = v)
  (hk : ∀ g cap, v = .slice (some ⟨g, 0, none⟩) xs.length cap → K (.pointer (some ⟨g, 0, none⟩)) w) : Exec P ρ o w K := by
 obtain ⟨bs, hn, hss, b1, b2, e, ⟨cells, h1, h2, rfl⟩, h3⟩ := hS.own
 have hl : xs.length ≠ 0 := fun h => hx0 (List.eq_nil_of_length_eq_zero h)
 rcases h2.2 with ⟨_, h0⟩ | ⟨g, cap, cur, rfl, hbg, hg, hnc, hcm, hcs, htake⟩
 ·exact absurd h0 hl
 ·have hrun := Lib.run_unsafeSliceData_row (P := P) w #[t] o.type ⟨g, 0, none⟩ xs.length cap (by omega)
  refine .of_run (v := .pointer (some ⟨g, 0, none⟩)) (w' := w) ?_ (hk g cap Z)
  unfold execOp
  simp only [ho, resolve, invoke, builtin, Sem.run_bind, Sem.run_pure, Result.andThen_ok, List.map_toArray, List.map_cons, List.map_nil, hx, hrun]
theorem Qdo {pt it : TypeId} {x y : Operand} {g cap : Nat} {q : ByteArray} (hS : St w0 s (.arr (Qc .u8) Te v xs :: H) w) (hv : v = .slice (some ⟨g, 0, none⟩) xs.length cap) (hp : P.underlying pt = some (.pointer Te)) (hc : P.cellsOf Te = 1)
  (ho : o.op = .call { callee := .builtin .unsafeString, args := #[x, y], argTypes := #[pt, it] }) (hx : ρ x = .pointer (some ⟨g, 0, none⟩)) (hy : ρ y = .int .i64 (xs.length : Int)) (hq : Qff xs = some q)
  (hk : ∀ w', St w0 s H w' → K (.string q) w') : Exec P ρ o w K := by
 obtain ⟨h0, hcs, rfl⟩ := Qfy hq
 have hS0 := hS
 obtain ⟨bs, hn, hss, b1, b2, e, ⟨cells, h1, h2, rfl⟩, h3⟩ := hS.own
 subst hv
 rw [Qdg] at h1
 rcases h2.2 with ⟨hv, _⟩ | ⟨g', cap', cur, hv, hbg, hg, hnc, hcm, hcz, htake⟩
 ·cases hv
 ·cases hv
  have hsz8 : (Qc .u8).sz = 1 := rfl
  have hlen : (u8s xs).length = xs.length := by simp [u8s]
  have hne : u8s xs ≠ [] := fun h => h0 (List.eq_nil_of_length_eq_zero (by rw [← hlen, h]; rfl))
  have hrun := Lib.run_unsafeString_row (P := P) w pt it o.type Te hp hc g cur.size (by simp [World.shape?, hg]) (u8s xs) hne (by rw [hlen]; rw [hsz8] at hcz; omega) (by rw [hlen]; simp only [maxLen] at hcm; omega) (by
   intro j x hj
   refine h2.cells (g := g) Z j _ ?_
   rw [h1, hcs]
   simp [Lib.byteCells, hj])
  rw [hlen] at hrun
  refine .of_run (v := .string ⟨(u8s xs).toArray⟩) (w' := w.freeze ⟨g, 0, none⟩ xs.length) ?_ (hk _ ?_)
  ·unfold execOp
   simp only [ho, resolve, invoke, builtin, Sem.run_bind, Sem.run_pure, Result.andThen_ok, List.map_toArray, List.map_cons, List.map_nil, hx, hy, hrun]
  ·subst e
   have hl0 : xs.length ≠ 0 := fun h => h0 (List.eq_nil_of_length_eq_zero h)
   have hfz : ∀ b, b ≠ g → (w.freeze ⟨g, 0, none⟩ xs.length).heap[b]? = w.heap[b]? := by
    intro b hb
    unfold World.freeze
    rw [if_neg hl0]
    simp [Array.getElem?_modify, Ne.symm hb]
   have hsize : (w.freeze ⟨g, 0, none⟩ xs.length).heap.size = w.heap.size := by
    unfold World.freeze
    rw [if_neg hl0]
    simp
   have hos : (w.freeze ⟨g, 0, none⟩ xs.length).os = w.os ∧ (w.freeze ⟨g, 0, none⟩ xs.length).tape = w.tape ∧ (w.freeze ⟨g, 0, none⟩ xs.length).output = w.output ∧ (w.freeze ⟨g, 0, none⟩ xs.length).drawn = w.drawn := by
    unfold World.freeze
    rw [if_neg hl0]
    exact ⟨Z, Z, Z, Z⟩
   obtain ⟨n1, n2, n3⟩ := List.nodup_append.1 hn
   refine ⟨hos.1.trans hS.os, hos.2.1.trans hS.tape, hos.2.2.1.trans hS.output, by rw [hos.2.2.2]; exact hS.drawn, by rw [hsize]; exact hS.size, fun b o hb => ?_, b2, n2, fun b hb => hss b (List.mem_append_right _ hb), h3.loc fun b hb => hfz b ?_⟩
   ·rw [hfz b (fun e => by subst e; have := hss b (List.mem_append_left _ (by simp [Value.ownBlock])); rw [this] at hb; cases hb)]
    exact hS.stay b o hb
   ·intro e
    subst e
    exact n3 b (by simp [Value.ownBlock]) b hb Z
/-! ### a builder's own address -/
theorem QdX {T T' E : TypeId} {x y : Operand} {a : Addr} {j : TypeInfo} (hT : P.underlying T = some (.pointer E)) (hE : P.info? E = some j) (ho : o.op = .binOp .neq T x y T') (hx : ρ x = .pointer (some a)) (hy : ρ y = .pointer (some a)) (hk : K (.bool false) w) : Exec P ρ o w K := by
 refine .of_run (v := .bool false) (w' := w) ?_ hk
 unfold execOp
 have := Lib.run_neq_ptr_same (P := P) w a hT hE
 simp [ho, hx, hy, eqGuard, this, Result.andThen]
end
end Go.Pw
/- -/
namespace Go.Pw
abbrev QgJ (b : Nat) (p : Value) : Prop := p = .pointer none ∨ p = .pointer (some ⟨b, 0, none⟩)
def Res.bld (T e : TypeId) (b : Nat) (xs : List Int) : Res where
 p := fun s w bs => ∃ pv v b2, bs = b :: b2 ∧ w.heap[b]? = some (.cells #[pv, v] T (0, 0)) ∧ QgJ b pv ∧ (Res.arr (Qc .u8) e v xs).p s w b2
 loc := by
  rintro s w w' bs ⟨pv, v, b2, rfl, h1, h2, h3⟩ hw
  exact ⟨pv, v, b2, Z, by rw [hw b (by simp)]; exact h1, h2, (Res.arr _ _ _ _).loc h3 fun x hx => hw x (List.mem_cons_of_mem _ hx)⟩
 mono := fun l ⟨pv, v, b2, e, h1, h2, h3⟩ => ⟨pv, v, b2, e, h1, h2, (Res.arr _ _ _ _).mono l h3⟩
 lt := by
  rintro s w bs ⟨pv, v, b2, rfl, h1, h2, h3⟩ x hx
  rcases List.mem_cons.1 hx with rfl | hx
  ·exact (Array.getElem?_eq_some_iff.1 h1).1
  ·exact (Res.arr _ _ _ _).lt h3 x hx
section
variable {P : Program} {ρ : Operand → Value} {o : Oper} {w w0 : World} {s : PHeap} {H : List Res} {K : Value → World → Prop} {T e : TypeId} {b : Nat} {xs : List Int}
theorem St.bld_open (hS : St w0 s (.bld T e b xs :: H) w) : ∃ pv v, QgJ b pv ∧ St w0 s (.box b T [pv, v] :: .arr (Qc .u8) e v xs :: H) w := by
 obtain ⟨bs, hn, hs, b1, b2, e1, ⟨pv, v, b3, rfl, h1, h2, h3⟩, h4⟩ := hS.own
 subst e1
 refine ⟨pv, v, h2, hS.os, hS.tape, hS.output, hS.drawn, hS.size, hS.stay, _, hn, hs, [b], b3 ++ b2, Z, ⟨Z, h1⟩, b3, b2, Z, h3, h4⟩
theorem St.bld_close {pv v : Value} (h : QgJ b pv) (hS : St w0 s (.box b T [pv, v] :: .arr (Qc .u8) e v xs :: H) w) : St w0 s (.bld T e b xs :: H) w := by
 obtain ⟨bs, hn, hs, b1, b2, e1, ⟨rfl, h1⟩, b3, b4, e2, h3, h4⟩ := hS.own
 subst e1; subst e2
 exact ⟨hS.os, hS.tape, hS.output, hS.drawn, hS.size, hS.stay, _, hn, hs, b :: b3, b4, Z, ⟨pv, v, b3, Z, h1, h, h3⟩, h4⟩
theorem QhY {α : Type} {E : Enc α} {Te : TypeId} (hS : St w0 s H w) : St w0 s (.arr E Te (.slice none 0 0) [] :: H) w := by
 obtain ⟨bs, hn, hs, hb⟩ := hS.own
 exact ⟨hS.os, hS.tape, hS.output, hS.drawn, hS.size, hS.stay, bs, hn, hs, [], bs, Z, ⟨[], Z, World.ownsRow_nil _ _ _ _, Z⟩, hb⟩
theorem St.box_shape {cs : List Value} (hS : St w0 s (.box b T cs :: H) w) : w.shape? b = some (T, cs.length) := by
 simp [World.shape?, hS.box_heap]
theorem QfW {S D t : TypeId} {x : Operand} {cs : List Value} {off : Nat} {j : TypeInfo} (hS : St w0 s (.box b T cs :: H) w) (h1 : P.underlying S = some (.pointer t)) (h2 : P.underlying D = some .unsafePointer) (ht : P.info? t = some j) (hj : j.size ≠ 0) (hoff : off < cs.length)
  (ho : o.op = .convert S D x) (hx : ρ x = .pointer (some ⟨b, off, none⟩)) (hk : K (.pointer (some ⟨b, off, none⟩)) w) : Exec P ρ o w K := by
 have hrun := Lib.run_to_unsafe (P := P) w ⟨b, off, none⟩ h1 h2 ht hj hS.box_shape hoff
 refine .of_run (v := .pointer (some ⟨b, off, none⟩)) (w' := w) ?_ hk
 unfold execOp
 simp only [ho, hx, Sem.run_bind, hrun, Result.andThen_ok, Sem.run_pure]
theorem Qew {S D u : TypeId} {x : Operand} {cs : List Value} {off : Nat} {j : TypeInfo} (hS : St w0 s (.box b T cs :: H) w) (h1 : P.underlying S = some .unsafePointer) (h2 : P.underlying D = some (.pointer u)) (hu : P.info? u = some j) (hl : liesAt P P.depth T (cs.length / P.cellsOf T) off u 1 = true)
  (ho : o.op = .convert S D x) (hx : ρ x = .pointer (some ⟨b, off, none⟩)) (hk : K (.pointer (some ⟨b, off, none⟩)) w) : Exec P ρ o w K := by
 have hrun := Lib.run_from_unsafe (P := P) w ⟨b, off, none⟩ h1 h2 hu hS.box_shape hl
 refine .of_run (v := .pointer (some ⟨b, off, none⟩)) (w' := w) ?_ hk
 unfold execOp
 simp only [ho, hx, Sem.run_bind, hrun, Result.andThen_ok, Sem.run_pure]
theorem QfY {f : FuncId} {fn : Func} {x : Operand} {ts : Array TypeId} {v : Value} (ho : o.op = .call { callee := .value (.func f), args := #[x], argTypes := ts }) (hc : ρ (.func f) = .func (.func f) #[] #[]) (hf : P.funcs[f]? = some fn) (hname : (fn.name == "runtime.NumGoroutine") = false)
  (hb : fn.body.isNone = true) (hn : Extern.findNext fn = none) (he : Extern.find fn = some Extern.AbiNoEscape.same) (hx : ρ x = v) (hk : K v w) : Exec P ρ o w K := by
 have hrun := run_callFunc_extern hf hname hb hn he #[v] w
 rw [Lib.run_noEscape (P := P) w v] at hrun
 refine .of_run (v := v) (w' := w) ?_ hk
 unfold execOp
 simp only [ho, resolve, hc, Deferred.ofValue, invoke, Sem.run_bind, Sem.run_pure, Result.andThen_ok, List.map_toArray, List.map_cons, List.map_nil, hx]
 simpa using hrun
/-! ### parts of strings -/
def Qdb (q : ByteArray) (l h : Int) : Option ByteArray := if 0 ≤ l ∧ l ≤ h ∧ h ≤ q.size then some (q.extract l.toNat h.toNat) else none
end
end Go.Pw
/- -/
namespace Go.Pw
def SubOf (sz : Nat) (v u : Value) (l n : Nat) : Prop := (u = v ∧ l = 0 ∧ ∃ a c, v = .slice a n c) ∨ ∃ g cap len, v = .slice (some ⟨g, 0, none⟩) len cap ∧ l + n ≤ len ∧ len ≤ cap ∧ u = .slice (some ⟨g, if cap = l then 0 else l * sz, none⟩) n (cap - l)
def Yy {α : Type} (xs : List α) (l h : Int) : Option Nat := if 0 ≤ l ∧ l ≤ h ∧ h ≤ xs.length ∧ 0 < xs.length then some (h - l).toNat else none
def QeE {α : Type} (xs : List α) (l : Int) (n : Nat) (i : Int) : Option α := if 0 ≤ i ∧ i < n then QD xs (l + i) else none
theorem Qc5 {α : Type} {xs : List α} {l h : Int} {n : Nat} (hv : Yy xs l h = some n) : 0 ≤ l ∧ l ≤ h ∧ h ≤ xs.length ∧ 0 < xs.length ∧ n = (h - l).toNat ∧ l.toNat + n ≤ xs.length := by
 unfold Yy at hv
 split at hv
 ·rename_i hc
  cases hv
  exact ⟨hc.1, hc.2.1, hc.2.2.1, hc.2.2.2, Z, by omega⟩
 ·cases hv
theorem Kn {α : Type} {xs : List α} {l : Int} {n : Nat} {i : Int} {y : α} (h : QeE xs l n i = some y) : 0 ≤ i ∧ i < n ∧ QD xs (l + i) = some y := by
 unfold QeE at h
 split at h
 ·rename_i hc; exact ⟨hc.1, hc.2, h⟩
 ·cases h
section
variable {P : Program} {ρ : Operand → Value} {o : Oper} {w w0 : World} {s : PHeap} {H : List Res} {K : Value → World → Prop} {T Te : TypeId} {α : Type} {E : Enc α} {xs : List α} {v u : Value}
theorem St.arr_some (hS : St w0 s (.arr E Te v xs :: H) w) (h : 0 < xs.length) : ∃ g cap, v = .slice (some ⟨g, 0, none⟩) xs.length cap ∧ xs.length ≤ cap := by
 obtain ⟨bs, hn, hss, b1, b2, e, ⟨cells, h1, h2, rfl⟩, h3⟩ := hS.own
 rcases h2.2 with ⟨_, h0⟩ | ⟨g, cap, cur, rfl, hbg, hg, hnc, hcm, hcs, htake⟩
 ·omega
 ·exact ⟨g, cap, Z, hnc⟩
theorem SubOf.mk {g cap len l n sz : Nat} (h1 : l + n ≤ len) (h2 : len ≤ cap) :
  SubOf sz (.slice (some ⟨g, 0, none⟩) len cap) (.slice (if cap = l then some (⟨g, 0, none⟩ : Addr) else (some (⟨g, 0, none⟩ : Addr)).map (·.add (l * sz))) n (cap - l)) l n := by
 refine .inr ⟨g, cap, len, Z, h1, h2, ?_⟩
 by_cases h : cap = l
 ·rw [if_pos h, if_pos h]
 ·rw [if_neg h, if_neg h]
  simp [Addr.add_lit]
theorem Qan {x lo : Operand} {k : IntKind} {l : Int} {m e by_ : Nat} (hS : St w0 s (.arr E Te v xs :: H) w) (hT : QA P T = some (e, E.sz, by_)) (ho : o.op = .slice T x (some lo) none none) (hx : ρ x = v) (hh : ρ lo = .int k l)
  (hm : Yy xs l xs.length = some m) (hk : ∀ u, SubOf E.sz v u l.toNat m → K u w) : Exec P ρ o w K := by
 unfold Yy at hm
 split at hm
 ·rename_i hc
  obtain ⟨h0, h1, h2, h3⟩ := hc
  cases hm
  obtain ⟨g, cap, rfl, hcap⟩ := hS.arr_some h3
  obtain ⟨i, hu, hi', hs, _⟩ := Qz hT
  have hn : ((xs.length : Int) - l).toNat = xs.length - l.toNat := by omega
  refine .of_run (v := .slice (if cap = l.toNat then some (⟨g, 0, none⟩ : Addr) else (some (⟨g, 0, none⟩ : Addr)).map (·.add (l.toNat * E.sz))) (xs.length - l.toNat) (cap - l.toNat)) ?_ (hk _ ?_)
  ·unfold execOp
   simp only [ho, hx, hh, Option.map_none, Option.map_some, Instr.sliceAt, Instr.slice, Instr.sliceBounds, Sem.run_bind, run_underlying hu, Result.andThen_ok, Sem.run_pure, JZ (P := P) (w := w) (k := k) h0 h1]
   simp [sizeOf, typeInfo, hi', hs]
  ·rw [hn]; exact SubOf.mk (by omega) hcap
 ·cases hm
theorem Qaz {x hi : Operand} {k : IntKind} {h : Int} {m e by_ : Nat} (hS : St w0 s (.arr E Te v xs :: H) w) (hT : QA P T = some (e, E.sz, by_)) (ho : o.op = .slice T x none (some hi) none) (hx : ρ x = v) (hh : ρ hi = .int k h)
  (hm : Yy xs 0 h = some m) (hk : ∀ u, SubOf E.sz v u 0 m → K u w) : Exec P ρ o w K := by
 unfold Yy at hm
 split at hm
 ·rename_i hc
  obtain ⟨_, h0, h2, h3⟩ := hc
  cases hm
  obtain ⟨g, cap, rfl, hcap⟩ := hS.arr_some h3
  obtain ⟨i, hu, hi', hs, _⟩ := Qz hT
  have hn : (h - 0).toNat = h.toNat - 0 := by omega
  refine .of_run (v := .slice (if cap = 0 then some (⟨g, 0, none⟩ : Addr) else (some (⟨g, 0, none⟩ : Addr)).map (·.add (0 * E.sz))) (h.toNat - 0) (cap - 0)) ?_ (hk _ ?_)
  ·unfold execOp
   simp only [ho, hx, hh, Option.map_none, Option.map_some, Instr.sliceAt, Instr.slice, Instr.sliceBounds, Sem.run_bind, run_underlying hu, Result.andThen_ok, Sem.run_pure, JZ (P := P) (w := w) (k := k) h0 (show h ≤ (cap : Int) by omega)]
   simp [sizeOf, typeInfo, hi', hs]
  ·rw [hn]; exact SubOf.mk (by omega) hcap
 ·cases hm
theorem QbR {x : Operand} {sz l n e k b : Nat} (hT : QA P T = some (e, k, b)) (h : SubOf sz v u l n) (ho : o.op = .call { callee := .builtin .len, args := #[x], argTypes := #[T] }) (hx : ρ x = u) (hk : K (.int .i64 (n : Int)) w) : Exec P ρ o w K := by
 obtain ⟨i, hu, _⟩ := Qz hT
 rcases h with ⟨rfl, _, a, c, rfl⟩ | ⟨g, cap, len, _, _, _, rfl⟩
 ·exact Qaa hu ho hx hk
 ·exact Qaa hu ho hx hk
theorem QaN {x i : Operand} {k : IntKind} {n l : Int} {g cap len m e sz by_ : Nat} (hT : QA P T = some (e, sz, by_)) (hl : 0 ≤ l) (h : SubOf sz v u l.toNat m) (hv : v = .slice (some ⟨g, 0, none⟩) len cap) (ho : o.op = .indexAddr T x i) (hx : ρ x = u) (hi : ρ i = .int k n)
  (h0 : 0 ≤ n) (h1 : n < m) (hk : K (.pointer (some ⟨g, 0 + (l + n).toNat * sz, none⟩)) w) : Exec P ρ o w K := by
 rcases h with ⟨rfl, hl0, a, c, hv'⟩ | ⟨g', cap', len', hv', a1, a2, rfl⟩
 ·rw [hv] at hv'
  cases hv'
  refine Qe hT ho (hx.trans hv) hi h0 h1 ?_
  have e1 : (l + n).toNat = n.toNat := by omega
  rwa [e1] at hk
 rw [hv] at hv'
 cases hv'
 have hc : ¬ cap = l.toNat := by omega
 refine Qe hT ho hx hi h0 h1 ?_
 rw [if_neg hc]
 have e1 : (l + n).toNat = l.toNat + n.toNat := by omega
 rw [e1, Nat.add_mul, Nat.zero_add] at hk
 exact hk
theorem St.arr_head {m : Nat} (hS : St w0 s (.arr E Te v xs :: H) w) (h : SubOf E.sz v u 0 m) (hm : m ≤ xs.length) : St w0 s (.arr E Te u (xs.take m) :: H) w := by
 rcases h with ⟨rfl, _, a, c, rfl⟩ | ⟨g, cap, len, rfl, a1, a2, rfl⟩
 ·obtain ⟨a', c', hv⟩ := hS.arr_shape
  cases hv
  rwa [List.take_length]
 obtain ⟨bs, hn, hss, b1, b2, e, ⟨cells, h1, h2, rfl⟩, h3⟩ := hS.own
 rcases h2.2 with ⟨hv, _⟩ | ⟨g', cap', cur, hv, hbg, hg, hnc, hcm, hcs, htake⟩
 ·cases hv
 ·cases hv
  have hz : (if cap = 0 then 0 else 0 * E.sz) = 0 := by split <;> simp
  have hl : (xs.take m).length = m := by simp; omega
  have hmul : m * E.sz ≤ xs.length * E.sz := Nat.mul_le_mul_right _ hm
  refine ⟨hS.os, hS.tape, hS.output, hS.drawn, hS.size, hS.stay, bs, hn, hss, _, b2, e, ⟨cells.take (m * E.sz), h1.take m, ⟨?_, .inr ⟨g, cap, cur, ?_, hbg, hg, by rw [hl]; omega, hcm, hcs, ?_⟩⟩, ?_⟩, h3⟩
  ·rw [hl]; have := h2.1; simp; omega
  ·rw [hl, hz]; rfl
  ·rw [hl, ← htake, List.take_take, Nat.min_eq_left hmul]
  ·simp [Value.ownBlock]
theorem Qhy {β : Type} (cur A : List β) {a b c : Nat} (h1 : a + b ≤ c) (h2 : c ≤ cur.length) (h3 : A.length = b) : (cur.take a ++ A ++ cur.drop (a + b)).take c = (cur.take c).take a ++ A ++ (cur.take c).drop (a + b) := by
 have hA : (cur.take a ++ A).length = a + b := by simp; omega
 rw [List.take_append, hA, List.take_of_length_le (by rw [hA]; exact h1), List.take_take, Nat.min_eq_left (by omega), List.drop_take]
theorem QaO {x : Operand} {l n by_ : Nat} {z : Value} {y : α} (hS : St w0 s (.arr E Te v xs :: H) w) (hsub : SubOf E.sz v u l n) (hln : l + n ≤ xs.length) (hT : QA P T = some (Te, E.sz, by_)) (hz : Jl P Te = some z) (hzr : E.rep s z.cells.toList y)
  (ho : o.op = .call { callee := .builtin .clear, args := #[x], argTypes := #[T] }) (hx : ρ x = u)
  (hk : ∀ w', St w0 s (.arr E Te v (xs.take l ++ List.replicate n y ++ xs.drop (l + n)) :: H) w' → K (.tuple #[]) w') : Exec P ρ o w K := by
 obtain ⟨i, hu, hi, hsz, hbs⟩ := Qz hT
 obtain ⟨i', hi', hz'⟩ := Yr hz
 rw [hi] at hi'
 cases hi'
 have hsub' : n ≠ 0 → ∃ g cap len, v = .slice (some ⟨g, 0, none⟩) len cap ∧ l + n ≤ len ∧ len ≤ cap ∧ u = .slice (some ⟨g, if cap = l then 0 else l * E.sz, none⟩) n (cap - l) := by
  intro hn0
  rcases hsub with ⟨rfl, rfl, a, c, hv⟩ | h
  ·obtain ⟨g, cap, hv2, hc2⟩ := hS.arr_some (by omega)
   rw [hv] at hv2
   cases hv2
   exact ⟨g, _, xs.length, hv, by omega, hc2, by rw [hv]; simp⟩
  ·exact h
 by_cases h0 : n = 0
 ·subst h0
  have hshape : ∃ a c, u = .slice a 0 c := by
   rcases hsub with ⟨rfl, _, h⟩ | ⟨g, cap, len, _, _, _, rfl⟩
   ·exact h
   ·exact ⟨_, _, Z⟩
  obtain ⟨a, c, rfl⟩ := hshape
  refine .of_run (v := .tuple #[]) (w' := w) ?_ (hk w ?_)
  ·unfold execOp
   simp only [ho, resolve, invoke, builtin, Sem.run_bind, Sem.run_pure, Result.andThen_ok, List.map_toArray, List.map_cons, List.map_nil, hx]
   cases a <;> simp [Builtin.clear_, run_underlying hu, Result.andThen]
  ·simpa using hS
 ·obtain ⟨g, cap, len, rfl, a1, a2, rfl⟩ := hsub' h0
  have hcap : ¬ cap = l := by omega
  have hzl := E.len hzr
  have hcz : (Builtin.zeroCells z.cells n).toList = (List.replicate n z.cells.toList).flatten := by
   have := QdG (c := z.cells.toList) (by rw [hzl]; exact E.pos) n
   simpa [madeCells, Builtin.zeroCells] using this
  have hnews := QaL hzr n
  have hnl := hnews.len
  simp only [List.length_replicate] at hnl
  have hcore : ∀ b1, (Res.arr E Te (.slice (some ⟨g, 0, none⟩) len cap) xs).p s w b1 → ∃ cur, w.heap[g]? = some (.cells cur Te (0, 0)) ∧ l * E.sz + n * E.sz ≤ cur.size ∧ b1 = [g] ∧
    (Res.arr E Te (.slice (some ⟨g, 0, none⟩) len cap) (xs.take l ++ List.replicate n y ++ xs.drop (l + n))).p s (w.setRow g (cur.toList.take (l * E.sz) ++ (List.replicate n z.cells.toList).flatten ++ cur.toList.drop (l * E.sz + n * E.sz)).toArray) [g] := by
   rintro b1 ⟨cells, h1, h2, rfl⟩
   rcases h2.2 with ⟨hv, _⟩ | ⟨g', cap', cur, hv, hbg, hg, hnc, hcm, hcs, htake⟩
   ·cases hv
   ·cases hv
    have hlen : (xs.take l ++ List.replicate n y ++ xs.drop (l + n)).length = xs.length := by simp; omega
    have m1 : l * E.sz + n * E.sz ≤ xs.length * E.sz := by rw [← Nat.add_mul]; exact Nat.mul_le_mul_right _ hln
    have m2 : xs.length * E.sz ≤ cur.size := by rw [hcs]; exact Nat.mul_le_mul_right _ hnc
    have hcl := h1.len
    refine ⟨cur, hg, by omega, by simp [Value.ownBlock], cells.take (l * E.sz) ++ (List.replicate n z.cells.toList).flatten ++ cells.drop ((l + n) * E.sz), ((h1.take l).append hnews).append (h1.drop (l + n)), ⟨?_, .inr ⟨g, cap, _, by rw [hlen], Nat.zero_le _, setRow_heap w g cur _ Te _ hg, by rw [hlen]; exact hnc, hcm, ?_, ?_⟩⟩, by simp [Value.ownBlock]⟩
    ·rw [hlen]
     simp only [List.length_append, List.length_take, List.length_drop, hnl, hcl, Nat.add_mul]
     omega
    ·rw [← hcs]
     simp only [List.size_toArray, List.length_append, List.length_take, List.length_drop, Array.length_toList, hnl]
     omega
    ·rw [hlen, ← htake, List.toList_toArray]
     rw [Nat.add_mul]
     exact Qhy _ _ m1 (by simpa using m2) hnl
  obtain ⟨bs, hn, hss, b1, b2, e, h1, h2⟩ := hS.own
  obtain ⟨cur, hg, hfit, hb1, _⟩ := hcore b1 h1
  have hrun := run_storeCells_at (P := P) g (l * E.sz) Te (List.replicate n z.cells.toList).flatten 0 cur w hg (by rw [hnl]; omega) (hnews.one)
  rw [hnl, Nat.add_zero] at hrun
  refine .of_run (v := .tuple #[]) (w' := _) ?_ (hk (w.setRow g (cur.toList.take (l * E.sz) ++ (List.replicate n z.cells.toList).flatten ++ cur.toList.drop (l * E.sz + n * E.sz)).toArray) ?_)
  ·unfold execOp
   have hzv : (zeroValue Te).run P w = .ok z w := by simp [zeroValue, typeInfo, hi, hz', Result.andThen]
   obtain ⟨n', rfl⟩ : ∃ n', n = n' + 1 := ⟨n - 1, by omega⟩
   simp only [ho, resolve, invoke, builtin, Sem.run_bind, Sem.run_pure, Result.andThen_ok, List.map_toArray, List.map_cons, List.map_nil, hx, if_neg hcap]
   simp [Builtin.clear_, run_underlying hu, hzv, hcz, hrun, Result.andThen]
  ·refine hS.turn Z Z Z (Nat.le_refl _) (by rw [Qau]; exact Nat.le_refl _) ?_
   intro c1 hc1
   obtain ⟨cur', hg', _, hc1', hnew⟩ := hcore c1 hc1
   rw [hg] at hg'
   cases hg'
   exact ⟨[g], hnew, by simp, fun x hx => .inl (by rw [hc1']; exact hx), fun x _ hx => setRow_other w g x _ (by rw [hc1'] at hx; simpa using hx)⟩
end
end Go.Pw
/- -/
namespace Go.Pw
def Qfe (a b : Int) : Int := if a < b then -1 else if b < a then 1 else 0
theorem QhB (a b : Int) : Qfe a b < 0 ↔ a < b := by
 unfold Qfe
 by_cases h1 : a < b <;> by_cases h2 : b < a <;> simp [h1, h2]
theorem QcB (a b : Int) : Qfe a b = 0 ↔ a = b := by
 unfold Qfe
 by_cases h1 : a < b <;> by_cases h2 : b < a <;> simp [h1, h2] <;> omega
universe u
end Go.Pw
