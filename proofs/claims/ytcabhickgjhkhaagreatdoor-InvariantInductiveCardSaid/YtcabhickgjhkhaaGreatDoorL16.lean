/-
  My walk's base, part 17: a row of bytes that takes a string at its end, and becomes one.
-/
import Derived.Test.YtcabhickgjhkhaaGreatDoorL15
import Derived.Lib.AppendStr
import Derived.Lib.UnsafeStr
import Derived.Lib.Builder
set_option linter.unusedSimpArgs false
namespace Go.Pw
/-! ### the pure words -/
def bytesOf (s : ByteArray) : List Int := s.data.toList.map fun b => (b.toNat : Int)
def appS (xs : List Int) (s : ByteArray) : Option (List Int) := if xs.length + s.size ≤ 140737488355328 then some (xs ++ bytesOf s) else none
def u8s (xs : List Int) : List UInt8 := xs.map fun n => UInt8.ofNat n.toNat
/-- The string that shares a row of bytes: of one byte at least. -/
def strOf (xs : List Int) : Option ByteArray := if xs ≠ [] ∧ xs.all (fun n => decide (0 ≤ n) && decide (n ≤ 255)) = true then some ⟨(u8s xs).toArray⟩ else none
theorem reps_bytes {s : PHeap} {cs : List Value} {xs : List Int} {k : IntKind} : reps (encInt k) s cs xs ↔ cs = xs.map (Value.int k) := by
  induction xs generalizing cs with
  | nil => simp [reps]
  | cons x xs ih =>
    unfold reps
    constructor
    · rintro ⟨c, r, rfl, h1, h2⟩
      have : c = [Value.int k x] := h1
      subst this
      rw [ih.1 h2]; rfl
    · rintro rfl
      exact ⟨[Value.int k x], xs.map (Value.int k), rfl, rfl, ih.2 rfl⟩
theorem strCells_map (s : ByteArray) : Lib.strCells s = (bytesOf s).map (Value.int .u8) := by
  simp [Lib.strCells, bytesOf]
theorem bytesOf_length (s : ByteArray) : (bytesOf s).length = s.size := by
  rw [bytesOf, List.length_map, Array.length_toList]; rfl
theorem strOf_some {xs : List Int} {c : ByteArray} (h : strOf xs = some c) : xs ≠ [] ∧ xs.map (Value.int .u8) = Lib.byteCells (u8s xs) ∧ c = ⟨(u8s xs).toArray⟩ := by
  unfold strOf at h
  split at h
  · rename_i hc
    obtain ⟨h1, h2⟩ := hc
    cases h
    refine ⟨h1, ?_, rfl⟩
    simp only [Lib.byteCells, u8s, List.map_map]
    apply List.map_congr_left
    intro n hn
    have := List.all_eq_true.1 h2 n hn
    simp only [Bool.and_eq_true, decide_eq_true_eq] at this
    have h3 : (UInt8.ofNat n.toNat).toNat = n.toNat := by
      rw [UInt8.toNat_ofNat']
      exact Nat.mod_eq_of_lt (by omega)
    simp only [Function.comp, h3]
    congr 1
    omega
  · cases h
section
variable {P : Program} {ρ : Operand → Value} {o : Oper} {w w0 : World} {s : PHeap} {H : List Res} {K : Value → World → Prop} {Te : TypeId} {v : Value} {xs zs : List Int}
theorem arr_append_str {t u ty : TypeId} (hS : St w0 s (.arr (encInt .u8) Te v xs :: H) w) (hT : tySlice P t = some (Te, 1, 1)) (hU : P.underlying u = some .string) (hz : tyZero P Te = some (.int .u8 0)) {q : ByteArray} (hb : xs.length + q.size ≤ 140737488355328) :
    ∃ v' w', (Builtin.append_ #[t, u] ty #[v, .string q]).run P w = .ok v' w' ∧ St w0 s (.arr (encInt .u8) Te v' (xs ++ bytesOf q) :: H) w' := by
  obtain ⟨i, hu, hi, hsz, hbs⟩ := tySlice_parts hT
  obtain ⟨i', hi', hz'⟩ := tyZero_parts hz
  rw [hi] at hi'
  cases hi'
  have h63 : xs.length + q.size ≤ maxLen := by simp only [maxLen]; omega
  obtain ⟨bs, hn, hss, b1, b2, e, ⟨cells, h1, h2, rfl⟩, h3⟩ := hS.own
  have hcells : reps (encInt .u8) s (cells ++ Lib.strCells q) (xs ++ bytesOf q) := by
    rw [reps_bytes] at h1 ⊢
    rw [h1, strCells_map, List.map_append]
  have hql : (xs ++ bytesOf q).length = xs.length + q.size := by rw [List.length_append, bytesOf_length]
  have close : ∀ (v' : Value) (w' : World), w'.ownsRow 0 Te 1 v' (xs.length + q.size) (cells ++ Lib.strCells q) → w.grownBy w' v.ownBlock → (v'.ownBlock = v.ownBlock ∨ ∀ g, v'.ownBlock = some g → w.heap.size ≤ g) → w.drawn ≤ w'.drawn → St w0 s (.arr (encInt .u8) Te v' (xs ++ bytesOf q) :: H) w' := by
    intro v' w' hown hgrow hwhere hdr
    refine hS.turn hgrow.os hgrow.tape hgrow.output hdr hgrow.size ?_
    rintro c1 ⟨_, _, _, rfl⟩
    refine ⟨v'.ownBlock.toList, ⟨cells ++ Lib.strCells q, hcells, by rw [hql]; exact hown, rfl⟩, ?_, ?_, ?_⟩
    · cases v'.ownBlock <;> simp
    · intro x hx
      rcases hwhere with h | h
      · exact .inl (by rw [← h]; exact hx)
      · exact .inr (h x (by simpa using hx))
    · intro x hx hne
      refine hgrow.block x hx ?_
      intro e
      rw [← e] at hne
      simp at hne
  have zero : ∀ {v' : Value} {w' : World} {n : Nat} {cs : List Value}, w'.ownsRow w.heap.size Te 1 v' n cs → w'.ownsRow 0 Te 1 v' n cs := fun h =>
    ⟨h.1, h.2.imp (fun h => h) (fun ⟨g, cap, cur, a1, _, a2⟩ => ⟨g, cap, cur, a1, Nat.zero_le _, a2⟩)⟩
  have hsz8 : (encInt .u8).sz = 1 := rfl
  rcases h2.2 with ⟨rfl, hx0⟩ | ⟨g, cap, cur, rfl, hbg, hg, hnc, hcm, hcs, htake⟩
  · have h2' : w.ownsRow w.heap.size Te 1 (.slice none 0 0) xs.length cells := ⟨h2.1, .inl ⟨rfl, hx0⟩⟩
    obtain ⟨v', w', hrun, hown, hgrow, _⟩ := Lib.run_append_own_string (P := P) w w.heap.size t u ty Te i hu hU hi hz' hsz hbs _ xs.length cells h2' q h63 hb (Nat.le_refl _)
    refine ⟨v', w', hrun, close v' w' (zero hown) hgrow (.inr fun g hg => (hown.lt g hg).1) ?_⟩
    by_cases hm : q.size = 0
    · have hf := Lib.run_firstCells_string (P := P) w 1 q
      rw [hm] at hf
      have hrun0 : (Builtin.append_ #[t, u] ty #[.slice none 0 0, .string q]).run P w = .ok (.slice none 0 0) w := by
        simp [Builtin.append_, run_underlying hu, run_underlying hU, sizeOf, typeInfo, hi, hsz, Builtin.lenOf, hm, hf]
      rw [hrun0] at hrun
      cases hrun
      exact Nat.le_refl _
    · have hrun0 := run_append_nil_string (P := P) w t u ty Te i (.int .u8 0) hu hU hi hz' q (by omega) (by omega) (by rw [hbs]; omega)
      rw [hrun] at hrun0
      cases hrun0
      exact Nat.le_succ _
  · obtain ⟨v', w', hrun, hown, hgrow, _⟩ := Lib.run_append_own_string (P := P) w 0 t u ty Te i hu hU hi hz' hsz hbs _ xs.length cells h2 q h63 hb (Nat.zero_le _)
    by_cases hroom : xs.length + q.size ≤ cap
    · have hrun0 := Lib.run_append_room_string (P := P) w t u ty Te i hu hU hi hsz g xs.length cap cur hg q hroom (by rw [hsz8] at hcs; omega)
      have hr := hrun
      rw [hrun0] at hr
      cases hr
      exact ⟨_, _, hrun0, close _ _ hown hgrow (.inl rfl) (Nat.le_refl _)⟩
    · have holds : ∀ j u, cells[j]? = some u → w.cell? ((⟨g, 0, none⟩ : Addr).add j) = some u := h2.cells (g := g) rfl
      have hrun0 := Lib.run_append_grow_string (P := P) w t u ty Te i (.int .u8 0) hu hU hi hz' ⟨g, 0, none⟩ xs.length cap cells (by rw [hsz]; have := h2.1; rw [hsz8] at this; exact this) holds q (by omega) (by omega) (by rw [hbs]; exact growslice_fits (by omega) (by omega))
      have hr := hrun
      rw [hrun0] at hr
      cases hr
      exact ⟨_, _, hrun0, close _ _ hown hgrow (.inr fun g' hg' => by simp [Value.ownBlock] at hg'; omega) (Nat.le_succ _)⟩
/-- 'append(v, q...)', q a string. -/
theorem Exec.append_str {t u : TypeId} {x y : Operand} {q : ByteArray} (hS : St w0 s (.arr (encInt .u8) Te v xs :: H) w) (hT : tySlice P t = some (Te, 1, 1)) (hU : P.underlying u = some .string) (hz : tyZero P Te = some (.int .u8 0))
    (ho : o.op = .call { callee := .builtin .append, args := #[x, y], argTypes := #[t, u] }) (hx : ρ x = v) (hy : ρ y = .string q) (ha : appS xs q = some zs)
    (hk : ∀ v' w', St w0 s (.arr (encInt .u8) Te v' zs :: H) w' → K v' w') : Exec P ρ o w K := by
  unfold appS at ha
  split at ha
  · rename_i hb
    cases ha
    obtain ⟨v', w', hrun, hS'⟩ := arr_append_str (P := P) (ty := o.type) hS hT hU hz hb
    refine .of_run (v := v') (w' := w') ?_ (hk v' w' hS')
    unfold execOp
    simp only [ho, resolve, invoke, builtin, Sem.run_bind, Sem.run_pure, Result.andThen_ok, List.map_toArray, List.map_cons, List.map_nil, hx, hy, hrun]
  · cases ha
/-- 'unsafe.SliceData(v)' of a row with a byte. -/
theorem Exec.slice_data {t : TypeId} {x : Operand} (hS : St w0 s (.arr (encInt .u8) Te v xs :: H) w) (hx0 : xs ≠ []) (ho : o.op = .call { callee := .builtin .unsafeSliceData, args := #[x], argTypes := #[t] }) (hx : ρ x = v)
    (hk : ∀ g cap, v = .slice (some ⟨g, 0, none⟩) xs.length cap → K (.pointer (some ⟨g, 0, none⟩)) w) : Exec P ρ o w K := by
  obtain ⟨bs, hn, hss, b1, b2, e, ⟨cells, h1, h2, rfl⟩, h3⟩ := hS.own
  have hl : xs.length ≠ 0 := fun h => hx0 (List.eq_nil_of_length_eq_zero h)
  rcases h2.2 with ⟨_, h0⟩ | ⟨g, cap, cur, rfl, hbg, hg, hnc, hcm, hcs, htake⟩
  · exact absurd h0 hl
  · have hrun := Lib.run_unsafeSliceData_row (P := P) w #[t] o.type ⟨g, 0, none⟩ xs.length cap (by omega)
    refine .of_run (v := .pointer (some ⟨g, 0, none⟩)) (w' := w) ?_ (hk g cap rfl)
    unfold execOp
    simp only [ho, resolve, invoke, builtin, Sem.run_bind, Sem.run_pure, Result.andThen_ok, List.map_toArray, List.map_cons, List.map_nil, hx, hrun]
/-- 'unsafe.String(p, len(v))': the row is given up. -/
theorem Exec.unsafe_string {pt it : TypeId} {x y : Operand} {g cap : Nat} {q : ByteArray} (hS : St w0 s (.arr (encInt .u8) Te v xs :: H) w) (hv : v = .slice (some ⟨g, 0, none⟩) xs.length cap) (hp : P.underlying pt = some (.pointer Te)) (hc : P.cellsOf Te = 1)
    (ho : o.op = .call { callee := .builtin .unsafeString, args := #[x, y], argTypes := #[pt, it] }) (hx : ρ x = .pointer (some ⟨g, 0, none⟩)) (hy : ρ y = .int .i64 (xs.length : Int)) (hq : strOf xs = some q)
    (hk : ∀ w', St w0 s H w' → K (.string q) w') : Exec P ρ o w K := by
  obtain ⟨h0, hcs, rfl⟩ := strOf_some hq
  have hS0 := hS
  obtain ⟨bs, hn, hss, b1, b2, e, ⟨cells, h1, h2, rfl⟩, h3⟩ := hS.own
  subst hv
  rw [reps_bytes] at h1
  rcases h2.2 with ⟨hv, _⟩ | ⟨g', cap', cur, hv, hbg, hg, hnc, hcm, hcz, htake⟩
  · cases hv
  · cases hv
    have hsz8 : (encInt .u8).sz = 1 := rfl
    have hlen : (u8s xs).length = xs.length := by simp [u8s]
    have hne : u8s xs ≠ [] := fun h => h0 (List.eq_nil_of_length_eq_zero (by rw [← hlen, h]; rfl))
    have hrun := Lib.run_unsafeString_row (P := P) w pt it o.type Te hp hc g cur.size (by simp [World.shape?, hg]) (u8s xs) hne (by rw [hlen]; rw [hsz8] at hcz; omega) (by rw [hlen]; simp only [maxLen] at hcm; omega) (by
      intro j x hj
      refine h2.cells (g := g) rfl j _ ?_
      rw [h1, hcs]
      simp [Lib.byteCells, hj])
    rw [hlen] at hrun
    refine .of_run (v := .string ⟨(u8s xs).toArray⟩) (w' := w.freeze ⟨g, 0, none⟩ xs.length) ?_ (hk _ ?_)
    · unfold execOp
      simp only [ho, resolve, invoke, builtin, Sem.run_bind, Sem.run_pure, Result.andThen_ok, List.map_toArray, List.map_cons, List.map_nil, hx, hy, hrun]
    · subst e
      have hl0 : xs.length ≠ 0 := fun h => h0 (List.eq_nil_of_length_eq_zero h)
      have hfz : ∀ b, b ≠ g → (w.freeze ⟨g, 0, none⟩ xs.length).heap[b]? = w.heap[b]? := by
        intro b hb
        unfold World.freeze
        rw [if_neg hl0]
        simp [Array.getElem?_modify, Ne.symm hb]
      have hsize : (w.freeze ⟨g, 0, none⟩ xs.length).heap.size = w.heap.size := by
        unfold World.freeze
        rw [if_neg hl0]
        simp
      have hos : (w.freeze ⟨g, 0, none⟩ xs.length).os = w.os ∧ (w.freeze ⟨g, 0, none⟩ xs.length).tape = w.tape ∧ (w.freeze ⟨g, 0, none⟩ xs.length).output = w.output ∧ (w.freeze ⟨g, 0, none⟩ xs.length).drawn = w.drawn := by
        unfold World.freeze
        rw [if_neg hl0]
        exact ⟨rfl, rfl, rfl, rfl⟩
      obtain ⟨n1, n2, n3⟩ := List.nodup_append.1 hn
      refine ⟨hos.1.trans hS.os, hos.2.1.trans hS.tape, hos.2.2.1.trans hS.output, by rw [hos.2.2.2]; exact hS.drawn, by rw [hsize]; exact hS.size, fun b o hb => ?_, b2, n2, fun b hb => hss b (List.mem_append_right _ hb), h3.loc fun b hb => hfz b ?_⟩
      · rw [hfz b (fun e => by subst e; have := hss b (List.mem_append_left _ (by simp [Value.ownBlock])); rw [this] at hb; cases hb)]
        exact hS.stay b o hb
      · intro e
        subst e
        exact n3 b (by simp [Value.ownBlock]) b hb rfl
/-! ### a builder's own address -/
theorem Exec.ptr_neq_self {T T' E : TypeId} {x y : Operand} {a : Addr} {j : TypeInfo} (hT : P.underlying T = some (.pointer E)) (hE : P.info? E = some j) (ho : o.op = .binOp .neq T x y T') (hx : ρ x = .pointer (some a)) (hy : ρ y = .pointer (some a)) (hk : K (.bool false) w) : Exec P ρ o w K := by
  refine .of_run (v := .bool false) (w' := w) ?_ hk
  unfold execOp
  have := Lib.run_neq_ptr_same (P := P) w a hT hE
  simp [ho, hx, hy, eqGuard, this, Result.andThen]
end
end Go.Pw
