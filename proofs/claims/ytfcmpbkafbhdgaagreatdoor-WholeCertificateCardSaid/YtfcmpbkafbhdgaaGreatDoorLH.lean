/- -/
import Derived.Test.YtfcmpbkafbhdgaaGreatDoorLG
import Derived.Test.YtfcmpbkafbhdgaaGreatDoorLF
import Derived.Test.YtfcmpbkafbhdgaaGreatDoorLC
import Derived.Laws.CopyRow
import Derived.Lib.AppendZerosOnto
import Derived.Lib.Overlaps
set_option linter.unusedSimpArgs false
set_option linter.unusedVariables false
namespace Go.Pw
section
variable {P : Program} {ρ : Operand → Value} {o : Oper} {w w0 : World} {s : PHeap} {H : List Res} {K : Value → World → Prop} {T Te : TypeId} {α : Type} {E : Enc α} {xs ys : List α} {v : Value} {g cap : Nat} {cs : List Value}
theorem St.arr_open (hS : St w0 s (.arr E Te v xs :: H) w) (h : 0 < xs.length) : ∃ (g cap : Nat) (cs : List Value), v = .slice (some ⟨g, 0, none⟩) xs.length cap ∧ xs.length ≤ cap ∧ cap ≤ maxLen ∧ cs.length = cap * E.sz ∧ reps E s (cs.take (xs.length * E.sz)) xs ∧ St w0 s (.box g Te cs :: H) w := by
 obtain ⟨bs, hn, hs, b1, b2, e, ⟨cells, h1, h2, h3⟩, h4⟩ := hS.own
 rcases h2.2 with ⟨_, hx⟩ | ⟨g, cap, cur, rfl, hbg, hg, hnc, hcm, hcs, htake⟩
 ·omega
 ·refine ⟨g, cap, cur.toList, Z, hnc, hcm, by simpa using hcs, by rw [htake]; exact h1, hS.os, hS.tape, hS.output, hS.drawn, hS.size, hS.stay, bs, hn, hs, b1, b2, e, ⟨by rw [h3]; simp [Value.ownBlock], by simpa using hg⟩, h4⟩
theorem St.arr_close (hS : St w0 s (.box g Te cs :: H) w) (h1 : ys.length ≤ cap) (h2 : cap ≤ maxLen) (h3 : cs.length = cap * E.sz) (h4 : reps E s (cs.take (ys.length * E.sz)) ys) : St w0 s (.arr E Te (.slice (some ⟨g, 0, none⟩) ys.length cap) ys :: H) w := by
 obtain ⟨bs, hn, hs, b1, b2, e, ⟨h5, h6⟩, h7⟩ := hS.own
 refine ⟨hS.os, hS.tape, hS.output, hS.drawn, hS.size, hS.stay, bs, hn, hs, b1, b2, e, ⟨cs.take (ys.length * E.sz), h4, ⟨h4.len, .inr ⟨g, cap, cs.toArray, Z, Nat.zero_le _, h6, h1, h2, by simpa using h3, by simp⟩⟩, by rw [h5]; simp [Value.ownBlock]⟩, h7⟩
theorem QjX {g p : Nat} : (⟨g, 0, none⟩ : Addr).add p = ⟨g, p, none⟩ := by rw [Addr.add_lit]; simp
theorem Qao {x hi : Operand} {k : IntKind} {h : Int} {len e sz by_ : Nat} (hT : QA P T = some (e, sz, by_)) (ho : o.op = .slice T x none (some hi) none) (hx : ρ x = .slice (some ⟨g, 0, none⟩) len cap) (hh : ρ hi = .int k h)
  (h0 : 0 ≤ h) (h1 : h ≤ (cap : Int)) (hk : K (.slice (some ⟨g, 0, none⟩) h.toNat cap) w) : Exec P ρ o w K := by
 obtain ⟨q, hu, hi', hs, _⟩ := Qz hT
 refine .of_run (v := .slice (some ⟨g, 0, none⟩) h.toNat cap) (w' := w) ?_ hk
 have b1 : ∀ cd, (Instr.sliceBound (.int k h) cap cd).run P w = .ok h.toNat w := fun cd => JZ h0 h1
 unfold execOp
 simp only [ho, hx, hh, Option.map_none, Option.map_some, Instr.sliceAt, Instr.slice, Instr.sliceBounds, Sem.run_bind, run_underlying hu, Result.andThen_ok, Sem.run_pure, b1]
 simp [sizeOf, typeInfo, hi', hs, Result.andThen, QjX, b1]
theorem QQ {x lo : Operand} {k : IntKind} {l : Int} {len e sz by_ : Nat} (hT : QA P T = some (e, sz, by_)) (ho : o.op = .slice T x (some lo) none none) (hx : ρ x = .slice (some ⟨g, 0, none⟩) len cap) (hl : ρ lo = .int k l)
  (h0 : 0 ≤ l) (h1 : l ≤ (len : Int)) (h2 : l.toNat < cap) (hlc : len ≤ cap) (hk : K (.slice (some ⟨g, l.toNat * sz, none⟩) (len - l.toNat) (cap - l.toNat)) w) : Exec P ρ o w K := by
 obtain ⟨q, hu, hi', hs, _⟩ := Qz hT
 refine .of_run (v := .slice (some ⟨g, l.toNat * sz, none⟩) (len - l.toNat) (cap - l.toNat)) (w' := w) ?_ hk
 have b1 : ∀ cd, (Instr.sliceBound (.int k l) len cd).run P w = .ok l.toNat w := fun cd => JZ h0 h1
 have hne : ¬ cap = l.toNat := by omega
 unfold execOp
 simp only [ho, hx, hl, Option.map_none, Option.map_some, Instr.sliceAt, Instr.slice, Instr.sliceBounds, Sem.run_bind, run_underlying hu, Result.andThen_ok, Sem.run_pure, b1]
 simp [sizeOf, typeInfo, hi', hs, Result.andThen, QjX, b1, hne]
theorem QdM {x : Operand} {a : Option Addr} {len e sz by_ : Nat} (hT : QA P T = some (e, sz, by_)) (ho : o.op = .call { callee := .builtin .cap, args := #[x], argTypes := #[T] }) (hx : ρ x = .slice a len cap) (hk : K (.int .i64 (cap : Int)) w) : Exec P ρ o w K := by
 obtain ⟨q, hu, _⟩ := Qz hT
 refine .of_run (v := .int .i64 (cap : Int)) (w' := w) ?_ hk
 simp [execOp, ho, hx, resolve, invoke, builtin, go_sem, Builtin.cap_, run_underlying hu, goInt]
theorem QcX {x y : Operand} {T' : TypeId} {p dLen dCap m c sz by_ : Nat} {a : Addr} {news : List Value} (hS : St w0 s (.box g Te cs :: H) w) (hT : QA P T = some (Te, sz, by_)) (ho : o.op = .call { callee := .builtin .copy, args := #[x, y], argTypes := #[T, T'] })
  (hx : ρ x = .slice (some ⟨g, p, none⟩) dLen dCap) (hy : ρ y = .slice (some a) m c) (hn : news.length = Nat.min m dLen * sz) (hsrc : ∀ j u, news[j]? = some u → w.cell? (a.add j) = some u) (hfit : p + news.length ≤ cs.length) (h1 : ∀ u ∈ news, u.oneCell' = true)
  (hk : ∀ w', St w0 s (.box g Te (cs.take p ++ news ++ cs.drop (p + news.length)) :: H) w' → K (.int .i64 ((Nat.min m dLen : Nat) : Int)) w') : Exec P ρ o w K := by
 obtain ⟨q, hu, hi, hs, _⟩ := Qz hT
 have hl := run_loadCells_list (P := P) w a news hsrc
 have hst := run_storeCells_at P g p Te news 0 cs.toArray w hS.box_heap (by simpa using hfit) h1
 simp only [Nat.add_zero] at hst
 refine .of_run (v := .int .i64 ((Nat.min m dLen : Nat) : Int)) (w' := w.setRow g (cs.take p ++ news ++ cs.drop (p + news.length)).toArray) ?_ (hk _ hS.box_set)
 have hr : (Builtin.copy_ #[T, T'] o.type #[.slice (some ⟨g, p, none⟩) dLen dCap, .slice (some a) m c]).run P w = .ok (goInt (Nat.min m dLen)) (w.setRow g (cs.take p ++ news ++ cs.drop (p + news.length)).toArray) := by
  simp only [Builtin.copy_]
  simp [run_underlying hu, Builtin.lenOf, Builtin.firstCells, sizeOf, typeInfo, hi, hs, ← hn, hl, hst]
 simp [execOp, ho, hx, hy, resolve, invoke, builtin, go_sem, hr, goInt]
theorem QgB {p j : Nat} {u : Value} {n : Nat} (hS : St w0 s (.box g Te cs :: H) w) (h : ((cs.drop p).take n)[j]? = some u) : w.cell? ((⟨g, p, none⟩ : Addr).add j) = some u := by
 rw [Addr.add_lit]
 rw [List.getElem?_take] at h
 split at h
 ·rw [List.getElem?_drop] at h
  simp [World.cell?, hS.box_heap, h]
 ·cases h
theorem Qgt (hS : St w0 s H w) {u : Value} (h : SliceRep E s u ys) (h0 : 0 < ys.length) : ∃ (b off c : Nat) (A : Array Value) (T' : TypeId) (fz : Nat × Nat) (news : List Value), u = .slice (some ⟨b, off, none⟩) ys.length c ∧ s b = some (.cells A T' fz) ∧ reps E s news ys ∧ (∀ j x, news[j]? = some x → w.cell? ((⟨b, off, none⟩ : Addr).add j) = some x) ∧ 0 < A.size := by
 rcases h with ⟨_, rfl⟩ | ⟨_, _, _, rfl⟩ | ⟨b, off, c, A, T', fz, cells, rfl, h1, h2, h3, h4, h5⟩
 ·simp at h0
 ·simp at h0
 ·have hl := h5.len
  have hpos : 0 < cells.length := by rw [hl]; exact Nat.mul_pos h0 E.pos
  refine ⟨b, off, c, A, T', fz, cells, Z, h3, h5, fun j x hx => ?_, ?_⟩
  ·rw [Addr.add_lit, QbP hS h3]
   rw [← h4, List.getElem?_take] at hx
   split at hx
   ·rw [List.getElem?_drop] at hx; simpa using hx
   ·cases hx
  ·have : cells.length ≤ A.size := by rw [← h4]; simp only [List.length_take, List.length_drop, Array.length_toList]; omega
   omega
end
end Go.Pw
/- -/
namespace Go.Pw
section
variable {w0 w : World} {s : PHeap} {H : List Res} {T2 Te : TypeId} {α δ S : Type} {E : Enc α} {R : Enc δ} {at_ : S → List α} {f : S → δ}
theorem Qe5 : ∀ (n : Nat) {hs : List Value} {xss : List (List α)} {bs : List Nat}, rowsP E Te s w hs xss bs → ∃ b1 b2, bs = b1 ++ b2 ∧ rowsP E Te s w (hs.take n) (xss.take n) b1 ∧ rowsP E Te s w (hs.drop n) (xss.drop n) b2
  | 0, hs, xss, bs, h => ⟨[], bs, rfl, by simp [rowsP], by simpa using h⟩
  | n + 1, [], [], bs, h => ⟨[], bs, rfl, by simp [rowsP], by simpa using h⟩
  | n + 1, h :: hs, xs :: xss, bs, ⟨b1, b2, e, h1, h2⟩ => by
    obtain ⟨c1, c2, e2, k1, k2⟩ := Qe5 n h2
    exact ⟨b1 ++ c1, c2, by rw [e, e2, List.append_assoc], ⟨b1, c1, Z, h1, k1⟩, k2⟩
  | n + 1, [], _ :: _, bs, h => h.elim
  | n + 1, _ :: _, [], bs, h => h.elim
theorem Qgr : ∀ {hs hs' : List Value} {xss xss' : List (List α)} {b1 b2 : List Nat}, rowsP E Te s w hs xss b1 → rowsP E Te s w hs' xss' b2 → rowsP E Te s w (hs ++ hs') (xss ++ xss') (b1 ++ b2)
  | [], _, [], _, b1, b2, h, h' => by cases h; exact h'
  | h :: hs, _, xs :: xss, _, b1, b2, ⟨c1, c2, e, k1, k2⟩, h' => ⟨c1, c2 ++ b2, by rw [e, List.append_assoc], k1, Qgr k2 h'⟩
  | [], _, _ :: _, _, _, _, h, _ => h.elim
  | _ :: _, _, [], _, _, _, h, _ => h.elim
theorem St.rows_parts {hs : List Value} {xss : List (List α)} (n : Nat) (hS : St w0 s (.rows E Te hs xss :: H) w) : St w0 s (.rows E Te (hs.take n) (xss.take n) :: .rows E Te (hs.drop n) (xss.drop n) :: H) w := by
  obtain ⟨bs, hn, hss, b1, b2, e, h1, h2⟩ := hS.own
  obtain ⟨c1, c2, e2, k1, k2⟩ := Qe5 n h1
  exact ⟨hS.os, hS.tape, hS.output, hS.drawn, hS.size, hS.stay, bs, hn, hss, c1, c2 ++ b2, by rw [e, e2, List.append_assoc], k1, c2, b2, Z, k2, h2⟩
theorem St.rows_cat {hs hs' : List Value} {xss xss' : List (List α)} (hS : St w0 s (.rows E Te hs xss :: .rows E Te hs' xss' :: H) w) : St w0 s (.rows E Te (hs ++ hs') (xss ++ xss') :: H) w := by
  obtain ⟨bs, hn, hss, b1, b', e, h1, b2, b3, e2, h2, h3⟩ := hS.own
  exact ⟨hS.os, hS.tape, hS.output, hS.drawn, hS.size, hS.stay, bs, hn, hss, b1 ++ b2, b3, by rw [e, e2, List.append_assoc], Qgr h1 h2, h3⟩
theorem St.rows_out {hs : List Value} {xss : List (List α)} (i j : Nat) (hij : i ≤ j) (hS : St w0 s (.rows E Te hs xss :: H) w) : St w0 s (.rows E Te (hs.take i ++ hs.drop j) (xss.take i ++ xss.drop j) :: H) w := by
  have h1 := (hS.rows_parts i).f1
  have h2 := (h1.rows_parts (j - i)).drop
  rw [List.drop_drop, List.drop_drop, show i + (j - i) = j by omega] at h2
  exact h2.f1.rows_cat
end
section
variable {P : Program} {ρ : Operand → Value} {o : Oper} {w w0 : World} {s : PHeap} {H : List Res} {K : Value → World → Prop} {T Te : TypeId} {α : Type} {E : Enc α} {xs ys : List α} {v : Value} {g cap : Nat} {cs : List Value}
theorem Qkq {β : Type} (k : Program → Sem β) (w : World) : Sem.run P (Sem.program k) w = Sem.run P (k P) w := rfl
theorem Qkr {β γ : Type} (m : Sem β) (f : β → Sem γ) : Sem.bind m f = (m >>= f) := rfl
theorem Qkp {β : Type} (b : β) : (Sem.pure b : Sem β) = pure b := rfl
theorem Qct {x lo : Operand} {k : IntKind} {l : Int} {e by_ : Nat} (hS : St w0 s (.arr E Te v xs :: H) w) (hT : QA P T = some (e, E.sz, by_)) (ho : o.op = .slice T x (some lo) none none) (hx : ρ x = v) (hl : ρ lo = .int k l)
    (h0 : 0 ≤ l) (h1 : l ≤ (xs.length : Int)) (hk : ∀ u, K u w) : Exec P ρ o w K := by
  obtain ⟨a, c, rfl⟩ := hS.arr_shape
  obtain ⟨q, hu, hi', hs, _⟩ := Qz hT
  have b1 : ∀ cd, (Instr.sliceBound (.int k l) xs.length cd).run P w = .ok l.toNat w := fun cd => JZ h0 h1
  cases a with
  | none =>
    refine .of_run (v := .slice none (xs.length - l.toNat) (c - l.toNat)) (w' := w) ?_ (hk _)
    unfold execOp
    simp only [ho, hx, hl, Option.map_none, Option.map_some, Instr.sliceAt, Instr.slice, Instr.sliceBounds, Sem.run_bind, run_underlying hu, Result.andThen_ok, Sem.run_pure, b1]
    simp [sizeOf, typeInfo, hi', hs, Result.andThen, b1]
  | some a =>
    by_cases hc : c = l.toNat
    · refine .of_run (v := .slice (some a) (xs.length - l.toNat) (c - l.toNat)) (w' := w) ?_ (hk _)
      unfold execOp
      simp only [ho, hx, hl, Option.map_none, Option.map_some, Instr.sliceAt, Instr.slice, Instr.sliceBounds, Sem.run_bind, run_underlying hu, Result.andThen_ok, Sem.run_pure, b1]
      simp [sizeOf, typeInfo, hi', hs, Result.andThen, b1, hc]
    · refine .of_run (v := .slice (some (a.add (l.toNat * E.sz))) (xs.length - l.toNat) (c - l.toNat)) (w' := w) ?_ (hk _)
      unfold execOp
      simp only [ho, hx, hl, Option.map_none, Option.map_some, Instr.sliceAt, Instr.slice, Instr.sliceBounds, Sem.run_bind, run_underlying hu, Result.andThen_ok, Sem.run_pure, b1]
      simp [sizeOf, typeInfo, hi', hs, Result.andThen, b1, hc]
theorem Qbo {x y : Operand} {tn : TypeId} {kq : IntKind} {kn : IntKind} {i k sz by_ : Nat} {z : Value} (hS : St w0 s (.box g Te cs :: H) w) (hT : QA P T = some (Te, sz, by_)) (hz : Jl P Te = some z) (hn : P.underlying tn = some (.int kn)) (hzs : z.cells.size = sz) (hsz : 0 < sz) (hby : 0 < by_)
    (ho : o.op = .call { callee := .builtin .append, args := #[x, y], argTypes := #[T, tn] }) (hx : ρ x = .slice (some ⟨g, 0, none⟩) i cap) (hy : ρ y = .int kq (k : Int)) (hi : i * sz ≤ cs.length) (h0 : 0 < k) (hg : cap < i + k) (hb : (i + k) * by_ ≤ 140737488355328)
    (hk : ∀ (b c : Nat) (zs : List Value) (w' : World), i + k ≤ c → c ≤ maxLen → zs.length = (c - i) * sz → St w0 s (.box b Te (cs.take (i * sz) ++ zs) :: .box g Te cs :: H) w' → K (.slice (some ⟨b, 0, none⟩) (i + k) c) w') : Exec P ρ o w K := by
  obtain ⟨q, hu, hi', hs, hbs⟩ := Qz hT
  obtain ⟨q', hq', hz'⟩ := Yr hz
  rw [hi'] at hq'; cases hq'
  subst hs hbs
  have hS2 := hS.drew
  have hmax : i + k ≤ 140737488355328 := Nat.le_trans (Nat.le_mul_of_pos_right _ hby) hb
  have hold : (Builtin.firstCells q.size i (.slice (some ⟨g, 0, none⟩) i cap)).run P w.drew = .ok (cs.take (i * q.size)).toArray w.drew := by
    have := run_loadCells_list (P := P) w.drew ⟨g, 0, none⟩ (cs.take (i * q.size)) (fun j u hj => QgB (p := 0) (n := i * q.size) hS2 (by simpa using hj))
    rw [List.length_take, Nat.min_eq_left hi] at this
    simpa [Builtin.firstCells] using this
  have hge := grownCap_ge w (i + k) cap Te
  have hle := grownCap_le_maxLen w (i + k) cap Te (by unfold maxLen; omega)
  have hfit : Builtin.nextslicecap (i + k) cap * q.bytes ≤ 281474976710656 := by
    have := Nat.mul_le_mul_right q.bytes (nextslicecap_le (need := i + k) (old := cap) hg)
    rw [Nat.mul_assoc] at this
    omega
  have h48 : k * q.bytes ≤ 281474976710656 := by
    have := Nat.mul_le_mul_right q.bytes (Nat.le_add_left k i)
    omega
  have hrun := Lib.run_append_grow_zeros (P := P) w T tn o.type Te q z kq kn hu hn hi' hz' (some ⟨g, 0, none⟩) i cap _ hold k h0 hsz hg (by omega) h48 hfit
  have hA := hS2.alloc Te (cs.take (i * q.size) ++ ((Builtin.zeroCells z.cells k).toList ++ (Builtin.zeroCells z.cells (grownCap w (i + k) cap Te - (i + k))).toList))
  refine .of_run (v := .slice (some ⟨w.heap.size, 0, none⟩) (i + k) (grownCap w (i + k) cap Te)) (w' := _) ?_ (hk _ _ _ _ hge hle ?_ hA)
  · unfold execOp
    simp only [ho, resolve, invoke, builtin, Sem.run_bind, Sem.run_pure, Result.andThen_ok, List.map_toArray, List.map_cons, List.map_nil, hx, hy, hrun]
    congr 4
    · simp
  · simp [Builtin.zeroCells, hzs]
    rw [← Nat.add_mul]
    congr 1
    omega
theorem QfM {f : FuncId} {fn : Func} {x y : Operand} {ts : Array TypeId} {u : Value} {p l c e by_ sz : Nat} {tR : TypeId} (hS : St w0 s (.box g Te cs :: H) w) (hT : QA P T = some (e, sz, by_)) (h0 : 0 < ys.length) (hu : SliceRep E s u ys) (hc : 0 < cs.length) (ho : o.op = .call { callee := .value (.func f), args := #[x, y], argTypes := ts }) (hcf : ρ (.func f) = .func (.func f) #[] #[]) (hf : P.funcs[f]? = some fn) (hname : (fn.name == "runtime.NumGoroutine") = false)
    (hb : fn.body.isNone = true) (hn : Extern.findNext fn = none) (he : Extern.find fn = some (Extern.SlicesOverlaps.overlaps #[T, T] #[tR])) (hx : ρ x = u) (hy : ρ y = .slice (some ⟨g, p, none⟩) l c) (hk : K (.bool false) w) : Exec P ρ o w K := by
  obtain ⟨b, off, cp, A, T', fz, news, rfl, hsb, _, _, hA⟩ := Qgt hS hu h0
  have hw := hS.stay _ _ hsb
  have hg := hS.box_heap
  have hne : b ≠ g := by
    rintro rfl
    obtain ⟨bs, _, hss, b1, b2, e1, ⟨h1, _⟩, _⟩ := hS.own
    have := hss b (by rw [e1, h1]; simp)
    rw [hsb] at this; cases this
  refine Qcr ho hcf hf hname hb hn he hx hy ?_ hk
  obtain ⟨q, hu', hi', hsz, _⟩ := Qz hT
  have hnb : (b != g) = true := by simpa using hne
  have hnb' : (b == g) = false := by simpa using hne
  have s1 : w.shape? b = some (T', A.size) := by simp [World.shape?, hw]
  have s2 : w.shape? g = some (Te, cs.length) := by simp [World.shape?, hg]
  have f2 : ∀ k, w.frozen? ⟨g, k, none⟩ = false := by intro k; simp [World.frozen?, hg]
  have hnz : cs.length ≠ 0 := by omega
  obtain ⟨n, hnn⟩ : ∃ n, cs.length = n + 1 := ⟨cs.length - 1, by omega⟩
  rw [hnn] at s2
  obtain ⟨m, hm⟩ : ∃ m, A.size = m + 1 := ⟨A.size - 1, by omega⟩
  rw [hm] at s1
  have key : ∀ (F : Sem Value), F = Extern.SlicesOverlaps.overlaps #[T, T] #[tR] #[.slice (some ⟨b, off, none⟩) ys.length cp, .slice (some ⟨g, p, none⟩) l c] → F.run P w = .ok (.bool false) w := by
    intro F hF
    conv at hF => rhs; whnf
    subst hF
    have hys : ys ≠ [] := by rintro rfl; simp at h0
    rw [Qkq]
    simp only [Qkr, Qkp]
    cases hfa : w.frozen? ⟨b, off, none⟩ <;> cases hfe : w.frozen? ⟨b, m + 1, none⟩ <;>
    (by_cases hz : l = 0 ∨ q.size = 0
     · simp [hu', sizeOf, typeInfo, hi', hz, hys]
     · simp [hu', sizeOf, typeInfo, hi', hz, hys, hne, hnb, hnb', frozen, noView, viewAt, mayBeOne, stringish, shape, Sem.run, s1, s2, f2, hfa, hfe])
  exact key _ Z
theorem Qap {x y : Operand} {T' : TypeId} {p dLen dCap by_ : Nat} {u : Value} (hS : St w0 s (.box g Te cs :: H) w) (hT : QA P T = some (Te, E.sz, by_)) (ho : o.op = .call { callee := .builtin .copy, args := #[x, y], argTypes := #[T, T'] })
    (hx : ρ x = .slice (some ⟨g, p, none⟩) dLen dCap) (hy : ρ y = u) (hu : SliceRep E s u ys) (h0 : 0 < ys.length) (hd : ys.length ≤ dLen) (hfit : p + ys.length * E.sz ≤ cs.length)
    (hk : ∀ news w', reps E s news ys → news.length = ys.length * E.sz → St w0 s (.box g Te (cs.take p ++ news ++ cs.drop (p + ys.length * E.sz)) :: H) w' → K (.int .i64 ((Nat.min ys.length dLen : Nat) : Int)) w') : Exec P ρ o w K := by
  obtain ⟨b, off, cp, A, T', fz, news, rfl, hsb, hr, hc, hA⟩ := Qgt hS hu h0
  have hl := hr.len
  refine QcX hS hT ho hx hy (news := news) (by rw [hl, show Nat.min ys.length dLen = ys.length from Nat.min_eq_left hd]) hc (by rw [hl]; exact hfit) hr.one fun w' h => hk news w' hr hl ?_
  rw [← hl]
  exact h
theorem Qab {x y : Operand} {T' : TypeId} {g' p p' dLen dCap m c sz by_ : Nat} {cs' : List Value} {Te' : TypeId} {H' : List Res} (hS : St w0 s (.box g Te cs :: H) w) (hS' : St w0 s (.box g' Te' cs' :: H') w) (hT : QA P T = some (Te, sz, by_)) (ho : o.op = .call { callee := .builtin .copy, args := #[x, y], argTypes := #[T, T'] })
    (hx : ρ x = .slice (some ⟨g, p, none⟩) dLen dCap) (hy : ρ y = .slice (some ⟨g', p', none⟩) m c) {n : Nat} (hn : Nat.min m dLen = n) (hsrc : p' + n * sz ≤ cs'.length) (hfit : p + n * sz ≤ cs.length) (h1 : ∀ u ∈ (cs'.drop p').take (n * sz), u.oneCell' = true)
    (hk : ∀ w', St w0 s (.box g Te (cs.take p ++ (cs'.drop p').take (n * sz) ++ cs.drop (p + n * sz)) :: H) w' → K (.int .i64 ((Nat.min m dLen : Nat) : Int)) w') : Exec P ρ o w K := by
  have hl : ((cs'.drop p').take (n * sz)).length = n * sz := by simp; omega
  refine QcX hS hT ho hx hy (news := (cs'.drop p').take (n * sz)) (by rw [hl, hn]) (fun j u hj => QgB hS' hj) (by rw [hl]; exact hfit) h1 fun w' h => hk w' ?_
  rw [hl] at h
  exact h
end
/-! ### lists -/
section
variable {γ : Type}
theorem Qf1 (cs ys : List γ) (a b c : Nat) (hy : ys.length = b) (hl : a + b + c ≤ cs.length) :
    (((cs.take (a + b) ++ (cs.drop a).take c ++ cs.drop (a + b + c)).take a ++ ys ++ (cs.take (a + b) ++ (cs.drop a).take c ++ cs.drop (a + b + c)).drop (a + b))).take (a + b + c) = cs.take a ++ ys ++ (cs.drop a).take c := by
  have e1 : (cs.take (a + b) ++ (cs.drop a).take c ++ cs.drop (a + b + c)).take a = cs.take a := by
    rw [List.append_assoc, List.take_append_of_le_length (by simp; omega), List.take_take, Nat.min_eq_left (by omega)]
  have e2 : (cs.take (a + b) ++ (cs.drop a).take c ++ cs.drop (a + b + c)).drop (a + b) = (cs.drop a).take c ++ cs.drop (a + b + c) := by
    rw [List.append_assoc, List.drop_left' (by simp; omega)]
  rw [e1, e2, ← List.append_assoc, List.take_left' (by simp [hy]; omega)]
theorem Qgz (cs zs ys news : List γ) (a b c : Nat) (hy : ys.length = b) (hn : news.length = c) (hl : a ≤ cs.length) (hz : b + c ≤ zs.length) (D : List γ) :
    ((((cs.take a ++ zs).take a ++ ys ++ (cs.take a ++ zs).drop (a + b)).take (a + b) ++ news ++ D)).take (a + b + c) = cs.take a ++ ys ++ news := by
  have hla : (cs.take a).length = a := by simp; omega
  rw [List.take_left' hla, List.take_left' (by simp [hy]; omega), List.take_left' (by simp [hy, hn]; omega)]
end
theorem Qd5 {α : Type} {E : Enc α} {s : PHeap} {xs ys : List α} {cs ycs : List Value} {i : Nat} (hi : i ≤ xs.length) (hx : reps E s (cs.take (xs.length * E.sz)) xs) (hy : reps E s ycs ys) :
    reps E s (cs.take (i * E.sz) ++ ycs ++ (cs.drop (i * E.sz)).take ((xs.length - i) * E.sz)) (xs.take i ++ ys ++ xs.drop i) := by
  have h1 := hx.take i
  rw [List.take_take, Nat.min_eq_left (Nat.mul_le_mul_right _ hi)] at h1
  have h2 := hx.drop i
  rw [List.drop_take] at h2
  rw [Nat.sub_mul]
  exact (h1.append hy).append h2
end Go.Pw
