/- -/
import Derived.Test.YtjbjflndiajoiaaGreatDoorWsA
import Derived.Test.YtjbjflndiajoiaaGreatDoorWsPr2
import Derived.KernelRfl
set_option linter.unusedSimpArgs false
set_option linter.unusedVariables false
namespace Go.Pw
open Go.Proofs Go.RowKit Go.Shelf
attribute [local go_sem] Oper.semAt_some
def Qej (o : Oper) : Bool := Qc9 o || (match o.op with
 | .buildSlice _ _ _ => true
 | .call { callee := .builtin .append, args := _, argTypes := _ } => true
 | _ => false)
theorem QhO {P : Program} {w : World} {o : Oper} (hc : Qej o = true) {ρ : Operand → Value} : o.about P w ρ = none := by
 simp only [Qej, Bool.or_eq_true] at hc
 rcases hc with hc | hc
 ·exact QhV hc
 ·obtain ⟨dst, op, type, pos, after, guard⟩ := o
  split at hc
  ·rename_i h; simp only at h; subst h; simp [Oper.about]
  ·rename_i h; simp only at h; subst h; simp [Oper.about, resolve, Target.leads, Sem.run_pure]
  ·cases hc
section
variable {F : Fence} {n : Nat} {P : Program} {Q : Exit → Act → World → Prop} {K : Act → World → Prop} {a : Act} {w : World}
theorem QnW {ρ : Operand → Value} {o : Oper} {w w' : World} {nx : Next} (hc : Qej o = true) (h : (execOp ρ o).run P w = .ok nx w') : QjX nx ∨ nx = .skip := by
 simp only [Qej, Bool.or_eq_true] at hc
 rcases hc with hc | hc
 ·exact Qkx hc h
 ·obtain ⟨dst, op, type, pos, after, guard⟩ := o
  split at hc
  ·rename_i e; simp only at e; subst e
   exact .inl (QkN h)
  ·rename_i e; simp only at e; subst e
   simp only [execOp, resolve, invoke, builtin, Sem.run_bind, Sem.run_pure, Result.andThen_ok] at h
   refine .inl ?_
   cases hs : (Builtin.append_ _ type (Array.map ρ _)).run P w with
   | ok v w1 => rw [hs] at h; simp only [Result.andThen_ok, Result.ok.injEq] at h; rw [← h.1]; trivial
   | halt x w1 => rw [hs] at h; simp [Result.andThen] at h
  ·cases hc
theorem QoN {o : Oper} (hc : Qej o = true) (h : o.wp P a w K Q) : o.wpIn F n P a w K Q := by
 refine ⟨fun f hf => absurd hf (by rw [QhO hc]; simp), ?_⟩
 rw [Oper.semAt_eq _ _ _ (by
  intro c hcd
  simp [Qej, Qc9, hcd] at hc)]
 unfold Oper.wp at h
 cases hr : (execOp a.eval o).run P w with
 | ok nx w' =>
  rw [hr] at h
  rcases QnW hc hr with hv | rfl
  ·cases nx with
   | value v => exact h
   | _ => exact hv.elim
  ·exact h
 | halt x w' =>
  rw [hr] at h
  cases x with
  | panic v => exact h
  | _ => exact h.elim
theorem QoJ {ops : Array Oper} (hL : ¬ LetsOut Q) : ∀ (l : List Oper), l.all Qej = true → ∀ (a : Act) (w : World), wpList P ops Q l a w → wpListIn F n P ops Q l a w := by
 intro l
 induction l with
 | nil => exact fun _ _ _ h => h
 | cons o l ih =>
  intro hc a w h
  simp only [List.all_cons, Bool.and_eq_true] at hc
  unfold wpList at h
  unfold wpListIn
  split
  ·rename_i hw
   rw [if_pos hw] at h
   rcases h with h | ⟨_, h⟩
   ·exact Oper.wpIn_mono (fun a w => ih hc.2 a w) (QoN hc.1 h)
   ·exact absurd h hL
  ·rename_i hw
   rw [if_neg hw] at h
   exact ⟨fun f hf => absurd hf (by rw [QhO hc.1]; simp), ih hc.2 _ _ h⟩
end
theorem Qmd {F : Fence} {n N : Nat} {P : Program} {a : Act} {f : Fr} {w : World} {id : Nat} {ops : List Oper} {Q : QbR} {Q' : Exit → Act → World → Prop} (hc : ops.all Qej = true) (ha : Fits N a f)
  (hQ : ∀ e a' w', Qdo N Q e a' w' → Q' e a' w') (hL : ¬ LetsOut (Qdo N Q)) (h : WL P N ops.toArray Q ops f w) : (Code.region id ops.toArray false).wpIn F n P Q' a w :=
 wpIn_mono (wpIn_region_lit (QoJ hL ops hc a w (h a ha))) hQ
def QjU (w : World) : PHeap := fun b => if b < w.heap.size then w.heap[b]? else none
structure ColW (w : World) (v : Value) (xs : List Int) (W : World) : Prop where
 st : St w (QjU w) [Res.arr (U .i64) 3 v xs, Res.box w.heap.size 22 [v]] W
 far : ∀ g, v.ownBlock = some g → w.heap.size + 3 ≤ g
 size : w.heap.size + 3 ≤ W.heap.size
theorem ColW.box {w W : World} {v : Value} {xs : List Int} (h : ColW w v xs W) : W.heap[w.heap.size]? = some (.cells #[v] 22 (0, 0)) := (h.st.perm (.swap _ _ _)).box_heap
theorem ColW.old {w W : World} {v : Value} {xs : List Int} (h : ColW w v xs W) {b : Nat} (hb : b < w.heap.size) : W.heap[b]? = w.heap[b]? := by
 have := h.st.stay b (w.heap[b]) (by unfold QjU; rw [if_pos hb]; simp [hb])
 rw [this]; simp [hb]
theorem ColW.keep {w W W' : World} {v : Value} {xs : List Int} (h : ColW w v xs W) (hos : W'.os = W.os) (htape : W'.tape = W.tape) (hout : W'.output = W.output) (hdr : W.drawn ≤ W'.drawn) (hsz : W.heap.size ≤ W'.heap.size)
  (hk : ∀ b, b < W.heap.size → (b ≤ w.heap.size ∨ w.heap.size + 3 ≤ b) → W'.heap[b]? = W.heap[b]?) : ColW w v xs W' := by
 have h0 := h.size
 obtain ⟨bs, hn, hs, b1, b2, rfl, hrow, hbx⟩ := h.st.own
 obtain ⟨b3, b4, rfl, ⟨rfl, hb⟩, rfl⟩ := hbx
 obtain ⟨cells, q1, q2, rfl⟩ := hrow
 refine ⟨⟨hos.trans h.st.os, htape.trans h.st.tape, hout.trans h.st.output, Nat.le_trans h.st.drawn hdr, Nat.le_trans h.st.size hsz, fun b o hbo => ?_, _, hn, hs, _, _, Z, (Res.arr (U .i64) 3 v xs).loc ⟨cells, q1, q2, Z⟩ fun b hb => ?_, _, _, Z, ⟨Z, ?_⟩, Z⟩, h.far, Nat.le_trans h0 hsz⟩
 ·have hlt : b < w.heap.size := by
   unfold QjU at hbo
   split at hbo
   ·assumption
   ·cases hbo
  rw [hk b (by omega) (.inl (by omega))]
  exact h.st.stay b o hbo
 ·have hg : v.ownBlock = some b := by
   revert hb; cases v.ownBlock <;> simp
   exact fun h => h.symm
  exact hk b ((Res.arr (U .i64) 3 v xs).lt ⟨cells, q1, q2, Z⟩ b hb) (.inr (h.far b hg))
 ·rw [hk _ (by omega) (.inl (Nat.le_refl _))]
  exact hb
theorem ColW.alloc {w W : World} {v : Value} {xs : List Int} (h : ColW w v xs W) (o : Obj) : ColW w v xs (W.alloc o) := h.keep rfl rfl rfl (Nat.le_refl _) (by simp) fun b hb _ => Ks W o hb
theorem ColW.putObj {w W : World} {v : Value} {xs : List Int} (h : ColW w v xs W) {l : Nat} (o : Obj) (h1 : w.heap.size < l) (h2 : l < w.heap.size + 3) : ColW w v xs (W.putObj l o) := h.keep rfl rfl rfl (Nat.le_refl _) (by simp [World.putObj]) fun b hb hc => World.putObj_heap_other (by omega)
def QjT (w : World) (v : Value) (W : World) : PHeap := fun b => if b = w.heap.size ∨ v.ownBlock = some b then none else W.heap[b]?
theorem ColW.inner {w W : World} {v : Value} {xs : List Int} (h : ColW w v xs W) : St W (QjT w v W) [Res.arr (U .i64) 3 v xs, Res.box w.heap.size 22 [v]] W := by
 obtain ⟨bs, hn, hs, b1, b2, rfl, hrow, hbx⟩ := h.st.own
 obtain ⟨b3, b4, rfl, ⟨rfl, hb⟩, rfl⟩ := hbx
 obtain ⟨cells, q1, q2, rfl⟩ := hrow
 refine ⟨Z, Z, Z, Nat.le_refl _, Nat.le_refl _, fun b o hb => ?_, _, hn, fun b hb => ?_, _, _, Z, QcD ⟨cells, q1, q2, Z⟩, _, _, Z, ⟨Z, hb⟩, Z⟩
 ·unfold QjT at hb
  split at hb
  ·cases hb
  ·exact hb
 ·unfold QjT
  rw [if_pos]
  simp only [List.mem_append, List.mem_singleton, List.append_nil] at hb
  rcases hb with hb | hb
  ·right
   revert hb; cases v.ownBlock <;> simp
   exact fun h => h.symm
  ·exact .inl hb
theorem ColW.back {w W W2 : World} {v u : Value} {xs ys : List Int} {t : PHeap} (h : ColW w v xs W) (hle : PHeap.le (QjT w v W) t) (hS : St W t [Res.arr (U .i64) 3 u ys, Res.box w.heap.size 22 [u]] W2) :
  ColW w u ys W2 ∧ KeepsFrom (w.heap.size + 1) W W2 := by
 have h0 := h.size
 have hbox := h.box
 have hS' := hS
 obtain ⟨bs, hn, hs, b1, b2, rfl, hrow, hbx⟩ := hS'.own
 obtain ⟨b3, b4, rfl, ⟨rfl, hb⟩, rfl⟩ := hbx
 obtain ⟨cells, q1, q2, rfl⟩ := hrow
 have hcells : ∀ g, v.ownBlock = some g → ∃ o : Obj, W.heap[g]? = some o ∧ o.isCells = true := by
  intro g hg
  obtain ⟨bs', _, _, c1, c2, _, hr, _⟩ := h.st.own
  obtain ⟨cells', _, r2, _⟩ := hr
  rcases r2.2 with ⟨rfl, _⟩ | ⟨g', cap, cur, rfl, _, hgb, _⟩
  ·simp [Value.ownBlock] at hg
  ·have : g' = g := by simpa [Value.ownBlock] using hg
   subst this
   exact ⟨_, hgb, Z⟩
 have hkeep : ∀ b o, b ≠ w.heap.size → v.ownBlock ≠ some b → W.heap[b]? = some o → W2.heap[b]? = some o := by
  intro b o h1 h2 hb
  refine hS.stay b o (hle b o ?_)
  unfold QjT
  rw [if_neg (by simp [h1, h2])]
  exact hb
 refine ⟨⟨⟨hS.os.trans h.st.os, hS.tape.trans h.st.tape, hS.output.trans h.st.output, Nat.le_trans h.st.drawn hS.drawn, Nat.le_trans h.st.size hS.size, fun b o hbo => ?_, _, hn, fun b hm => ?_, _, _, Z, QcD ⟨cells, q1, q2, Z⟩, _, _, Z, ⟨Z, hb⟩, Z⟩, fun g hg => ?_, Nat.le_trans h0 hS.size⟩, ⟨hS.size, fun k o hk ho hc => ?_⟩⟩
 ·have hlt : b < w.heap.size := by
   unfold QjU at hbo
   split at hbo
   ·assumption
   ·cases hbo
  exact hkeep b o (by omega) (fun e => by have := h.far b e; omega) (h.st.stay b o hbo)
 ·cases hz : QjU w b with
  | none => rfl
  | some o =>
   have hlt : b < w.heap.size := by
    unfold QjU at hz
    split at hz
    ·assumption
    ·cases hz
   have h1 := hs b hm
   have h2 := hle b o (by unfold QjT; rw [if_neg]; exact h.st.stay b o hz; rintro (e | e); omega; have := h.far b e; omega)
   rw [h1] at h2; cases h2
 ·have hgm : g ∈ u.ownBlock.toList := by rw [hg]; simp
  have hne : g ≠ w.heap.size := by
   rintro rfl
   have := (List.nodup_append.1 hn).2.2 _ hgm
   simp at this
  rcases Nat.lt_or_ge g W.heap.size with hlt | hge
  ·by_cases hv : v.ownBlock = some g
   ·exact h.far g hv
   ·exfalso
    have h1 := hs g (List.mem_append_left _ hgm)
    have h2 := hle g (W.heap[g]) (by unfold QjT; rw [if_neg (by simp [hne, hv])]; simp [hlt])
    rw [h1] at h2; cases h2
  ·omega
 ·refine hkeep k o (by omega) (fun e => ?_) ho
  obtain ⟨o', h1, h2⟩ := hcells k e
  rw [ho] at h1; cases h1
  rw [hc] at h2; cases h2
theorem QqT : QZ Tryz.prog 22 = some (3, 1, 8) := by kernel_rfl
theorem Z3c : Ji Tryz.prog 3 = some (.int .i64 0) := by kernel_rfl
theorem Qqk : YB Tryz.prog 22 = some (false, 1) := by kernel_rfl
set_option maxRecDepth 100000 in
set_option maxHeartbeats 2000000 in
theorem Qn6 (F : Fence) (n : Nat) (h8 : F.fn 53) (hro : F.round = none) (hn : 1 ≤ n) (l Bs bo cap : Nat) (av : Option Addr) (zs : List Int) (hreach : zs.length * 8 ≤ 140737488351232) (J : List Int → World → Prop)
  (hJ : ∀ pre W, J pre W → W.cell? ⟨Bs, bo, none⟩ = some (.slice av zs.length cap) ∧ ∀ j, j < zs.length → ∃ b off, av = some ⟨b, off, none⟩ ∧ W.cell? ⟨b, off + j, none⟩ = some (.int .i64 (zs[j]?.getD 0)))
  (hY : ∀ pre x W, J pre W → pre ++ [x] <+: QaK (fun j => zs[j]?.getD 0) zs.length → YieldAt F (n - 1) Tryz.prog l #[.int .i64 x] W fun e W' =>
   (e = .returned (.bool true) ∧ J (pre ++ [x]) W') ∨ (e = .returned (.bool false) ∧ False))
  (W : World) (h0 : J [] W) :
  CallsIn F n Tryz.prog 53 #[.func (.yield l) #[] #[], .pointer (some ⟨Bs, bo, none⟩)] W fun e W' => (∃ v, e = .returned v) ∧ J (QaK (fun j => zs[j]?.getD 0) zs.length) W' := by
 obtain ⟨hBs, hc⟩ := hJ _ _ h0
 refine callsIn_of_wp Tryz.func53 Z h8 ?_ hro
 simp only [Tryz.ntmps53, List.size_toArray, List.length_cons, List.length_nil, Nat.reduceAdd, Nat.reduceSub, Array.replicate_succ, Array.replicate_zero, List.push_toArray, List.append_toArray, List.nil_append, List.cons_append]
 gi_wp2
 gi_loopw [7] (fun i wr => ∃ k : Nat, k ≤ zs.length ∧ i = .int .i64 k ∧ J (QaK (fun j => zs[j]?.getD 0) k) wr)
  (fun i _ => zs.length - (Go.Proofs.intOf i).toNat)
 case atStart => exact ⟨0, Nat.zero_le _, rfl, h0⟩
 case round =>
  obtain ⟨k, hk, rfl, hJs⟩ := hrel
  obtain ⟨hBs', hc'⟩ := hJ _ _ hJs
  by_cases hlt : k < zs.length
  ·obtain ⟨fn, tmps, assign, body, hy, hR⟩ := hY _ (zs[k]?.getD 0) wr hJs (by rw [← Qdw (fun j => zs[j]?.getD 0)]; exact Qhp _ (by omega))
   obtain ⟨b, off, rfl, hcx⟩ := hc' k hlt
   rw [← Qdw (fun j => zs[j]?.getD 0)] at hR
   generalize zs[k]?.getD 0 = y at hcx hy
   clear hc' hc
   gi_wp2
   refine hR.mono ?_
   rintro e W3 (⟨rfl, hJ3⟩ | ⟨_, h⟩)
   ·gi_wp2
    go_roundw
    case rel => exact ⟨k + 1, by omega, by simp, hJ3⟩
    case measure => simp [Go.Proofs.intOf]; omega
   ·exact h.elim
  ·obtain rfl : k = zs.length := by omega
   gi_wp2
   go_end0
   exact ⟨⟨_, Z⟩, hJs⟩
theorem St.alloc_any {w0 w : World} {s : PHeap} {H : List Res} (h : St w0 s H w) (o : Obj) : St w0 s H (w.alloc o) := by
 obtain ⟨bs, hn, hs, hb⟩ := h.own
 refine ⟨h.os, h.tape, h.output, h.drawn, Nat.le_trans h.size (by simp), fun b o' hbo => ?_, bs, hn, hs, hb.loc fun b hm => Ks w _ (hb.lt b hm)⟩
 have := h.stay b o' hbo
 rw [Ks w _ (Array.getElem?_eq_some_iff.1 this).1]
 exact this
theorem QoU (w : World) : St w (QjU w) [] w := by
 refine ⟨Z, Z, Z, Nat.le_refl _, Nat.le_refl _, fun b o h => ?_, [], List.nodup_nil, by simp, Z⟩
 unfold QjU at h
 split at h
 ·exact h
 ·cases h
set_option maxRecDepth 100000 in
set_option maxHeartbeats 4000000 in
theorem QmG (F : Fence) (n : Nat) (h0 : F.fn 78) (h5 : F.fn 53) (hro : F.round = none) (hn : 3 ≤ n) {B bo cap : Nat} {av : Option Addr} {zs : List Int} (hreach : zs.length * 8 ≤ 140737488351232) {w : World} (hBl : B < w.heap.size)
  (hB : w.cell? ⟨B, bo, none⟩ = some (.slice av zs.length cap)) (hc : ∀ j, j < zs.length → ∃ b off, av = some ⟨b, off, none⟩ ∧ b < w.heap.size ∧ w.cell? ⟨b, off + j, none⟩ = some (.int .i64 (zs[j]?.getD 0))) :
  CallsIn F n Tryz.prog 78 #[.slice none 0 0, .func (.func 53) #[] #[.pointer (some ⟨B, bo, none⟩)]] w fun e W' => ∃ v, e = .returned v ∧ ColW w v (QaK (fun j => zs[j]?.getD 0) zs.length) W' := by
 have h1 : 1 ≤ n := by omega
 refine callsIn_of_wp_marks Tryz.func78 Z h0 ?_ hro
 simp only [Tryz.ntmps78, List.size_toArray, List.length_cons, List.length_nil, Nat.reduceAdd, Nat.reduceSub, Array.replicate_succ, Array.replicate_zero, List.push_toArray, List.append_toArray, List.nil_append, List.cons_append]
 gi_wp2
 refine Qgk hro h1 (gf := 53) (lb := #[.pointer (some ⟨B, bo, none⟩)]) Z h5 (enters_of Tryz.func53 (by kernel_rfl) Z)
  (encs := fun x : Int => #[Value.int .i64 x]) (fun _ => rfl)
  (fun pre W => ∃ v, ColW w v pre W)
  ?start ?put (QaK (fun j => zs[j]?.getD 0) zs.length) ?iter
  (fun x => { tmps := #[.slice none 0 0, .func (.func 53) #[] #[.pointer (some ⟨B, bo, none⟩)], .pointer (some ⟨w.heap.size, 0, none⟩), undef, .slice none 0 0, .int .i64 x, .func (.func 53) #[] #[.pointer (some ⟨B, bo, none⟩)], .int .i64 x, undef, undef, undef, undef, undef], defers := [] }) ?assign ?body ?done
 case start =>
  intro o o'
  exact ⟨.slice none 0 0, (((((QoU w).alloc 22 [.slice none 0 0]).alloc_any o).alloc_any o').nilArr (U .i64) 3), by simp [Value.ownBlock], by simp⟩
 case put =>
  rintro pre W o ⟨v, hW⟩
  exact ⟨v, hW.putObj o (by simp only [World.size_alloc]; omega) (by simp only [World.size_alloc]; omega)⟩
 case iter =>
  intro l J W hJI hY h0
  refine (Qn6 F (n - 1) h5 hro (by omega) l B bo cap av zs hreach J (fun pre W' hJ => ?_) hY W h0).mono fun e W' h => h
  obtain ⟨v, hW⟩ := hJI pre W' hJ
  refine ⟨by rw [World.cell?_of_block (w := w) (hW.old hBl)]; exact hB, fun j hj => ?_⟩
  obtain ⟨b, off, ha, hbl, hcell⟩ := hc j hj
  exact ⟨b, off, ha, by rw [World.cell?_of_block (w := w) (hW.old hbl)]; exact hcell⟩
 case assign =>
  intro l x W K hK
  gi_wp2
  exact hK
 case body =>
  rintro l pre x W ⟨v, hW⟩ hpre
  have hlen : pre.length + 1 ≤ zs.length := by
   have := hpre.length_le
   rw [Qk2] at this
   simpa using this
  have happ : app 8 pre [x] = some (pre ++ [x]) := by
   unfold app
   rw [if_pos]
   simp only [List.length_cons, List.length_nil]; omega
  have hS := hW.inner
  refine wpIn_block ?_
  refine Qmd (N := 13) (f := fun n => Array.getD _ n undef) (Q := fun e f' W' => e = .normal ∧ ∃ u t, PHeap.le (QjT w v W) t ∧ St W t [Res.arr (U .i64) 3 u (pre ++ [x]), Res.box w.heap.size 22 [u]] W') (by rfl) ⟨Z, Z, fun _ => rfl⟩ ?_ ?_ ?_
  ·rintro e a' W' ⟨f', hf', rfl, u, t, hle, hS'⟩
   obtain ⟨r1, r2⟩ := hW.back hle hS'
   exact ⟨Z, by simpa using r2, u, r1⟩
  ·rintro ⟨_, _, _, _, h, _⟩
   cases h
  ·refine Za Z Z (Zn hS.f1 Qqk Z Z Z ?_)
   refine Za Z Z (Zm (v := .int .i64 x) Z Z ?_)
   refine Za Z Z (Exec.buildSlice (Te := 3) (cs := [.int .i64 x]) hS Z (Qc (c := [.int .i64 x]) (Qe Z Z) Qi) (fun _ => by kernel_rfl) ?_)
   intro b w1 hS1
   refine Za Z Z (Q5 (E := U .i64) (ys := [x]) hS1.f1 QqT Z3c Z (by decide) Z Z Z Z ⟨[.int .i64 x], [], Z, Z, Z⟩ Z happ ?_)
   intro u w2 hS2
   refine Za Z Z (Qq (ds := [u]) (es := [u]) hS2.f1 Qqk Z Z Z (Qz hS2.arr_one) (Zj hS2.arr_one QU) (Nat.le_of_ble_eq_true Z) Z ?_)
   intro w3 hS3
   refine Zb ?_
   exact ⟨Z, u, _, Zv _, hS3.f1⟩
 case done =>
  rintro W ⟨v, hW⟩ hK
  have hb := hW.box
  have hcell : W.cell? ⟨w.heap.size, 0, none⟩ = some v := by simp [World.cell?, hb]
  have hfz : W.frozen? ⟨w.heap.size, 0, none⟩ = false := by simp [World.frozen?, hb]
  gi_wp2
  refine ⟨by simp, .inl ⟨_, _, Z, run_takeDeferred hK, ?_⟩⟩
  exact ⟨_, results_tmp Z _ _ _, v, Z, hW.putObj _ (by simp) (by simp)⟩
set_option maxHeartbeats 1000000 in
theorem Qlq (F : Fence) (n : Nat) (h : F.fn 51) (h0 : F.fn 78) (h5 : F.fn 53) (hro : F.round = none) (hn : 4 ≤ n) {B bo cap : Nat} {av : Option Addr} {zs : List Int} (hreach : zs.length * 8 ≤ 140737488351232) {w : World} (hBl : B < w.heap.size)
  (hB : w.cell? ⟨B, bo, none⟩ = some (.slice av zs.length cap)) (hc : ∀ j, j < zs.length → ∃ b off, av = some ⟨b, off, none⟩ ∧ b < w.heap.size ∧ w.cell? ⟨b, off + j, none⟩ = some (.int .i64 (zs[j]?.getD 0))) :
  CallsIn F n Tryz.prog 51 #[.func (.func 53) #[] #[.pointer (some ⟨B, bo, none⟩)]] w fun e W' => ∃ v, e = .returned v ∧ ColW w v (QaK (fun j => zs[j]?.getD 0) zs.length) W' := by
 have h1 : 1 ≤ n := by omega
 refine callsIn_of_wp Tryz.func51 Z h ?_ hro
 simp only [Tryz.ntmps51, List.size_toArray, List.length_cons, List.length_nil, Nat.reduceAdd, Nat.reduceSub, Array.replicate_succ, Array.replicate_zero, List.push_toArray, List.append_toArray, List.nil_append, List.cons_append]
 gi_wp2_with (gi_at_call 78; refine (QmG F (n - 1) h0 h5 hro (by omega) hreach hBl hB hc).mono ?_; rintro e w' ⟨v, rfl, hW⟩)
 go_ret
 exact ⟨v, Z, hW⟩
end Go.Pw
