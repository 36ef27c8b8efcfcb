/-
  The walks (printed by my generator).
-/
import Derived.Test.YtkfcbmecmdpilaaL33
import Derived.Test.YtkfcbmecmdpilaaL29
import Derived.Test.YtkfcbmecmdpilaaL27
import Derived.Test.YtkfcbmecmdpilaaSxP
import Derived.Test.YtkfcbmecmdpilaaL8
import Derived.Test.YtkfcbmecmdpilaaL9
import Derived.Test.YtkfcbmecmdpilaaL12
import Derived.Test.YtkfcbmecmdpilaaL14
import Derived.Test.YtkfcbmecmdpilaaL16
import Derived.Test.YtkfcbmecmdpilaaL23
import Derived.Test.YtkfcbmecmdpilaaL26
import Derived.Test.YtkfcbmecmdpilaaL30
import Derived.Test.YtkfcbmecmdpilaaL31
import Derived.Test.YtkfcbmecmdpilaaL34
import Derived.Test.YtkfcbmecmdpilaaL35
import Derived.Test.YtkfcbmecmdpilaaL36
import Derived.Test.YtkfcbmecmdpilaaL38
import Derived.Test.YtkfcbmecmdpilaaProg
import Derived.KernelRfl
set_option maxRecDepth 100000
set_option maxHeartbeats 4000000
set_option linter.unusedVariables false
namespace Go.Pw
open Go.Proofs
theorem okAll : okCallees Try.prog 146 [0, 1, 129, 130, 131, 132, 133, 134, 135, 136, 137, 138, 139, 140, 141, 142, 143, 144, 145] = true := by kernel_rfl
theorem Tc {ρ : Operand → Value} {o : Oper} {w : World} {K : Value → World → Prop} {Q : Value → World → Prop} {f : FuncId} {args : List Operand} {ts : Array TypeId} {vs : List Value} (ho : o.op = .call { callee := .value (.func f), args := args.toArray, argTypes := ts }) (hc : ρ (.func f) = .func (.func f) #[] #[]) (hlt : okAt 146 [0, 1, 129, 130, 131, 132, 133, 134, 135, 136, 137, 138, 139, 140, 141, 142, 143, 144, 145] f = true) (hargs : List.map ρ args = vs) (h : Calls Try.prog f vs.toArray w fun e w' => ∃ v, e = .returned v ∧ Q v w') (hk : ∀ v w', Q v w' → K v w') : Exec Try.prog ρ o w K := Exec.callR okAll ho hc hlt hargs h hk
theorem A28 : tyAgg Try.prog 28 = some (true, 5) := by kernel_rfl
theorem F28_0 : tyField Try.prog 28 0 = some 0 := by kernel_rfl
theorem A22 : tyAgg Try.prog 22 = some (false, 1) := by kernel_rfl
theorem S22 : tySlice Try.prog 22 = some (56, 2, 40) := by kernel_rfl
theorem F28_1 : tyField Try.prog 28 1 = some 1 := by kernel_rfl
theorem A23 : tyAgg Try.prog 23 = some (false, 1) := by kernel_rfl
theorem S23 : tySlice Try.prog 23 = some (93, 5, 64) := by kernel_rfl
theorem F28_2 : tyField Try.prog 28 2 = some 2 := by kernel_rfl
theorem A24 : tyAgg Try.prog 24 = some (false, 1) := by kernel_rfl
theorem S24 : tySlice Try.prog 24 = some (3, 1, 8) := by kernel_rfl
theorem F28_3 : tyField Try.prog 28 3 = some 3 := by kernel_rfl
theorem A25 : tyAgg Try.prog 25 = some (false, 1) := by kernel_rfl
theorem S25 : tySlice Try.prog 25 = some (47, 3, 72) := by kernel_rfl
theorem A47 : tyAgg Try.prog 47 = some (true, 3) := by kernel_rfl
theorem F47_0 : tyField Try.prog 47 0 = some 0 := by kernel_rfl
theorem F47_1 : tyField Try.prog 47 1 = some 1 := by kernel_rfl
theorem F47_2 : tyField Try.prog 47 2 = some 2 := by kernel_rfl
theorem A45 : tyAgg Try.prog 45 = some (false, 1) := by kernel_rfl
theorem S45 : tySlice Try.prog 45 = some (129, 7, 112) := by kernel_rfl
theorem hmix : Try.prog.follows .mixedOrders = true := by kernel_rfl
theorem F129_1 : tyField Try.prog 129 1 = some 1 := by kernel_rfl
theorem A82 : tyAgg Try.prog 82 = some (true, 3) := by kernel_rfl
theorem F129_2 : tyField Try.prog 129 2 = some 4 := by kernel_rfl
theorem F82_2 : tyField Try.prog 82 2 = some 2 := by kernel_rfl
theorem A80 : tyAgg Try.prog 80 = some (false, 1) := by kernel_rfl
theorem S80 : tySlice Try.prog 80 = some (82, 3, 48) := by kernel_rfl
theorem law18_size_step {fu : Nat} (ih : ∀ {w0 w : World} {s : PHeap} {H : List Res} {e91 : GExpr} {v92 : Value} {r : Int} (hm : law18_size_p fu e91 = some r) (hS : St w0 s (H) w) (a93 : SliceRep encGExpr s v92 e91.Kids), Calls Try.prog 32 #[Value.agg #[Value.string (e91.Op), Vi (e91.N), v92]] w fun e w' => ∃ v, e = .returned v ∧ ((fun (y95 : Int) => ∃ (j : PHeap) , PHeap.le s j ∧ St w0 j (H) w' ∧ v = Vi (y95)) r)) {w0 w : World} {s : PHeap} {H : List Res} {e91 : GExpr} {v92 : Value} {r : Int} (hm : law18_size_p (fu + 1) e91 = some r) (hS : St w0 s (H) w) (a93 : SliceRep encGExpr s v92 e91.Kids) :
  Calls Try.prog 32 #[Value.agg #[Value.string (e91.Op), Vi (e91.N), v92]] w fun e w' => ∃ v, e = .returned v ∧ ((fun (y95 : Int) => ∃ (j : PHeap) , PHeap.le s j ∧ St w0 j (H) w' ∧ v = Vi (y95)) r) := by
 rw [law18_size_p] at hm
 refine calls_of_W Try.func32 rfl rfl (Zc (Zd (Za rfl rfl (Exec.box (cs := [Value.string (e91.Op), Vi (e91.N), v92]) hS rfl rfl rfl ?_))))
 intro g aL an
 refine Za rfl rfl (Zo (v := Vi (0)) rfl rfl (Zb (Ze (Zc (Zd (Za rfl rfl (Zo (v := Vi (1)) rfl rfl (Zb (Ze (Zc (Zc (Zd (Za rfl rfl (Zo (v := Vi (0)) rfl rfl (Zb (Ze ?_))))))))))))))))
 obtain ⟨z, aj, aF, ar, aq⟩ := ctl_some hm
 refine W_mid (M := fun f' w' => ∃ s', (z = .next s' ∨ z = .brk s') ∧ (un2 fun (m : Int) (ac : Int) => ∃ (ag : PHeap) , PHeap.le s ag ∧ St w0 ag (Res.box g 82 [Value.string (e91.Op), Vi (e91.N), v92] :: H) w' ∧ f' 1 = Value.pointer (some ⟨g, 0, none⟩) ∧ f' 3 = Vi (m) ∧ f' 4 = Vi (ac)) s') ?_ ?_
 ·refine W_block (W_while (fun s' f' w' => (un2 fun (d : Int) (b : Int) => ∃ (af : PHeap) , PHeap.le s af ∧ St w0 af (Res.box g 82 [Value.string (e91.Op), Vi (e91.N), v92] :: H) w' ∧ f' 1 = Value.pointer (some ⟨g, 0, none⟩) ∧ f' 3 = Vi (d) ∧ f' 4 = Vi (b)) s') aj ?_ ?_)
  ·exact ⟨s, (Zv _), an, rfl, rfl, rfl⟩
  intro a5 aa aC aM ak a au
  obtain ⟨d, b⟩ := a5
  replace a := un2_eq a
  obtain ⟨y, l, n, p, q, t⟩ := ak
  refine Zc (Zc (W_mid (M := fun f' w' => ∃ (ah : PHeap) , PHeap.le y ah ∧ St w0 ah (Res.box g 82 [Value.string (e91.Op), Vi (e91.N), v92] :: H) w' ∧ f' 1 = Value.pointer (some ⟨g, 0, none⟩) ∧ f' 3 = Vi (d) ∧ f' 4 = Vi (b) ∧ f' 13 = Value.bool (((decide (b < (e91.Kids.length : Int))) && decide (d < 2000)))) ?_ ?_))
  ·refine Zd (Za rfl rfl (Zm (v := Vi (b)) rfl t (Za rfl rfl (Zp F82_2 rfl p rfl (Za rfl rfl (Zn (n) A80 rfl rfl rfl (Za rfl rfl (Zr S80 rfl rfl (a93.mono l) (Za rfl rfl (Zq rfl rfl rfl (Za rfl rfl (Zm (v := Value.bool (decide (b < (e91.Kids.length : Int)))) rfl rfl ?_))))))))))))
   by_cases c : (decide (b < (e91.Kids.length : Int))) = true
   ·refine WL_run rfl (Zf rfl (Zx c)) rfl (Zm (v := Vi (d)) rfl q (WL_run rfl (Zf rfl (Zx c)) rfl (Zq rfl rfl rfl (Za rfl rfl (Zs (v := Value.bool (decide (d < 2000))) rfl (Zx c) rfl (Zb (Ze ?_)))))))
    exact ⟨y, (Zv _), n, p, q, t, (Zx (and_t c)).symm⟩
   replace c := Zk c
   refine WL_passes 3 (by rw [c]; rfl) ?_
   refine Zb (Ze ?_)
   exact ⟨y, (Zv _), n, p, q, t, (Zx (and_f c)).symm⟩
  intro aD aN al
  obtain ⟨a2, o, k, u, ad, x, ae⟩ := al
  refine (Ze ?_)
  rcases ite_some a with ⟨i, a⟩ | ⟨i, a⟩
  ·refine W_cond_t ae i (W_skip (Ze (Zc (W_block (Zd (Za rfl rfl (Zm (v := Vi (d)) rfl ad (Za rfl rfl (Zp F82_2 rfl u rfl (Za rfl rfl (Zn (k) A80 rfl rfl rfl (Za rfl rfl (Zm (v := Vi (b)) rfl x ?_)))))))))))))
   obtain ⟨aQ, ay, a⟩ := Zg a
   refine Za rfl rfl (Exec.index_rep S80 rfl rfl rfl (a93.mono (Zt l o)) ay ?_)
   intro a8 aG ai
   refine Za rfl rfl (Zw (E := encGExpr) k A82 rfl rfl rfl ai ?_)
   intro aK az
   obtain ⟨aJ, rfl, a1⟩ := encGExpr_val.1 az
   obtain ⟨a7, a0, a⟩ := Zg a
   refine Za rfl rfl (Tc rfl rfl rfl (Zi rfl args_nil) (ih a0 k a1).r ?_)
   rintro _ aO ⟨a3, av, ao, rfl⟩
   refine Za rfl rfl (Exec.add rfl rfl rfl (Za rfl rfl (Zo (v := Vi (IntKind.i64.wrap (d + a7))) rfl rfl (Zb (ib_normal (Ze (Zd (Za rfl rfl (Zm (v := Vi (b)) rfl x (Za rfl rfl (Exec.add rfl rfl rfl (Za rfl rfl (Zo (v := Vi (IntKind.i64.wrap (b + 1))) rfl rfl (Zb (Ze ?_)))))))))))))))
   have a9 := Zu a
   subst aa
   refine ⟨_, rfl, ?_⟩; exact ⟨a3, (Zt (Zt l o) av), ao, u, rfl, rfl⟩
  refine W_cond_f ae i ?_
  replace i := Zk i
  refine W_exit (at_exit (at_exit (ib_here (Ze ?_))))
  have aA := Zu a
  subst aa
  refine ⟨_, .inr (au (by intro _ h; cases h)), ?_⟩; exact ⟨a2, (Zt l o), k, u, ad, x⟩
 rintro aE aP ⟨a6, ab, am⟩
 have hm := ab.elim (ar _) (aq _)
 clear ab
 obtain ⟨m, ac⟩ := a6
 replace hm := un2_eq hm
 obtain ⟨a4, aw, ap, aH, ax, aI⟩ := am
 refine (Ze (Zc (Zd (Za rfl rfl (Zm (v := Vi (m)) rfl ax (Za rfl rfl (Zo (v := Vi (m)) rfl rfl (Zb (Ze (W_ret ?_))))))))))
 have aB := Zu hm
 subst r
 refine ⟨_, ret1 rfl, ?_⟩
 exact ⟨a4, aw, (ap).drop, rfl⟩
theorem law18_size_sim {fu : Nat} : ∀ {w0 w : World} {s : PHeap} {H : List Res} {e91 : GExpr} {v92 : Value} {r : Int} (hm : law18_size_p fu e91 = some r) (hS : St w0 s (H) w) (a93 : SliceRep encGExpr s v92 e91.Kids), Calls Try.prog 32 #[Value.agg #[Value.string (e91.Op), Vi (e91.N), v92]] w fun e w' => ∃ v, e = .returned v ∧ ((fun (y95 : Int) => ∃ (a : PHeap) , PHeap.le s a ∧ St w0 a (H) w' ∧ v = Vi (y95)) r) := by
 induction fu with
 | zero => intros; rename_i hm _ _; rw [law18_size_p] at hm; cases hm
 | succ fu ih => exact law18_size_step ih
theorem law18_heavy_sim {w0 w : World} {s : PHeap} {H : List Res} {fu : Nat} {c54 : Cond} {v55 : Value} {v57 : Value} {v59 : Value} {r : Int} (hm : law18_heavy_p fu c54 = some r) (hS : St w0 s (H) w) (a56 : SliceRep (encInt .i64) s v55 c54.Pos) (a58 : SliceRep (encInt .i64) s v57 c54.Neg) (a60 : SliceRep encGTest s v59 c54.Tests) :
  Calls Try.prog 31 #[Value.agg #[v55, v57, v59]] w fun e w' => ∃ v, e = .returned v ∧ ((fun (y62 : Int) => ∃ (ab : PHeap) , PHeap.le s ab ∧ St w0 ab (H) w' ∧ v = Vi (y62)) r) := by
 unfold law18_heavy_p at hm
 refine calls_of_W Try.func31 rfl rfl (Zc (Zd (Za rfl rfl (Exec.box (cs := [v55, v57, v59]) hS rfl rfl rfl ?_))))
 intro l aQ o
 refine Za rfl rfl (Zo (v := Vi (0)) rfl rfl (Zb (Ze (Zc (Zd (Za rfl rfl (Zp F47_0 rfl rfl rfl (Za rfl rfl (Zn (o) A24 rfl rfl rfl (Za rfl rfl (Zr S24 rfl rfl a56 (Za rfl rfl (Zp F47_1 rfl rfl rfl (Za rfl rfl (Zn (o) A24 rfl rfl rfl (Za rfl rfl (Zr S24 rfl rfl a58 (Za rfl rfl (Exec.add rfl rfl rfl (Za rfl rfl (Zo (v := Vi (IntKind.i64.wrap ((c54.Pos.length : Int) + (c54.Neg.length : Int)))) rfl rfl (Zb (Ze (Zc (Zc (Zd (Za rfl rfl (Zo (v := Vi (0)) rfl rfl (Zb (Ze ?_))))))))))))))))))))))))))))))
 obtain ⟨u, ai, aG, ao, an⟩ := ctl_some hm
 refine W_mid (M := fun f' w' => ∃ s', (u = .next s' ∨ u = .brk s') ∧ (un2 fun (m : Int) (z : Int) => ∃ (ac : PHeap) , PHeap.le s ac ∧ St w0 ac (Res.box l 47 [v55, v57, v59] :: H) w' ∧ f' 1 = Value.pointer (some ⟨l, 0, none⟩) ∧ f' 3 = Vi (m) ∧ f' 4 = Vi (z)) s') ?_ ?_
 ·refine W_block (W_while (fun s' f' w' => (un2 fun (d : Int) (b : Int) => ∃ (ad : PHeap) , PHeap.le s ad ∧ St w0 ad (Res.box l 47 [v55, v57, v59] :: H) w' ∧ f' 1 = Value.pointer (some ⟨l, 0, none⟩) ∧ f' 3 = Vi (d) ∧ f' 4 = Vi (b)) s') ai ?_ ?_)
  ·exact ⟨s, (Zv _), o, rfl, rfl, rfl⟩
  intro a4 x aE aR aj a ap
  obtain ⟨d, b⟩ := a4
  replace a := un2_eq a
  obtain ⟨a1, k, c, g, n, i⟩ := aj
  refine Zc (Zc (Zd (Za rfl rfl (Zm (v := Vi (b)) rfl i (Za rfl rfl (Zp F47_2 rfl g rfl (Za rfl rfl (Zn (c) A45 rfl rfl rfl (Za rfl rfl (Zr S45 rfl rfl (a60.mono k) (Za rfl rfl (Zq rfl rfl rfl (Zb (Ze ?_))))))))))))))
  rcases ite_some a with ⟨j, a⟩ | ⟨j, a⟩
  ·refine W_cond_t rfl j (W_skip (Ze (Zc (W_block (W_dl (n0 := 17) (qs 0 7 (qs 8 6 (.e 7 [0, 8, 9, 10, 11, 12, 13] (.e 14 [0] (.q 15 (.q 16 .done)))))) hmix (by kernel_rfl) (by kernel_rfl) (DL_q rfl rfl (Zm (v := Vi (d)) rfl n ⟨rfl, ?_⟩)))))))
   refine DL_q rfl rfl (Zp F47_2 rfl g rfl ⟨rfl, ?_⟩)
   refine DL_q rfl rfl (Zn (c.drew) A45 rfl rfl rfl ⟨rfl, ?_⟩)
   refine DL_q rfl rfl (Zm (v := Vi (b)) rfl i ⟨rfl, ?_⟩)
   obtain ⟨aV, aa, a⟩ := Zg a
   refine DL_q rfl rfl (Exec.index_repE S45 rfl rfl rfl (a60.mono k) aa ?_)
   intro a8 aH ae aA
   refine ⟨rfl, ?_⟩
   refine DL_q rfl rfl (Zp F129_1 rfl rfl rfl ⟨rfl, ?_⟩)
   refine DL_q rfl rfl (Zw (E := encGExpr) c.drew A82 rfl rfl rfl (ae.sub (Sub.iso (Sub.snd (Sub.fst (Sub.refl _)) rfl)) rfl) ?_)
   intro aO av
   obtain ⟨aM, rfl, az⟩ := encGExpr_val.1 av
   refine ⟨rfl, ?_⟩
   refine DL_q rfl rfl (Zp F47_2 rfl g rfl ⟨rfl, ?_⟩)
   refine DL_q rfl rfl (Zn (c.drew) A45 rfl rfl rfl ⟨rfl, ?_⟩)
   refine DL_q rfl rfl (Zm (v := Vi (b)) rfl i ⟨rfl, ?_⟩)
   refine DL_q rfl rfl (Exec.index_repE S45 rfl rfl rfl (a60.mono k) aa ?_)
   intro a9 aI af ag
   refine ⟨rfl, ?_⟩
   refine DL_q rfl rfl (Zp F129_2 rfl rfl rfl ⟨rfl, ?_⟩)
   refine DL_q rfl rfl (Exec.load_atR (E := encGExpr) c.drew A82 rfl rfl rfl (af.sub (Sub.iso (Sub.snd (Sub.snd (Sub.refl _) rfl) rfl)) rfl) ?_)
   intro aP aw ah
   obtain ⟨aN, rfl, a0⟩ := encGExpr_val.1 aw
   refine ⟨rfl, ?_⟩
   obtain ⟨a6, ax, a⟩ := Zg a
   refine DL_e rfl rfl (Tc rfl rfl rfl (Zi rfl args_nil) (law18_size_sim ax c.drew az).r ?_)
   rintro _ aS ⟨aL, t, p, rfl⟩
   refine ⟨(ag_cons (ag_r rfl rfl (Zm (v := Vi (d)) rfl n ⟨rfl, rfl⟩)) (ag_cons (ag_r rfl rfl (Zp F47_2 rfl g rfl ⟨rfl, rfl⟩)) (ag_cons (ag_r rfl rfl (Zn (p) A45 rfl rfl rfl ⟨rfl, rfl⟩)) (ag_cons (ag_r rfl rfl (Zm (v := Vi (b)) rfl i ⟨rfl, rfl⟩)) (ag_cons (ag_r rfl rfl (Exec.index_run rfl rfl rfl ag ⟨rfl, rfl⟩)) (ag_cons (ag_r rfl rfl (Zp F129_2 rfl rfl rfl ⟨rfl, rfl⟩)) (ag_cons (ag_r rfl rfl (Exec.load_run rfl rfl (ah t p) ⟨rfl, rfl⟩)) ag_nil))))))), ?_⟩
   obtain ⟨a7, ay, a⟩ := Zg a
   refine DL_e rfl rfl (Tc rfl rfl rfl (Zi rfl args_nil) (law18_size_sim ay p (a0.mono t)).r ?_)
   rintro _ aT ⟨a2, aq, al, rfl⟩
   refine ⟨(ag_cons (ag_r rfl rfl (Zm (v := Vi (d)) rfl n ⟨rfl, rfl⟩)) ag_nil), ?_⟩
   refine DL_q rfl rfl (Exec.add rfl rfl rfl ⟨rfl, ?_⟩)
   refine DL_q rfl rfl (Exec.add rfl rfl rfl ⟨rfl, ?_⟩)
   refine DL_done (Za rfl rfl (Zo (v := Vi (IntKind.i64.wrap (d + (IntKind.i64.wrap (a6 + a7))))) rfl rfl (Zb (ib_normal (Ze (Zd (Za rfl rfl (Zm (v := Vi (b)) rfl i (Za rfl rfl (Exec.add rfl rfl rfl (Za rfl rfl (Zo (v := Vi (IntKind.i64.wrap (b + 1))) rfl rfl (Zb (Ze ?_))))))))))))))
   have aB := Zu a
   subst x
   refine ⟨_, rfl, ?_⟩; exact ⟨a2, (Zt (Zt k t) aq), al, g, rfl, rfl⟩
  refine W_cond_f rfl j ?_
  replace j := Zk j
  refine W_exit (at_exit (at_exit (ib_here (Ze ?_))))
  have aC := Zu a
  subst x
  refine ⟨_, .inr (ap (by intro _ h; cases h)), ?_⟩; exact ⟨a1, k, c, g, n, i⟩
 rintro aF aU ⟨a5, y, ak⟩
 have hm := y.elim (ao _) (an _)
 clear y
 obtain ⟨m, z⟩ := a5
 replace hm := un2_eq hm
 obtain ⟨a3, ar, am, aJ, au, aK⟩ := ak
 refine (Ze (Zc (Zd (Za rfl rfl (Zm (v := Vi (m)) rfl au (Za rfl rfl (Zo (v := Vi (m)) rfl rfl (Zb (Ze (W_ret ?_))))))))))
 have aD := Zu hm
 subst r
 refine ⟨_, ret1 rfl, ?_⟩
 exact ⟨a3, ar, (am).drop, rfl⟩
theorem F28_4 : tyField Try.prog 28 4 = some 4 := by kernel_rfl
theorem A26 : tyAgg Try.prog 26 = some (false, 1) := by kernel_rfl
theorem S26 : tySlice Try.prog 26 = some (51, 7, 144) := by kernel_rfl
theorem A51 : tyAgg Try.prog 51 = some (true, 7) := by kernel_rfl
theorem Z51 : tyZero Try.prog 51 = some (Value.agg #[Value.string ⟨#[]⟩, Vi (0), Value.slice none 0 0, Value.slice none 0 0, Value.slice none 0 0, Value.slice none 0 0, Value.slice none 0 0]) := by kernel_rfl
theorem F51_2 : tyField Try.prog 51 2 = some 2 := by kernel_rfl
theorem F51_0 : tyField Try.prog 51 0 = some 0 := by kernel_rfl
theorem A9 : tyAgg Try.prog 9 = some (false, 1) := by kernel_rfl
theorem F51_3 : tyField Try.prog 51 3 = some 5 := by kernel_rfl
theorem A48 : tyAgg Try.prog 48 = some (false, 1) := by kernel_rfl
theorem S48 : tySlice Try.prog 48 = some (58, 5, 88) := by kernel_rfl
theorem F58_0 : tyField Try.prog 58 0 = some 0 := by kernel_rfl
theorem F51_4 : tyField Try.prog 51 4 = some 6 := by kernel_rfl
theorem A49 : tyAgg Try.prog 49 = some (false, 1) := by kernel_rfl
theorem S49 : tySlice Try.prog 49 = some (84, 4, 56) := by kernel_rfl
theorem F84_1 : tyField Try.prog 84 1 = some 1 := by kernel_rfl
theorem law18_Large_sim {w0 w : World} {s : PHeap} {H : List Res} {fu : Nat} {g20 : Ground} {v21 : Value} {v23 : Value} {v25 : Value} {v27 : Value} {v29 : Value} {r : Bool} (hm : law18_Large_p fu g20 = some r) (hS : St w0 s (H) w) (a22 : SliceRep encAtom s v21 g20.Atoms) (a24 : SliceRep encGFluent s v23 g20.Fluents) (a26 : SliceRep (encInt .i64) s v25 g20.Init) (a28 : SliceRep encCond s v27 g20.Goal) (a30 : SliceRep encGOp s v29 g20.Ops) :
  Calls Try.prog 10 #[Value.agg #[v21, v23, v25, v27, v29]] w fun e w' => ∃ v, e = .returned v ∧ ((fun (y32 : Bool) => ∃ (be : PHeap) , PHeap.le s be ∧ St w0 be (H) w' ∧ v = Value.bool (y32)) r) := by
 unfold law18_Large_p at hm
 refine calls_of_W Try.func10 rfl rfl (Zc (Zd (Za rfl rfl (Exec.box (cs := [v21, v23, v25, v27, v29]) hS rfl rfl rfl ?_))))
 intro b d6 ai
 refine Za rfl rfl (Zo (v := Value.bool (false)) rfl rfl (Zb (Ze (Zc (Zd (Za rfl rfl (Zp F28_0 rfl rfl rfl (Za rfl rfl (Zn (ai) A22 rfl rfl rfl (Za rfl rfl (Zr S22 rfl rfl a22 (Za rfl rfl (Zp F28_1 rfl rfl rfl (Za rfl rfl (Zn (ai) A23 rfl rfl rfl (Za rfl rfl (Zr S23 rfl rfl a24 (Za rfl rfl (Exec.add rfl rfl rfl (Za rfl rfl (Zp F28_2 rfl rfl rfl (Za rfl rfl (Zn (ai) A24 rfl rfl rfl (Za rfl rfl (Zr S24 rfl rfl a26 (Za rfl rfl (Exec.add rfl rfl rfl (Za rfl rfl (Zo (v := Vi (IntKind.i64.wrap ((IntKind.i64.wrap ((g20.Atoms.length : Int) + (g20.Fluents.length : Int))) + (g20.Init.length : Int)))) rfl rfl (Zb (Ze (Zc (Zc (Zd (Za rfl rfl (Zo (v := Vi (0)) rfl rfl (Zb (Ze ?_))))))))))))))))))))))))))))))))))))))
 obtain ⟨aA, br, df, bI, bE⟩ := ctl_some hm
 refine W_mid (M := fun f' w' => ∃ s', (aA = .next s' ∨ aA = .brk s') ∧ (un2 fun (aR : Int) (aN : Int) => ∃ (bf : PHeap) , PHeap.le s bf ∧ St w0 bf (Res.box b 28 [v21, v23, v25, v27, v29] :: H) w' ∧ f' 1 = Value.pointer (some ⟨b, 0, none⟩) ∧ f' 3 = Vi (aR) ∧ f' 4 = Vi (aN)) s') ?_ ?_
 ·refine W_block (W_while (fun s' f' w' => (un2 fun (an : Int) (o : Int) => ∃ (bg : PHeap) , PHeap.le s bg ∧ St w0 bg (Res.box b 28 [v21, v23, v25, v27, v29] :: H) w' ∧ f' 1 = Value.pointer (some ⟨b, 0, none⟩) ∧ f' 3 = Vi (an) ∧ f' 4 = Vi (o)) s') br ?_ ?_)
  ·exact ⟨s, (Zv _), ai, rfl, rfl, rfl⟩
  intro c8 aB cX d7 bv d bM
  obtain ⟨an, o⟩ := c8
  replace d := un2_eq d
  obtain ⟨cz, aj, y, ar, aU, au⟩ := bv
  refine Zc (Zc (Zd (Za rfl rfl (Zm (v := Vi (o)) rfl au (Za rfl rfl (Zp F28_3 rfl ar rfl (Za rfl rfl (Zn (y) A25 rfl rfl rfl (Za rfl rfl (Zr S25 rfl rfl (a28.mono aj) (Za rfl rfl (Zq rfl rfl rfl (Zb (Ze ?_))))))))))))))
  rcases ite_some d with ⟨ac, d⟩ | ⟨ac, d⟩
  ·refine W_cond_t rfl ac (W_skip (Ze (Zc (W_block (Zd (Za rfl rfl (Zm (v := Vi (an)) rfl aU (Za rfl rfl (Zp F28_3 rfl ar rfl (Za rfl rfl (Zn (y) A25 rfl rfl rfl (Za rfl rfl (Zm (v := Vi (o)) rfl au ?_)))))))))))))
   obtain ⟨dL, cf, d⟩ := Zg d
   refine Za rfl rfl (Exec.index_rep S25 rfl rfl rfl (a28.mono aj) cf ?_)
   intro cK dj bn
   refine Za rfl rfl (Zw (E := encCond) y A47 rfl rfl rfl bn ?_)
   intro d2 cg
   obtain ⟨dv, dw, dx, rfl, cr, ct, cu⟩ := encCond_val.1 cg
   obtain ⟨cG, ch, d⟩ := Zg d
   refine Za rfl rfl (Tc rfl rfl rfl (Zi rfl args_nil) (law18_heavy_sim ch y cr ct cu).r ?_)
   rintro _ d8 ⟨c0, bQ, b4, rfl⟩
   refine Za rfl rfl (Exec.add rfl rfl rfl (Za rfl rfl (Exec.add rfl rfl rfl (Za rfl rfl (Zo (v := Vi (IntKind.i64.wrap (an + (IntKind.i64.wrap (1 + cG))))) rfl rfl (Zb (ib_normal (Ze (Zd (Za rfl rfl (Zm (v := Vi (o)) rfl au (Za rfl rfl (Exec.add rfl rfl rfl (Za rfl rfl (Zo (v := Vi (IntKind.i64.wrap (o + 1))) rfl rfl (Zb (Ze ?_)))))))))))))))))
   have cO := Zu d
   subst aB
   refine ⟨_, rfl, ?_⟩; exact ⟨c0, (Zt aj bQ), b4, ar, rfl, rfl⟩
  refine W_cond_f rfl ac ?_
  replace ac := Zk ac
  refine W_exit (at_exit (at_exit (ib_here (Ze ?_))))
  have cP := Zu d
  subst aB
  refine ⟨_, .inr (bM (by intro _ h; cases h)), ?_⟩; exact ⟨cz, aj, y, ar, aU, au⟩
 rintro cY d9 ⟨c9, aJ, b0⟩
 have hm := aJ.elim (bI _) (bE _)
 clear aJ
 obtain ⟨aR, aN⟩ := c9
 replace hm := un2_eq hm
 obtain ⟨a7, a2, b5, bV, bW, dn⟩ := b0
 refine (Ze (Zc (Zc (Zd (Za rfl rfl (Zo (v := Vi (0)) rfl rfl (Zb (Ze ?_))))))))
 obtain ⟨aC, bs, dg, bJ, bF⟩ := ctl_some hm
 refine W_mid (M := fun f' w' => ∃ s', (aC = .next s' ∨ aC = .brk s') ∧ (un2 fun (ao : Int) (aO : Int) => ∃ (bh : PHeap) , PHeap.le a7 bh ∧ St w0 bh (Res.box b 28 [v21, v23, v25, v27, v29] :: H) w' ∧ f' 1 = Value.pointer (some ⟨b, 0, none⟩) ∧ f' 3 = Vi (ao) ∧ f' 5 = Vi (aO)) s') ?_ ?_
 ·refine W_block (W_while (fun s' f' w' => (un2 fun (ah : Int) (j : Int) => ∃ (bi : PHeap) , PHeap.le a7 bi ∧ St w0 bi (Res.box b 28 [v21, v23, v25, v27, v29] :: H) w' ∧ f' 1 = Value.pointer (some ⟨b, 0, none⟩) ∧ f' 3 = Vi (ah) ∧ f' 5 = Vi (j)) s') bs ?_ ?_)
  ·exact ⟨a7, (Zv _), b5, bV, bW, rfl⟩
  intro cA aD cZ dA bw a bN
  obtain ⟨ah, j⟩ := cA
  replace a := un2_eq a
  obtain ⟨c1, ak, z, av, a4, aw⟩ := bw
  refine Zc (Zc (Zd (Za rfl rfl (Zm (v := Vi (j)) rfl aw (Za rfl rfl (Zp F28_4 rfl av rfl (Za rfl rfl (Zn (z) A26 rfl rfl rfl (Za rfl rfl (Zr S26 rfl rfl (a30.mono (Zt a2 ak)) (Za rfl rfl (Zq rfl rfl rfl (Zb (Ze ?_))))))))))))))
  rcases ite_some a with ⟨ad, a⟩ | ⟨ad, a⟩
  ·refine W_cond_t rfl ad (W_skip (Ze (Zc (W_block (Zc (Zd (Za rfl rfl (Zp F28_4 rfl av rfl (Za rfl rfl (Zn (z) A26 rfl rfl rfl (Za rfl rfl (Zm (v := Vi (j)) rfl aw ?_))))))))))))
   obtain ⟨c, ci, a⟩ := Zg a
   refine Za rfl rfl (Exec.index_rep S26 rfl rfl rfl (a30.mono (Zt a2 ak)) ci ?_)
   intro cL dk bo
   refine Za rfl rfl (Zw (E := encGOp) z A51 rfl rfl rfl bo ?_)
   intro d3 cj
   obtain ⟨l, m, n, u, x, rfl, bb, bc, bd, a5, a6⟩ := encGOp_val.1 cj
   refine Za rfl rfl (Exec.alloc (cs := [Value.string (⟨#[]⟩), Vi (0), Value.slice none 0 0, Value.slice none 0 0, Value.slice none 0 0, Value.slice none 0 0, Value.slice none 0 0]) z Z51 rfl rfl ?_)
   intro k dB b6
   refine Za rfl rfl (Exec.store_box (ds := [Value.string (c.Name), Vi (c.Cost), l, m, n, u, x]) (es := [Value.string (c.Name), Vi (c.Cost), l, m, n, u, x]) b6 A51 rfl rfl rfl rfl (Zj rfl (Zj rfl (Zj (bb).one (Zj (bc).one (Zj (bd).one (Zj (a5).one (Zj (a6).one one_nil))))))) (Nat.le_of_ble_eq_true rfl) rfl ?_)
   intro dC a1
   refine Zb (Ze (Zc (W_dl (n0 := 11) (qs 0 3 (qs 5 4 (.e 3 [0, 5, 6, 7, 8] (.q 4 (.q 9 (.q 10 .done)))))) hmix (by kernel_rfl) (by kernel_rfl) (DL_q rfl rfl (Zm (v := Vi (ah)) rfl a4 ⟨rfl, ?_⟩)))))
   refine DL_q rfl rfl (Zp F51_2 rfl rfl rfl ⟨rfl, ?_⟩)
   refine DL_q rfl rfl (Exec.load_box_agg (ds := [l, m, n]) (a1.drew) A47 rfl rfl rfl ⟨rfl, ?_⟩)
   refine DL_q rfl rfl (Zp F51_0 rfl rfl rfl ⟨rfl, ?_⟩)
   refine DL_q rfl rfl (Zn (a1.drew) A9 rfl rfl rfl ⟨rfl, ?_⟩)
   refine DL_q rfl rfl (Exec.len_str Try.underlying9 rfl rfl ⟨rfl, ?_⟩)
   refine DL_q rfl rfl (Exec.quo rfl rfl rfl (by decide) ⟨rfl, ?_⟩)
   obtain ⟨cH, ck, a⟩ := Zg a
   refine DL_e rfl rfl (Tc rfl rfl rfl (Zi rfl args_nil) (law18_heavy_sim ck a1.drew bb bc bd).r ?_)
   rintro _ dD ⟨a8, ag, aI, rfl⟩
   refine ⟨(ag_cons (ag_r rfl rfl (Zm (v := Vi (ah)) rfl a4 ⟨rfl, rfl⟩)) (ag_cons (ag_r rfl rfl (Zp F51_0 rfl rfl rfl ⟨rfl, rfl⟩)) (ag_cons (ag_r rfl rfl (Zn (aI) A9 rfl rfl rfl ⟨rfl, rfl⟩)) (ag_cons (ag_r rfl rfl (Exec.len_str Try.underlying9 rfl rfl ⟨rfl, rfl⟩)) (ag_cons (ag_r rfl rfl (Exec.quo rfl rfl rfl (by decide) ⟨rfl, rfl⟩)) ag_nil))))), ?_⟩
   refine DL_q rfl rfl (Exec.add rfl rfl rfl ⟨rfl, ?_⟩)
   refine DL_q rfl rfl (Exec.add rfl rfl rfl ⟨rfl, ?_⟩)
   refine DL_q rfl rfl (Exec.add rfl rfl rfl ⟨rfl, ?_⟩)
   refine DL_done (Za rfl rfl (Zo (v := Vi (IntKind.i64.wrap (ah + (IntKind.i64.wrap ((IntKind.i64.wrap (1 + cH)) + (IntKind.i64.wrap ((c.Name.size : Int).tdiv 100))))))) rfl rfl (Zb (Ze (Zc (Zc (Zd (Za rfl rfl (Zo (v := Vi (0)) rfl rfl (Zb (Ze ?_)))))))))))
   obtain ⟨aE, bt, dh, bK, bG⟩ := ctl_some a
   refine W_mid (M := fun f' w' => ∃ s', (aE = .next s' ∨ aE = .brk s') ∧ (un2 fun (aS : Int) (aP : Int) => ∃ (bj : PHeap) , PHeap.le a8 bj ∧ St w0 bj (Res.box b 28 [v21, v23, v25, v27, v29] :: Res.box k 51 [Value.string (c.Name), Vi (c.Cost), l, m, n, u, x] :: H) w' ∧ f' 1 = Value.pointer (some ⟨b, 0, none⟩) ∧ f' 3 = Vi (aS) ∧ f' 5 = Vi (j) ∧ f' 6 = Value.pointer (some ⟨k, 0, none⟩) ∧ f' 7 = Vi (aP)) s') ?_ ?_
   ·refine W_block (W_while (fun s' f' w' => (un2 fun (ap : Int) (p : Int) => ∃ (bk : PHeap) , PHeap.le a8 bk ∧ St w0 bk (Res.box b 28 [v21, v23, v25, v27, v29] :: Res.box k 51 [Value.string (c.Name), Vi (c.Cost), l, m, n, u, x] :: H) w' ∧ f' 1 = Value.pointer (some ⟨b, 0, none⟩) ∧ f' 3 = Vi (ap) ∧ f' 5 = Vi (j) ∧ f' 6 = Value.pointer (some ⟨k, 0, none⟩) ∧ f' 7 = Vi (p)) s') bt ?_ ?_)
    ·have b7 := (aI).f1
     exact ⟨a8, (Zv _), b7, av, rfl, aw, rfl, rfl⟩
    intro cB aF da dE bx g bO
    obtain ⟨ap, p⟩ := cB
    replace g := un2_eq g
    obtain ⟨c2, al, aa, aV, aW, aX, ax, ay⟩ := bx
    refine Zc (Zc (Zd (Za rfl rfl (Zm (v := Vi (p)) rfl ay (Za rfl rfl (Zp F51_3 rfl ax rfl (Za rfl rfl (Zn ((aa).f1) A48 rfl rfl rfl (Za rfl rfl (Zr S48 rfl rfl (a5.mono (Zt ag al)) (Za rfl rfl (Zq rfl rfl rfl (Zb (Ze ?_))))))))))))))
    rcases ite_some g with ⟨ae, g⟩ | ⟨ae, g⟩
    ·refine W_cond_t rfl ae (W_skip (Ze (Zc (W_block (Zd (Za rfl rfl (Zm (v := Vi (ap)) rfl aW (Za rfl rfl (Zp F51_3 rfl ax rfl (Za rfl rfl (Zn ((aa).f1) A48 rfl rfl rfl (Za rfl rfl (Zm (v := Vi (p)) rfl ay ?_)))))))))))))
     obtain ⟨dM, cl, g⟩ := Zg g
     refine Za rfl rfl (Exec.index_rep S48 rfl rfl rfl (a5.mono (Zt ag al)) cl ?_)
     intro cM dl bp
     refine Za rfl rfl (Zp F58_0 rfl rfl rfl (Za rfl rfl (Zw (E := encCond) aa A47 rfl rfl rfl (bp.sub (Sub.iso (Sub.fst (Sub.refl _))) rfl) ?_)))
     intro d4 cm
     obtain ⟨dy, dz, d0, rfl, cv, cw, cx⟩ := encCond_val.1 cm
     obtain ⟨cI, cn, g⟩ := Zg g
     refine Za rfl rfl (Tc rfl rfl rfl (Zi rfl args_nil) (law18_heavy_sim cn aa cv cw cx).r ?_)
     rintro _ dF ⟨c3, bR, b8, rfl⟩
     refine Za rfl rfl (Exec.add rfl rfl rfl (Za rfl rfl (Exec.add rfl rfl rfl (Za rfl rfl (Zo (v := Vi (IntKind.i64.wrap (ap + (IntKind.i64.wrap (1 + cI))))) rfl rfl (Zb (ib_normal (Ze (Zd (Za rfl rfl (Zm (v := Vi (p)) rfl ay (Za rfl rfl (Exec.add rfl rfl rfl (Za rfl rfl (Zo (v := Vi (IntKind.i64.wrap (p + 1))) rfl rfl (Zb (Ze ?_)))))))))))))))))
     have cQ := Zu g
     subst aF
     refine ⟨_, rfl, ?_⟩; exact ⟨c3, (Zt al bR), ((b8).f1).f1, aV, rfl, aX, ax, rfl⟩
    refine W_cond_f rfl ae ?_
    replace ae := Zk ae
    refine W_exit (at_exit (at_exit (ib_here (Ze ?_))))
    have cR := Zu g
    subst aF
    refine ⟨_, .inr (bO (by intro _ h; cases h)), ?_⟩; exact ⟨c2, al, ((aa).f1).f1, aV, aW, aX, ax, ay⟩
   rintro db dG ⟨cC, aK, b1⟩
   have a := aK.elim (bK _) (bG _)
   clear aK
   obtain ⟨aS, aP⟩ := cC
   replace a := un2_eq a
   obtain ⟨a9, a3, b9, bX, bY, bZ, ca, dp⟩ := b1
   refine (Ze (Zc (Zd (Za rfl rfl (Zo (v := Vi (0)) rfl rfl (Zb (Ze ?_)))))))
   obtain ⟨aG, bu, di, bL, bH⟩ := ctl_some a
   refine W_mid (M := fun f' w' => ∃ s', (aG = .next s' ∨ aG = .brk s') ∧ (un2 fun (aT : Int) (aQ : Int) => ∃ (bl : PHeap) , PHeap.le a9 bl ∧ St w0 bl (Res.box b 28 [v21, v23, v25, v27, v29] :: Res.box k 51 [Value.string (c.Name), Vi (c.Cost), l, m, n, u, x] :: H) w' ∧ f' 1 = Value.pointer (some ⟨b, 0, none⟩) ∧ f' 3 = Vi (aT) ∧ f' 5 = Vi (j) ∧ f' 6 = Value.pointer (some ⟨k, 0, none⟩) ∧ f' 8 = Vi (aQ)) s') ?_ ?_
   ·refine W_block (W_while (fun s' f' w' => (un2 fun (aq : Int) (t : Int) => ∃ (bm : PHeap) , PHeap.le a9 bm ∧ St w0 bm (Res.box b 28 [v21, v23, v25, v27, v29] :: Res.box k 51 [Value.string (c.Name), Vi (c.Cost), l, m, n, u, x] :: H) w' ∧ f' 1 = Value.pointer (some ⟨b, 0, none⟩) ∧ f' 3 = Vi (aq) ∧ f' 5 = Vi (j) ∧ f' 6 = Value.pointer (some ⟨k, 0, none⟩) ∧ f' 8 = Vi (t)) s') bu ?_ ?_)
    ·have bA := (b9).f1
     exact ⟨a9, (Zv _), (bA).f1, bX, bY, bZ, ca, rfl⟩
    intro cD aH dc dH bz i bP
    obtain ⟨aq, t⟩ := cD
    replace i := un2_eq i
    obtain ⟨c4, am, ab, aY, aZ, ba, az, a0⟩ := bz
    refine Zc (Zc (Zd (Za rfl rfl (Zm (v := Vi (t)) rfl a0 (Za rfl rfl (Zp F51_4 rfl az rfl (Za rfl rfl (Zn ((ab).f1) A49 rfl rfl rfl (Za rfl rfl (Zr S49 rfl rfl (a6.mono (Zt (Zt ag a3) am)) (Za rfl rfl (Zq rfl rfl rfl (Zb (Ze ?_))))))))))))))
    rcases ite_some i with ⟨af, i⟩ | ⟨af, i⟩
    ·refine W_cond_t rfl af (W_skip (Ze (Zc (W_block (Zd (Za rfl rfl (Zm (v := Vi (aq)) rfl aZ (Za rfl rfl (Zp F51_4 rfl az rfl (Za rfl rfl (Zn ((ab).f1) A49 rfl rfl rfl (Za rfl rfl (Zm (v := Vi (t)) rfl a0 ?_)))))))))))))
     obtain ⟨dN, co, i⟩ := Zg i
     refine Za rfl rfl (Exec.index_rep S49 rfl rfl rfl (a6.mono (Zt (Zt ag a3) am)) co ?_)
     intro cN dm bq
     refine Za rfl rfl (Zp F84_1 rfl rfl rfl (Za rfl rfl (Zw (E := encGExpr) ab A82 rfl rfl rfl (bq.sub (Sub.iso (Sub.snd (Sub.refl _) rfl)) rfl) ?_)))
     intro d5 cp
     obtain ⟨d1, rfl, cy⟩ := encGExpr_val.1 cp
     obtain ⟨cJ, cq, i⟩ := Zg i
     refine Za rfl rfl (Tc rfl rfl rfl (Zi rfl args_nil) (law18_size_sim cq ab cy).r ?_)
     rintro _ dI ⟨c5, bS, bB, rfl⟩
     refine Za rfl rfl (Exec.add rfl rfl rfl (Za rfl rfl (Zo (v := Vi (IntKind.i64.wrap (aq + cJ))) rfl rfl (Zb (ib_normal (Ze (Zd (Za rfl rfl (Zm (v := Vi (t)) rfl a0 (Za rfl rfl (Exec.add rfl rfl rfl (Za rfl rfl (Zo (v := Vi (IntKind.i64.wrap (t + 1))) rfl rfl (Zb (Ze ?_)))))))))))))))
     have cS := Zu i
     subst aH
     refine ⟨_, rfl, ?_⟩; exact ⟨c5, (Zt am bS), ((bB).f1).f1, aY, rfl, ba, az, rfl⟩
    refine W_cond_f rfl af ?_
    replace af := Zk af
    refine W_exit (at_exit (at_exit (ib_here (Ze ?_))))
    have cT := Zu i
    subst aH
    refine ⟨_, .inr (bP (by intro _ h; cases h)), ?_⟩; exact ⟨c4, am, ((ab).f1).f1, aY, aZ, ba, az, a0⟩
   rintro dd dJ ⟨cE, aL, b2⟩
   have a := aL.elim (bL _) (bH _)
   clear aL
   obtain ⟨aT, aQ⟩ := cE
   replace a := un2_eq a
   obtain ⟨c6, bT, bC, cb, cc, cd, dq, dr⟩ := b2
   refine (ib_normal (Ze (Zd (Za rfl rfl (Zm (v := Vi (j)) rfl cd (Za rfl rfl (Exec.add rfl rfl rfl (Za rfl rfl (Zo (v := Vi (IntKind.i64.wrap (j + 1))) rfl rfl (Zb (Ze ?_)))))))))))
   have cU := Zu a
   subst aD
   refine ⟨_, rfl, ?_⟩; exact ⟨c6, (Zt (Zt (Zt ak ag) a3) bT), ((bC).f1).drop, cb, cc, rfl⟩
  refine W_cond_f rfl ad ?_
  replace ad := Zk ad
  refine W_exit (at_exit (at_exit (ib_here (Ze ?_))))
  have cV := Zu a
  subst aD
  refine ⟨_, .inr (bN (by intro _ h; cases h)), ?_⟩; exact ⟨c1, ak, z, av, a4, aw⟩
 rintro de dK ⟨cF, aM, b3⟩
 have hm := aM.elim (bJ _) (bF _)
 clear aM
 obtain ⟨ao, aO⟩ := cF
 replace hm := un2_eq hm
 obtain ⟨c7, bU, bD, dt, ce, du⟩ := b3
 refine (Ze (Zc (Zd (Za rfl rfl (Zm (v := Vi (ao)) rfl ce (Za rfl rfl (Exec.gtr rfl rfl rfl (Za rfl rfl (Zo (v := Value.bool (decide (3000 < ao))) rfl rfl (Zb (Ze (W_ret ?_))))))))))))
 have cW := Zu hm
 subst r
 refine ⟨_, ret1 rfl, ?_⟩
 exact ⟨c7, (Zt a2 bU), (bD).drop, rfl⟩
theorem Z28 : tyZero Try.prog 28 = some (Value.agg #[Value.slice none 0 0, Value.slice none 0 0, Value.slice none 0 0, Value.slice none 0 0, Value.slice none 0 0]) := by kernel_rfl
theorem law19_sample_sim {w0 w : World} {s : PHeap} {H : List Res}   {r : Ground} (hm : law19_sample_p  = some r) (hS : St w0 s (H) w)  :
  Calls Try.prog 33 #[] w fun e w' => ∃ v, e = .returned v ∧ ((fun (z : Ground) => ∃ (n : PHeap) (ag : Value) (ah : Value) (ai : Value) (aj : Value) (ak : Value), PHeap.le s n ∧ St w0 n (H) w' ∧ v = Value.agg #[ag, ah, ai, aj, ak] ∧ SliceRep encAtom n ag z.Atoms ∧ SliceRep encGFluent n ah z.Fluents ∧ SliceRep (encInt .i64) n ai z.Init ∧ SliceRep encCond n aj z.Goal ∧ SliceRep encGOp n ak z.Ops) r) := by
 unfold law19_sample_p at hm
 refine calls_of_W Try.func33 rfl rfl (Zc (Zd (Za rfl rfl (Exec.alloc (cs := [Value.slice none 0 0, Value.slice none 0 0, Value.slice none 0 0, Value.slice none 0 0, Value.slice none 0 0]) hS Z28 rfl rfl ?_))))
 intro aQ bb al
 refine Zb (Ze (Zc (Zd (Za rfl rfl (Exec.build rfl (parts_cons (c := [Value.string (⟨#[112]⟩)]) (cells_of rfl rfl) parts_nil) (v := Value.agg #[Value.string (⟨#[112]⟩), Value.slice none 0 0]) (fun _ => by kernel_rfl) (Za rfl rfl (Exec.build rfl (parts_cons (c := [Value.string (⟨#[113]⟩)]) (cells_of rfl rfl) parts_nil) (v := Value.agg #[Value.string (⟨#[113]⟩), Value.slice none 0 0]) (fun _ => by kernel_rfl) (Za rfl rfl (Exec.build rfl (parts_cons (c := [Value.string (⟨#[114]⟩)]) (cells_of rfl rfl) parts_nil) (v := Value.agg #[Value.string (⟨#[114]⟩), Value.slice none 0 0]) (fun _ => by kernel_rfl) (Za rfl rfl (Exec.buildSlice (Te := 56) (cs := [Value.string (⟨#[112]⟩), Value.slice none 0 0, Value.string (⟨#[113]⟩), Value.slice none 0 0, Value.string (⟨#[114]⟩), Value.slice none 0 0]) al rfl (parts_cons (c := [Value.string (⟨#[112]⟩), Value.slice none 0 0]) (cells_of rfl rfl) (parts_cons (c := [Value.string (⟨#[113]⟩), Value.slice none 0 0]) (cells_of rfl rfl) (parts_cons (c := [Value.string (⟨#[114]⟩), Value.slice none 0 0]) (cells_of rfl rfl) parts_nil))) (fun _ => by kernel_rfl) ?_)))))))))))
 intro p bc am
 have an := St.boxArr (E := encAtom) (xs := [(⟨⟨#[112]⟩, []⟩ : Atom), (⟨⟨#[113]⟩, []⟩ : Atom), (⟨⟨#[114]⟩, []⟩ : Atom)]) am ⟨[Value.string (⟨#[112]⟩), Value.slice none 0 0], [Value.string (⟨#[113]⟩), Value.slice none 0 0, Value.string (⟨#[114]⟩), Value.slice none 0 0], rfl, ⟨[Value.string (⟨#[112]⟩)], [Value.slice none 0 0], rfl, rfl, ⟨_, rfl, (SliceRep.nil _ _)⟩⟩, ⟨[Value.string (⟨#[113]⟩), Value.slice none 0 0], [Value.string (⟨#[114]⟩), Value.slice none 0 0], rfl, ⟨[Value.string (⟨#[113]⟩)], [Value.slice none 0 0], rfl, rfl, ⟨_, rfl, (SliceRep.nil _ _)⟩⟩, ⟨[Value.string (⟨#[114]⟩), Value.slice none 0 0], [], rfl, ⟨[Value.string (⟨#[114]⟩)], [Value.slice none 0 0], rfl, rfl, ⟨_, rfl, (SliceRep.nil _ _)⟩⟩, rfl⟩⟩⟩ (by simp [maxLen])
 obtain ⟨aS, aI, ao, ac⟩ := an.freezeArr
 refine Za rfl rfl (Exec.buildSlice (Te := 3) (cs := [Vi (0), Vi (2)]) ao rfl (parts_cons (c := [Vi (0)]) (cells_of rfl rfl) (parts_cons (c := [Vi (2)]) (cells_of rfl rfl) parts_nil)) (fun _ => by kernel_rfl) ?_)
 intro q bd ap
 have aq := St.boxArr (E := (encInt .i64)) (xs := [0, 2]) ap ⟨[Vi (0)], [Vi (2)], rfl, rfl, ⟨[Vi (2)], [], rfl, rfl, rfl⟩⟩ (by simp [maxLen])
 obtain ⟨aT, aa, ar, ad⟩ := aq.freezeArr
 refine Za rfl rfl (Exec.buildSlice (Te := 3) (cs := [Vi (1)]) ar rfl (parts_cons (c := [Vi (1)]) (cells_of rfl rfl) parts_nil) (fun _ => by kernel_rfl) ?_)
 intro o be au
 have av := St.boxArr (E := (encInt .i64)) (xs := [1]) au ⟨[Vi (1)], [], rfl, rfl, rfl⟩ (by simp [maxLen])
 obtain ⟨aU, x, aw, aJ⟩ := av.freezeArr
 refine Za rfl rfl (Exec.build rfl (parts_cons (c := [Value.slice (some ⟨o, 0, none⟩) 1 1]) (cells_of rfl rfl) parts_nil) (v := Value.agg #[Value.slice (some ⟨o, 0, none⟩) 1 1, Value.slice none 0 0, Value.slice none 0 0]) (fun _ => by kernel_rfl) (Za rfl rfl (Exec.buildSlice (Te := 47) (cs := [Value.slice (some ⟨o, 0, none⟩) 1 1, Value.slice none 0 0, Value.slice none 0 0]) aw rfl (parts_cons (c := [Value.slice (some ⟨o, 0, none⟩) 1 1, Value.slice none 0 0, Value.slice none 0 0]) (cells_of rfl rfl) parts_nil) (fun _ => by kernel_rfl) ?_)))
 intro t bf ax
 have ay := St.boxArr (E := encCond) (xs := [(⟨[1], [], []⟩ : Cond)]) ax ⟨[Value.slice (some ⟨o, 0, none⟩) 1 1, Value.slice none 0 0, Value.slice none 0 0], [], rfl, ⟨[Value.slice (some ⟨o, 0, none⟩) 1 1], [Value.slice none 0 0, Value.slice none 0 0], rfl, ⟨_, rfl, aJ⟩, ⟨[Value.slice none 0 0], [Value.slice none 0 0], rfl, ⟨_, rfl, (SliceRep.nil _ _)⟩, ⟨_, rfl, (SliceRep.nil _ _)⟩⟩⟩, rfl⟩ (by simp [maxLen])
 obtain ⟨aV, y, az, ae⟩ := ay.freezeArr
 refine Za rfl rfl (Exec.buildSlice (Te := 3) (cs := [Vi (0)]) az rfl (parts_cons (c := [Vi (0)]) (cells_of rfl rfl) parts_nil) (fun _ => by kernel_rfl) ?_)
 intro b bg a0
 have a1 := St.boxArr (E := (encInt .i64)) (xs := [0]) a0 ⟨[Vi (0)], [], rfl, rfl, rfl⟩ (by simp [maxLen])
 obtain ⟨aW, l, a2, aK⟩ := a1.freezeArr
 refine Za rfl rfl (Exec.build rfl (parts_cons (c := [Value.slice (some ⟨b, 0, none⟩) 1 1]) (cells_of rfl rfl) parts_nil) (v := Value.agg #[Value.slice (some ⟨b, 0, none⟩) 1 1, Value.slice none 0 0, Value.slice none 0 0]) (fun _ => by kernel_rfl) (Za rfl rfl (Exec.build rfl (parts_cons (c := [Vi (1)]) (cells_of rfl rfl) (parts_cons (c := [Value.bool (true)]) (cells_of rfl rfl) parts_nil)) (v := Value.agg #[Value.slice none 0 0, Value.slice none 0 0, Value.slice none 0 0, Vi (1), Value.bool (true)]) (fun _ => by kernel_rfl) (Za rfl rfl (Exec.build rfl (parts_cons (c := [Vi (2)]) (cells_of rfl rfl) (parts_cons (c := [Value.bool (true)]) (cells_of rfl rfl) parts_nil)) (v := Value.agg #[Value.slice none 0 0, Value.slice none 0 0, Value.slice none 0 0, Vi (2), Value.bool (true)]) (fun _ => by kernel_rfl) (Za rfl rfl (Exec.buildSlice (Te := 58) (cs := [Value.slice none 0 0, Value.slice none 0 0, Value.slice none 0 0, Vi (1), Value.bool (true), Value.slice none 0 0, Value.slice none 0 0, Value.slice none 0 0, Vi (2), Value.bool (true)]) a2 rfl (parts_cons (c := [Value.slice none 0 0, Value.slice none 0 0, Value.slice none 0 0, Vi (1), Value.bool (true)]) (cells_of rfl rfl) (parts_cons (c := [Value.slice none 0 0, Value.slice none 0 0, Value.slice none 0 0, Vi (2), Value.bool (true)]) (cells_of rfl rfl) parts_nil)) (fun _ => by kernel_rfl) ?_)))))))
 intro i bh a3
 have a4 := St.boxArr (E := encGChange) (xs := [(⟨(⟨[], [], []⟩ : Cond), 1, true⟩ : GChange), (⟨(⟨[], [], []⟩ : Cond), 2, true⟩ : GChange)]) a3 ⟨[Value.slice none 0 0, Value.slice none 0 0, Value.slice none 0 0, Vi (1), Value.bool (true)], [Value.slice none 0 0, Value.slice none 0 0, Value.slice none 0 0, Vi (2), Value.bool (true)], rfl, ⟨[Value.slice none 0 0, Value.slice none 0 0, Value.slice none 0 0], [Vi (1), Value.bool (true)], rfl, ⟨[Value.slice none 0 0], [Value.slice none 0 0, Value.slice none 0 0], rfl, ⟨_, rfl, (SliceRep.nil _ _)⟩, ⟨[Value.slice none 0 0], [Value.slice none 0 0], rfl, ⟨_, rfl, (SliceRep.nil _ _)⟩, ⟨_, rfl, (SliceRep.nil _ _)⟩⟩⟩, ⟨[Vi (1)], [Value.bool (true)], rfl, rfl, rfl⟩⟩, ⟨[Value.slice none 0 0, Value.slice none 0 0, Value.slice none 0 0, Vi (2), Value.bool (true)], [], rfl, ⟨[Value.slice none 0 0, Value.slice none 0 0, Value.slice none 0 0], [Vi (2), Value.bool (true)], rfl, ⟨[Value.slice none 0 0], [Value.slice none 0 0, Value.slice none 0 0], rfl, ⟨_, rfl, (SliceRep.nil _ _)⟩, ⟨[Value.slice none 0 0], [Value.slice none 0 0], rfl, ⟨_, rfl, (SliceRep.nil _ _)⟩, ⟨_, rfl, (SliceRep.nil _ _)⟩⟩⟩, ⟨[Vi (2)], [Value.bool (true)], rfl, rfl, rfl⟩⟩, rfl⟩⟩ (by simp [maxLen])
 obtain ⟨aX, k, a5, aL⟩ := a4.freezeArr
 refine Za rfl rfl (Exec.build rfl (parts_cons (c := [Value.string (⟨#[40, 97, 41]⟩)]) (cells_of rfl rfl) (parts_cons (c := [Vi (2)]) (cells_of rfl rfl) (parts_cons (c := [Value.slice (some ⟨b, 0, none⟩) 1 1, Value.slice none 0 0, Value.slice none 0 0]) (cells_of rfl rfl) (parts_cons (c := [Value.slice (some ⟨i, 0, none⟩) 2 2]) (cells_of rfl rfl) parts_nil)))) (v := Value.agg #[Value.string (⟨#[40, 97, 41]⟩), Vi (2), Value.slice (some ⟨b, 0, none⟩) 1 1, Value.slice none 0 0, Value.slice none 0 0, Value.slice (some ⟨i, 0, none⟩) 2 2, Value.slice none 0 0]) (fun _ => by kernel_rfl) (Za rfl rfl (Exec.build rfl (parts_cons (c := [Vi (2)]) (cells_of rfl rfl) (parts_cons (c := [Value.bool (true)]) (cells_of rfl rfl) parts_nil)) (v := Value.agg #[Value.slice none 0 0, Value.slice none 0 0, Value.slice none 0 0, Vi (2), Value.bool (true)]) (fun _ => by kernel_rfl) (Za rfl rfl (Exec.buildSlice (Te := 58) (cs := [Value.slice none 0 0, Value.slice none 0 0, Value.slice none 0 0, Vi (2), Value.bool (true)]) a5 rfl (parts_cons (c := [Value.slice none 0 0, Value.slice none 0 0, Value.slice none 0 0, Vi (2), Value.bool (true)]) (cells_of rfl rfl) parts_nil) (fun _ => by kernel_rfl) ?_)))))
 intro g bi a6
 have a7 := St.boxArr (E := encGChange) (xs := [(⟨(⟨[], [], []⟩ : Cond), 2, true⟩ : GChange)]) a6 ⟨[Value.slice none 0 0, Value.slice none 0 0, Value.slice none 0 0, Vi (2), Value.bool (true)], [], rfl, ⟨[Value.slice none 0 0, Value.slice none 0 0, Value.slice none 0 0], [Vi (2), Value.bool (true)], rfl, ⟨[Value.slice none 0 0], [Value.slice none 0 0, Value.slice none 0 0], rfl, ⟨_, rfl, (SliceRep.nil _ _)⟩, ⟨[Value.slice none 0 0], [Value.slice none 0 0], rfl, ⟨_, rfl, (SliceRep.nil _ _)⟩, ⟨_, rfl, (SliceRep.nil _ _)⟩⟩⟩, ⟨[Vi (2)], [Value.bool (true)], rfl, rfl, rfl⟩⟩, rfl⟩ (by simp [maxLen])
 obtain ⟨aY, j, a8, aM⟩ := a7.freezeArr
 refine Za rfl rfl (Exec.build rfl (parts_cons (c := [Value.string (⟨#[40, 98, 41]⟩)]) (cells_of rfl rfl) (parts_cons (c := [Vi (1)]) (cells_of rfl rfl) (parts_cons (c := [Value.slice (some ⟨g, 0, none⟩) 1 1]) (cells_of rfl rfl) parts_nil))) (v := Value.agg #[Value.string (⟨#[40, 98, 41]⟩), Vi (1), Value.slice none 0 0, Value.slice none 0 0, Value.slice none 0 0, Value.slice (some ⟨g, 0, none⟩) 1 1, Value.slice none 0 0]) (fun _ => by kernel_rfl) (Za rfl rfl (Exec.buildSlice (Te := 3) (cs := [Vi (0)]) a8 rfl (parts_cons (c := [Vi (0)]) (cells_of rfl rfl) parts_nil) (fun _ => by kernel_rfl) ?_)))
 intro a bj a9
 have aA := St.boxArr (E := (encInt .i64)) (xs := [0]) a9 ⟨[Vi (0)], [], rfl, rfl, rfl⟩ (by simp [maxLen])
 obtain ⟨aZ, h, aB, aN⟩ := aA.freezeArr
 refine Za rfl rfl (Exec.build rfl (parts_cons (c := [Value.slice (some ⟨a, 0, none⟩) 1 1]) (cells_of rfl rfl) parts_nil) (v := Value.agg #[Value.slice (some ⟨a, 0, none⟩) 1 1, Value.slice none 0 0, Value.slice none 0 0]) (fun _ => by kernel_rfl) (Za rfl rfl (Exec.build rfl (parts_cons (c := [Vi (1)]) (cells_of rfl rfl) (parts_cons (c := [Value.bool (true)]) (cells_of rfl rfl) parts_nil)) (v := Value.agg #[Value.slice none 0 0, Value.slice none 0 0, Value.slice none 0 0, Vi (1), Value.bool (true)]) (fun _ => by kernel_rfl) (Za rfl rfl (Exec.build rfl (parts_cons (c := [Vi (2)]) (cells_of rfl rfl) parts_nil) (v := Value.agg #[Value.slice none 0 0, Value.slice none 0 0, Value.slice none 0 0, Vi (2), Value.bool (false)]) (fun _ => by kernel_rfl) (Za rfl rfl (Exec.buildSlice (Te := 58) (cs := [Value.slice none 0 0, Value.slice none 0 0, Value.slice none 0 0, Vi (1), Value.bool (true), Value.slice none 0 0, Value.slice none 0 0, Value.slice none 0 0, Vi (2), Value.bool (false)]) aB rfl (parts_cons (c := [Value.slice none 0 0, Value.slice none 0 0, Value.slice none 0 0, Vi (1), Value.bool (true)]) (cells_of rfl rfl) (parts_cons (c := [Value.slice none 0 0, Value.slice none 0 0, Value.slice none 0 0, Vi (2), Value.bool (false)]) (cells_of rfl rfl) parts_nil)) (fun _ => by kernel_rfl) ?_)))))))
 intro d bk aC
 have aD := St.boxArr (E := encGChange) (xs := [(⟨(⟨[], [], []⟩ : Cond), 1, true⟩ : GChange), (⟨(⟨[], [], []⟩ : Cond), 2, false⟩ : GChange)]) aC ⟨[Value.slice none 0 0, Value.slice none 0 0, Value.slice none 0 0, Vi (1), Value.bool (true)], [Value.slice none 0 0, Value.slice none 0 0, Value.slice none 0 0, Vi (2), Value.bool (false)], rfl, ⟨[Value.slice none 0 0, Value.slice none 0 0, Value.slice none 0 0], [Vi (1), Value.bool (true)], rfl, ⟨[Value.slice none 0 0], [Value.slice none 0 0, Value.slice none 0 0], rfl, ⟨_, rfl, (SliceRep.nil _ _)⟩, ⟨[Value.slice none 0 0], [Value.slice none 0 0], rfl, ⟨_, rfl, (SliceRep.nil _ _)⟩, ⟨_, rfl, (SliceRep.nil _ _)⟩⟩⟩, ⟨[Vi (1)], [Value.bool (true)], rfl, rfl, rfl⟩⟩, ⟨[Value.slice none 0 0, Value.slice none 0 0, Value.slice none 0 0, Vi (2), Value.bool (false)], [], rfl, ⟨[Value.slice none 0 0, Value.slice none 0 0, Value.slice none 0 0], [Vi (2), Value.bool (false)], rfl, ⟨[Value.slice none 0 0], [Value.slice none 0 0, Value.slice none 0 0], rfl, ⟨_, rfl, (SliceRep.nil _ _)⟩, ⟨[Value.slice none 0 0], [Value.slice none 0 0], rfl, ⟨_, rfl, (SliceRep.nil _ _)⟩, ⟨_, rfl, (SliceRep.nil _ _)⟩⟩⟩, ⟨[Vi (2)], [Value.bool (false)], rfl, rfl, rfl⟩⟩, rfl⟩⟩ (by simp [maxLen])
 obtain ⟨ba, f, aE, aO⟩ := aD.freezeArr
 refine Za rfl rfl (Exec.build rfl (parts_cons (c := [Value.string (⟨#[40, 99, 41]⟩)]) (cells_of rfl rfl) (parts_cons (c := [Vi (1)]) (cells_of rfl rfl) (parts_cons (c := [Value.slice (some ⟨a, 0, none⟩) 1 1, Value.slice none 0 0, Value.slice none 0 0]) (cells_of rfl rfl) (parts_cons (c := [Value.slice (some ⟨d, 0, none⟩) 2 2]) (cells_of rfl rfl) parts_nil)))) (v := Value.agg #[Value.string (⟨#[40, 99, 41]⟩), Vi (1), Value.slice (some ⟨a, 0, none⟩) 1 1, Value.slice none 0 0, Value.slice none 0 0, Value.slice (some ⟨d, 0, none⟩) 2 2, Value.slice none 0 0]) (fun _ => by kernel_rfl) (Za rfl rfl (Exec.buildSlice (Te := 51) (cs := [Value.string (⟨#[40, 97, 41]⟩), Vi (2), Value.slice (some ⟨b, 0, none⟩) 1 1, Value.slice none 0 0, Value.slice none 0 0, Value.slice (some ⟨i, 0, none⟩) 2 2, Value.slice none 0 0, Value.string (⟨#[40, 98, 41]⟩), Vi (1), Value.slice none 0 0, Value.slice none 0 0, Value.slice none 0 0, Value.slice (some ⟨g, 0, none⟩) 1 1, Value.slice none 0 0, Value.string (⟨#[40, 99, 41]⟩), Vi (1), Value.slice (some ⟨a, 0, none⟩) 1 1, Value.slice none 0 0, Value.slice none 0 0, Value.slice (some ⟨d, 0, none⟩) 2 2, Value.slice none 0 0]) aE rfl (parts_cons (c := [Value.string (⟨#[40, 97, 41]⟩), Vi (2), Value.slice (some ⟨b, 0, none⟩) 1 1, Value.slice none 0 0, Value.slice none 0 0, Value.slice (some ⟨i, 0, none⟩) 2 2, Value.slice none 0 0]) (cells_of rfl rfl) (parts_cons (c := [Value.string (⟨#[40, 98, 41]⟩), Vi (1), Value.slice none 0 0, Value.slice none 0 0, Value.slice none 0 0, Value.slice (some ⟨g, 0, none⟩) 1 1, Value.slice none 0 0]) (cells_of rfl rfl) (parts_cons (c := [Value.string (⟨#[40, 99, 41]⟩), Vi (1), Value.slice (some ⟨a, 0, none⟩) 1 1, Value.slice none 0 0, Value.slice none 0 0, Value.slice (some ⟨d, 0, none⟩) 2 2, Value.slice none 0 0]) (cells_of rfl rfl) parts_nil))) (fun _ => by kernel_rfl) ?_)))
 intro u bl aF
 have aG := St.boxArr (E := encGOp) (xs := [(⟨⟨#[40, 97, 41]⟩, 2, (⟨[0], [], []⟩ : Cond), [(⟨(⟨[], [], []⟩ : Cond), 1, true⟩ : GChange), (⟨(⟨[], [], []⟩ : Cond), 2, true⟩ : GChange)], []⟩ : GOp), (⟨⟨#[40, 98, 41]⟩, 1, (⟨[], [], []⟩ : Cond), [(⟨(⟨[], [], []⟩ : Cond), 2, true⟩ : GChange)], []⟩ : GOp), (⟨⟨#[40, 99, 41]⟩, 1, (⟨[0], [], []⟩ : Cond), [(⟨(⟨[], [], []⟩ : Cond), 1, true⟩ : GChange), (⟨(⟨[], [], []⟩ : Cond), 2, false⟩ : GChange)], []⟩ : GOp)]) aF ⟨[Value.string (⟨#[40, 97, 41]⟩), Vi (2), Value.slice (some ⟨b, 0, none⟩) 1 1, Value.slice none 0 0, Value.slice none 0 0, Value.slice (some ⟨i, 0, none⟩) 2 2, Value.slice none 0 0], [Value.string (⟨#[40, 98, 41]⟩), Vi (1), Value.slice none 0 0, Value.slice none 0 0, Value.slice none 0 0, Value.slice (some ⟨g, 0, none⟩) 1 1, Value.slice none 0 0, Value.string (⟨#[40, 99, 41]⟩), Vi (1), Value.slice (some ⟨a, 0, none⟩) 1 1, Value.slice none 0 0, Value.slice none 0 0, Value.slice (some ⟨d, 0, none⟩) 2 2, Value.slice none 0 0], rfl, ⟨[Value.string (⟨#[40, 97, 41]⟩)], [Vi (2), Value.slice (some ⟨b, 0, none⟩) 1 1, Value.slice none 0 0, Value.slice none 0 0, Value.slice (some ⟨i, 0, none⟩) 2 2, Value.slice none 0 0], rfl, rfl, ⟨[Vi (2)], [Value.slice (some ⟨b, 0, none⟩) 1 1, Value.slice none 0 0, Value.slice none 0 0, Value.slice (some ⟨i, 0, none⟩) 2 2, Value.slice none 0 0], rfl, rfl, ⟨[Value.slice (some ⟨b, 0, none⟩) 1 1, Value.slice none 0 0, Value.slice none 0 0], [Value.slice (some ⟨i, 0, none⟩) 2 2, Value.slice none 0 0], rfl, ⟨[Value.slice (some ⟨b, 0, none⟩) 1 1], [Value.slice none 0 0, Value.slice none 0 0], rfl, ⟨_, rfl, (aK.mono (Zt (Zt (Zt k j) h) f))⟩, ⟨[Value.slice none 0 0], [Value.slice none 0 0], rfl, ⟨_, rfl, (SliceRep.nil _ _)⟩, ⟨_, rfl, (SliceRep.nil _ _)⟩⟩⟩, ⟨[Value.slice (some ⟨i, 0, none⟩) 2 2], [Value.slice none 0 0], rfl, ⟨_, rfl, (aL.mono (Zt (Zt j h) f))⟩, ⟨_, rfl, (SliceRep.nil _ _)⟩⟩⟩⟩⟩, ⟨[Value.string (⟨#[40, 98, 41]⟩), Vi (1), Value.slice none 0 0, Value.slice none 0 0, Value.slice none 0 0, Value.slice (some ⟨g, 0, none⟩) 1 1, Value.slice none 0 0], [Value.string (⟨#[40, 99, 41]⟩), Vi (1), Value.slice (some ⟨a, 0, none⟩) 1 1, Value.slice none 0 0, Value.slice none 0 0, Value.slice (some ⟨d, 0, none⟩) 2 2, Value.slice none 0 0], rfl, ⟨[Value.string (⟨#[40, 98, 41]⟩)], [Vi (1), Value.slice none 0 0, Value.slice none 0 0, Value.slice none 0 0, Value.slice (some ⟨g, 0, none⟩) 1 1, Value.slice none 0 0], rfl, rfl, ⟨[Vi (1)], [Value.slice none 0 0, Value.slice none 0 0, Value.slice none 0 0, Value.slice (some ⟨g, 0, none⟩) 1 1, Value.slice none 0 0], rfl, rfl, ⟨[Value.slice none 0 0, Value.slice none 0 0, Value.slice none 0 0], [Value.slice (some ⟨g, 0, none⟩) 1 1, Value.slice none 0 0], rfl, ⟨[Value.slice none 0 0], [Value.slice none 0 0, Value.slice none 0 0], rfl, ⟨_, rfl, (SliceRep.nil _ _)⟩, ⟨[Value.slice none 0 0], [Value.slice none 0 0], rfl, ⟨_, rfl, (SliceRep.nil _ _)⟩, ⟨_, rfl, (SliceRep.nil _ _)⟩⟩⟩, ⟨[Value.slice (some ⟨g, 0, none⟩) 1 1], [Value.slice none 0 0], rfl, ⟨_, rfl, (aM.mono (Zt h f))⟩, ⟨_, rfl, (SliceRep.nil _ _)⟩⟩⟩⟩⟩, ⟨[Value.string (⟨#[40, 99, 41]⟩), Vi (1), Value.slice (some ⟨a, 0, none⟩) 1 1, Value.slice none 0 0, Value.slice none 0 0, Value.slice (some ⟨d, 0, none⟩) 2 2, Value.slice none 0 0], [], rfl, ⟨[Value.string (⟨#[40, 99, 41]⟩)], [Vi (1), Value.slice (some ⟨a, 0, none⟩) 1 1, Value.slice none 0 0, Value.slice none 0 0, Value.slice (some ⟨d, 0, none⟩) 2 2, Value.slice none 0 0], rfl, rfl, ⟨[Vi (1)], [Value.slice (some ⟨a, 0, none⟩) 1 1, Value.slice none 0 0, Value.slice none 0 0, Value.slice (some ⟨d, 0, none⟩) 2 2, Value.slice none 0 0], rfl, rfl, ⟨[Value.slice (some ⟨a, 0, none⟩) 1 1, Value.slice none 0 0, Value.slice none 0 0], [Value.slice (some ⟨d, 0, none⟩) 2 2, Value.slice none 0 0], rfl, ⟨[Value.slice (some ⟨a, 0, none⟩) 1 1], [Value.slice none 0 0, Value.slice none 0 0], rfl, ⟨_, rfl, (aN.mono f)⟩, ⟨[Value.slice none 0 0], [Value.slice none 0 0], rfl, ⟨_, rfl, (SliceRep.nil _ _)⟩, ⟨_, rfl, (SliceRep.nil _ _)⟩⟩⟩, ⟨[Value.slice (some ⟨d, 0, none⟩) 2 2], [Value.slice none 0 0], rfl, ⟨_, rfl, aO⟩, ⟨_, rfl, (SliceRep.nil _ _)⟩⟩⟩⟩⟩, rfl⟩⟩⟩ (by simp [maxLen])
 obtain ⟨aP, m, aH, af⟩ := aG.freezeArr
 refine Za rfl rfl (Exec.build rfl (parts_cons (c := [Value.slice (some ⟨p, 0, none⟩) 3 3]) (cells_of rfl rfl) (parts_cons (c := [Value.slice (some ⟨q, 0, none⟩) 2 2]) (cells_of rfl rfl) (parts_cons (c := [Value.slice (some ⟨t, 0, none⟩) 1 1]) (cells_of rfl rfl) (parts_cons (c := [Value.slice (some ⟨u, 0, none⟩) 3 3]) (cells_of rfl rfl) parts_nil)))) (v := Value.agg #[Value.slice (some ⟨p, 0, none⟩) 3 3, Value.slice none 0 0, Value.slice (some ⟨q, 0, none⟩) 2 2, Value.slice (some ⟨t, 0, none⟩) 1 1, Value.slice (some ⟨u, 0, none⟩) 3 3]) (fun _ => by kernel_rfl) (Za rfl rfl (Exec.store_box (ds := [Value.slice (some ⟨p, 0, none⟩) 3 3, Value.slice none 0 0, Value.slice (some ⟨q, 0, none⟩) 2 2, Value.slice (some ⟨t, 0, none⟩) 1 1, Value.slice (some ⟨u, 0, none⟩) 3 3]) (es := [Value.slice (some ⟨p, 0, none⟩) 3 3, Value.slice none 0 0, Value.slice (some ⟨q, 0, none⟩) 2 2, Value.slice (some ⟨t, 0, none⟩) 1 1, Value.slice (some ⟨u, 0, none⟩) 3 3]) aH A28 rfl rfl rfl rfl (Zj ((ac.mono (Zt (Zt (Zt (Zt (Zt (Zt (Zt (Zt aa x) y) l) k) j) h) f) m))).one (Zj rfl (Zj ((ad.mono (Zt (Zt (Zt (Zt (Zt (Zt (Zt x y) l) k) j) h) f) m))).one (Zj ((ae.mono (Zt (Zt (Zt (Zt (Zt l k) j) h) f) m))).one (Zj (af).one one_nil))))) (Nat.le_of_ble_eq_true rfl) rfl ?_)))
 intro bm ab
 refine Zb (Ze (W_ret ?_))
 have aR := Zu hm
 subst r
 refine ⟨_, retG1 rfl ⟨_, _, rfl, cellRes (ab) A28⟩, ?_⟩
 exact ⟨aP, (Value.slice (some ⟨p, 0, none⟩) 3 3), (Value.slice none 0 0), (Value.slice (some ⟨q, 0, none⟩) 2 2), (Value.slice (some ⟨t, 0, none⟩) 1 1), (Value.slice (some ⟨u, 0, none⟩) 3 3), (Zt (Zt (Zt (Zt (Zt (Zt (Zt (Zt (Zt aI aa) x) y) l) k) j) h) f) m), (ab).drop, rfl, (ac.mono (Zt (Zt (Zt (Zt (Zt (Zt (Zt (Zt aa x) y) l) k) j) h) f) m)), (SliceRep.nil _ _), (ad.mono (Zt (Zt (Zt (Zt (Zt (Zt (Zt x y) l) k) j) h) f) m)), (ae.mono (Zt (Zt (Zt (Zt (Zt l k) j) h) f) m)), af⟩
theorem Z32 : tyZero Try.prog 32 = some (Value.agg #[Value.slice none 0 0, Value.slice none 0 0, Value.slice none 0 0]) := by kernel_rfl
theorem A93 : tyAgg Try.prog 93 = some (true, 5) := by kernel_rfl
theorem F93_1 : tyField Try.prog 93 1 = some 2 := by kernel_rfl
theorem A3 : tyAgg Try.prog 3 = some (false, 1) := by kernel_rfl
theorem F93_3 : tyField Try.prog 93 3 = some 4 := by kernel_rfl
theorem F93_2 : tyField Try.prog 93 2 = some 3 := by kernel_rfl
theorem ground_fluent_sim {w0 w : World} {s : PHeap} {H : List Res} {a : GFluent} {i : Value} {r : Bool} (hm : ground_fluent_p a = some r) (hS : St w0 s (H) w) (t : SliceRep encStr s i a.Fluent.Args) :
  Calls Try.prog 53 #[Value.agg #[Value.string (a.Fluent.Name), i, Vi (a.Lo), Vi (a.Hi), Vi (a.Init)]] w fun e w' => ∃ v, e = .returned v ∧ ((fun (q : Bool) => ∃ (j : PHeap) , PHeap.le s j ∧ St w0 j (H) w' ∧ v = Value.bool (q)) r) := by
 unfold ground_fluent_p at hm
 refine calls_of_W Try.func53 rfl rfl (Zc (Zd (Za rfl rfl (Exec.box (cs := [Value.string (a.Fluent.Name), i, Vi (a.Lo), Vi (a.Hi), Vi (a.Init)]) hS rfl rfl rfl ?_))))
 intro u z c
 refine Za rfl rfl (Zo (v := Value.bool (false)) rfl rfl (Zb (Ze (Zc (W_mid (M := fun f' w' => ∃ (k : PHeap) , PHeap.le s k ∧ St w0 k (H) w' ∧ f' 2 = Value.bool (((decide ((-1099511627776) ≤ a.Lo)) && ((decide (a.Lo ≤ a.Init)) && ((decide (a.Init ≤ a.Hi)) && ((decide (a.Hi ≤ 1099511627776)) && decide ((IntKind.i64.wrap (a.Hi - a.Lo)) < 64))))))) ?_ ?_)))))
 ·refine Zd (Za rfl rfl (Zp F93_1 rfl rfl rfl (Za rfl rfl (Zn (c) A3 rfl rfl rfl (Za rfl rfl (Exec.leq rfl rfl rfl (Za rfl rfl (Zm (v := Value.bool (decide ((-1099511627776) ≤ a.Lo))) rfl rfl ?_))))))))
  by_cases b : (decide ((-1099511627776) ≤ a.Lo)) = true
  ·refine WL_run rfl (Zf rfl (Zx b)) rfl (Zp F93_1 rfl rfl rfl (WL_run rfl (Zf rfl (Zx b)) rfl (Zn (c) A3 rfl rfl rfl (WL_run rfl (Zf rfl (Zx b)) rfl (Zp F93_3 rfl rfl rfl (WL_run rfl (Zf rfl (Zx b)) rfl (Zn (c) A3 rfl rfl rfl (WL_run rfl (Zf rfl (Zx b)) rfl (Exec.leq rfl rfl rfl ?_)))))))))
   refine WL_passes 2 (by rw [b]; rfl) ?_
   by_cases d : (decide (a.Lo ≤ a.Init)) = true
   ·refine WL_run rfl (Zf rfl (Zx d)) rfl (Zp F93_3 rfl rfl rfl (WL_run rfl (Zf rfl (Zx d)) rfl (Zn (c) A3 rfl rfl rfl (WL_run rfl (Zf rfl (Zx d)) rfl (Zp F93_2 rfl rfl rfl (WL_run rfl (Zf rfl (Zx d)) rfl (Zn (c) A3 rfl rfl rfl (WL_run rfl (Zf rfl (Zx d)) rfl (Exec.leq rfl rfl rfl ?_)))))))))
    refine WL_passes 2 (by rw [d]; rfl) ?_
    by_cases h : (decide (a.Init ≤ a.Hi)) = true
    ·refine WL_run rfl (Zf rfl (Zx h)) rfl (Zp F93_2 rfl rfl rfl (WL_run rfl (Zf rfl (Zx h)) rfl (Zn (c) A3 rfl rfl rfl (WL_run rfl (Zf rfl (Zx h)) rfl (Exec.leq rfl rfl rfl ?_)))))
     refine WL_passes 2 (by rw [h]; rfl) ?_
     by_cases g : (decide (a.Hi ≤ 1099511627776)) = true
     ·refine WL_run rfl (Zf rfl (Zx g)) rfl (Zp F93_2 rfl rfl rfl (WL_run rfl (Zf rfl (Zx g)) rfl (Zn (c) A3 rfl rfl rfl (WL_run rfl (Zf rfl (Zx g)) rfl (Zp F93_1 rfl rfl rfl (WL_run rfl (Zf rfl (Zx g)) rfl (Zn (c) A3 rfl rfl rfl (WL_run rfl (Zf rfl (Zx g)) rfl (Exec.sub rfl rfl rfl (WL_run rfl (Zf rfl (Zx g)) rfl (Zq rfl rfl rfl ?_)))))))))))
      refine WL_passes 2 (by rw [g]; rfl) ?_
      refine Zb (Ze ?_)
      exact ⟨s, (Zv _), (c).drop, (Zx (Eq.trans (and_t b) (Eq.trans (and_t d) (Eq.trans (and_t h) (and_t g))))).symm⟩
     replace g := Zk g
     refine WL_passes 8 (by rw [g]; rfl) ?_
     refine Zb (Ze ?_)
     exact ⟨s, (Zv _), (c).drop, (Zx (Eq.trans (and_t b) (Eq.trans (and_t d) (Eq.trans (and_t h) (and_f g))))).symm⟩
    replace h := Zk h
    refine WL_passes 13 (by rw [h]; rfl) ?_
    refine Zb (Ze ?_)
    exact ⟨s, (Zv _), (c).drop, (Zx (Eq.trans (and_t b) (Eq.trans (and_t d) (and_f h)))).symm⟩
   replace d := Zk d
   refine WL_passes 20 (by rw [d]; rfl) ?_
   refine Zb (Ze ?_)
   exact ⟨s, (Zv _), (c).drop, (Zx (Eq.trans (and_t b) (and_f d))).symm⟩
  replace b := Zk b
  refine WL_passes 27 (by rw [b]; rfl) ?_
  refine Zb (Ze ?_)
  exact ⟨s, (Zv _), (c).drop, (Zx (and_f b)).symm⟩
 intro y aa l
 obtain ⟨p, n, m, o⟩ := l
 refine (Ze (W_ret ?_))
 have x := Zu hm
 subst r
 refine ⟨_, ret1 rfl, ?_⟩
 exact ⟨p, n, m, o⟩
theorem N52 : (Try.f52.name == "runtime.NumGoroutine") = false := by kernel_rfl
theorem ground_Valid_c1_sim {w0 w : World} {s : PHeap} {H : List Res} {a : GFluent} {b : Value} {r : Bool} (hm : ground_Valid_c1_p a = some r) (hS : St w0 s (H) w) (f : SliceRep encStr s b a.Fluent.Args) :
  Calls Try.prog 52 #[Value.agg #[Value.string (a.Fluent.Name), b, Vi (a.Lo), Vi (a.Hi), Vi (a.Init)]] w fun e w' => ∃ v, e = .returned v ∧ ((fun (j : Bool) => ∃ (d : PHeap) , PHeap.le s d ∧ St w0 d (H) w' ∧ v = Value.bool (j)) r) := by
 unfold ground_Valid_c1_p at hm
 refine calls_of_W Try.func52 rfl rfl (Zc (Zd (Za rfl rfl (Exec.box (cs := [Value.string (a.Fluent.Name), b, Vi (a.Lo), Vi (a.Hi), Vi (a.Init)]) hS rfl rfl rfl ?_))))
 intro k m c
 refine Za rfl rfl (Zo (v := Value.bool (false)) rfl rfl (Zb (Ze (Zc (Zd (Za rfl rfl (Exec.load_box_agg (ds := [Value.string (a.Fluent.Name), b, Vi (a.Lo), Vi (a.Hi), Vi (a.Init)]) (c) A93 rfl rfl rfl (Za rfl rfl (Tc rfl rfl rfl (Zi rfl args_nil) (ground_fluent_sim (ground_fluent_tot a) c f).r ?_)))))))))
 rintro _ n ⟨i, h, g, rfl⟩
 refine Za rfl rfl (Exec.not rfl rfl (Za rfl rfl (Zo (v := Value.bool (!(ground_fluent_t a))) rfl rfl (Zb (Ze (W_ret ?_))))))
 have l := Zu hm
 subst r
 refine ⟨_, ret1 rfl, ?_⟩
 exact ⟨i, h, (g).drop, rfl⟩
theorem api_GFluent__f52_87_sim {w0 w : World} {s : PHeap} {H : List Res} {g : (List GFluent)} {c : Value} {r : Int} (hm : api_GFluent__f52_87_p g = some r) (hS : St w0 s (H) w) (i : SliceRep encGFluent s c g) :
  Calls Try.prog 87 #[c, Value.func (.func 52) #[] #[]] w fun e w' => ∃ v, e = .returned v ∧ ((fun (a5 : Int) => ∃ (aa : PHeap) , PHeap.le s aa ∧ St w0 aa (H) w' ∧ v = Vi (a5)) r) := by
 unfold api_GFluent__f52_87_p at hm
 refine calls_of_W Try.func87 rfl rfl (Zc (Zd (Za rfl rfl (Zo (v := Vi (0)) rfl rfl (Zb (Ze (Zc (Zc (Zd (Za rfl rfl (Zm (v := c) rfl rfl (Za rfl rfl (Zr S23 rfl rfl i (Za rfl rfl (Zm (v := Vi (0)) rfl rfl (Zb (Ze ?_)))))))))))))))))
 obtain ⟨m, af, ap, an, al⟩ := ctl_some hm
 refine W_mid (M := fun f' w' => ∃ s', (m = .next s' ∨ m = .brk s') ∧ (fun (_ : Unit) => ∃ (ab : PHeap) , PHeap.le s ab ∧ St w0 ab (H) w' ∧ f' 0 = c ∧ f' 1 = Value.func (.func 52) #[] #[] ∧ f' 7 = Vi ((g.length : Int))) s') ?_ ?_
 ·refine W_block (W_forC (fun k' s' f' w' => (fun (_ : Unit) => ∃ (ac : PHeap) , PHeap.le s ac ∧ St w0 ac (H) w' ∧ f' 0 = c ∧ f' 1 = Value.func (.func 52) #[] #[] ∧ f' 7 = Vi ((g.length : Int)) ∧ f' 8 = Vi (k' : Int)) s') af ?_ ?_ ?_)
  ·exact ⟨s, (Zv _), hS, rfl, rfl, rfl, rfl⟩
  ·intro b aJ n aB aO am ag a aq
   obtain ⟨aI, j, o, u, x, y, l⟩ := ag
   refine Zc (Zd (Za rfl rfl (Zq rfl l y (Zb (Ze (Zc (W_true (Zx (decide_eq_true (by omega))) (W_skip (Ze (Zc (W_block (Zc (Zd (Za rfl rfl (Zm (v := Vi ((b : Int))) rfl l (Za rfl rfl (Zo (v := Vi ((b : Int))) rfl rfl (Zb (Ze (Zc (Zd (Za rfl rfl (Zm (v := Value.func (.func 52) #[] #[]) rfl x (Za rfl rfl (Zm (v := c) rfl u (Za rfl rfl (Zm (v := Vi ((b : Int))) rfl rfl ?_)))))))))))))))))))))))))))
   obtain ⟨a3, ay, a⟩ := Zg a
   refine Za rfl rfl (Exec.index_rep S23 rfl rfl rfl (i.mono j) ay ?_)
   intro a6 aE ae
   refine Za rfl rfl (Zw (E := encGFluent) o A93 rfl rfl rfl ae ?_)
   intro aN az
   obtain ⟨aM, rfl, a0⟩ := encGFluent_val.1 az
   refine Za rfl rfl (Exec.callf rfl rfl Try.func52 rfl N52 (Zi rfl args_nil) ((ground_Valid_c1_sim (ground_Valid_c1_tot a3) o a0).mono ?_))
   rintro _ aP ⟨_, rfl, ⟨ad, t, p, rfl⟩⟩
   refine ⟨_, rfl, ?_⟩
   refine Zb (Ze ?_)
   rcases ite_some a with ⟨d, a⟩ | ⟨d, a⟩
   ·refine W_cond_t rfl d (Zc (Zd (Za rfl rfl (Zm (v := Vi ((b : Int))) rfl rfl (Za rfl rfl (Zo (v := Vi ((b : Int))) rfl rfl (Zb (Ze (W_ret (ib_ret (at_ret (at_ret (ib_ret (at_ret (at_ret ?_)))))))))))))))
    have a7 := Zu a
    subst n
    have ao := ap _ (aq (by intro _ h; cases h))
    have a8 := Zu ao
    subst r
    refine ⟨_, ret1 rfl, ?_⟩
    exact ⟨ad, (Zt j t), p, rfl⟩
   refine W_cond_f rfl d ?_
   replace d := Zk d
   refine W_skip (ib_normal (Ze (Zd (Za rfl rfl (Exec.add rfl l rfl (Za rfl rfl (Zm (v := Vi (IntKind.i64.wrap ((b : Int) + 1))) rfl rfl (Zb (Ze ?_)))))))))
   have a9 := Zu a
   subst n
   refine ⟨_, rfl, ?_⟩; exact ⟨ad, (Zt j t), p, u, x, y, (Eq.trans rfl (wrap_up am (SliceRep.le i)))⟩
  intro aK aC aQ ah ar
  obtain ⟨a1, au, aj, aw, ax, z, a4⟩ := ah
  refine Zc (Zd (Za rfl rfl (Zq rfl a4 z (Zb (Ze (Zc (W_false (Zx (decide_eq_false (by omega))) (W_exit (at_exit (at_exit (ib_here (Ze ?_))))))))))))
  refine ⟨_, .inl ar, ?_⟩; exact ⟨a1, au, aj, aw, ax, z⟩
 rintro aD aR ⟨aL, q, ai⟩
 have hm := q.elim (an _) (al _)
 clear q
 obtain ⟨a2, av, ak, aF, aG, aH⟩ := ai
 refine (Ze (Zc (Zd (Za rfl rfl (Zo (v := Vi ((-1))) rfl rfl (Zb (Ze (W_ret ?_))))))))
 have aA := Zu hm
 subst r
 refine ⟨_, ret1 rfl, ?_⟩
 exact ⟨a2, av, ak, rfl⟩
theorem api_GFluent__f52_sim {w0 w : World} {s : PHeap} {H : List Res} {c : (List GFluent)} {a : Value} {r : Bool} (hm : api_GFluent__f52_p c = some r) (hS : St w0 s (H) w) (d : SliceRep encGFluent s a c) :
  Calls Try.prog 51 #[a, Value.func (.func 52) #[] #[]] w fun e w' => ∃ v, e = .returned v ∧ ((fun (j : Bool) => ∃ (b : PHeap) , PHeap.le s b ∧ St w0 b (H) w' ∧ v = Value.bool (j)) r) := by
 unfold api_GFluent__f52_p at hm
 refine calls_of_W Try.func51 rfl rfl (Zc (Zd (Za rfl rfl (Zo (v := Value.bool (false)) rfl rfl (Zb (Ze (Zc (Zd (Za rfl rfl (Zm (v := a) rfl rfl (Za rfl rfl (Zm (v := Value.func (.func 52) #[] #[]) rfl rfl ?_))))))))))))
 obtain ⟨k, h, hm⟩ := Zg hm
 refine Za rfl rfl (Tc rfl rfl rfl (Zi rfl (Zi rfl args_nil)) (api_GFluent__f52_87_sim h hS d).r ?_)
 rintro _ m ⟨i, g, f, rfl⟩
 refine Za rfl rfl (Exec.geq rfl rfl rfl (Za rfl rfl (Zo (v := Value.bool (decide (0 ≤ k))) rfl rfl (Zb (Ze (W_ret ?_))))))
 have l := Zu hm
 subst r
 refine ⟨_, ret1 rfl, ?_⟩
 exact ⟨i, g, f, rfl⟩
theorem ground_indices_sim {w0 w : World} {s : PHeap} {H : List Res} {t : (List Int)} {p : Int} {d : Value} {r : Bool} (hm : ground_indices_p t p = some r) (hS : St w0 s (H) w) (ab : SliceRep (encInt .i64) s d t) :
  Calls Try.prog 54 #[d, Vi (p)] w fun e w' => ∃ v, e = .returned v ∧ ((fun (aP : Bool) => ∃ (ak : PHeap) , PHeap.le s ak ∧ St w0 ak (H) w' ∧ v = Value.bool (aP)) r) := by
 unfold ground_indices_p at hm
 refine calls_of_W Try.func54 rfl rfl (Zc (Zd (Za rfl rfl (Zo (v := Value.bool (false)) rfl rfl (Zb (Ze (Zc (Zc (Zd (Za rfl rfl (Zm (v := d) rfl rfl (Za rfl rfl (Zr S24 rfl rfl ab (Za rfl rfl (Zm (v := Vi (0)) rfl rfl (Zb (Ze ?_)))))))))))))))))
 obtain ⟨ad, au, a5, a3, a1⟩ := ctl_some hm
 refine W_mid (M := fun f' w' => ∃ s', (ad = .next s' ∨ ad = .brk s') ∧ (fun (_ : Unit) => ∃ (al : PHeap) , PHeap.le s al ∧ St w0 al (H) w' ∧ f' 0 = d ∧ f' 1 = Vi (p) ∧ f' 7 = d ∧ f' 8 = Vi ((t.length : Int))) s') ?_ ?_
 ·refine W_block (W_forC (fun k' s' f' w' => (fun (_ : Unit) => ∃ (am : PHeap) , PHeap.le s am ∧ St w0 am (H) w' ∧ f' 0 = d ∧ f' 1 = Vi (p) ∧ f' 7 = d ∧ f' 8 = Vi ((t.length : Int)) ∧ f' 9 = Vi (k' : Int)) s') au ?_ ?_ ?_)
  ·exact ⟨s, (Zv _), hS, rfl, rfl, rfl, rfl, rfl⟩
  ·intro j bk ae ba bp a2 av g a6
   obtain ⟨aa, ac, o, u, x, y, z, l⟩ := av
   refine Zc (Zd (Za rfl rfl (Zq rfl l z (Zb (Ze (Zc (W_true (Zx (decide_eq_true (by omega))) (W_skip (Ze (Zc (W_block (Zc (Zd (Za rfl rfl (Zm (v := Vi ((j : Int))) rfl l ?_)))))))))))))))
   obtain ⟨m, aI, g⟩ := Zg g
   refine Za rfl rfl (Exec.index_rep S24 rfl y l (ab.mono ac) aI ?_)
   intro aQ be aq
   refine Za rfl rfl (Zw (E := (encInt .i64)) o A3 rfl rfl rfl aq ?_)
   intro bn aJ
   obtain rfl := encInt_val.1 aJ
   refine Za rfl rfl (Zo (v := Vi ((j : Int))) rfl rfl (Za rfl rfl (Zo (v := Vi (m)) rfl rfl (Zb (Ze (Zc ?_))))))
   obtain ⟨n, a, g⟩ := Zg g
   refine W_mid (M := fun f' w' => (fun (n : Bool) => ∃ (an : PHeap) , PHeap.le aa an ∧ St w0 an (H) w' ∧ f' 0 = d ∧ f' 1 = Vi (p) ∧ f' 7 = d ∧ f' 8 = Vi ((t.length : Int)) ∧ f' 9 = Vi ((j : Int)) ∧ f' 33 = Value.bool (n)) n) ?_ ?_
   ·refine Zd (Za rfl rfl (Zm (v := Vi (m)) rfl rfl (Za rfl rfl (Zq rfl rfl rfl (Za rfl rfl (Zm (v := Value.bool (decide (m < 0))) rfl rfl ?_))))))
    rcases ite_some a with ⟨i, a⟩ | ⟨i, a⟩
    ·refine WL_passes 17 (by rw [i]; rfl) ?_
     refine Zb (Ze ?_)
     have aS := Zu a
     subst n
     exact ⟨aa, (Zv _), o, u, x, y, z, l, rfl⟩
    replace i := Zk i
    refine WL_run rfl (Zf rfl (Zx i)) rfl (Zm (v := Vi (m)) rfl rfl (WL_run rfl (Zf rfl (Zx i)) rfl (Zm (v := Vi (p)) rfl x (WL_run rfl (Zf rfl (Zx i)) rfl (Exec.geq rfl rfl rfl ?_)))))
    refine WL_passes 2 (by rw [i]; rfl) ?_
    rcases ite_some a with ⟨c, a⟩ | ⟨c, a⟩
    ·refine WL_passes 12 (by rw [c]; rfl) ?_
     refine Zb (Ze ?_)
     have aT := Zu a
     subst n
     exact ⟨aa, (Zv _), o, u, x, y, z, l, rfl⟩
    replace c := Zk c
    refine WL_run rfl (Zf rfl (Zx c)) rfl (Zm (v := Vi ((j : Int))) rfl rfl (WL_run rfl (Zf rfl (Zx c)) rfl (Exec.gtr rfl rfl rfl (WL_run rfl (Zf rfl (Zx c)) rfl (Zm (v := Value.bool (decide (0 < (j : Int)))) rfl rfl ?_)))))
    rcases ite_some a with ⟨b, a⟩ | ⟨b, a⟩
    ·refine WL_run rfl (Zf rfl (Zx b)) rfl (Zm (v := d) rfl u (WL_run rfl (Zf rfl (Zx b)) rfl (Zm (v := Vi ((j : Int))) rfl rfl (WL_run rfl (Zf rfl (Zx b)) rfl (Exec.sub rfl rfl rfl ?_)))))
     obtain ⟨ap, aK, a⟩ := Zg a
     refine WL_run rfl (Zf rfl (Zx b)) rfl (Exec.index_rep S24 rfl rfl rfl (ab.mono ac) aK ?_)
     intro aR bf ar
     refine WL_run rfl (Zf rfl (Zx b)) rfl (Zw (E := (encInt .i64)) o A3 rfl rfl rfl ar ?_)
     intro bo aL
     obtain rfl := encInt_val.1 aL
     refine WL_run rfl (Zf rfl (Zx b)) rfl (Zm (v := Vi (m)) rfl rfl (WL_run rfl (Zf rfl (Zx b)) rfl (Exec.geq rfl rfl rfl (WL_run rfl (Zf rfl (Zx c)) rfl (Zs (v := Value.bool (decide (m ≤ ap))) rfl (Zx b) rfl (Za rfl rfl (Exec.pick_f (v := Value.bool (decide (m ≤ ap))) rfl (Zx c) rfl (Zb (Ze ?_)))))))))
     have aU := Zu a
     subst n
     exact ⟨aa, (Zv _), o, u, x, y, z, l, rfl⟩
    replace b := Zk b
    refine WL_passes 7 (by rw [b]; rfl) ?_
    refine WL_run rfl (Zf rfl (Zx c)) rfl (Exec.pick_f (v := Value.bool (false)) rfl rfl rfl (Za rfl rfl (Exec.pick_f (v := Value.bool (false)) rfl (Zx c) rfl (Zb (Ze ?_)))))
    have aV := Zu a
    subst n
    exact ⟨aa, (Zv _), o, u, x, y, z, l, rfl⟩
   intro bb bq ax
   obtain ⟨ao, ah, af, aA, aB, aC, aD, aE, ai⟩ := ax
   refine (Ze ?_)
   rcases ite_some g with ⟨q, g⟩ | ⟨q, g⟩
   ·refine W_cond_t ai q (Zc (Zd (Za rfl rfl (Zo (v := Value.bool (false)) rfl rfl (Zb (Ze (W_ret (ib_ret (at_ret (at_ret (ib_ret (at_ret (at_ret ?_)))))))))))))
    have aW := Zu g
    subst ae
    have a4 := a5 _ (a6 (by intro _ h; cases h))
    have aX := Zu a4
    subst r
    refine ⟨_, ret1 rfl, ?_⟩
    exact ⟨ao, (Zt ac ah), af, rfl⟩
   refine W_cond_f ai q ?_
   replace q := Zk q
   refine W_skip (ib_normal (Ze (Zd (Za rfl rfl (Exec.add rfl aE rfl (Za rfl rfl (Zm (v := Vi (IntKind.i64.wrap ((j : Int) + 1))) rfl rfl (Zb (Ze ?_)))))))))
   have aY := Zu g
   subst ae
   refine ⟨_, rfl, ?_⟩; exact ⟨ao, (Zt ac ah), af, aA, aB, aC, aD, (Eq.trans rfl (wrap_up a2 (SliceRep.le ab)))⟩
  intro bl bc br aw a7
  obtain ⟨aM, a8, az, aF, aG, aH, aj, aO⟩ := aw
  refine Zc (Zd (Za rfl rfl (Zq rfl aO aj (Zb (Ze (Zc (W_false (Zx (decide_eq_false (by omega))) (W_exit (at_exit (at_exit (ib_here (Ze ?_))))))))))))
  refine ⟨_, .inl a7, ?_⟩; exact ⟨aM, a8, az, aF, aG, aH, aj⟩
 rintro bd bs ⟨bm, ag, ay⟩
 have hm := ag.elim (a3 _) (a1 _)
 clear ag
 obtain ⟨aN, a9, a0, bg, bh, bi, bj⟩ := ay
 refine (Ze (Zc (Zd (Za rfl rfl (Zo (v := Value.bool (true)) rfl rfl (Zb (Ze (W_ret ?_))))))))
 have aZ := Zu hm
 subst r
 refine ⟨_, ret1 rfl, ?_⟩
 exact ⟨aN, a9, a0, rfl⟩
theorem A129 : tyAgg Try.prog 129 = some (true, 7) := by kernel_rfl
theorem Z129 : tyZero Try.prog 129 = some (Value.agg #[Value.string ⟨#[]⟩, Value.string ⟨#[]⟩, Vi (0), Value.slice none 0 0, Value.string ⟨#[]⟩, Vi (0), Value.slice none 0 0]) := by kernel_rfl
theorem F129_0 : tyField Try.prog 129 0 = some 0 := by kernel_rfl
theorem F82_0 : tyField Try.prog 82 0 = some 0 := by kernel_rfl
theorem F82_1 : tyField Try.prog 82 1 = some 1 := by kernel_rfl
theorem ground_right_step {fu : Nat} (ih : ∀ {w0 w : World} {s : PHeap} {H : List Res} {a : GExpr} {d : Int} {o : Value} {r : Bool} (hm : ground_right_p fu a d = some r) (hS : St w0 s (H) w) (t : SliceRep encGExpr s o a.Kids), Calls Try.prog 89 #[Value.agg #[Value.string (a.Op), Vi (a.N), o], Vi (d)] w fun e w' => ∃ v, e = .returned v ∧ ((fun (al : Bool) => ∃ (ad : PHeap) , PHeap.le s ad ∧ St w0 ad (H) w' ∧ v = Value.bool (al)) r)) {w0 w : World} {s : PHeap} {H : List Res} {a : GExpr} {d : Int} {o : Value} {r : Bool} (hm : ground_right_p (fu + 1) a d = some r) (hS : St w0 s (H) w) (t : SliceRep encGExpr s o a.Kids) :
  Calls Try.prog 89 #[Value.agg #[Value.string (a.Op), Vi (a.N), o], Vi (d)] w fun e w' => ∃ v, e = .returned v ∧ ((fun (al : Bool) => ∃ (ad : PHeap) , PHeap.le s ad ∧ St w0 ad (H) w' ∧ v = Value.bool (al)) r) := by
 rw [ground_right_p] at hm
 refine calls_of_W Try.func89 rfl rfl (Zc (Zd (Za rfl rfl (Exec.box (cs := [Value.string (a.Op), Vi (a.N), o]) hS rfl rfl rfl ?_))))
 intro ag bv c
 refine Za rfl rfl (Zo (v := Value.bool (false)) rfl rfl (Zb (Ze (Zc (Zc (Zd (Za rfl rfl (Zp F82_0 rfl rfl rfl (Za rfl rfl (Zn (c) A9 rfl rfl rfl (Zb (Ze (W_block (Zc (Zd (Za rfl rfl (Exec.str_eql rfl rfl rfl (Za rfl rfl (Zo (v := Value.bool (decide (a.Op = (⟨#[110, 117, 109, 98, 101, 114]⟩)))) rfl rfl (Zb (Ze ?_)))))))))))))))))))))
 rcases ite_some hm with ⟨u, hm⟩ | ⟨u, hm⟩
 ·refine W_cond_t rfl u (Zc (W_mid (M := fun f' w' => ∃ (ao : PHeap) , PHeap.le s ao ∧ St w0 ao (H) w' ∧ f' 4 = Value.bool (((decide ((a.Kids.length : Int) = 0)) && ((decide ((-1099511627776) ≤ a.N)) && decide (a.N ≤ 1099511627776))))) ?_ ?_))
  ·refine Zd (Za rfl rfl (Zp F82_2 rfl rfl rfl (Za rfl rfl (Zn (c) A80 rfl rfl rfl (Za rfl rfl (Zr S80 rfl rfl t (Za rfl rfl (Exec.eql rfl rfl rfl (Za rfl rfl (Zm (v := Value.bool (decide ((a.Kids.length : Int) = 0))) rfl rfl ?_))))))))))
   by_cases i : (decide ((a.Kids.length : Int) = 0)) = true
   ·refine WL_run rfl (Zf rfl (Zx i)) rfl (Zp F82_1 rfl rfl rfl (WL_run rfl (Zf rfl (Zx i)) rfl (Zn (c) A3 rfl rfl rfl (WL_run rfl (Zf rfl (Zx i)) rfl (Exec.geq rfl rfl rfl ?_)))))
    refine WL_passes 2 (by rw [i]; rfl) ?_
    by_cases l : (decide ((-1099511627776) ≤ a.N)) = true
    ·refine WL_run rfl (Zf rfl (Zx l)) rfl (Zp F82_1 rfl rfl rfl (WL_run rfl (Zf rfl (Zx l)) rfl (Zn (c) A3 rfl rfl rfl (WL_run rfl (Zf rfl (Zx l)) rfl (Exec.leq rfl rfl rfl ?_)))))
     refine WL_passes 2 (by rw [l]; rfl) ?_
     refine Zb (Ze ?_)
     exact ⟨s, (Zv _), (c).drop, (Zx (Eq.trans (and_t i) (and_t l))).symm⟩
    replace l := Zk l
    refine WL_passes 5 (by rw [l]; rfl) ?_
    refine Zb (Ze ?_)
    exact ⟨s, (Zv _), (c).drop, (Zx (Eq.trans (and_t i) (and_f l))).symm⟩
   replace i := Zk i
   refine WL_passes 10 (by rw [i]; rfl) ?_
   refine Zb (Ze ?_)
   exact ⟨s, (Zv _), (c).drop, (Zx (and_f i)).symm⟩
  intro bk bw ax
  obtain ⟨aQ, a7, a2, aC⟩ := ax
  refine (Ze (W_ret (ib_ret (at_ret ?_))))
  have aY := Zu hm
  subst r
  refine ⟨_, ret1 rfl, ?_⟩
  exact ⟨aQ, a7, a2, aC⟩
 refine W_cond_f rfl u ?_
 replace u := Zk u
 refine Zc (Zd (Za rfl rfl (Exec.str_eql rfl rfl rfl (Za rfl rfl (Zo (v := Value.bool (decide (a.Op = (⟨#[102, 108, 117, 101, 110, 116]⟩)))) rfl rfl (Zb (Ze ?_)))))))
 rcases ite_some hm with ⟨x, hm⟩ | ⟨x, hm⟩
 ·refine W_cond_t rfl x (Zc (W_mid (M := fun f' w' => ∃ (ap : PHeap) , PHeap.le s ap ∧ St w0 ap (H) w' ∧ f' 4 = Value.bool (((decide ((a.Kids.length : Int) = 0)) && ((decide (0 ≤ a.N)) && decide (a.N < d))))) ?_ ?_))
  ·refine Zd (Za rfl rfl (Zp F82_2 rfl rfl rfl (Za rfl rfl (Zn (c) A80 rfl rfl rfl (Za rfl rfl (Zr S80 rfl rfl t (Za rfl rfl (Exec.eql rfl rfl rfl (Za rfl rfl (Zm (v := Value.bool (decide ((a.Kids.length : Int) = 0))) rfl rfl ?_))))))))))
   by_cases j : (decide ((a.Kids.length : Int) = 0)) = true
   ·refine WL_run rfl (Zf rfl (Zx j)) rfl (Zp F82_1 rfl rfl rfl (WL_run rfl (Zf rfl (Zx j)) rfl (Zn (c) A3 rfl rfl rfl (WL_run rfl (Zf rfl (Zx j)) rfl (Exec.geq rfl rfl rfl ?_)))))
    refine WL_passes 2 (by rw [j]; rfl) ?_
    by_cases k : (decide (0 ≤ a.N)) = true
    ·refine WL_run rfl (Zf rfl (Zx k)) rfl (Zp F82_1 rfl rfl rfl (WL_run rfl (Zf rfl (Zx k)) rfl (Zn (c) A3 rfl rfl rfl (WL_run rfl (Zf rfl (Zx k)) rfl (Zm (v := Vi (d)) rfl rfl (WL_run rfl (Zf rfl (Zx k)) rfl (Zq rfl rfl rfl ?_)))))))
     refine WL_passes 2 (by rw [k]; rfl) ?_
     refine Zb (Ze ?_)
     exact ⟨s, (Zv _), (c).drop, (Zx (Eq.trans (and_t j) (and_t k))).symm⟩
    replace k := Zk k
    refine WL_passes 6 (by rw [k]; rfl) ?_
    refine Zb (Ze ?_)
    exact ⟨s, (Zv _), (c).drop, (Zx (Eq.trans (and_t j) (and_f k))).symm⟩
   replace j := Zk j
   refine WL_passes 11 (by rw [j]; rfl) ?_
   refine Zb (Ze ?_)
   exact ⟨s, (Zv _), (c).drop, (Zx (and_f j)).symm⟩
  intro bl bx ay
  obtain ⟨aR, a8, a3, aD⟩ := ay
  refine (Ze (W_ret (ib_ret (at_ret ?_))))
  have aZ := Zu hm
  subst r
  refine ⟨_, ret1 rfl, ?_⟩
  exact ⟨aR, a8, a3, aD⟩
 refine W_cond_f rfl x ?_
 replace x := Zk x
 refine Zc (Zc (Zd (Za rfl rfl (Exec.str_eql rfl rfl rfl (Za rfl rfl (Zo (v := Value.bool (decide (a.Op = (⟨#[43]⟩)))) rfl rfl (Zb (Ze ?_))))))))
 obtain ⟨ae, p, hm⟩ := Zg hm
 refine W_mid (M := fun f' w' => (fun (ae : Bool) => ∃ (aq : PHeap) , PHeap.le s aq ∧ St w0 aq (Res.box ag 82 [Value.string (a.Op), Vi (a.N), o] :: H) w' ∧ f' 1 = Vi (d) ∧ f' 2 = Value.pointer (some ⟨ag, 0, none⟩) ∧ f' 40 = Value.bool (ae)) ae) ?_ ?_
 ·rcases ite_some p with ⟨y, p⟩ | ⟨y, p⟩
  ·refine W_cond_t rfl y (W_skip (Ze ?_))
   have ba := Zu p
   subst ae
   exact ⟨s, (Zv _), c, rfl, rfl, rfl⟩
  refine W_cond_f rfl y ?_
  replace y := Zk y
  refine Zc (Zd (Za rfl rfl (Exec.str_eql rfl rfl rfl (Za rfl rfl (Zo (v := Value.bool (decide (a.Op = (⟨#[45]⟩)))) rfl rfl (Zb (Ze ?_)))))))
  obtain ⟨af, ab, p⟩ := Zg p
  refine W_mid (M := fun f' w' => (fun (af : Bool) => ∃ (ar : PHeap) , PHeap.le s ar ∧ St w0 ar (Res.box ag 82 [Value.string (a.Op), Vi (a.N), o] :: H) w' ∧ f' 1 = Vi (d) ∧ f' 2 = Value.pointer (some ⟨ag, 0, none⟩) ∧ f' 40 = Value.bool (af)) af) ?_ ?_
  ·rcases ite_some ab with ⟨z, ab⟩ | ⟨z, ab⟩
   ·refine W_cond_t rfl z (W_skip (Ze ?_))
    have bb := Zu ab
    subst af
    exact ⟨s, (Zv _), c, rfl, rfl, rfl⟩
   refine W_cond_f rfl z ?_
   replace z := Zk z
   refine Zd (Za rfl rfl (Exec.str_eql rfl rfl rfl (Za rfl rfl (Zo (v := Value.bool (decide (a.Op = (⟨#[42]⟩)))) rfl rfl (Zb (Ze ?_))))))
   have bc := Zu ab
   subst af
   exact ⟨s, (Zv _), c, rfl, rfl, rfl⟩
  intro bm bz az
  obtain ⟨aS, a9, a4, aE, aF, aG⟩ := az
  refine (Ze ?_)
  have bd := Zu p
  subst ae
  exact ⟨aS, a9, a4, aE, aF, aG⟩
 intro bn b0 a0
 obtain ⟨aj, ac, n, am, ai, an⟩ := a0
 refine (Ze ?_)
 rcases ite_some hm with ⟨aa, hm⟩ | ⟨aa, hm⟩
 ·refine W_cond_t an aa (Zc ?_)
  obtain ⟨q, b, hm⟩ := Zg hm
  refine W_mid (M := fun f' w' => (fun (q : Bool) => ∃ (au : PHeap) , PHeap.le aj au ∧ St w0 au (H) w' ∧ f' 4 = Value.bool (q)) q) ?_ ?_
  ·refine Zd (Za rfl rfl (Zp F82_1 rfl ai rfl (Za rfl rfl (Zn (n) A3 rfl rfl rfl (Za rfl rfl (Exec.eql rfl rfl rfl (Za rfl rfl (Zm (v := Value.bool (decide (a.N = 0))) rfl rfl ?_))))))))
   rcases ite_some b with ⟨m, b⟩ | ⟨m, b⟩
   ·refine WL_run rfl (Zf rfl (Zx m)) rfl (Zp F82_2 rfl ai rfl (WL_run rfl (Zf rfl (Zx m)) rfl (Zn (n) A80 rfl rfl rfl (WL_run rfl (Zf rfl (Zx m)) rfl (Zr S80 rfl rfl (t.mono ac) (WL_run rfl (Zf rfl (Zx m)) rfl (Exec.eql rfl rfl rfl ?_)))))))
    refine WL_passes 2 (by rw [m]; rfl) ?_
    rcases ite_some b with ⟨g, b⟩ | ⟨g, b⟩
    ·refine WL_run rfl (Zf rfl (Zx g)) rfl (Zp F82_2 rfl ai rfl (WL_run rfl (Zf rfl (Zx g)) rfl (Zn (n) A80 rfl rfl rfl ?_)))
     obtain ⟨b4, aI, b⟩ := Zg b
     refine WL_run rfl (Zf rfl (Zx g)) rfl (Exec.index_rep S80 rfl rfl rfl (t.mono ac) aI ?_)
     intro aW bp av
     refine WL_run rfl (Zf rfl (Zx g)) rfl (Zw (E := encGExpr) n A82 rfl rfl rfl av ?_)
     intro bt aJ
     obtain ⟨br, rfl, aO⟩ := encGExpr_val.1 aJ
     refine WL_run rfl (Zf rfl (Zx g)) rfl (Zm (v := Vi (d)) rfl am ?_)
     obtain ⟨b6, aK, b⟩ := Zg b
     refine WL_run rfl (Zf rfl (Zx g)) rfl (Tc rfl rfl rfl (Zi rfl (Zi rfl args_nil)) (ih aK n aO).r ?_)
     rintro _ b1 ⟨aT, ak, ah, rfl⟩
     refine WL_passes 2 (by rw [g]; rfl) ?_
     rcases ite_some b with ⟨h, b⟩ | ⟨h, b⟩
     ·refine WL_run rfl (Zf rfl (Zx h)) rfl (Zp F82_2 rfl ai rfl (WL_run rfl (Zf rfl (Zx h)) rfl (Zn (ah) A80 rfl rfl rfl ?_)))
      obtain ⟨b5, aL, b⟩ := Zg b
      refine WL_run rfl (Zf rfl (Zx h)) rfl (Exec.index_rep S80 rfl rfl rfl (t.mono (Zt ac ak)) aL ?_)
      intro aX bq aw
      refine WL_run rfl (Zf rfl (Zx h)) rfl (Zw (E := encGExpr) ah A82 rfl rfl rfl aw ?_)
      intro bu aM
      obtain ⟨bs, rfl, aP⟩ := encGExpr_val.1 aM
      refine WL_run rfl (Zf rfl (Zx h)) rfl (Zm (v := Vi (d)) rfl am ?_)
      obtain ⟨b7, aN, b⟩ := Zg b
      refine WL_run rfl (Zf rfl (Zx h)) rfl (Tc rfl rfl rfl (Zi rfl (Zi rfl args_nil)) (ih aN ah aP).r ?_)
      rintro _ b2 ⟨aU, aA, a5, rfl⟩
      refine WL_passes 2 (by rw [h]; rfl) ?_
      refine Zb (Ze ?_)
      have be := Zu b
      subst q
      exact ⟨aU, (Zt ak aA), (a5).drop, rfl⟩
     replace h := Zk h
     refine WL_passes 8 (by rw [h]; rfl) ?_
     refine Zb (Ze ?_)
     have bf := Zu b
     subst q
     exact ⟨aT, ak, (ah).drop, rfl⟩
    replace g := Zk g
    refine WL_passes 16 (by rw [g]; rfl) ?_
    refine Zb (Ze ?_)
    have bg := Zu b
    subst q
    exact ⟨aj, (Zv _), (n).drop, rfl⟩
   replace m := Zk m
   refine WL_passes 22 (by rw [m]; rfl) ?_
   refine Zb (Ze ?_)
   have bh := Zu b
   subst q
   exact ⟨aj, (Zv _), (n).drop, rfl⟩
  intro bo b3 a1
  obtain ⟨aV, aB, a6, aH⟩ := a1
  refine (Ze (W_ret (ib_ret (at_ret ?_))))
  have bi := Zu hm
  subst r
  refine ⟨_, ret1 rfl, ?_⟩
  exact ⟨aV, (Zt ac aB), a6, aH⟩
 refine W_cond_f an aa ?_
 replace aa := Zk aa
 refine W_skip (ib_normal (Ze (Zc (Zd (Za rfl rfl (Zo (v := Value.bool (false)) rfl rfl (Zb (Ze (W_ret ?_)))))))))
 have bj := Zu hm
 subst r
 refine ⟨_, ret1 rfl, ?_⟩
 exact ⟨aj, ac, (n).drop, rfl⟩
theorem ground_right_sim {fu : Nat} : ∀ {w0 w : World} {s : PHeap} {H : List Res} {a : GExpr} {b : Int} {d : Value} {r : Bool} (hm : ground_right_p fu a b = some r) (hS : St w0 s (H) w) (g : SliceRep encGExpr s d a.Kids), Calls Try.prog 89 #[Value.agg #[Value.string (a.Op), Vi (a.N), d], Vi (b)] w fun e w' => ∃ v, e = .returned v ∧ ((fun (f : Bool) => ∃ (c : PHeap) , PHeap.le s c ∧ St w0 c (H) w' ∧ v = Value.bool (f)) r) := by
 induction fu with
 | zero => intros; rename_i hm _ _; rw [ground_right_p] at hm; cases hm
 | succ fu ih => exact ground_right_step ih
theorem ground_condition_sim {w0 w : World} {s : PHeap} {H : List Res} {fu : Nat} {ag : Ground} {ab : Cond} {ah : Value} {ai : Value} {aj : Value} {ak : Value} {al : Value} {am : Value} {an : Value} {t : Value} {r : Bool} (hm : ground_condition_p fu ag ab = some r) (hS : St w0 s (H) w) (a7 : SliceRep encAtom s ah ag.Atoms) (ad : SliceRep encGFluent s ai ag.Fluents) (bX : SliceRep (encInt .i64) s aj ag.Init) (bY : SliceRep encCond s ak ag.Goal) (bZ : SliceRep encGOp s al ag.Ops) (aR : SliceRep (encInt .i64) s am ab.Pos) (aS : SliceRep (encInt .i64) s an ab.Neg) (a5 : SliceRep encGTest s t ab.Tests) :
  Calls Try.prog 57 #[Value.agg #[ah, ai, aj, ak, al], Value.agg #[am, an, t]] w fun e w' => ∃ v, e = .returned v ∧ ((fun (bS : Bool) => ∃ (aK : PHeap) , PHeap.le s aK ∧ St w0 aK (H) w' ∧ v = Value.bool (bS)) r) := by
 unfold ground_condition_p at hm
 refine calls_of_W Try.func57 rfl rfl (Zc (Zd (Za rfl rfl (Exec.box (cs := [ah, ai, aj, ak, al]) hS rfl rfl rfl ?_))))
 intro ae c2 ba
 refine Za rfl rfl (Exec.box (cs := [am, an, t]) ba rfl rfl rfl ?_)
 intro af c3 aA
 refine Za rfl rfl (Zo (v := Value.bool (false)) rfl rfl (Zb (Ze (Zc (Zc (Zd (Za rfl rfl (Zp F47_2 rfl rfl rfl (Za rfl rfl (Zn (aA) A45 rfl rfl rfl (Za rfl rfl (Zr S45 rfl rfl a5 (Za rfl rfl (Zm (v := Vi (0)) rfl rfl (Zb (Ze ?_))))))))))))))))
 obtain ⟨a8, aU, bn, bl, bj⟩ := ctl_some hm
 refine W_mid (M := fun f' w' => ∃ s', (a8 = .next s' ∨ a8 = .brk s') ∧ (fun (_ : Unit) => ∃ (aL : PHeap) , PHeap.le s aL ∧ St w0 aL (Res.box ae 28 [ah, ai, aj, ak, al] :: Res.box af 47 [am, an, t] :: H) w' ∧ f' 2 = Value.pointer (some ⟨ae, 0, none⟩) ∧ f' 3 = Value.pointer (some ⟨af, 0, none⟩) ∧ f' 8 = t ∧ f' 9 = Vi ((ab.Tests.length : Int))) s') ?_ ?_
 ·refine W_block (W_forC (fun k' s' f' w' => (fun (_ : Unit) => ∃ (aM : PHeap) , PHeap.le s aM ∧ St w0 aM (Res.box ae 28 [ah, ai, aj, ak, al] :: Res.box af 47 [am, an, t] :: H) w' ∧ f' 2 = Value.pointer (some ⟨ae, 0, none⟩) ∧ f' 3 = Value.pointer (some ⟨af, 0, none⟩) ∧ f' 8 = t ∧ f' 9 = Vi ((ab.Tests.length : Int)) ∧ f' 10 = Vi (k' : Int)) s') aU ?_ ?_ ?_)
  ·have bb := (aA).f1
   exact ⟨s, (Zv _), bb, rfl, rfl, rfl, rfl, rfl⟩
  ·intro aE cy a9 cp c4 bk aV o bo
   obtain ⟨aN, q, aB, d, ac, z, aa, u⟩ := aV
   refine Zc (Zd (Za rfl rfl (Zq rfl u aa (Zb (Ze (Zc (W_true (Zx (decide_eq_true (by omega))) (W_skip (Ze (Zc (W_block (Zc (Zd ?_)))))))))))))
   obtain ⟨b, b6, o⟩ := Zg o
   refine Za rfl rfl (Exec.index_rep S45 rfl z u (a5.mono q) b6 ?_)
   intro ca cv aT
   refine Za rfl rfl (Zw (E := encGTest) aB A129 rfl rfl rfl aT ?_)
   intro c1 b7
   obtain ⟨aq, ar, rfl, a3, a4⟩ := encGTest_val.1 b7
   refine Za rfl rfl (Exec.alloc (cs := [Value.string (⟨#[]⟩), Value.string (⟨#[]⟩), Vi (0), Value.slice none 0 0, Value.string (⟨#[]⟩), Vi (0), Value.slice none 0 0]) aB Z129 rfl rfl ?_)
   intro cb c5 bc
   refine Za rfl rfl (Exec.store_box (ds := [Value.string (b.Op), Value.string (b.A.Op), Vi (b.A.N), aq, Value.string (b.B.Op), Vi (b.B.N), ar]) (es := [Value.string (b.Op), Value.string (b.A.Op), Vi (b.A.N), aq, Value.string (b.B.Op), Vi (b.B.N), ar]) bc A129 rfl rfl rfl rfl (Zj rfl (Zj rfl (Zj rfl (Zj (a3).one (Zj rfl (Zj rfl (Zj (a4).one one_nil))))))) (Nat.le_of_ble_eq_true rfl) rfl ?_)
   intro c6 c
   refine Zb (Ze (Zc ?_))
   obtain ⟨n, a, o⟩ := Zg o
   refine W_mid (M := fun f' w' => (fun (n : Bool) => ∃ (aO : PHeap) , PHeap.le aN aO ∧ St w0 aO (Res.box ae 28 [ah, ai, aj, ak, al] :: Res.box af 47 [am, an, t] :: H) w' ∧ f' 2 = Value.pointer (some ⟨ae, 0, none⟩) ∧ f' 3 = Value.pointer (some ⟨af, 0, none⟩) ∧ f' 8 = t ∧ f' 9 = Vi ((ab.Tests.length : Int)) ∧ f' 10 = Vi ((aE : Int)) ∧ f' 44 = Value.bool (n)) n) ?_ ?_
   ·refine Zd (Za rfl rfl (Zp F129_0 rfl rfl rfl (Za rfl rfl (Zn (c) A9 rfl rfl rfl (Za rfl rfl (Exec.str_neq rfl rfl rfl (Za rfl rfl (Zm (v := Value.bool (!decide (b.Op = (⟨#[60]⟩)))) rfl rfl ?_))))))))
    rcases ite_some a with ⟨x, a⟩ | ⟨x, a⟩
    ·refine WL_run rfl (Zf rfl (Zx x)) rfl (Zp F129_0 rfl rfl rfl (WL_run rfl (Zf rfl (Zx x)) rfl (Zn (c) A9 rfl rfl rfl (WL_run rfl (Zf rfl (Zx x)) rfl (Exec.str_neq rfl rfl rfl ?_)))))
     refine WL_passes 2 (by rw [x]; rfl) ?_
     rcases ite_some a with ⟨y, a⟩ | ⟨y, a⟩
     ·refine WL_run rfl (Zf rfl (Zx y)) rfl (Zp F129_0 rfl rfl rfl (WL_run rfl (Zf rfl (Zx y)) rfl (Zn (c) A9 rfl rfl rfl (WL_run rfl (Zf rfl (Zx y)) rfl (Exec.str_neq rfl rfl rfl ?_)))))
      refine WL_passes 2 (by rw [y]; rfl) ?_
      rcases ite_some a with ⟨g, a⟩ | ⟨g, a⟩
      ·refine WL_passes 17 (by rw [g]; rfl) ?_
       refine Zb (Ze ?_)
       have cc := Zu a
       subst n
       exact ⟨aN, (Zv _), (((c).drop).f1).f1, d, ac, z, aa, u, rfl⟩
      replace g := Zk g
      refine WL_run rfl (Zf rfl (Zx g)) rfl (Zp F129_1 rfl rfl rfl (WL_run rfl (Zf rfl (Zx g)) rfl (Exec.load_box_agg (ds := [Value.string (b.A.Op), Vi (b.A.N), aq]) (c) A82 rfl rfl rfl (WL_run rfl (Zf rfl (Zx g)) rfl (Zp F28_1 rfl d rfl (WL_run rfl (Zf rfl (Zx g)) rfl (Zn ((c).f1) A23 rfl rfl rfl (WL_run rfl (Zf rfl (Zx g)) rfl (Zr S23 rfl rfl (ad.mono q) ?_)))))))))
      obtain ⟨cJ, b8, a⟩ := Zg a
      refine WL_run rfl (Zf rfl (Zx g)) rfl (Tc rfl rfl rfl (Zi rfl (Zi rfl args_nil)) (ground_right_sim b8 c a3).r ?_)
      rintro _ c7 ⟨bG, az, av, rfl⟩
      refine WL_run rfl (Zf rfl (Zx g)) rfl (Exec.not rfl rfl ?_)
      refine WL_passes 2 (by rw [g]; rfl) ?_
      rcases ite_some a with ⟨i, a⟩ | ⟨i, a⟩
      ·refine WL_passes 8 (by rw [i]; rfl) ?_
       refine Zb (Ze ?_)
       have cd := Zu a
       subst n
       exact ⟨bG, az, (((av).drop).f1).f1, d, ac, z, aa, u, rfl⟩
      replace i := Zk i
      refine WL_run rfl (Zf rfl (Zx i)) rfl (Zp F129_2 rfl rfl rfl (WL_run rfl (Zf rfl (Zx i)) rfl (Exec.load_box_agg (ds := [Value.string (b.B.Op), Vi (b.B.N), ar]) (av) A82 rfl rfl rfl (WL_run rfl (Zf rfl (Zx i)) rfl (Zp F28_1 rfl d rfl (WL_run rfl (Zf rfl (Zx i)) rfl (Zn ((av).f1) A23 rfl rfl rfl (WL_run rfl (Zf rfl (Zx i)) rfl (Zr S23 rfl rfl (ad.mono (Zt q az)) ?_)))))))))
      obtain ⟨bT, b9, a⟩ := Zg a
      refine WL_run rfl (Zf rfl (Zx i)) rfl (Tc rfl rfl rfl (Zi rfl (Zi rfl args_nil)) (ground_right_sim b9 av (a4.mono az)).r ?_)
      rintro _ c8 ⟨bH, bq, bd, rfl⟩
      refine WL_run rfl (Zf rfl (Zx i)) rfl (Exec.not rfl rfl (Za rfl rfl (Exec.pick_f (v := Value.bool (!bT)) rfl (Zx i) rfl (Zb (Ze ?_)))))
      have ce := Zu a
      subst n
      exact ⟨bH, (Zt az bq), (((bd).drop).f1).f1, d, ac, z, aa, u, rfl⟩
     replace y := Zk y
     refine WL_passes 5 (by rw [y]; rfl) ?_
     refine WL_run rfl (Zf rfl rfl) rfl (Zp F129_1 rfl rfl rfl (WL_run rfl (Zf rfl rfl) rfl (Exec.load_box_agg (ds := [Value.string (b.A.Op), Vi (b.A.N), aq]) (c) A82 rfl rfl rfl (WL_run rfl (Zf rfl rfl) rfl (Zp F28_1 rfl d rfl (WL_run rfl (Zf rfl rfl) rfl (Zn ((c).f1) A23 rfl rfl rfl (WL_run rfl (Zf rfl rfl) rfl (Zr S23 rfl rfl (ad.mono q) ?_)))))))))
     obtain ⟨cK, bA, a⟩ := Zg a
     refine WL_run rfl (Zf rfl rfl) rfl (Tc rfl rfl rfl (Zi rfl (Zi rfl args_nil)) (ground_right_sim bA c a3).r ?_)
     rintro _ c9 ⟨bI, a0, aw, rfl⟩
     refine WL_run rfl (Zf rfl rfl) rfl (Exec.not rfl rfl (WL_passes 2 rfl ?_))
     rcases ite_some a with ⟨j, a⟩ | ⟨j, a⟩
     ·refine WL_passes 8 (by rw [j]; rfl) ?_
      refine Zb (Ze ?_)
      have cf := Zu a
      subst n
      exact ⟨bI, a0, (((aw).drop).f1).f1, d, ac, z, aa, u, rfl⟩
     replace j := Zk j
     refine WL_run rfl (Zf rfl (Zx j)) rfl (Zp F129_2 rfl rfl rfl (WL_run rfl (Zf rfl (Zx j)) rfl (Exec.load_box_agg (ds := [Value.string (b.B.Op), Vi (b.B.N), ar]) (aw) A82 rfl rfl rfl (WL_run rfl (Zf rfl (Zx j)) rfl (Zp F28_1 rfl d rfl (WL_run rfl (Zf rfl (Zx j)) rfl (Zn ((aw).f1) A23 rfl rfl rfl (WL_run rfl (Zf rfl (Zx j)) rfl (Zr S23 rfl rfl (ad.mono (Zt q a0)) ?_)))))))))
     obtain ⟨bU, bB, a⟩ := Zg a
     refine WL_run rfl (Zf rfl (Zx j)) rfl (Tc rfl rfl rfl (Zi rfl (Zi rfl args_nil)) (ground_right_sim bB aw (a4.mono a0)).r ?_)
     rintro _ cA ⟨bJ, br, be, rfl⟩
     refine WL_run rfl (Zf rfl (Zx j)) rfl (Exec.not rfl rfl (Za rfl rfl (Exec.pick_f (v := Value.bool (!bU)) rfl (Zx j) rfl (Zb (Ze ?_)))))
     have cg := Zu a
     subst n
     exact ⟨bJ, (Zt a0 br), (((be).drop).f1).f1, d, ac, z, aa, u, rfl⟩
    replace x := Zk x
    refine WL_passes 10 (by rw [x]; rfl) ?_
    refine WL_run rfl (Zf rfl rfl) rfl (Zp F129_1 rfl rfl rfl (WL_run rfl (Zf rfl rfl) rfl (Exec.load_box_agg (ds := [Value.string (b.A.Op), Vi (b.A.N), aq]) (c) A82 rfl rfl rfl (WL_run rfl (Zf rfl rfl) rfl (Zp F28_1 rfl d rfl (WL_run rfl (Zf rfl rfl) rfl (Zn ((c).f1) A23 rfl rfl rfl (WL_run rfl (Zf rfl rfl) rfl (Zr S23 rfl rfl (ad.mono q) ?_)))))))))
    obtain ⟨cL, bC, a⟩ := Zg a
    refine WL_run rfl (Zf rfl rfl) rfl (Tc rfl rfl rfl (Zi rfl (Zi rfl args_nil)) (ground_right_sim bC c a3).r ?_)
    rintro _ cB ⟨bK, a1, ax, rfl⟩
    refine WL_run rfl (Zf rfl rfl) rfl (Exec.not rfl rfl (WL_passes 2 rfl ?_))
    rcases ite_some a with ⟨l, a⟩ | ⟨l, a⟩
    ·refine WL_passes 8 (by rw [l]; rfl) ?_
     refine Zb (Ze ?_)
     have ch := Zu a
     subst n
     exact ⟨bK, a1, (((ax).drop).f1).f1, d, ac, z, aa, u, rfl⟩
    replace l := Zk l
    refine WL_run rfl (Zf rfl (Zx l)) rfl (Zp F129_2 rfl rfl rfl (WL_run rfl (Zf rfl (Zx l)) rfl (Exec.load_box_agg (ds := [Value.string (b.B.Op), Vi (b.B.N), ar]) (ax) A82 rfl rfl rfl (WL_run rfl (Zf rfl (Zx l)) rfl (Zp F28_1 rfl d rfl (WL_run rfl (Zf rfl (Zx l)) rfl (Zn ((ax).f1) A23 rfl rfl rfl (WL_run rfl (Zf rfl (Zx l)) rfl (Zr S23 rfl rfl (ad.mono (Zt q a1)) ?_)))))))))
    obtain ⟨bV, bD, a⟩ := Zg a
    refine WL_run rfl (Zf rfl (Zx l)) rfl (Tc rfl rfl rfl (Zi rfl (Zi rfl args_nil)) (ground_right_sim bD ax (a4.mono a1)).r ?_)
    rintro _ cC ⟨bL, bs, bf, rfl⟩
    refine WL_run rfl (Zf rfl (Zx l)) rfl (Exec.not rfl rfl (Za rfl rfl (Exec.pick_f (v := Value.bool (!bV)) rfl (Zx l) rfl (Zb (Ze ?_)))))
    have ci := Zu a
    subst n
    exact ⟨bL, (Zt a1 bs), (((bf).drop).f1).f1, d, ac, z, aa, u, rfl⟩
   intro cq cD aX
   obtain ⟨aP, aF, aC, bw, bx, bz, b0, b1, aG⟩ := aX
   refine (Ze ?_)
   rcases ite_some o with ⟨ao, o⟩ | ⟨ao, o⟩
   ·refine W_cond_t aG ao (Zc (Zd (Za rfl rfl (Zo (v := Value.bool (false)) rfl rfl (Zb (Ze (W_ret (ib_ret (at_ret (at_ret (ib_ret (at_ret (at_ret ?_)))))))))))))
    have cj := Zu o
    subst a9
    have bm := bn _ (bo (by intro _ h; cases h))
    have ck := Zu bm
    subst r
    refine ⟨_, ret1 rfl, ?_⟩
    exact ⟨aP, (Zt q aF), ((aC).drop).drop, rfl⟩
   refine W_cond_f aG ao ?_
   replace ao := Zk ao
   refine W_skip (ib_normal (Ze (Zd (Za rfl rfl (Exec.add rfl b1 rfl (Za rfl rfl (Zm (v := Vi (IntKind.i64.wrap ((aE : Int) + 1))) rfl rfl (Zb (Ze ?_)))))))))
   have cl := Zu o
   subst a9
   refine ⟨_, rfl, ?_⟩; exact ⟨aP, (Zt q aF), ((aC).f1).f1, bw, bx, bz, b0, (Eq.trans rfl (wrap_up bk (SliceRep.le a5)))⟩
  intro cz cr cE aW bp
  obtain ⟨bM, bt, bg, b2, b3, b4, aH, bR⟩ := aW
  refine Zc (Zd (Za rfl rfl (Zq rfl bR aH (Zb (Ze (Zc (W_false (Zx (decide_eq_false (by omega))) (W_exit (at_exit (at_exit (ib_here (Ze ?_))))))))))))
  refine ⟨_, .inl bp, ?_⟩; exact ⟨bM, bt, ((bg).f1).f1, b2, b3, b4, aH⟩
 rintro ct cF ⟨c0, aD, aY⟩
 have hm := aD.elim (bl _) (bj _)
 clear aD
 obtain ⟨bN, ap, a6, aI, aJ, cw, cx⟩ := aY
 refine (Ze (Zc ?_))
 obtain ⟨au, p, hm⟩ := Zg hm
 refine W_mid (M := fun f' w' => (fun (au : Bool) => ∃ (aQ : PHeap) , PHeap.le bN aQ ∧ St w0 aQ (H) w' ∧ f' 4 = Value.bool (au)) au) ?_ ?_
 ·refine Zd (Za rfl rfl (Zp F47_0 rfl aJ rfl (Za rfl rfl (Zn ((a6).f1) A24 rfl rfl rfl (Za rfl rfl (Zp F28_0 rfl aI rfl (Za rfl rfl (Zn (a6) A22 rfl rfl rfl (Za rfl rfl (Zr S22 rfl rfl (a7.mono ap) ?_))))))))))
  obtain ⟨bW, bE, p⟩ := Zg p
  refine Za rfl rfl (Tc rfl rfl rfl (Zi rfl (Zi rfl args_nil)) (ground_indices_sim bE a6 (aR.mono ap)).r ?_)
  rintro _ cG ⟨bO, a2, ay, rfl⟩
  refine Za rfl rfl (Zm (v := Value.bool (bW)) rfl rfl ?_)
  rcases ite_some p with ⟨m, p⟩ | ⟨m, p⟩
  ·refine WL_run rfl (Zf rfl (Zx m)) rfl (Zp F47_1 rfl aJ rfl (WL_run rfl (Zf rfl (Zx m)) rfl (Zn ((ay).f1) A24 rfl rfl rfl (WL_run rfl (Zf rfl (Zx m)) rfl (Zp F28_0 rfl aI rfl (WL_run rfl (Zf rfl (Zx m)) rfl (Zn (ay) A22 rfl rfl rfl (WL_run rfl (Zf rfl (Zx m)) rfl (Zr S22 rfl rfl (a7.mono (Zt ap a2)) ?_)))))))))
   obtain ⟨cM, bF, p⟩ := Zg p
   refine WL_run rfl (Zf rfl (Zx m)) rfl (Tc rfl rfl rfl (Zi rfl (Zi rfl args_nil)) (ground_indices_sim bF ay (aS.mono (Zt ap a2))).r ?_)
   rintro _ cH ⟨bP, bu, bh, rfl⟩
   refine WL_passes 2 (by rw [m]; rfl) ?_
   refine Zb (Ze ?_)
   have cm := Zu p
   subst au
   exact ⟨bP, (Zt a2 bu), ((bh).drop).drop, rfl⟩
  replace m := Zk m
  refine WL_passes 8 (by rw [m]; rfl) ?_
  refine Zb (Ze ?_)
  have cn := Zu p
  subst au
  exact ⟨bO, a2, ((ay).drop).drop, rfl⟩
 intro cu cI aZ
 obtain ⟨bQ, bv, bi, b5⟩ := aZ
 refine (Ze (W_ret ?_))
 have co := Zu hm
 subst r
 refine ⟨_, ret1 rfl, ?_⟩
 exact ⟨bQ, (Zt ap bv), bi, b5⟩
theorem N56 : (Try.f56.name == "runtime.NumGoroutine") = false := by kernel_rfl
theorem ground_Valid_c2_sim {w0 w : World} {s : PHeap} {H : List Res} {fu : Nat} {a : Cond} {h : Ground} {b : Value} {c : Value} {d : Value} {g i : Nat} {r : Bool} (hm : ground_Valid_c2_p fu a h = some r) (hS : St w0 s (H) w) (k : SliceRep (encInt .i64) s b a.Pos) (l : SliceRep (encInt .i64) s c a.Neg) (m : SliceRep encGTest s d a.Tests) (n : At s g i encGround h) :
  Calls Try.prog 56 #[Value.agg #[b, c, d], Value.pointer (some ⟨g, i, none⟩)] w fun e w' => ∃ v, e = .returned v ∧ ((fun (ac : Bool) => ∃ (j : PHeap) , PHeap.le s j ∧ St w0 j (H) w' ∧ v = Value.bool (ac)) r) := by
 unfold ground_Valid_c2_p at hm
 refine calls_of_W Try.func56 rfl rfl (Zc (Zd (Za rfl rfl (Exec.box (cs := [b, c, d]) hS rfl rfl rfl ?_))))
 intro ae am f
 refine Za rfl rfl (Zo (v := Value.bool (false)) rfl rfl (Zb (Ze (Zc (Zd (Za rfl rfl (Zw (E := encGround) f A28 rfl rfl rfl n ?_)))))))
 intro al q
 obtain ⟨ag, ah, ai, aj, ak, rfl, u, x, y, z, aa⟩ := encGround_val.1 q
 refine Za rfl rfl (Exec.load_box_agg (ds := [b, c, d]) (f) A47 rfl rfl rfl ?_)
 obtain ⟨ad, t, hm⟩ := Zg hm
 refine Za rfl rfl (Tc rfl rfl rfl (Zi rfl (Zi rfl args_nil)) (ground_condition_sim t f u x y z aa k l m).r ?_)
 rintro _ an ⟨ab, p, o, rfl⟩
 refine Za rfl rfl (Exec.not rfl rfl (Za rfl rfl (Zo (v := Value.bool (!ad)) rfl rfl (Zb (Ze (W_ret ?_))))))
 have af := Zu hm
 subst r
 refine ⟨_, ret1 rfl, ?_⟩
 exact ⟨ab, p, (o).drop, rfl⟩
theorem api_Cond__f56_88_sim {w0 w : World} {s : PHeap} {H : List Res} {fu : Nat} {l : (List Cond)} {o : Ground} {c : Value} {d i : Nat} {r : Int} (hm : api_Cond__f56_88_p fu l o = some r) (hS : St w0 s (H) w) (m : SliceRep encCond s c l) (ah : At s d i encGround o) :
  Calls Try.prog 88 #[c, Value.func (.func 56) #[] #[Value.pointer (some ⟨d, i, none⟩)]] w fun e w' => ∃ v, e = .returned v ∧ ((fun (aB : Int) => ∃ (ad : PHeap) , PHeap.le s ad ∧ St w0 ad (H) w' ∧ v = Vi (aB)) r) := by
 unfold api_Cond__f56_88_p at hm
 refine calls_of_W Try.func88 rfl rfl (Zc (Zd (Za rfl rfl (Zo (v := Vi (0)) rfl rfl (Zb (Ze (Zc (Zc (Zd (Za rfl rfl (Zm (v := c) rfl rfl (Za rfl rfl (Zr S25 rfl rfl m (Za rfl rfl (Zm (v := Vi (0)) rfl rfl (Zb (Ze ?_)))))))))))))))))
 obtain ⟨p, aj, av, ar, ap⟩ := ctl_some hm
 refine W_mid (M := fun f' w' => ∃ s', (p = .next s' ∨ p = .brk s') ∧ (fun (_ : Unit) => ∃ (ae : PHeap) , PHeap.le s ae ∧ St w0 ae (H) w' ∧ f' 0 = c ∧ f' 1 = Value.func (.func 56) #[] #[Value.pointer (some ⟨d, i, none⟩)] ∧ f' 7 = Vi ((l.length : Int))) s') ?_ ?_
 ·refine W_block (W_forC (fun k' s' f' w' => (fun (_ : Unit) => ∃ (af : PHeap) , PHeap.le s af ∧ St w0 af (H) w' ∧ f' 0 = c ∧ f' 1 = Value.func (.func 56) #[] #[Value.pointer (some ⟨d, i, none⟩)] ∧ f' 7 = Vi ((l.length : Int)) ∧ f' 8 = Vi (k' : Int)) s') aj ?_ ?_ ?_)
  ·exact ⟨s, (Zv _), hS, rfl, rfl, rfl, rfl⟩
  ·intro b aP q aH aW aq ak a aw
   obtain ⟨aO, j, t, z, aa, ab, n⟩ := ak
   refine Zc (Zd (Za rfl rfl (Zq rfl n ab (Zb (Ze (Zc (W_true (Zx (decide_eq_true (by omega))) (W_skip (Ze (Zc (W_block (Zc (Zd (Za rfl rfl (Zm (v := Vi ((b : Int))) rfl n (Za rfl rfl (Zo (v := Vi ((b : Int))) rfl rfl (Zb (Ze (Zc (Zd (Za rfl rfl (Zm (v := Value.func (.func 56) #[] #[Value.pointer (some ⟨d, i, none⟩)]) rfl aa (Za rfl rfl (Zm (v := c) rfl z (Za rfl rfl (Zm (v := Vi ((b : Int))) rfl rfl ?_)))))))))))))))))))))))))))
   obtain ⟨ba, a2, a⟩ := Zg a
   refine Za rfl rfl (Exec.index_rep S25 rfl rfl rfl (m.mono j) a2 ?_)
   intro aC aK ai
   refine Za rfl rfl (Zw (E := encCond) t A47 rfl rfl rfl ai ?_)
   intro aV a3
   obtain ⟨aS, aT, aU, rfl, a5, a6, a7⟩ := encCond_val.1 a3
   obtain ⟨bb, a4, a⟩ := Zg a
   refine Za rfl rfl (Exec.callc rfl rfl Try.func56 rfl N56 (Zi rfl args_nil) rfl ((ground_Valid_c2_sim a4 t a5 a6 a7 (ah.mono j)).mono ?_))
   rintro _ aX ⟨_, rfl, ⟨ag, y, u, rfl⟩⟩
   refine ⟨_, rfl, ?_⟩
   refine Zb (Ze ?_)
   rcases ite_some a with ⟨g, a⟩ | ⟨g, a⟩
   ·refine W_cond_t rfl g (Zc (Zd (Za rfl rfl (Zm (v := Vi ((b : Int))) rfl rfl (Za rfl rfl (Zo (v := Vi ((b : Int))) rfl rfl (Zb (Ze (W_ret (ib_ret (at_ret (at_ret (ib_ret (at_ret (at_ret ?_)))))))))))))))
    have aD := Zu a
    subst q
    have au := av _ (aw (by intro _ h; cases h))
    have aE := Zu au
    subst r
    refine ⟨_, ret1 rfl, ?_⟩
    exact ⟨ag, (Zt j y), u, rfl⟩
   refine W_cond_f rfl g ?_
   replace g := Zk g
   refine W_skip (ib_normal (Ze (Zd (Za rfl rfl (Exec.add rfl n rfl (Za rfl rfl (Zm (v := Vi (IntKind.i64.wrap ((b : Int) + 1))) rfl rfl (Zb (Ze ?_)))))))))
   have aF := Zu a
   subst q
   refine ⟨_, rfl, ?_⟩; exact ⟨ag, (Zt j y), u, z, aa, ab, (Eq.trans rfl (wrap_up aq (SliceRep.le m)))⟩
  intro aQ aI aY al ax
  obtain ⟨a8, ay, an, a0, a1, ac, aA⟩ := al
  refine Zc (Zd (Za rfl rfl (Zq rfl aA ac (Zb (Ze (Zc (W_false (Zx (decide_eq_false (by omega))) (W_exit (at_exit (at_exit (ib_here (Ze ?_))))))))))))
  refine ⟨_, .inl ax, ?_⟩; exact ⟨a8, ay, an, a0, a1, ac⟩
 rintro aJ aZ ⟨aR, x, am⟩
 have hm := x.elim (ar _) (ap _)
 clear x
 obtain ⟨a9, az, ao, aL, aM, aN⟩ := am
 refine (Ze (Zc (Zd (Za rfl rfl (Zo (v := Vi ((-1))) rfl rfl (Zb (Ze (W_ret ?_))))))))
 have aG := Zu hm
 subst r
 refine ⟨_, ret1 rfl, ?_⟩
 exact ⟨a9, az, ao, rfl⟩
theorem api_Cond__f56_sim {w0 w : World} {s : PHeap} {H : List Res} {fu : Nat} {g : (List Cond)} {d : Ground} {c : Value} {a b : Nat} {r : Bool} (hm : api_Cond__f56_p fu g d = some r) (hS : St w0 s (H) w) (h : SliceRep encCond s c g) (i : At s a b encGround d) :
  Calls Try.prog 55 #[c, Value.func (.func 56) #[] #[Value.pointer (some ⟨a, b, none⟩)]] w fun e w' => ∃ v, e = .returned v ∧ ((fun (n : Bool) => ∃ (f : PHeap) , PHeap.le s f ∧ St w0 f (H) w' ∧ v = Value.bool (n)) r) := by
 unfold api_Cond__f56_p at hm
 refine calls_of_W Try.func55 rfl rfl (Zc (Zd (Za rfl rfl (Zo (v := Value.bool (false)) rfl rfl (Zb (Ze (Zc (Zd (Za rfl rfl (Zm (v := c) rfl rfl (Za rfl rfl (Zm (v := Value.func (.func 56) #[] #[Value.pointer (some ⟨a, b, none⟩)]) rfl rfl ?_))))))))))))
 obtain ⟨o, l, hm⟩ := Zg hm
 refine Za rfl rfl (Tc rfl rfl rfl (Zi rfl (Zi rfl args_nil)) (api_Cond__f56_88_sim l hS h i).r ?_)
 rintro _ q ⟨m, k, j, rfl⟩
 refine Za rfl rfl (Exec.geq rfl rfl rfl (Za rfl rfl (Zo (v := Value.bool (decide (0 ≤ o))) rfl rfl (Zb (Ze (W_ret ?_))))))
 have p := Zu hm
 subst r
 refine ⟨_, ret1 rfl, ?_⟩
 exact ⟨m, k, j, rfl⟩
theorem F51_1 : tyField Try.prog 51 1 = some 1 := by kernel_rfl
theorem ground_named_sim {w0 w : World} {s : PHeap} {H : List Res} {a : ByteArray}  {r : Bool} (hm : ground_named_p a = some r) (hS : St w0 s (H) w)  :
  Calls Try.prog 91 #[Value.string (a)] w fun e w' => ∃ v, e = .returned v ∧ ((fun (aA : Bool) => ∃ (ad : PHeap) , PHeap.le s ad ∧ St w0 ad (H) w' ∧ v = Value.bool (aA)) r) := by
 unfold ground_named_p at hm
 refine calls_of_W Try.func91 rfl rfl (Zc (Zd (Za rfl rfl (Zo (v := Value.bool (false)) rfl rfl (Zb (Ze (Zc (Zc (Zd (Za rfl rfl (Zm (v := Value.string (a)) rfl rfl (Za rfl rfl (Exec.len_str Try.underlying9 rfl rfl (Za rfl rfl (Zm (v := Vi (0)) rfl rfl (Zb (Ze ?_)))))))))))))))))
 obtain ⟨aP, a6, hm⟩ := Zg hm
 obtain ⟨p, aj, aw, au, aq⟩ := ctl_some hm
 refine W_mid (M := fun f' w' => ∃ s', (p = .next s' ∨ p = .brk s') ∧ (fun (_ : Unit) => ∃ (ae : PHeap) , PHeap.le s ae ∧ St w0 ae (H) w' ∧ f' 0 = Value.string (a) ∧ f' 5 = Vi ((a.size : Int))) s') ?_ ?_
 ·refine W_block (W_forC (fun k' s' f' w' => (fun (_ : Unit) => ∃ (af : PHeap) , PHeap.le s af ∧ St w0 af (H) w' ∧ f' 0 = Value.string (a) ∧ f' 5 = Vi ((a.size : Int)) ∧ f' 6 = Vi (k' : Int)) s') aj ?_ ?_ ?_)
  ·exact ⟨s, (Zv _), hS, rfl, rfl, rfl⟩
  ·intro g aM q aH aQ ar ak c ax
   obtain ⟨o, y, t, l, n, m⟩ := ak
   refine Zc (Zd (Za rfl rfl (Zq rfl m n (Zb (Ze (Zc (W_true (Zx (decide_eq_true (by omega))) (W_skip (Ze (Zc (W_block (Zc (Zd (Za rfl rfl (Zm (v := Vi ((g : Int))) rfl m (Za rfl rfl (Zo (v := Vi ((g : Int))) rfl rfl (Zb (Ze (Zc ?_))))))))))))))))))))
   obtain ⟨j, d, c⟩ := Zg c
   refine W_mid (M := fun f' w' => (fun (j : Bool) => ∃ (ag : PHeap) , PHeap.le o ag ∧ St w0 ag (H) w' ∧ f' 0 = Value.string (a) ∧ f' 5 = Vi ((a.size : Int)) ∧ f' 6 = Vi ((g : Int)) ∧ f' 18 = Value.bool (j)) j) ?_ ?_
   ·refine Zd (Za rfl rfl (Zm (v := Value.string (a)) rfl l (Za rfl rfl (Zm (v := Vi ((g : Int))) rfl rfl ?_))))
    obtain ⟨ai, ac, d⟩ := Zg d
    refine Za rfl rfl (Exec.index_str Try.underlying9 rfl rfl rfl ac (Za rfl rfl (Zq rfl rfl rfl (Za rfl rfl (Zm (v := Value.bool (decide (ai < 32))) rfl rfl ?_)))))
    rcases ite_some d with ⟨b, d⟩ | ⟨b, d⟩
    ·refine WL_passes 5 (by rw [b]; rfl) ?_
     refine Zb (Ze ?_)
     have aB := Zu d
     subst j
     exact ⟨o, (Zv _), t, l, n, m, rfl⟩
    replace b := Zk b
    refine WL_run rfl (Zf rfl (Zx b)) rfl (Zm (v := Value.string (a)) rfl l (WL_run rfl (Zf rfl (Zx b)) rfl (Zm (v := Vi ((g : Int))) rfl rfl (WL_run rfl (Zf rfl (Zx b)) rfl (Exec.index_str Try.underlying9 rfl rfl rfl ac (WL_run rfl (Zf rfl (Zx b)) rfl (Exec.gtr rfl rfl rfl (Za rfl rfl (Exec.pick_f (v := Value.bool (decide (126 < ai))) rfl (Zx b) rfl (Zb (Ze ?_)))))))))))
    have aC := Zu d
    subst j
    exact ⟨o, (Zv _), t, l, n, m, rfl⟩
   intro aI aR am
   obtain ⟨ah, z, u, a1, a2, a3, aa⟩ := am
   refine (Ze ?_)
   rcases ite_some c with ⟨i, c⟩ | ⟨i, c⟩
   ·refine W_cond_t aa i (Zc (Zd (Za rfl rfl (Zo (v := Value.bool (false)) rfl rfl (Zb (Ze (W_ret (ib_ret (at_ret (at_ret (ib_ret (at_ret (at_ret ?_)))))))))))))
    have aD := Zu c
    subst q
    have av := aw _ (ax (by intro _ h; cases h))
    have aE := Zu av
    subst r
    refine ⟨_, ret1 rfl, ?_⟩
    exact ⟨ah, (Zt y z), u, rfl⟩
   refine W_cond_f aa i ?_
   replace i := Zk i
   refine W_skip (ib_normal (Ze (Zd (Za rfl rfl (Exec.add rfl a3 rfl (Za rfl rfl (Zm (v := Vi (IntKind.i64.wrap ((g : Int) + 1))) rfl rfl (Zb (Ze ?_)))))))))
   have aF := Zu c
   subst q
   refine ⟨_, rfl, ?_⟩; exact ⟨ah, (Zt y z), u, a1, a2, (Eq.trans rfl (wrap_up ar (by have h := must_some a6; simp at h; simp only [maxLen]; omega)))⟩
  intro aN aJ aS al ay
  obtain ⟨a7, az, ao, a4, ab, a9⟩ := al
  refine Zc (Zd (Za rfl rfl (Zq rfl a9 ab (Zb (Ze (Zc (W_false (Zx (decide_eq_false (by omega))) (W_exit (at_exit (at_exit (ib_here (Ze ?_))))))))))))
  refine ⟨_, .inl ay, ?_⟩; exact ⟨a7, az, ao, a4, ab⟩
 rintro aK aT ⟨aO, x, an⟩
 have hm := x.elim (au _) (aq _)
 clear x
 obtain ⟨a8, a0, ap, a5, aL⟩ := an
 refine (Ze (Zc (Zd (Za rfl rfl (Zm (v := Value.string (a)) rfl a5 (Za rfl rfl (Exec.len_str Try.underlying9 rfl rfl (Za rfl rfl (Exec.leq rfl rfl rfl (Za rfl rfl (Zo (v := Value.bool (decide ((a.size : Int) ≤ 256))) rfl rfl (Zb (Ze (W_ret ?_))))))))))))))
 have aG := Zu hm
 subst r
 refine ⟨_, ret1 rfl, ?_⟩
 exact ⟨a8, a0, ap, rfl⟩
theorem A58 : tyAgg Try.prog 58 = some (true, 5) := by kernel_rfl
theorem Z58 : tyZero Try.prog 58 = some (Value.agg #[Value.slice none 0 0, Value.slice none 0 0, Value.slice none 0 0, Vi (0), Value.bool false]) := by kernel_rfl
theorem F58_1 : tyField Try.prog 58 1 = some 3 := by kernel_rfl
theorem A84 : tyAgg Try.prog 84 = some (true, 4) := by kernel_rfl
theorem Z84 : tyZero Try.prog 84 = some (Value.agg #[Vi (0), Value.string ⟨#[]⟩, Vi (0), Value.slice none 0 0]) := by kernel_rfl
theorem F84_0 : tyField Try.prog 84 0 = some 0 := by kernel_rfl
theorem Z4 : tyZero Try.prog 4 = some (Value.bool false) := by kernel_rfl
theorem ground_operator_sim {w0 w : World} {s : PHeap} {H : List Res} {fu : Nat} {aw : Ground} {a : GOp} {j : Value} {l : Value} {m : Value} {n : Value} {o : Value} {ao : Value} {ap : Value} {aq : Value} {ac : Value} {ad : Value} {r : Bool} (hm : ground_operator_p fu aw a = some r) (hS : St w0 s (H) w) (aJ : SliceRep encAtom s j aw.Atoms) (aA : SliceRep encGFluent s l aw.Fluents) (aT : SliceRep (encInt .i64) s m aw.Init) (aU : SliceRep encCond s n aw.Goal) (aV : SliceRep encGOp s o aw.Ops) (b8 : SliceRep (encInt .i64) s ao a.Pre.Pos) (b9 : SliceRep (encInt .i64) s ap a.Pre.Neg) (bA : SliceRep encGTest s aq a.Pre.Tests) (aB : SliceRep encGChange s ac a.Changes) (aK : SliceRep encGAssign s ad a.Assigns) :
  Calls Try.prog 60 #[Value.agg #[j, l, m, n, o], Value.agg #[Value.string (a.Name), Vi (a.Cost), ao, ap, aq, ac, ad]] w fun e w' => ∃ v, e = .returned v ∧ ((fun (cY : Bool) => ∃ (bx : PHeap) , PHeap.le s bx ∧ St w0 bx (H) w' ∧ v = Value.bool (cY)) r) := by
 unfold ground_operator_p at hm
 refine calls_of_W Try.func60 rfl rfl (Zc (Zd (Za rfl rfl (Exec.box (cs := [j, l, m, n, o]) hS rfl rfl rfl ?_))))
 intro g dP bO
 refine Za rfl rfl (Exec.box (cs := [Value.string (a.Name), Vi (a.Cost), ao, ap, aq, ac, ad]) bO rfl rfl rfl ?_)
 intro aj dQ ak
 refine Za rfl rfl (Zo (v := Value.bool (false)) rfl rfl (Zb (Ze (Zc (Zc ?_)))))
 obtain ⟨ar, b, hm⟩ := Zg hm
 refine W_mid (M := fun f' w' => (fun (ar : Bool) => ∃ (bz : PHeap) , PHeap.le s bz ∧ St w0 bz (Res.box g 28 [j, l, m, n, o] :: Res.box aj 51 [Value.string (a.Name), Vi (a.Cost), ao, ap, aq, ac, ad] :: H) w' ∧ f' 2 = Value.pointer (some ⟨g, 0, none⟩) ∧ f' 3 = Value.pointer (some ⟨aj, 0, none⟩) ∧ f' 36 = Value.bool (ar)) ar) ?_ ?_
 ·refine Zd (Za rfl rfl (Zp F51_3 rfl rfl rfl (Za rfl rfl (Zn (ak) A48 rfl rfl rfl (Za rfl rfl (Zr S48 rfl rfl aB (Za rfl rfl (Exec.gtr rfl rfl rfl (Za rfl rfl (Zm (v := Value.bool (decide (256 < (a.Changes.length : Int)))) rfl rfl ?_))))))))))
  rcases ite_some b with ⟨am, b⟩ | ⟨am, b⟩
  ·refine WL_passes 22 (by rw [am]; rfl) ?_
   refine Zb (Ze ?_)
   have df := Zu b
   subst ar
   exact ⟨s, (Zv _), (ak).f1, rfl, rfl, rfl⟩
  replace am := Zk am
  refine WL_run rfl (Zf rfl (Zx am)) rfl (Zp F51_1 rfl rfl rfl (WL_run rfl (Zf rfl (Zx am)) rfl (Zn (ak) A3 rfl rfl rfl (WL_run rfl (Zf rfl (Zx am)) rfl (Zq rfl rfl rfl ?_)))))
  refine WL_passes 2 (by rw [am]; rfl) ?_
  rcases ite_some b with ⟨an, b⟩ | ⟨an, b⟩
  ·refine WL_passes 17 (by rw [an]; rfl) ?_
   refine Zb (Ze ?_)
   have dg := Zu b
   subst ar
   exact ⟨s, (Zv _), (ak).f1, rfl, rfl, rfl⟩
  replace an := Zk an
  refine WL_run rfl (Zf rfl (Zx an)) rfl (Zp F51_1 rfl rfl rfl (WL_run rfl (Zf rfl (Zx an)) rfl (Zn (ak) A3 rfl rfl rfl (WL_run rfl (Zf rfl (Zx an)) rfl (Exec.gtr rfl rfl rfl ?_)))))
  refine WL_passes 2 (by rw [an]; rfl) ?_
  rcases ite_some b with ⟨af, b⟩ | ⟨af, b⟩
  ·refine WL_passes 12 (by rw [af]; rfl) ?_
   refine Zb (Ze ?_)
   have dh := Zu b
   subst ar
   exact ⟨s, (Zv _), (ak).f1, rfl, rfl, rfl⟩
  replace af := Zk af
  refine WL_run rfl (Zf rfl (Zx af)) rfl (Zp F51_0 rfl rfl rfl (WL_run rfl (Zf rfl (Zx af)) rfl (Zn (ak) A9 rfl rfl rfl ?_)))
  obtain ⟨ek, cF, b⟩ := Zg b
  refine WL_run rfl (Zf rfl (Zx af)) rfl (Tc rfl rfl rfl (Zi rfl args_nil) (ground_named_sim cF ak ).r ?_)
  rintro _ dR ⟨cP, ab, aC, rfl⟩
  refine WL_run rfl (Zf rfl (Zx af)) rfl (Exec.not rfl rfl ?_)
  refine WL_passes 2 (by rw [af]; rfl) ?_
  rcases ite_some b with ⟨z, b⟩ | ⟨z, b⟩
  ·refine WL_passes 6 (by rw [z]; rfl) ?_
   refine Zb (Ze ?_)
   have di := Zu b
   subst ar
   exact ⟨cP, ab, (aC).f1, rfl, rfl, rfl⟩
  replace z := Zk z
  refine WL_run rfl (Zf rfl (Zx z)) rfl (Exec.load_box_agg (ds := [j, l, m, n, o]) ((aC).f1) A28 rfl rfl rfl (WL_run rfl (Zf rfl (Zx z)) rfl (Zp F51_2 rfl rfl rfl (WL_run rfl (Zf rfl (Zx z)) rfl (Exec.load_box_agg (ds := [ao, ap, aq]) (aC) A47 rfl rfl rfl ?_)))))
  obtain ⟨cZ, cG, b⟩ := Zg b
  refine WL_run rfl (Zf rfl (Zx z)) rfl (Tc rfl rfl rfl (Zi rfl (Zi rfl args_nil)) (ground_condition_sim cG aC (aJ.mono ab) (aA.mono ab) (aT.mono ab) (aU.mono ab) (aV.mono ab) (b8.mono ab) (b9.mono ab) (bA.mono ab)).r ?_)
  rintro _ dS ⟨cQ, cp, bP, rfl⟩
  refine WL_run rfl (Zf rfl (Zx z)) rfl (Exec.not rfl rfl (Za rfl rfl (Exec.pick_f (v := Value.bool (!cZ)) rfl (Zx z) rfl (Zb (Ze ?_)))))
  have dj := Zu b
  subst ar
  exact ⟨cQ, (Zt ab cp), (bP).f1, rfl, rfl, rfl⟩
 intro d1 dT bJ
 obtain ⟨aG, c, aL, cw, bm, bn⟩ := bJ
 refine (Ze ?_)
 rcases ite_some hm with ⟨a0, hm⟩ | ⟨a0, hm⟩
 ·refine W_cond_t bn a0 (Zc (Zd (Za rfl rfl (Zo (v := Value.bool (false)) rfl rfl (Zb (Ze (W_ret (at_ret ?_))))))))
  have dk := Zu hm
  subst r
  refine ⟨_, ret1 rfl, ?_⟩
  exact ⟨aG, c, ((aL).drop).drop, rfl⟩
 refine W_cond_f bn a0 ?_
 replace a0 := Zk a0
 refine W_skip (Ze (Zc (Zc (Zd (Za rfl rfl (Zp F51_3 rfl bm rfl (Za rfl rfl (Zn ((aL).f1) A48 rfl rfl rfl (Za rfl rfl (Zr S48 rfl rfl (aB.mono c) (Za rfl rfl (Zm (v := Vi (0)) rfl rfl (Zb (Ze ?_))))))))))))))
 obtain ⟨aX, bD, cj, cf, cb⟩ := ctl_some hm
 refine W_mid (M := fun f' w' => ∃ s', (aX = .next s' ∨ aX = .brk s') ∧ (fun (_ : Unit) => ∃ (b0 : PHeap) , PHeap.le aG b0 ∧ St w0 b0 (Res.box g 28 [j, l, m, n, o] :: Res.box aj 51 [Value.string (a.Name), Vi (a.Cost), ao, ap, aq, ac, ad] :: H) w' ∧ f' 2 = Value.pointer (some ⟨g, 0, none⟩) ∧ f' 3 = Value.pointer (some ⟨aj, 0, none⟩) ∧ f' 38 = ac ∧ f' 39 = Vi ((a.Changes.length : Int))) s') ?_ ?_
 ·refine W_block (W_forC (fun k' s' f' w' => (fun (_ : Unit) => ∃ (b1 : PHeap) , PHeap.le aG b1 ∧ St w0 b1 (Res.box g 28 [j, l, m, n, o] :: Res.box aj 51 [Value.string (a.Name), Vi (a.Cost), ao, ap, aq, ac, ad] :: H) w' ∧ f' 2 = Value.pointer (some ⟨g, 0, none⟩) ∧ f' 3 = Value.pointer (some ⟨aj, 0, none⟩) ∧ f' 38 = ac ∧ f' 39 = Vi ((a.Changes.length : Int)) ∧ f' 40 = Vi (k' : Int)) s') bD ?_ ?_ ?_)
  ·have bQ := (aL).f1
   exact ⟨aG, (Zv _), (bQ).f1, cw, bm, rfl, rfl, rfl⟩
  ·intro bh dK aY d2 dU cd bF ah cl
   obtain ⟨aO, ai, bb, a4, aN, aE, aF, a8⟩ := bF
   refine Zc (Zd (Za rfl rfl (Zq rfl a8 aF (Zb (Ze (Zc (W_true (Zx (decide_eq_true (by omega))) (W_skip (Ze (Zc (W_block (Zc (Zd ?_)))))))))))))
   obtain ⟨a9, cH, ah⟩ := Zg ah
   refine Za rfl rfl (Exec.index_rep S48 rfl aE a8 (aB.mono (Zt c ai)) cH ?_)
   intro dc dB bB
   refine Za rfl rfl (Zw (E := encGChange) bb A58 rfl rfl rfl bB ?_)
   intro dN cI
   obtain ⟨aQ, aR, aS, rfl, bt, bu, bv⟩ := encGChange_val.1 cI
   refine Za rfl rfl (Exec.alloc (cs := [Value.slice none 0 0, Value.slice none 0 0, Value.slice none 0 0, Vi (0), Value.bool (false)]) bb Z58 rfl rfl ?_)
   intro dd dV bR
   refine Za rfl rfl (Exec.store_box (ds := [aQ, aR, aS, Vi (a9.Atom), Value.bool (a9.Add)]) (es := [aQ, aR, aS, Vi (a9.Atom), Value.bool (a9.Add)]) bR A58 rfl rfl rfl rfl (Zj (bt).one (Zj (bu).one (Zj (bv).one (Zj rfl (Zj rfl one_nil))))) (Nat.le_of_ble_eq_true rfl) rfl ?_)
   intro dW al
   refine Zb (Ze (Zc ?_))
   obtain ⟨az, y, ah⟩ := Zg ah
   refine W_mid (M := fun f' w' => (fun (az : Bool) => ∃ (b2 : PHeap) , PHeap.le aO b2 ∧ St w0 b2 (Res.box g 28 [j, l, m, n, o] :: Res.box aj 51 [Value.string (a.Name), Vi (a.Cost), ao, ap, aq, ac, ad] :: H) w' ∧ f' 2 = Value.pointer (some ⟨g, 0, none⟩) ∧ f' 3 = Value.pointer (some ⟨aj, 0, none⟩) ∧ f' 38 = ac ∧ f' 39 = Vi ((a.Changes.length : Int)) ∧ f' 40 = Vi ((bh : Int)) ∧ f' 61 = Value.bool (az)) az) ?_ ?_
   ·refine Zd (Za rfl rfl (Zp F58_1 rfl rfl rfl (Za rfl rfl (Zn (al) A3 rfl rfl rfl (Za rfl rfl (Zq rfl rfl rfl (Za rfl rfl (Zm (v := Value.bool (decide (a9.Atom < 0))) rfl rfl ?_))))))))
    rcases ite_some y with ⟨t, y⟩ | ⟨t, y⟩
    ·refine WL_passes 14 (by rw [t]; rfl) ?_
     refine Zb (Ze ?_)
     have dl := Zu y
     subst az
     exact ⟨aO, (Zv _), (((al).drop).f1).f1, a4, aN, aE, aF, a8, rfl⟩
    replace t := Zk t
    refine WL_run rfl (Zf rfl (Zx t)) rfl (Zp F58_1 rfl rfl rfl (WL_run rfl (Zf rfl (Zx t)) rfl (Zn (al) A3 rfl rfl rfl (WL_run rfl (Zf rfl (Zx t)) rfl (Zp F28_0 rfl a4 rfl (WL_run rfl (Zf rfl (Zx t)) rfl (Zn ((al).f1) A22 rfl rfl rfl (WL_run rfl (Zf rfl (Zx t)) rfl (Zr S22 rfl rfl (aJ.mono (Zt c ai)) (WL_run rfl (Zf rfl (Zx t)) rfl (Exec.geq rfl rfl rfl ?_)))))))))))
    refine WL_passes 2 (by rw [t]; rfl) ?_
    rcases ite_some y with ⟨aa, y⟩ | ⟨aa, y⟩
    ·refine WL_passes 6 (by rw [aa]; rfl) ?_
     refine Zb (Ze ?_)
     have dm := Zu y
     subst az
     exact ⟨aO, (Zv _), (((al).drop).f1).f1, a4, aN, aE, aF, a8, rfl⟩
    replace aa := Zk aa
    refine WL_run rfl (Zf rfl (Zx aa)) rfl (Exec.load_box_agg (ds := [j, l, m, n, o]) ((al).f1) A28 rfl a4 rfl (WL_run rfl (Zf rfl (Zx aa)) rfl (Zp F58_0 rfl rfl rfl (WL_run rfl (Zf rfl (Zx aa)) rfl (Exec.load_box_agg (ds := [aQ, aR, aS]) (al) A47 rfl rfl rfl ?_)))))
    obtain ⟨da, cJ, y⟩ := Zg y
    refine WL_run rfl (Zf rfl (Zx aa)) rfl (Tc rfl rfl rfl (Zi rfl (Zi rfl args_nil)) (ground_condition_sim cJ al (aJ.mono (Zt c ai)) (aA.mono (Zt c ai)) (aT.mono (Zt c ai)) (aU.mono (Zt c ai)) (aV.mono (Zt c ai)) bt bu bv).r ?_)
    rintro _ dX ⟨cR, cq, bS, rfl⟩
    refine WL_run rfl (Zf rfl (Zx aa)) rfl (Exec.not rfl rfl (Za rfl rfl (Exec.pick_f (v := Value.bool (!da)) rfl (Zx aa) rfl (Zb (Ze ?_)))))
    have dn := Zu y
    subst az
    exact ⟨cR, cq, (((bS).drop).f1).f1, a4, aN, aE, aF, a8, rfl⟩
   intro d3 dY bK
   obtain ⟨b3, bj, bc, cx, cy, cz, c0, c1, bo⟩ := bK
   refine (Ze ?_)
   rcases ite_some ah with ⟨a1, ah⟩ | ⟨a1, ah⟩
   ·refine W_cond_t bo a1 (Zc (Zd (Za rfl rfl (Zo (v := Value.bool (false)) rfl rfl (Zb (Ze (W_ret (ib_ret (at_ret (at_ret (ib_ret (at_ret (at_ret ?_)))))))))))))
    have dp := Zu ah
    subst aY
    have ch := cj _ (cl (by intro _ h; cases h))
    have dq := Zu ch
    subst r
    refine ⟨_, ret1 rfl, ?_⟩
    exact ⟨b3, (Zt (Zt c ai) bj), ((bc).drop).drop, rfl⟩
   refine W_cond_f bo a1 ?_
   replace a1 := Zk a1
   refine W_skip (ib_normal (Ze (Zd (Za rfl rfl (Exec.add rfl c1 rfl (Za rfl rfl (Zm (v := Vi (IntKind.i64.wrap ((bh : Int) + 1))) rfl rfl (Zb (Ze ?_)))))))))
   have dr := Zu ah
   subst aY
   refine ⟨_, rfl, ?_⟩; exact ⟨b3, (Zt ai bj), ((bc).f1).f1, cx, cy, cz, c0, (Eq.trans rfl (wrap_up cd (SliceRep.le (aB.mono c))))⟩
  intro dL d4 dZ bG cm
  obtain ⟨cS, cr, bT, c2, c3, c4, bp, cW⟩ := bG
  refine Zc (Zd (Za rfl rfl (Zq rfl cW bp (Zb (Ze (Zc (W_false (Zx (decide_eq_false (by omega))) (W_exit (at_exit (at_exit (ib_here (Ze ?_))))))))))))
  refine ⟨_, .inl cm, ?_⟩; exact ⟨cS, cr, ((bT).f1).f1, c2, c3, c4, bp⟩
 rintro d5 ea ⟨dM, bf, bL⟩
 have hm := bf.elim (cf _) (cb _)
 clear bf
 obtain ⟨aP, au, bU, c5, c6, dD, dE⟩ := bL
 refine (Ze (Zc (Zd (Za rfl rfl (Exec.make_bmap (k := 3) (e := 4) bU rfl ?_)))))
 intro ae eb bd
 refine Za rfl rfl (Zo (v := Value.map (some ae)) rfl rfl (Zb (Ze (Zc (Zc (Zd (Za rfl rfl (Zp F51_4 rfl c6 rfl (Za rfl rfl (Zn ((bd).f2) A49 rfl rfl rfl (Za rfl rfl (Zr S49 rfl rfl (aK.mono (Zt c au)) (Za rfl rfl (Zm (v := Vi (0)) rfl rfl (Zb (Ze ?_))))))))))))))))
 obtain ⟨aZ, bE, ck, cg, cc⟩ := ctl_some hm
 refine W_mid (M := fun f' w' => ∃ s', (aZ = .next s' ∨ aZ = .brk s') ∧ (fun (bk : BMap) => ∃ (b4 : PHeap) , PHeap.le aP b4 ∧ St w0 b4 (Res.box g 28 [j, l, m, n, o] :: Res.bmap Try.prog 3 4 ae bk :: H) w' ∧ f' 2 = Value.pointer (some ⟨g, 0, none⟩) ∧ f' 7 = Value.map (some ae) ∧ f' 65 = ad ∧ f' 66 = Vi ((a.Assigns.length : Int))) s') ?_ ?_
 ·refine W_block (W_forC (fun k' s' f' w' => (fun (aD : BMap) => ∃ (b5 : PHeap) , PHeap.le aP b5 ∧ St w0 b5 (Res.box g 28 [j, l, m, n, o] :: Res.bmap Try.prog 3 4 ae aD :: H) w' ∧ f' 2 = Value.pointer (some ⟨g, 0, none⟩) ∧ f' 7 = Value.map (some ae) ∧ f' 65 = ad ∧ f' 66 = Vi ((a.Assigns.length : Int)) ∧ f' 67 = Vi (k' : Int)) s') bE ?_ ?_ ?_)
  ·have bV := ((bd).f2).drop
   exact ⟨aP, (Zv _), (bV).f1, c5, rfl, rfl, rfl, rfl⟩
  ·intro bi aD ba d6 ec ce bH x cn
   obtain ⟨aH, a3, be, ax, a5, a6, a7, ay⟩ := bH
   refine Zc (Zd (Za rfl rfl (Zq rfl ay a7 (Zb (Ze (Zc (W_true (Zx (decide_eq_true (by omega))) (W_skip (Ze (Zc (W_block (Zc (Zd ?_)))))))))))))
   obtain ⟨p, cK, x⟩ := Zg x
   refine Za rfl rfl (Exec.index_rep S49 rfl a6 ay (aK.mono (Zt (Zt c au) a3)) cK ?_)
   intro de dC bC
   refine Za rfl rfl (Zw (E := encGAssign) be A84 rfl rfl rfl bC ?_)
   intro dO cL
   obtain ⟨aI, rfl, bw⟩ := encGAssign_val.1 cL
   refine Za rfl rfl (Exec.alloc (cs := [Vi (0), Value.string (⟨#[]⟩), Vi (0), Value.slice none 0 0]) be Z84 rfl rfl ?_)
   intro aW ed bW
   refine Za rfl rfl (Exec.store_box (ds := [Vi (p.Fluent), Value.string (p.Value.Op), Vi (p.Value.N), aI]) (es := [Vi (p.Fluent), Value.string (p.Value.Op), Vi (p.Value.N), aI]) bW A84 rfl rfl rfl rfl (Zj rfl (Zj rfl (Zj rfl (Zj (bw).one one_nil)))) (Nat.le_of_ble_eq_true rfl) rfl ?_)
   intro ee q
   refine Zb (Ze (Zc (Zc ?_)))
   obtain ⟨av, d, x⟩ := Zg x
   refine W_mid (M := fun f' w' => (fun (av : Bool) => ∃ (b6 : PHeap) , PHeap.le aH b6 ∧ St w0 b6 (Res.box g 28 [j, l, m, n, o] :: Res.bmap Try.prog 3 4 ae aD :: Res.box aW 84 [Vi (p.Fluent), Value.string (p.Value.Op), Vi (p.Value.N), aI] :: H) w' ∧ f' 2 = Value.pointer (some ⟨g, 0, none⟩) ∧ f' 7 = Value.map (some ae) ∧ f' 9 = Value.pointer (some ⟨aW, 0, none⟩) ∧ f' 65 = ad ∧ f' 66 = Vi ((a.Assigns.length : Int)) ∧ f' 67 = Vi ((bi : Int)) ∧ f' 96 = Value.bool (av)) av) ?_ ?_
   ·refine Zd (Za rfl rfl (Zp F84_0 rfl rfl rfl (Za rfl rfl (Zn (q) A3 rfl rfl rfl (Za rfl rfl (Zq rfl rfl rfl (Za rfl rfl (Zm (v := Value.bool (decide (p.Fluent < 0))) rfl rfl ?_))))))))
    rcases ite_some d with ⟨u, d⟩ | ⟨u, d⟩
    ·refine WL_passes 22 (by rw [u]; rfl) ?_
     refine Zb (Ze ?_)
     have dt := Zu d
     subst av
     exact ⟨aH, (Zv _), ((q).f2).f2, ax, a5, rfl, a6, a7, ay, rfl⟩
    replace u := Zk u
    refine WL_run rfl (Zf rfl (Zx u)) rfl (Zp F84_0 rfl rfl rfl (WL_run rfl (Zf rfl (Zx u)) rfl (Zn (q) A3 rfl rfl rfl (WL_run rfl (Zf rfl (Zx u)) rfl (Zp F28_1 rfl ax rfl (WL_run rfl (Zf rfl (Zx u)) rfl (Zn ((q).f1) A23 rfl rfl rfl (WL_run rfl (Zf rfl (Zx u)) rfl (Zr S23 rfl rfl (aA.mono (Zt (Zt c au) a3)) (WL_run rfl (Zf rfl (Zx u)) rfl (Exec.geq rfl rfl rfl ?_)))))))))))
    refine WL_passes 2 (by rw [u]; rfl) ?_
    rcases ite_some d with ⟨ag, d⟩ | ⟨ag, d⟩
    ·refine WL_passes 14 (by rw [ag]; rfl) ?_
     refine Zb (Ze ?_)
     have du := Zu d
     subst av
     exact ⟨aH, (Zv _), ((q).f2).f2, ax, a5, rfl, a6, a7, ay, rfl⟩
    replace ag := Zk ag
    refine WL_run rfl (Zf rfl (Zx ag)) rfl (Zm (v := Value.map (some ae)) rfl a5 (WL_run rfl (Zf rfl (Zx ag)) rfl (Zp F84_0 rfl rfl rfl (WL_run rfl (Zf rfl (Zx ag)) rfl (Zn (q) A3 rfl rfl rfl ?_)))))
    obtain ⟨dJ, cM, d⟩ := Zg d
    refine WL_run rfl (Zf rfl (Zx ag)) rfl (Exec.bmap_get ((q).f2) ⟨Try.underlying125, Try.underlying3, Try.underlying4⟩ Z4 rfl rfl rfl cM ?_)
    refine WL_passes 2 (by rw [ag]; rfl) ?_
    rcases ite_some d with ⟨i, d⟩ | ⟨i, d⟩
    ·refine WL_passes 8 (by rw [i]; rfl) ?_
     refine Zb (Ze ?_)
     have dv := Zu d
     subst av
     exact ⟨aH, (Zv _), ((q).f2).f2, ax, a5, rfl, a6, a7, ay, rfl⟩
    replace i := Zk i
    refine WL_run rfl (Zf rfl (Zx i)) rfl (Zp F84_1 rfl rfl rfl (WL_run rfl (Zf rfl (Zx i)) rfl (Exec.load_box_agg (ds := [Value.string (p.Value.Op), Vi (p.Value.N), aI]) (q) A82 rfl rfl rfl (WL_run rfl (Zf rfl (Zx i)) rfl (Zp F28_1 rfl ax rfl (WL_run rfl (Zf rfl (Zx i)) rfl (Zn ((q).f1) A23 rfl rfl rfl (WL_run rfl (Zf rfl (Zx i)) rfl (Zr S23 rfl rfl (aA.mono (Zt (Zt c au) a3)) ?_)))))))))
    obtain ⟨db, cN, d⟩ := Zg d
    refine WL_run rfl (Zf rfl (Zx i)) rfl (Tc rfl rfl rfl (Zi rfl (Zi rfl args_nil)) (ground_right_sim cN q bw).r ?_)
    rintro _ ef ⟨cT, ct, bX, rfl⟩
    refine WL_run rfl (Zf rfl (Zx i)) rfl (Exec.not rfl rfl (Za rfl rfl (Exec.pick_f (v := Value.bool (!db)) rfl (Zx i) rfl (Zb (Ze ?_)))))
    have dw := Zu d
    subst av
    exact ⟨cT, ct, ((bX).f2).f2, ax, a5, rfl, a6, a7, ay, rfl⟩
   intro d7 eg bM
   obtain ⟨b7, bl, aM, c7, bq, c8, c9, cA, cB, br⟩ := bM
   refine (Ze ?_)
   rcases ite_some x with ⟨a2, x⟩ | ⟨a2, x⟩
   ·refine W_cond_t br a2 (Zc (Zd (Za rfl rfl (Zo (v := Value.bool (false)) rfl rfl (Zb (Ze (W_ret (at_ret (ib_ret (at_ret (at_ret (ib_ret (at_ret (at_ret ?_))))))))))))))
    have dx := Zu x
    subst ba
    have ci := ck _ (cn (by intro _ h; cases h))
    have dy := Zu ci
    subst r
    refine ⟨_, ret1 rfl, ?_⟩
    exact ⟨b7, (Zt (Zt (Zt c au) a3) bl), (((aM).drop).drop).drop, rfl⟩
   refine W_cond_f br a2 ?_
   replace a2 := Zk a2
   refine W_skip (Ze (Zd (Za rfl rfl (Zm (v := Value.map (some ae)) rfl bq (Za rfl rfl (Zp F84_0 rfl c8 rfl (Za rfl rfl (Zn ((aM).f2) A3 rfl rfl rfl ?_))))))))
   obtain ⟨dA, cO, x⟩ := Zg x
   refine Za rfl rfl (Exec.bmap_put (aM).f1 ⟨Try.underlying125, Try.underlying3, Try.underlying4⟩ rfl rfl rfl rfl cO ?_)
   intro eh bY
   refine Zb (ib_normal (Ze (Zd (Za rfl rfl (Exec.add rfl cB rfl (Za rfl rfl (Zm (v := Vi (IntKind.i64.wrap ((bi : Int) + 1))) rfl rfl (Zb (Ze ?_)))))))))
   have dz := Zu x
   subst ba
   refine ⟨_, rfl, ?_⟩; exact ⟨b7, (Zt a3 bl), (((bY).f2).drop).f1, c7, bq, c9, cA, (Eq.trans rfl (wrap_up ce (SliceRep.le (aK.mono (Zt c au)))))⟩
  intro aD d8 ei bI co
  obtain ⟨cU, cu, bZ, cC, cD, cE, bs, cX⟩ := bI
  refine Zc (Zd (Za rfl rfl (Zq rfl cX bs (Zb (Ze (Zc (W_false (Zx (decide_eq_false (by omega))) (W_exit (at_exit (at_exit (ib_here (Ze ?_))))))))))))
  refine ⟨_, .inl co, ?_⟩; exact ⟨cU, cu, ((bZ).f1).f1, cC, cD, cE, bs⟩
 rintro d9 ej ⟨bk, bg, bN⟩
 have hm := bg.elim (cg _) (cc _)
 clear bg
 obtain ⟨cV, cv, ca, dF, dG, dH, dI⟩ := bN
 refine (Ze (Zc (Zd (Za rfl rfl (Zo (v := Value.bool (true)) rfl rfl (Zb (Ze (W_ret ?_))))))))
 have d0 := Zu hm
 subst r
 refine ⟨_, ret1 rfl, ?_⟩
 exact ⟨cV, (Zt (Zt c au) cv), ((ca).drop).drop, rfl⟩
theorem N59 : (Try.f59.name == "runtime.NumGoroutine") = false := by kernel_rfl
theorem ground_Valid_c3_sim {w0 w : World} {s : PHeap} {H : List Res} {fu : Nat} {a : GOp} {j : Ground} {b : Value} {c : Value} {d : Value} {f : Value} {g : Value} {i k : Nat} {r : Bool} (hm : ground_Valid_c3_p fu a j = some r) (hS : St w0 s (H) w) (m : SliceRep (encInt .i64) s b a.Pre.Pos) (n : SliceRep (encInt .i64) s c a.Pre.Neg) (o : SliceRep encGTest s d a.Pre.Tests) (p : SliceRep encGChange s f a.Changes) (q : SliceRep encGAssign s g a.Assigns) (t : At s i k encGround j) :
  Calls Try.prog 59 #[Value.agg #[Value.string (a.Name), Vi (a.Cost), b, c, d, f, g], Value.pointer (some ⟨i, k, none⟩)] w fun e w' => ∃ v, e = .returned v ∧ ((fun (ag : Bool) => ∃ (l : PHeap) , PHeap.le s l ∧ St w0 l (H) w' ∧ v = Value.bool (ag)) r) := by
 unfold ground_Valid_c3_p at hm
 refine calls_of_W Try.func59 rfl rfl (Zc (Zd (Za rfl rfl (Exec.box (cs := [Value.string (a.Name), Vi (a.Cost), b, c, d, f, g]) hS rfl rfl rfl ?_))))
 intro ai aq h
 refine Za rfl rfl (Zo (v := Value.bool (false)) rfl rfl (Zb (Ze (Zc (Zd (Za rfl rfl (Zw (E := encGround) h A28 rfl rfl rfl t ?_)))))))
 intro ap y
 obtain ⟨ak, al, am, an, ao, rfl, aa, ab, ac, ad, ae⟩ := encGround_val.1 y
 refine Za rfl rfl (Exec.load_box_agg (ds := [Value.string (a.Name), Vi (a.Cost), b, c, d, f, g]) (h) A51 rfl rfl rfl ?_)
 obtain ⟨ah, z, hm⟩ := Zg hm
 refine Za rfl rfl (Tc rfl rfl rfl (Zi rfl (Zi rfl args_nil)) (ground_operator_sim z h aa ab ac ad ae m n o p q).r ?_)
 rintro _ ar ⟨af, x, u, rfl⟩
 refine Za rfl rfl (Exec.not rfl rfl (Za rfl rfl (Zo (v := Value.bool (!ah)) rfl rfl (Zb (Ze (W_ret ?_))))))
 have aj := Zu hm
 subst r
 refine ⟨_, ret1 rfl, ?_⟩
 exact ⟨af, x, (u).drop, rfl⟩
theorem api_GOp__f59_90_sim {w0 w : World} {s : PHeap} {H : List Res} {fu : Nat} {l : (List GOp)} {o : Ground} {c : Value} {d i : Nat} {r : Int} (hm : api_GOp__f59_90_p fu l o = some r) (hS : St w0 s (H) w) (m : SliceRep encGOp s c l) (ah : At s d i encGround o) :
  Calls Try.prog 90 #[c, Value.func (.func 59) #[] #[Value.pointer (some ⟨d, i, none⟩)]] w fun e w' => ∃ v, e = .returned v ∧ ((fun (aD : Int) => ∃ (ad : PHeap) , PHeap.le s ad ∧ St w0 ad (H) w' ∧ v = Vi (aD)) r) := by
 unfold api_GOp__f59_90_p at hm
 refine calls_of_W Try.func90 rfl rfl (Zc (Zd (Za rfl rfl (Zo (v := Vi (0)) rfl rfl (Zb (Ze (Zc (Zc (Zd (Za rfl rfl (Zm (v := c) rfl rfl (Za rfl rfl (Zr S26 rfl rfl m (Za rfl rfl (Zm (v := Vi (0)) rfl rfl (Zb (Ze ?_)))))))))))))))))
 obtain ⟨p, aj, av, ar, ap⟩ := ctl_some hm
 refine W_mid (M := fun f' w' => ∃ s', (p = .next s' ∨ p = .brk s') ∧ (fun (_ : Unit) => ∃ (ae : PHeap) , PHeap.le s ae ∧ St w0 ae (H) w' ∧ f' 0 = c ∧ f' 1 = Value.func (.func 59) #[] #[Value.pointer (some ⟨d, i, none⟩)] ∧ f' 7 = Vi ((l.length : Int))) s') ?_ ?_
 ·refine W_block (W_forC (fun k' s' f' w' => (fun (_ : Unit) => ∃ (af : PHeap) , PHeap.le s af ∧ St w0 af (H) w' ∧ f' 0 = c ∧ f' 1 = Value.func (.func 59) #[] #[Value.pointer (some ⟨d, i, none⟩)] ∧ f' 7 = Vi ((l.length : Int)) ∧ f' 8 = Vi (k' : Int)) s') aj ?_ ?_ ?_)
  ·exact ⟨s, (Zv _), hS, rfl, rfl, rfl, rfl⟩
  ·intro b aR q aJ ba aq ak a aw
   obtain ⟨aQ, j, t, z, aa, ab, n⟩ := ak
   refine Zc (Zd (Za rfl rfl (Zq rfl n ab (Zb (Ze (Zc (W_true (Zx (decide_eq_true (by omega))) (W_skip (Ze (Zc (W_block (Zc (Zd (Za rfl rfl (Zm (v := Vi ((b : Int))) rfl n (Za rfl rfl (Zo (v := Vi ((b : Int))) rfl rfl (Zb (Ze (Zc (Zd (Za rfl rfl (Zm (v := Value.func (.func 59) #[] #[Value.pointer (some ⟨d, i, none⟩)]) rfl aa (Za rfl rfl (Zm (v := c) rfl z (Za rfl rfl (Zm (v := Vi ((b : Int))) rfl rfl ?_)))))))))))))))))))))))))))
   obtain ⟨be, a2, a⟩ := Zg a
   refine Za rfl rfl (Exec.index_rep S26 rfl rfl rfl (m.mono j) a2 ?_)
   intro aE aM ai
   refine Za rfl rfl (Zw (E := encGOp) t A51 rfl rfl rfl ai ?_)
   intro aZ a3
   obtain ⟨aU, aV, aW, aX, aY, rfl, a5, a6, a7, a8, a9⟩ := encGOp_val.1 a3
   obtain ⟨bf, a4, a⟩ := Zg a
   refine Za rfl rfl (Exec.callc rfl rfl Try.func59 rfl N59 (Zi rfl args_nil) rfl ((ground_Valid_c3_sim a4 t a5 a6 a7 a8 a9 (ah.mono j)).mono ?_))
   rintro _ bb ⟨_, rfl, ⟨ag, y, u, rfl⟩⟩
   refine ⟨_, rfl, ?_⟩
   refine Zb (Ze ?_)
   rcases ite_some a with ⟨g, a⟩ | ⟨g, a⟩
   ·refine W_cond_t rfl g (Zc (Zd (Za rfl rfl (Zm (v := Vi ((b : Int))) rfl rfl (Za rfl rfl (Zo (v := Vi ((b : Int))) rfl rfl (Zb (Ze (W_ret (ib_ret (at_ret (at_ret (ib_ret (at_ret (at_ret ?_)))))))))))))))
    have aF := Zu a
    subst q
    have au := av _ (aw (by intro _ h; cases h))
    have aG := Zu au
    subst r
    refine ⟨_, ret1 rfl, ?_⟩
    exact ⟨ag, (Zt j y), u, rfl⟩
   refine W_cond_f rfl g ?_
   replace g := Zk g
   refine W_skip (ib_normal (Ze (Zd (Za rfl rfl (Exec.add rfl n rfl (Za rfl rfl (Zm (v := Vi (IntKind.i64.wrap ((b : Int) + 1))) rfl rfl (Zb (Ze ?_)))))))))
   have aH := Zu a
   subst q
   refine ⟨_, rfl, ?_⟩; exact ⟨ag, (Zt j y), u, z, aa, ab, (Eq.trans rfl (wrap_up aq (SliceRep.le m)))⟩
  intro aS aK bc al ax
  obtain ⟨aA, ay, an, a0, a1, ac, aC⟩ := al
  refine Zc (Zd (Za rfl rfl (Zq rfl aC ac (Zb (Ze (Zc (W_false (Zx (decide_eq_false (by omega))) (W_exit (at_exit (at_exit (ib_here (Ze ?_))))))))))))
  refine ⟨_, .inl ax, ?_⟩; exact ⟨aA, ay, an, a0, a1, ac⟩
 rintro aL bd ⟨aT, x, am⟩
 have hm := x.elim (ar _) (ap _)
 clear x
 obtain ⟨aB, az, ao, aN, aO, aP⟩ := am
 refine (Ze (Zc (Zd (Za rfl rfl (Zo (v := Vi ((-1))) rfl rfl (Zb (Ze (W_ret ?_))))))))
 have aI := Zu hm
 subst r
 refine ⟨_, ret1 rfl, ?_⟩
 exact ⟨aB, az, ao, rfl⟩
theorem api_GOp__f59_sim {w0 w : World} {s : PHeap} {H : List Res} {fu : Nat} {g : (List GOp)} {d : Ground} {c : Value} {a b : Nat} {r : Bool} (hm : api_GOp__f59_p fu g d = some r) (hS : St w0 s (H) w) (h : SliceRep encGOp s c g) (i : At s a b encGround d) :
  Calls Try.prog 58 #[c, Value.func (.func 59) #[] #[Value.pointer (some ⟨a, b, none⟩)]] w fun e w' => ∃ v, e = .returned v ∧ ((fun (n : Bool) => ∃ (f : PHeap) , PHeap.le s f ∧ St w0 f (H) w' ∧ v = Value.bool (n)) r) := by
 unfold api_GOp__f59_p at hm
 refine calls_of_W Try.func58 rfl rfl (Zc (Zd (Za rfl rfl (Zo (v := Value.bool (false)) rfl rfl (Zb (Ze (Zc (Zd (Za rfl rfl (Zm (v := c) rfl rfl (Za rfl rfl (Zm (v := Value.func (.func 59) #[] #[Value.pointer (some ⟨a, b, none⟩)]) rfl rfl ?_))))))))))))
 obtain ⟨o, l, hm⟩ := Zg hm
 refine Za rfl rfl (Tc rfl rfl rfl (Zi rfl (Zi rfl args_nil)) (api_GOp__f59_90_sim l hS h i).r ?_)
 rintro _ q ⟨m, k, j, rfl⟩
 refine Za rfl rfl (Exec.geq rfl rfl rfl (Za rfl rfl (Zo (v := Value.bool (decide (0 ≤ o))) rfl rfl (Zb (Ze (W_ret ?_))))))
 have p := Zu hm
 subst r
 refine ⟨_, ret1 rfl, ?_⟩
 exact ⟨m, k, j, rfl⟩
end Go.Pw
