/-
  The walks (printed by my generator).
-/
import Derived.Test.YtjmapcjjkaffoaaGreatL29
import Derived.Test.YtjmapcjjkaffoaaGreatL27
import Derived.Test.YtjmapcjjkaffoaaGreatEq2
import Derived.Test.YtjmapcjjkaffoaaGreatEqX
set_option maxRecDepth 100000
set_option maxHeartbeats 4000000
set_option linter.unusedVariables false
namespace Go.Pw
open Go.Proofs
theorem IS46 : intStruct Tryz.prog 46 2 = true := by kernel_rfl
theorem slices_Compact_apiFact_o_sim {w0 w : World} {s : PHeap} {H : List Res} {an : (List Fact)} {a : Value} {r : Nat × (List Fact)} (hm : slices_Compact_apiFact_o_p an = some r) (hS : St w0 s (Res.arr encFact 46 a an :: H) w)  :
  Calls Tryz.prog 79 #[a] w fun e w' => ∃ v, e = .returned v ∧ ((un2 fun (bB : Nat) (bp : (List Fact)) => ∃ (aL : PHeap) (aR : Value), PHeap.le s aL ∧ St w0 aL (Res.arr encFact 46 a bp :: H) w' ∧ v = aR ∧ SubOf 2 a aR 0 bB) r) := by
 unfold slices_Compact_apiFact_o_p at hm
 refine calls_of_W Tryz.func79 rfl rfl (Zc (Zd (Za rfl rfl (Zo (v := Value.slice none 0 0) rfl rfl (Zb (Ze (Zc (Zc (Zd (Za rfl rfl (Zm (v := a) rfl rfl (Za rfl rfl (Exec.len_arr (hS) S31 rfl rfl (Za rfl rfl (Zq rfl rfl rfl (Zb (Ze ?_)))))))))))))))))
 rcases ite_some hm with ⟨q, hm⟩ | ⟨q, hm⟩
 ·refine W_cond_t rfl q (Zc (Zd (Za rfl rfl (Zm (v := a) rfl rfl (Za rfl rfl (Zo (v := a) rfl rfl (Zb (Ze (W_ret (at_ret ?_))))))))))
  have bI := Zu hm
  subst r
  refine ⟨_, ret1 rfl, ?_⟩
  exact ⟨s, a, (Zv _), hS, rfl, (Or.inl ⟨rfl, rfl, (hS).arr_shape⟩)⟩
 refine W_cond_f rfl q ?_
 replace q := Zk q
 refine W_skip (Ze (Zc (Zc (Zd (Za rfl rfl (Zo (v := Vi (1)) rfl rfl (Zb (Ze ?_))))))))
 obtain ⟨av, aZ, bn, bk, bi⟩ := ctl_some hm
 refine W_mid (M := fun f' w' => ∃ s', (av = .next s' ∨ av = .brk s') ∧ (fun (aB : Int) => ∃ (aM : PHeap) , PHeap.le s aM ∧ St w0 aM (Res.arr encFact 46 a an :: H) w' ∧ f' 0 = a ∧ f' 3 = Vi (aB)) s') ?_ ?_
 ·refine W_block (W_while (fun s' f' w' => (fun (j : Int) => ∃ (aN : PHeap) , PHeap.le s aN ∧ St w0 aN (Res.arr encFact 46 a an :: H) w' ∧ f' 0 = a ∧ f' 3 = Vi (j)) s') aZ ?_ ?_)
  ·exact ⟨s, (Zv _), hS, rfl, rfl⟩
  intro j ap bS cr bb b aA
  obtain ⟨ab, ar, aq, m, n⟩ := bb
  refine Zc (Zc (Zd (Za rfl rfl (Zm (v := Vi (j)) rfl n (Za rfl rfl (Zm (v := a) rfl m (Za rfl rfl (Exec.len_arr (aq) S31 rfl rfl (Za rfl rfl (Zq rfl rfl rfl (Zb (Ze ?_))))))))))))
  rcases ite_some b with ⟨t, b⟩ | ⟨t, b⟩
  ·refine W_cond_t rfl t (W_skip (Ze (Zc (W_block (Zc (W_dl (n0 := 10) (qs 0 10 .done) hmix (by kernel_rfl) (by kernel_rfl) ?_))))))
   have l := aq.drew
   refine DL_q rfl rfl (Zm (v := a) rfl m ⟨rfl, ?_⟩)
   refine DL_q rfl rfl (Zm (v := Vi (j)) rfl n ⟨rfl, ?_⟩)
   obtain ⟨aT, ag, b⟩ := Zg b
   obtain ⟨bX, bC, ay⟩ := (l).arr_at ag
   refine DL_q rfl rfl (Exec.index_slice S31 rfl ay rfl (idx_some ag).1 (idx_some ag).2.1 ⟨rfl, ?_⟩)
   refine DL_q rfl rfl (Exec.load_arr (F := encFact) (l) ay A46 rfl rfl rfl ag (Sub.refl _) ?_)
   intro cl bz
   obtain rfl := encFact_val.1 bz
   refine ⟨rfl, ?_⟩
   refine DL_q rfl rfl (Zm (v := a) rfl m ⟨rfl, ?_⟩)
   refine DL_q rfl rfl (Zm (v := Vi (j)) rfl n ⟨rfl, ?_⟩)
   refine DL_q rfl rfl (Exec.sub rfl rfl rfl ⟨rfl, ?_⟩)
   obtain ⟨aU, ah, b⟩ := Zg b
   obtain ⟨bY, bD, az⟩ := (l).arr_at ah
   refine DL_q rfl rfl (Exec.index_slice S31 rfl az rfl (idx_some ah).1 (idx_some ah).2.1 ⟨rfl, ?_⟩)
   refine DL_q rfl rfl (Exec.load_arr (F := encFact) (l) az A46 rfl rfl rfl ah (Sub.refl _) ?_)
   intro cm b0
   obtain rfl := encFact_val.1 b0
   refine ⟨rfl, ?_⟩
   refine DL_q rfl rfl (Exec.ints_eql (xs := [aT.Var, aT.Val]) (ys := [aU.Var, aU.Val]) IS46 rfl rfl rfl rfl rfl rfl rfl ⟨rfl, ?_⟩)
   refine DL_done (Zb (Ze ?_))
   rcases ite_some b with ⟨u, b⟩ | ⟨u, b⟩
   ·refine W_cond_t rfl u (Zc (Zd (Za rfl rfl (Zm (v := a) rfl m (Za rfl rfl (Zm (v := Vi (j)) rfl n ?_))))))
    obtain ⟨cf, ai, b⟩ := Zg b
    refine Za rfl rfl (Exec.sub_from (l) S31 rfl rfl rfl ai ?_)
    intro k ac
    refine Za rfl rfl (Zo (v := k) rfl rfl (Zb (Ze (Zc (Zc (Zd (Za rfl rfl (Zo (v := Vi (1)) rfl rfl (Zb (Ze ?_))))))))))
    obtain ⟨aw, ba, cd, bl, bj⟩ := ctl_some b
    refine W_mid (M := fun f' w' => ∃ s', (aw = .next s' ∨ aw = .brk s') ∧ (un3 fun (ad : Int) (aC : Int) (aE : (List Fact)) => ∃ (aO : PHeap) , PHeap.le ab aO ∧ St w0 aO (Res.arr encFact 46 a aE :: H) w' ∧ f' 0 = a ∧ f' 3 = Vi (ad) ∧ f' 4 = k ∧ f' 5 = Vi (aC)) s') ?_ ?_
    ·refine W_block (W_while (fun s' f' w' => (un3 fun (aa : Int) (i : Int) (aF : (List Fact)) => ∃ (aP : PHeap) , PHeap.le ab aP ∧ St w0 aP (Res.arr encFact 46 a aF :: H) w' ∧ f' 0 = a ∧ f' 3 = Vi (aa) ∧ f' 4 = k ∧ f' 5 = Vi (i)) s') ba ?_ ?_)
     ·exact ⟨ab, (Zv _), l, m, n, rfl, rfl⟩
     intro b9 ax bT cs bc c bo
     obtain ⟨aa, i, aF⟩ := b9
     replace c := un3_eq c
     obtain ⟨am, aG, a4, ae, af, o, p⟩ := bc
     refine Zc (Zc (Zd (Za rfl rfl (Zm (v := Vi (i)) rfl p (Za rfl rfl (Zm (v := k) rfl o (Za rfl rfl (Exec.len_sub S31 ac rfl rfl (Za rfl rfl (Zq rfl rfl rfl (Zb (Ze ?_))))))))))))
     rcases ite_some c with ⟨x, c⟩ | ⟨x, c⟩
     ·refine W_cond_t rfl x (W_skip (Ze (Zc (W_block (Zc (W_dl (n0 := 10) (qs 0 10 .done) hmix (by kernel_rfl) (by kernel_rfl) ?_))))))
      have g := a4.drew
      refine DL_q rfl rfl (Zm (v := k) rfl o ⟨rfl, ?_⟩)
      refine DL_q rfl rfl (Zm (v := Vi (i)) rfl p ⟨rfl, ?_⟩)
      obtain ⟨aV, aj, c⟩ := Zg c
      obtain ⟨bZ, bE, a0⟩ := (g).arr_at (idxV_some aj).2.2
      refine DL_q rfl rfl (Exec.index_sub S31 (view_some ai).1 ac a0 rfl rfl rfl (idxV_some aj).1 (idxV_some aj).2.1 ⟨rfl, ?_⟩)
      refine DL_q rfl rfl (Exec.load_arr (F := encFact) (g) a0 A46 rfl rfl rfl (idxV_some aj).2.2 (Sub.refl _) ?_)
      intro cn b1
      obtain rfl := encFact_val.1 b1
      refine ⟨rfl, ?_⟩
      refine DL_q rfl rfl (Zm (v := k) rfl o ⟨rfl, ?_⟩)
      refine DL_q rfl rfl (Zm (v := Vi (i)) rfl p ⟨rfl, ?_⟩)
      refine DL_q rfl rfl (Exec.sub rfl rfl rfl ⟨rfl, ?_⟩)
      obtain ⟨aW, ak, c⟩ := Zg c
      obtain ⟨ca, bF, a1⟩ := (g).arr_at (idxV_some ak).2.2
      refine DL_q rfl rfl (Exec.index_sub S31 (view_some ai).1 ac a1 rfl rfl rfl (idxV_some ak).1 (idxV_some ak).2.1 ⟨rfl, ?_⟩)
      refine DL_q rfl rfl (Exec.load_arr (F := encFact) (g) a1 A46 rfl rfl rfl (idxV_some ak).2.2 (Sub.refl _) ?_)
      intro co b2
      obtain rfl := encFact_val.1 b2
      refine ⟨rfl, ?_⟩
      refine DL_q rfl rfl (Exec.ints_neq (xs := [aV.Var, aV.Val]) (ys := [aW.Var, aW.Val]) IS46 rfl rfl rfl rfl rfl rfl rfl ⟨rfl, ?_⟩)
      refine DL_done (Zb (Ze ?_))
      obtain ⟨ao, d, c⟩ := Zg c
      refine W_mid (M := fun f' w' => (un2 fun (aD : Int) (aH : (List Fact)) => ∃ (aQ : PHeap) , PHeap.le am aQ ∧ St w0 aQ (Res.arr encFact 46 a aH :: H) w' ∧ f' 0 = a ∧ f' 3 = Vi (aD) ∧ f' 4 = k ∧ f' 5 = Vi (i)) ao) ?_ ?_
      ·rcases ite_some d with ⟨z, d⟩ | ⟨z, d⟩
       ·refine W_cond_t rfl z (Zc (Zd (Za rfl rfl (Zm (v := a) rfl ae (Za rfl rfl (Zm (v := Vi (aa)) rfl af (Za rfl rfl (Zm (v := k) rfl o (Za rfl rfl (Zm (v := Vi (i)) rfl p ?_))))))))))
        obtain ⟨cy, al, d⟩ := Zg d
        obtain ⟨cb, bG, a2⟩ := (g).arr_at (idxV_some al).2.2
        refine Za rfl rfl (Exec.index_sub S31 (view_some ai).1 ac a2 rfl rfl rfl (idxV_some al).1 (idxV_some al).2.1 (Za rfl rfl (Exec.load_arr (F := encFact) (g) a2 A46 rfl rfl rfl (idxV_some al).2.2 (Sub.refl _) ?_)))
        intro cp b3
        obtain rfl := encFact_val.1 b3
        obtain ⟨cz, au, d⟩ := Zg d
        obtain ⟨cc, bH, a3⟩ := (g).arr_at au
        refine Za rfl rfl (Exec.index_slice S31 rfl a3 rfl (idx_some au).1 (idx_some au).2.1 ?_)
        obtain ⟨ce, b4, d⟩ := Zg d
        refine Za rfl rfl (Exec.store_arr g a3 A46 rfl rfl rfl rfl (encFact_val.2 rfl) b4 ?_)
        intro ct bg
        refine Zb (Ze (Zd (Za rfl rfl (Zm (v := Vi (aa)) rfl af (Za rfl rfl (Exec.add rfl rfl rfl (Za rfl rfl (Zo (v := Vi (IntKind.i64.wrap (aa + 1))) rfl rfl (Zb (Ze ?_))))))))))
        have bJ := Zu d
        subst ao
        exact ⟨am, (Zv _), bg, ae, rfl, o, p⟩
       refine W_cond_f rfl z ?_
       replace z := Zk z
       refine W_skip (Ze ?_)
       have bK := Zu d
       subst ao
       exact ⟨am, (Zv _), g, ae, af, o, p⟩
      intro bU cu bd
      obtain ⟨aD, aH⟩ := ao
      replace c := un2_eq c
      obtain ⟨b6, bq, bh, bt, bu, bv, bw⟩ := bd
      refine (ib_normal (Ze (Zd (Za rfl rfl (Zm (v := Vi (i)) rfl bw (Za rfl rfl (Exec.add rfl rfl rfl (Za rfl rfl (Zo (v := Vi (IntKind.i64.wrap (i + 1))) rfl rfl (Zb (Ze ?_)))))))))))
      have bL := Zu c
      subst ax
      refine ⟨_, rfl, ?_⟩; exact ⟨b6, (Zt aG bq), bh, bt, bu, bv, rfl⟩
     refine W_cond_f rfl x ?_
     replace x := Zk x
     refine W_exit (at_exit (at_exit (ib_here (Ze ?_))))
     have bM := Zu c
     subst ax
     refine ⟨_, .inr (bo (by intro _ h; cases h)), ?_⟩; exact ⟨am, aG, a4, ae, af, o, p⟩
    rintro bV cv ⟨bA, a8, be⟩
    have b := a8.elim (bl _) (bj _)
    clear a8
    obtain ⟨ad, aC, aE⟩ := bA
    replace b := un3_eq b
    obtain ⟨b7, br, a5, aI, aJ, ci, cj⟩ := be
    refine (Ze (Zc (Zd (Za rfl rfl (Zm (v := a) rfl aI (Za rfl rfl (Zm (v := Vi (ad)) rfl aJ ?_)))))))
    obtain ⟨cg, aK, b⟩ := Zg b
    refine Za rfl rfl (Exec.sub_from (a5) S31 rfl rfl rfl aK ?_)
    intro cq aX
    refine Za rfl rfl (Exec.clear_sub (E := encFact) (y := (⟨0, 0⟩ : Fact)) a5 aX (view_some aK).2.2.2.2.2 S31 Z46 ⟨[Vi (0)], [Vi (0)], rfl, rfl, rfl⟩ rfl rfl ?_)
    intro cw a6
    refine Zb (Ze (Zc (Zd (Za rfl rfl (Zm (v := a) rfl aI (Za rfl rfl (Zm (v := Vi (ad)) rfl aJ ?_)))))))
    obtain ⟨ch, b5, b⟩ := Zg b
    refine Za rfl rfl (Exec.sub_to (a6) S31 rfl rfl rfl b5 ?_)
    intro aS aY
    refine Za rfl rfl (Zo (v := aS) rfl rfl (Zb (Ze (W_ret (ib_ret (at_ret (at_ret (ib_ret (at_ret (at_ret ?_))))))))))
    have bN := Zu b
    subst ap
    have bm := bn _ (aA (by intro _ h; cases h))
    have bO := Zu bm
    subst r
    refine ⟨_, ret1 rfl, ?_⟩
    exact ⟨b7, aS, (Zt ar br), a6, rfl, aY⟩
   refine W_cond_f rfl u ?_
   replace u := Zk u
   refine W_skip (ib_normal (Ze (Zd (Za rfl rfl (Zm (v := Vi (j)) rfl n (Za rfl rfl (Exec.add rfl rfl rfl (Za rfl rfl (Zo (v := Vi (IntKind.i64.wrap (j + 1))) rfl rfl (Zb (Ze ?_)))))))))))
   have bP := Zu b
   subst ap
   refine ⟨_, rfl, ?_⟩; exact ⟨ab, ar, l, m, rfl⟩
  refine W_cond_f rfl t ?_
  replace t := Zk t
  refine W_exit (at_exit (at_exit (ib_here (Ze ?_))))
  have bQ := Zu b
  subst ap
  refine ⟨_, .inr (aA (by intro _ h; cases h)), ?_⟩; exact ⟨ab, ar, aq, m, n⟩
 rintro bW cx ⟨aB, a9, bf⟩
 have hm := a9.elim (bk _) (bi _)
 clear a9
 obtain ⟨b8, bs, a7, bx, ck⟩ := bf
 refine (Ze (Zc (Zd (Za rfl rfl (Zm (v := a) rfl bx (Za rfl rfl (Zo (v := a) rfl rfl (Zb (Ze (W_ret ?_))))))))))
 have bR := Zu hm
 subst r
 refine ⟨_, ret1 rfl, ?_⟩
 exact ⟨b8, a, bs, a7, rfl, (Or.inl ⟨rfl, rfl, (a7).arr_shape⟩)⟩
theorem encode_encoder_facts_sim {w0 w : World} {s : PHeap} {H : List Res} {a : encode_encoder} {af : Cond} {a2 : (List Int)} {bm : (List Int)} {aR : (List Fact)} {l : Nat} {t : Value} {u : Value} {x : Value} {y : Value} {z : Value} {b : Value} {d : Value} {i : Value} {j : Value} {ap : Value} {aq : Value} {az : Value} {ah : Value} {ar : Value} {a8 : Value} {r : (List Fact) × Bool} (hm : encode_encoder_facts_p a af a2 bm aR = some r) (hS : St w0 s (Res.box l 66 [t, u, x, y, z, b, d, i, j] :: Res.arr (encInt .i64) 3 b a.vars :: Res.arr encFact 46 d a.atoms :: Res.arr encBool 4 i a.grouped :: Res.arr (encInt .i64) 3 j a.fluents :: H) w) (cY : SliceRep encAtom s t a.g.Atoms) (cZ : SliceRep encGFluent s u a.g.Fluents) (da : SliceRep (encInt .i64) s x a.g.Init) (db : SliceRep encCond s y a.g.Goal) (dc : SliceRep encGOp s z a.g.Ops) (a0 : SliceRep (encInt .i64) s ap af.Pos) (a1 : SliceRep (encInt .i64) s aq af.Neg) (dd : SliceRep encGTest s az af.Tests) (aB : SliceRep (encInt .i64) s ah a2) (de : SliceRep (encInt .i64) s ar bm) (br : SliceRep encFact s a8 aR) :
  Calls Tryz.prog 53 #[Value.pointer (some ⟨l, 0, none⟩), Value.agg #[ap, aq, az], ah, ar, a8] w fun e w' => ∃ v, e = .returned v ∧ ((un2 fun (cW : (List Fact)) (cX : Bool) => ∃ (a6 : PHeap) (bi : Value), PHeap.le s a6 ∧ St w0 a6 (Res.box l 66 [t, u, x, y, z, b, d, i, j] :: Res.arr (encInt .i64) 3 b a.vars :: Res.arr encFact 46 d a.atoms :: Res.arr encBool 4 i a.grouped :: Res.arr (encInt .i64) 3 j a.fluents :: H) w' ∧ v = Value.tuple #[bi, Value.bool (cX)] ∧ SliceRep encFact a6 bi cW) r) := by
 unfold encode_encoder_facts_p at hm
 refine calls_of_W Tryz.func53 rfl rfl (Zc (Zd (Za rfl rfl (Exec.box (cs := [ap, aq, az]) hS rfl rfl rfl ?_))))
 intro aC ea b8
 refine Za rfl rfl (Zo (v := Value.slice none 0 0) rfl rfl (Za rfl rfl (Zo (v := Value.bool (false)) rfl rfl (Zb (Ze (Zc (Zd (Za rfl rfl (Zm (v := a8) rfl rfl ?_)))))))))
 obtain ⟨er, cz, hm⟩ := Zg hm
 refine Za rfl rfl (Tc rfl rfl rfl (Zi rfl args_nil) (slices_Clone_apiFact_sim cz b8 br).r ?_)
 rintro bj eb ⟨aZ, _, o, aJ, rfl⟩
 refine Za rfl rfl (Zo (v := bj) rfl rfl (Zb (Ze (Zc (Zc (Zd (Za rfl rfl (Zp F84_0 rfl rfl rfl (Za rfl rfl (Zn ((aJ).f1) A24 rfl rfl rfl (Za rfl rfl (Zr S24 rfl rfl (a0.mono o) (Za rfl rfl (Zm (v := Vi (0)) rfl rfl (Zb (Ze ?_))))))))))))))))
 obtain ⟨a4, bv, hm⟩ := Zg hm
 refine W_block (W_forS (fun k' s' f' w' => (fun (a4 : (List Fact)) => ∃ (ba : PHeap) (ai : Value), PHeap.le aZ ba ∧ St w0 ba (Res.box l 66 [t, u, x, y, z, b, d, i, j] :: Res.arr (encInt .i64) 3 b a.vars :: Res.arr encFact 46 d a.atoms :: Res.arr encBool 4 i a.grouped :: Res.arr (encInt .i64) 3 j a.fluents :: Res.box aC 84 [ap, aq, az] :: Res.arr encFact 46 ai a4 :: H) w' ∧ f' 0 = Value.pointer (some ⟨l, 0, none⟩) ∧ f' 2 = ah ∧ f' 3 = ar ∧ f' 6 = Value.pointer (some ⟨aC, 0, none⟩) ∧ f' 12 = ai ∧ f' 23 = ap ∧ f' 24 = Vi ((af.Pos.length : Int)) ∧ f' 25 = Vi (k' : Int)) s') bv ?_ ?_ ?_)
 ·have b9 := (aJ).f1
  exact ⟨aZ, bj, (Zv _), (((((b9).f6).f6).f6).f6).f6, rfl, rfl, rfl, rfl, rfl, rfl, rfl, rfl⟩
 ·intro bU a4 cH du ec bQ b0 ac
  obtain ⟨cI, ai, aN, aj, aS, cc, cd, ce, cf, aT, aU, a9⟩ := b0
  refine Zc (Zd (Za rfl rfl (Zq rfl a9 aU (Zb (Ze (Zc (W_true (Zx (decide_eq_true (by omega))) (W_skip (Ze (Zc (W_block (Zc (Zd ?_)))))))))))))
  obtain ⟨bn, c0, ac⟩ := Zg ac
  refine Za rfl rfl (Exec.index_rep S24 rfl aT a9 (a0.mono (Zt o aN)) c0 ?_)
  intro df dC bs
  refine Za rfl rfl (Zw (E := (encInt .i64)) aj A3 rfl rfl rfl bs ?_)
  intro dW c1
  obtain rfl := encInt_val.1 c1
  refine Za rfl rfl (Zo (v := Vi (bn)) rfl rfl (Zb (Ze (Zd (Za rfl rfl (Zm (v := ai) rfl cf (Za rfl rfl (Zm (v := Value.pointer (some ⟨l, 0, none⟩)) rfl aS (Za rfl rfl (Exec.nilCheck_ptr rfl rfl (Za rfl rfl (Zp F66_2 rfl rfl rfl (Za rfl rfl (Zn (aj) A31 rfl rfl rfl (Za rfl rfl (Zm (v := Vi (bn)) rfl rfl ?_))))))))))))))))
  obtain ⟨q, av, ac⟩ := Zg ac
  obtain ⟨d2, dk, aF⟩ := ((aj).f2).arr_at av
  refine Za rfl rfl (Exec.index_slice S31 rfl aF rfl (idx_some av).1 (idx_some av).2.1 (Za rfl rfl (Exec.load_arr (F := encFact) ((aj).f2) aF A46 rfl rfl rfl av (Sub.refl _) ?_)))
  intro dX c2
  obtain rfl := encFact_val.1 c2
  refine Za rfl rfl (Exec.buildSlice (Te := 46) (cs := [Vi (q.Var), Vi (q.Val)]) aj rfl (parts_cons (c := [Vi (q.Var), Vi (q.Val)]) (cells_of rfl rfl) parts_nil) (fun _ => by kernel_rfl) ?_)
  intro dg ed bA
  obtain ⟨d9, c3, ac⟩ := Zg ac
  refine Za rfl rfl (Exec.append_box (E := encFact) (ys := [q]) (bA).f7 S31 Z46 rfl (by decide) rfl rfl rfl rfl ⟨[Vi (q.Var), Vi (q.Val)], [], rfl, ⟨[Vi (q.Var)], [Vi (q.Val)], rfl, rfl, rfl⟩, rfl⟩ rfl c3 ?_)
  intro bk ee bB
  refine Za rfl rfl (Zo (v := bk) rfl rfl (Zb (ib_normal (Ze (Zd (Za rfl rfl (Exec.add rfl a9 rfl (Za rfl rfl (Zm (v := Vi (IntKind.i64.wrap ((bU : Int) + 1))) rfl rfl (Zb (Ze ?_)))))))))))
  have dp := Zu ac
  subst cH
  exact ⟨cI, bk, aN, ((((((bB).f6).f6).f6).f6).f6).f6, aS, cc, cd, ce, rfl, aT, aU, (Eq.trans rfl (wrap_up bQ (SliceRep.le (a0.mono o))))⟩
 intro dv ef b1
 obtain ⟨bb, ai, ag, aK, cg, ch, ci, cj, ck, dF, cl, cQ⟩ := b1
 refine Zc (Zd (Za rfl rfl (Zq rfl cQ cl (Zb (Ze (Zc (W_false (Zx (decide_eq_false (by omega))) (W_exit (at_exit (at_exit (ib_here (Ze (Zc (Zc (Zd (Za rfl rfl (Zp F84_1 rfl cj rfl (Za rfl rfl (Zn ((aK).f5) A24 rfl rfl rfl (Za rfl rfl (Zr S24 rfl rfl (a1.mono (Zt o ag)) (Za rfl rfl (Zm (v := Vi (0)) rfl rfl (Zb (Ze ?_)))))))))))))))))))))))))
 obtain ⟨au, bw, hm⟩ := Zg hm
 refine W_block (W_forS (fun k' s' f' w' => (fun (au : (List Fact)) => ∃ (bc : PHeap) (p : Value), PHeap.le bb bc ∧ St w0 bc (Res.box l 66 [t, u, x, y, z, b, d, i, j] :: Res.arr (encInt .i64) 3 b a.vars :: Res.arr encFact 46 d a.atoms :: Res.arr encBool 4 i a.grouped :: Res.arr (encInt .i64) 3 j a.fluents :: Res.arr encFact 46 p au :: H) w' ∧ f' 0 = Value.pointer (some ⟨l, 0, none⟩) ∧ f' 2 = ah ∧ f' 3 = ar ∧ f' 12 = p ∧ f' 41 = aq ∧ f' 42 = Vi ((af.Neg.length : Int)) ∧ f' 43 = Vi (k' : Int)) s') bw ?_ ?_ ?_)
 ·have bC := ((aK).f5).drop
  exact ⟨bb, ai, (Zv _), ((((((bC).f5).f5).f5).f5).f5).f5, cg, ch, ci, ck, rfl, rfl, rfl⟩
 ·intro bV au cJ dw eg bR b2 ad
  obtain ⟨cK, p, aO, ak, aV, cm, cn, co, aW, aX, aA⟩ := b2
  refine Zc (Zd (Za rfl rfl (Zq rfl aA aX (Zb (Ze (Zc (W_true (Zx (decide_eq_true (by omega))) (W_skip (Ze (Zc (W_block (Zc (Zd ?_)))))))))))))
  obtain ⟨bo, c4, ad⟩ := Zg ad
  refine Za rfl rfl (Exec.index_rep S24 rfl aW aA (a1.mono (Zt (Zt o ag) aO)) c4 ?_)
  intro dh dD bt
  refine Za rfl rfl (Zw (E := (encInt .i64)) ak A3 rfl rfl rfl bt ?_)
  intro dY c5
  obtain rfl := encInt_val.1 c5
  refine Za rfl rfl (Zo (v := Vi (bo)) rfl rfl (Zb (Ze (Zd (Za rfl rfl (Zm (v := p) rfl co (Za rfl rfl (Zm (v := Value.pointer (some ⟨l, 0, none⟩)) rfl aV (Za rfl rfl (Exec.nilCheck_ptr rfl rfl (Za rfl rfl (Zp F66_2 rfl rfl rfl (Za rfl rfl (Zn (ak) A31 rfl rfl rfl (Za rfl rfl (Zm (v := Vi (bo)) rfl rfl ?_))))))))))))))))
  obtain ⟨aa, aw, ad⟩ := Zg ad
  obtain ⟨d3, dl, aG⟩ := ((ak).f2).arr_at aw
  refine Za rfl rfl (Exec.index_slice S31 rfl aG rfl (idx_some aw).1 (idx_some aw).2.1 (Za rfl rfl (Zp F46_0 rfl rfl rfl (Za rfl rfl (Exec.load_arr (F := (encInt .i64)) ((ak).f2) aG A3 rfl rfl rfl aw (Sub.iso (Sub.fst (Sub.refl _))) ?_)))))
  intro cN c6
  obtain rfl : cN = Vi (aa.Var) := encInt_val.1 c6
  refine Za rfl rfl (Exec.build rfl (parts_cons (c := [Vi (aa.Var)]) (cells_of rfl rfl) parts_nil) (v := Value.agg #[Vi (aa.Var), Vi (0)]) (fun _ => by kernel_rfl) (Za rfl rfl (Exec.buildSlice (Te := 46) (cs := [Vi (aa.Var), Vi (0)]) ak rfl (parts_cons (c := [Vi (aa.Var), Vi (0)]) (cells_of rfl rfl) parts_nil) (fun _ => by kernel_rfl) ?_)))
  intro di eh bD
  obtain ⟨dA, c7, ad⟩ := Zg ad
  refine Za rfl rfl (Exec.append_box (E := encFact) (ys := [(⟨aa.Var, 0⟩ : Fact)]) (bD).f6 S31 Z46 rfl (by decide) rfl rfl rfl rfl ⟨[Vi (aa.Var), Vi (0)], [], rfl, ⟨[Vi (aa.Var)], [Vi (0)], rfl, rfl, rfl⟩, rfl⟩ rfl c7 ?_)
  intro bl ei bE
  refine Za rfl rfl (Zo (v := bl) rfl rfl (Zb (ib_normal (Ze (Zd (Za rfl rfl (Exec.add rfl aA rfl (Za rfl rfl (Zm (v := Vi (IntKind.i64.wrap ((bV : Int) + 1))) rfl rfl (Zb (Ze ?_)))))))))))
  have dq := Zu ad
  subst cJ
  exact ⟨cK, bl, aO, (((((bE).f5).f5).f5).f5).f5, aV, cm, cn, rfl, aW, aX, (Eq.trans rfl (wrap_up bR (SliceRep.le (a1.mono (Zt o ag)))))⟩
 intro dx ej b3
 obtain ⟨bd, p, a5, bF, cp, cq, cr, ct, dG, cu, cR⟩ := b3
 refine Zc (Zd (Za rfl rfl (Zq rfl cR cu (Zb (Ze (Zc (W_false (Zx (decide_eq_false (by omega))) (W_exit (at_exit (at_exit (ib_here (Ze (Zc (Zc (Zd (Za rfl rfl (Zm (v := ah) rfl cq (Za rfl rfl (Zr S24 rfl rfl (aB.mono (Zt (Zt o ag) a5)) (Za rfl rfl (Zm (v := Vi (0)) rfl rfl (Zb (Ze ?_)))))))))))))))))))))))
 obtain ⟨dT, bx, hm⟩ := Zg hm
 refine W_block (W_forS (fun k' s' f' w' => (fun (_ : Unit) => ∃ (be : PHeap) , PHeap.le bd be ∧ St w0 be (Res.box l 66 [t, u, x, y, z, b, d, i, j] :: Res.arr (encInt .i64) 3 b a.vars :: Res.arr encFact 46 d a.atoms :: Res.arr encBool 4 i a.grouped :: Res.arr (encInt .i64) 3 j a.fluents :: Res.arr encFact 46 p au :: H) w' ∧ f' 0 = Value.pointer (some ⟨l, 0, none⟩) ∧ f' 3 = ar ∧ f' 12 = p ∧ f' 60 = ah ∧ f' 61 = Vi ((a2.length : Int)) ∧ f' 62 = Vi (k' : Int)) s') bx ?_ ?_ ?_)
 ·have bG := (bF).f5
  exact ⟨bd, (Zv _), (((((bG).f5).f5).f5).f5).f5, cp, cr, ct, rfl, rfl, rfl⟩
 ·intro d8 dU dO dy ek d6 b4 a3
  obtain ⟨dP, bW, bH, dH, dI, dJ, cv, cw, bp⟩ := b4
  refine Zc (Zd (Za rfl rfl (Zq rfl bp cw (Zb (Ze (Zc (W_true (Zx (decide_eq_true (by omega))) (W_skip (Ze (Zc (W_block (Zc (Zd ?_)))))))))))))
  obtain ⟨cS, c8, a3⟩ := Zg a3
  refine Za rfl rfl (Exec.index_rep S24 rfl cv bp (aB.mono (Zt (Zt (Zt o ag) a5) bW)) c8 ?_)
  intro dj dE bu
  refine Za rfl rfl (Zw (E := (encInt .i64)) bH A3 rfl rfl rfl bu ?_)
  intro dZ c9
  obtain rfl := encInt_val.1 c9
  refine Za rfl rfl (Zo (v := Vi (cS)) rfl rfl (Zb (Ze ?_)))
  cases a3
 intro dz el b5
 obtain ⟨dQ, bX, bI, dK, dL, aY, dM, cx, cT⟩ := b5
 refine Zc (Zd (Za rfl rfl (Zq rfl cT cx (Zb (Ze (Zc (W_false (Zx (decide_eq_false (by omega))) (W_exit (at_exit (at_exit (ib_here (Ze (Zc (Zd (Za rfl rfl (Zm (v := p) rfl aY ?_))))))))))))))))
 obtain ⟨dB, cA, hm⟩ := Zg hm
 refine Za rfl rfl (Tc rfl rfl rfl (Zi rfl (Zi rfl args_nil)) (sortFacts_sim cA (bI).f5 ).r ?_)
 rintro _ em ⟨dR, bY, bJ, rfl⟩
 refine Zb (Ze (Zc (Zd (Za rfl rfl (Zm (v := p) rfl aY ?_)))))
 obtain ⟨cM, cB, hm⟩ := Zg hm
 obtain ⟨bq, aP⟩ := cM
 replace hm := un2_eq hm
 refine Za rfl rfl (Tc rfl rfl rfl (Zi rfl args_nil) (slices_Compact_apiFact_o_sim cB bJ ).r ?_)
 rintro n en ⟨a7, _, bZ, bK, rfl, cF⟩
 obtain ⟨dV, cC, hm⟩ := Zg hm
 have bL := (bK).arr_head cF (by simpa using must_some cC)
 refine Za rfl rfl (Zo (v := n) rfl rfl (Zb (Ze (Zc (Zc (Zd (Za rfl rfl (Zo (v := Vi (1)) rfl rfl (Zb (Ze ?_))))))))))
 obtain ⟨aD, bz, d7, bS, bP⟩ := ctl_some hm
 refine W_mid (M := fun f' w' => ∃ s', (aD = .next s' ∨ aD = .brk s') ∧ (fun (aM : Int) => ∃ (bf : PHeap) , PHeap.le a7 bf ∧ St w0 bf (Res.box l 66 [t, u, x, y, z, b, d, i, j] :: Res.arr (encInt .i64) 3 b a.vars :: Res.arr encFact 46 d a.atoms :: Res.arr encBool 4 i a.grouped :: Res.arr (encInt .i64) 3 j a.fluents :: Res.arr encFact 46 n ((aP).take bq) :: H) w' ∧ f' 12 = n ∧ f' 19 = Vi (aM)) s') ?_ ?_
 ·refine W_block (W_while (fun s' f' w' => (fun (ae : Int) => ∃ (bg : PHeap) , PHeap.le a7 bg ∧ St w0 bg (Res.box l 66 [t, u, x, y, z, b, d, i, j] :: Res.arr (encInt .i64) 3 b a.vars :: Res.arr encFact 46 d a.atoms :: Res.arr encBool 4 i a.grouped :: Res.arr (encInt .i64) 3 j a.fluents :: Res.arr encFact 46 n ((aP).take bq) :: H) w' ∧ f' 12 = n ∧ f' 19 = Vi (ae)) s') bz ?_ ?_)
  ·have bM := (bL).f5
   exact ⟨a7, (Zv _), ((((bM).f5).f5).f5).f5, rfl, rfl⟩
  intro ae aE d0 eo b6 m bT
  obtain ⟨bh, aQ, ab, an, ao⟩ := b6
  refine Zc (Zc (Zd (Za rfl rfl (Zm (v := Vi (ae)) rfl ao (Za rfl rfl (Zm (v := n) rfl an (Za rfl rfl (Exec.len_arr ((ab).f5) S31 rfl rfl (Za rfl rfl (Zq rfl rfl rfl (Zb (Ze ?_))))))))))))
  rcases ite_some m with ⟨al, m⟩ | ⟨al, m⟩
  ·refine W_cond_t rfl al (W_skip (Ze (Zc (W_block (Zc (W_dl (n0 := 12) (qs 0 12 .done) hmix (by kernel_rfl) (by kernel_rfl) (DL_q rfl rfl (Zm (v := n) rfl an ⟨rfl, ?_⟩))))))))
   refine DL_q rfl rfl (Zm (v := Vi (ae)) rfl ao ⟨rfl, ?_⟩)
   obtain ⟨cU, ax, m⟩ := Zg m
   obtain ⟨d4, dm, aH⟩ := ((ab.drew).f5).arr_at ax
   refine DL_q rfl rfl (Exec.index_slice S31 rfl aH rfl (idx_some ax).1 (idx_some ax).2.1 ⟨rfl, ?_⟩)
   refine DL_q rfl rfl (Zp F46_0 rfl rfl rfl ⟨rfl, ?_⟩)
   refine DL_q rfl rfl (Exec.load_arr (F := (encInt .i64)) ((ab.drew).f5) aH A3 rfl rfl rfl ax (Sub.iso (Sub.fst (Sub.refl _))) ?_)
   intro cO cD
   obtain rfl : cO = Vi (cU.Var) := encInt_val.1 cD
   refine ⟨rfl, ?_⟩
   refine DL_q rfl rfl (Zm (v := n) rfl an ⟨rfl, ?_⟩)
   refine DL_q rfl rfl (Zm (v := Vi (ae)) rfl ao ⟨rfl, ?_⟩)
   refine DL_q rfl rfl (Exec.sub rfl rfl rfl ⟨rfl, ?_⟩)
   obtain ⟨cV, ay, m⟩ := Zg m
   obtain ⟨d5, dn, aI⟩ := ((ab.drew).f5).arr_at ay
   refine DL_q rfl rfl (Exec.index_slice S31 rfl aI rfl (idx_some ay).1 (idx_some ay).2.1 ⟨rfl, ?_⟩)
   refine DL_q rfl rfl (Zp F46_0 rfl rfl rfl ⟨rfl, ?_⟩)
   refine DL_q rfl rfl (Exec.load_arr (F := (encInt .i64)) ((ab.drew).f5) aI A3 rfl rfl rfl ay (Sub.iso (Sub.fst (Sub.refl _))) ?_)
   intro cP cE
   obtain rfl : cP = Vi (cV.Var) := encInt_val.1 cE
   refine ⟨rfl, ?_⟩
   refine DL_q rfl rfl (Exec.eql rfl rfl rfl ⟨rfl, ?_⟩)
   refine DL_done (Zb (Ze ?_))
   rcases ite_some m with ⟨am, m⟩ | ⟨am, m⟩
   ·refine W_cond_t rfl am (Zc ?_)
    cases m
   refine W_cond_f rfl am ?_
   replace am := Zk am
   refine W_skip (ib_normal (Ze (Zd (Za rfl rfl (Zm (v := Vi (ae)) rfl ao (Za rfl rfl (Exec.add rfl rfl rfl (Za rfl rfl (Zo (v := Vi (IntKind.i64.wrap (ae + 1))) rfl rfl (Zb (Ze ?_)))))))))))
   have dr := Zu m
   subst aE
   refine ⟨_, rfl, ?_⟩; exact ⟨bh, aQ, ((((((ab.drew).f5).f5).f5).f5).f5).f5, an, rfl⟩
  refine W_cond_f rfl al ?_
  replace al := Zk al
  refine W_exit (at_exit (at_exit (ib_here (Ze ?_))))
  have ds := Zu m
  subst aE
  refine ⟨_, .inr (bT (by intro _ h; cases h)), ?_⟩; exact ⟨bh, aQ, ((((((ab).f5).f5).f5).f5).f5).f5, an, ao⟩
 rintro d1 ep ⟨aM, aL, b7⟩
 have hm := aL.elim (bS _) (bP _)
 clear aL
 obtain ⟨dS, ca, bN, cy, dN⟩ := b7
 refine (Ze (Zc (Zd (Za rfl rfl (Zm (v := n) rfl cy (Za rfl rfl (Zo (v := n) rfl rfl (Za rfl rfl (Zo (v := Value.bool (true)) rfl rfl (Zb (Ze (W_ret ?_))))))))))))
 have dt := Zu hm
 subst r
 refine ⟨_, ret2 rfl, ?_⟩
 obtain ⟨cL, cb, bO, cG⟩ := (bN).f5.freezeArr
 exact ⟨cL, n, (Zt (Zt (Zt (Zt (Zt (Zt (Zt o ag) a5) bX) bY) bZ) ca) cb), (((((bO).f4).f4).f4).f4).f4, (tup2 rfl rfl), cG⟩
theorem slices_Clone_apiFact_o_sim {w0 w : World} {s : PHeap} {H : List Res} {c : (List Fact)} {b : Value} {r : (List Fact)} (hm : slices_Clone_apiFact_o_p c = some r) (hS : St w0 s (Res.arr encFact 46 b c :: H) w)  :
  Calls Tryz.prog 76 #[b] w fun e w' => ∃ v, e = .returned v ∧ ((fun (t : (List Fact)) => ∃ (f : PHeap) (g : Value), PHeap.le s f ∧ St w0 f (Res.arr encFact 46 b c :: Res.arr encFact 46 g t :: H) w' ∧ v = g) r) := by
 unfold slices_Clone_apiFact_o_p at hm
 refine calls_of_W Tryz.func76 rfl rfl (Zc (Zd (Za rfl rfl (Zo (v := Value.slice none 0 0) rfl rfl (Zb (Ze (Zc (Zc (Zd (Za rfl rfl (Zm (v := b) rfl rfl ?_)))))))))))
 obtain ⟨i, aa, x, j, o⟩ := (hS).nilShape
 refine Za rfl rfl (Exec.slice_eql_nil Tryz.underlying31 rfl j rfl (Zb (Ze ?_)))
 by_cases a : i.isNone = true
 ·have p := o a
  replace hm := (show (some []) = ((app 16 [] c).bind fun d => some d) from by simp [p, app]).trans hm
  refine W_true ((Zx a)) (Zc (Zd (Za rfl rfl (Zo (v := Value.slice none 0 0) rfl rfl (Zb (Ze (W_ret (at_ret ?_))))))))
  have y := Zu hm
  subst r
  refine ⟨_, ret1 rfl, ?_⟩
  have k := hS.nilArr encFact 46
  exact ⟨s, (Value.slice none 0 0), (Zv _), (k).f1, rfl⟩
 replace a := Zk a
 refine W_false ((Zx a)) (W_skip (Ze (Zc (Zd (Za rfl rfl (Exec.buildSlice (Te := 46) (cs := []) hS rfl parts_nil (fun _ => by kernel_rfl) ?_))))))
 intro u ab l
 refine Za rfl rfl (Zm (v := b) rfl rfl ?_)
 have m := St.boxArr (E := encFact) (xs := []) l rfl (by simp [maxLen])
 obtain ⟨d, q, hm⟩ := Zg hm
 refine Za rfl rfl (Exec.append_arr (E := encFact) ((m).f1).f1 S31 Z46 rfl (by decide) rfl rfl rfl q ?_)
 intro h ac n
 refine Za rfl rfl (Zo (v := h) rfl rfl (Zb (Ze (W_ret ?_))))
 have z := Zu hm
 subst r
 refine ⟨_, ret1 rfl, ?_⟩
 exact ⟨s, h, (Zv _), (n).f1, rfl⟩
theorem encode_encoder_facts_o_sim {w0 w : World} {s : PHeap} {H : List Res} {a : encode_encoder} {ah : Cond} {a4 : (List Int)} {bm : (List Int)} {u : (List Fact)} {l : Nat} {x : Value} {y : Value} {z : Value} {aa : Value} {ab : Value} {b : Value} {d : Value} {i : Value} {j : Value} {ar : Value} {au : Value} {a1 : Value} {aj : Value} {av : Value} {p : Value} {r : (List Fact) × Bool} (hm : encode_encoder_facts_o_p a ah a4 bm u = some r) (hS : St w0 s (Res.box l 66 [x, y, z, aa, ab, b, d, i, j] :: Res.arr (encInt .i64) 3 b a.vars :: Res.arr encFact 46 d a.atoms :: Res.arr encBool 4 i a.grouped :: Res.arr (encInt .i64) 3 j a.fluents :: Res.arr encFact 46 p u :: H) w) (cX : SliceRep encAtom s x a.g.Atoms) (cY : SliceRep encGFluent s y a.g.Fluents) (cZ : SliceRep (encInt .i64) s z a.g.Init) (da : SliceRep encCond s aa a.g.Goal) (db : SliceRep encGOp s ab a.g.Ops) (a2 : SliceRep (encInt .i64) s ar ah.Pos) (a3 : SliceRep (encInt .i64) s au ah.Neg) (dc : SliceRep encGTest s a1 ah.Tests) (aC : SliceRep (encInt .i64) s aj a4) (dd : SliceRep (encInt .i64) s av bm) :
  Calls Tryz.prog 53 #[Value.pointer (some ⟨l, 0, none⟩), Value.agg #[ar, au, a1], aj, av, p] w fun e w' => ∃ v, e = .returned v ∧ ((un2 fun (cV : (List Fact)) (cW : Bool) => ∃ (a8 : PHeap) (bi : Value), PHeap.le s a8 ∧ St w0 a8 (Res.box l 66 [x, y, z, aa, ab, b, d, i, j] :: Res.arr (encInt .i64) 3 b a.vars :: Res.arr encFact 46 d a.atoms :: Res.arr encBool 4 i a.grouped :: Res.arr (encInt .i64) 3 j a.fluents :: Res.arr encFact 46 p u :: H) w' ∧ v = Value.tuple #[bi, Value.bool (cW)] ∧ SliceRep encFact a8 bi cV) r) := by
 unfold encode_encoder_facts_o_p at hm
 refine calls_of_W Tryz.func53 rfl rfl (Zc (Zd (Za rfl rfl (Exec.box (cs := [ar, au, a1]) hS rfl rfl rfl ?_))))
 intro aD dZ b7
 refine Za rfl rfl (Zo (v := Value.slice none 0 0) rfl rfl (Za rfl rfl (Zo (v := Value.bool (false)) rfl rfl (Zb (Ze (Zc (Zd (Za rfl rfl (Zm (v := p) rfl rfl ?_)))))))))
 obtain ⟨ep, cy, hm⟩ := Zg hm
 refine Za rfl rfl (Tc rfl rfl rfl (Zi rfl args_nil) (slices_Clone_apiFact_o_sim cy (b7).f6 ).r ?_)
 rintro bj ea ⟨aZ, _, o, aK, rfl⟩
 refine Za rfl rfl (Zo (v := bj) rfl rfl (Zb (Ze (Zc (Zc (Zd (Za rfl rfl (Zp F84_0 rfl rfl rfl (Za rfl rfl (Zn ((aK).f2) A24 rfl rfl rfl (Za rfl rfl (Zr S24 rfl rfl (a2.mono o) (Za rfl rfl (Zm (v := Vi (0)) rfl rfl (Zb (Ze ?_))))))))))))))))
 obtain ⟨a6, bu, hm⟩ := Zg hm
 refine W_block (W_forS (fun k' s' f' w' => (fun (a6 : (List Fact)) => ∃ (ba : PHeap) (ak : Value), PHeap.le aZ ba ∧ St w0 ba (Res.box l 66 [x, y, z, aa, ab, b, d, i, j] :: Res.arr (encInt .i64) 3 b a.vars :: Res.arr encFact 46 d a.atoms :: Res.arr encBool 4 i a.grouped :: Res.arr (encInt .i64) 3 j a.fluents :: Res.arr encFact 46 p u :: Res.box aD 84 [ar, au, a1] :: Res.arr encFact 46 ak a6 :: H) w' ∧ f' 0 = Value.pointer (some ⟨l, 0, none⟩) ∧ f' 2 = aj ∧ f' 3 = av ∧ f' 6 = Value.pointer (some ⟨aD, 0, none⟩) ∧ f' 12 = ak ∧ f' 23 = ar ∧ f' 24 = Vi ((ah.Pos.length : Int)) ∧ f' 25 = Vi (k' : Int)) s') bu ?_ ?_ ?_)
 ·have b8 := (aK).f1
  exact ⟨aZ, bj, (Zv _), (((((((b8).f2).f2).f7).f7).f7).f7).f7, rfl, rfl, rfl, rfl, rfl, rfl, rfl, rfl⟩
 ·intro bT a6 cG dt eb bP bz ae
  obtain ⟨cH, ak, aO, al, aS, cb, cc, cd, ce, aT, aU, aA⟩ := bz
  refine Zc (Zd (Za rfl rfl (Zq rfl aA aU (Zb (Ze (Zc (W_true (Zx (decide_eq_true (by omega))) (W_skip (Ze (Zc (W_block (Zc (Zd ?_)))))))))))))
  obtain ⟨bn, cz, ae⟩ := Zg ae
  refine Za rfl rfl (Exec.index_rep S24 rfl aT aA (a2.mono (Zt o aO)) cz ?_)
  intro de dB br
  refine Za rfl rfl (Zw (E := (encInt .i64)) al A3 rfl rfl rfl br ?_)
  intro dV c0
  obtain rfl := encInt_val.1 c0
  refine Za rfl rfl (Zo (v := Vi (bn)) rfl rfl (Zb (Ze (Zd (Za rfl rfl (Zm (v := ak) rfl ce (Za rfl rfl (Zm (v := Value.pointer (some ⟨l, 0, none⟩)) rfl aS (Za rfl rfl (Exec.nilCheck_ptr rfl rfl (Za rfl rfl (Zp F66_2 rfl rfl rfl (Za rfl rfl (Zn (al) A31 rfl rfl rfl (Za rfl rfl (Zm (v := Vi (bn)) rfl rfl ?_))))))))))))))))
  obtain ⟨t, ax, ae⟩ := Zg ae
  obtain ⟨d1, dj, aG⟩ := ((al).f2).arr_at ax
  refine Za rfl rfl (Exec.index_slice S31 rfl aG rfl (idx_some ax).1 (idx_some ax).2.1 (Za rfl rfl (Exec.load_arr (F := encFact) ((al).f2) aG A46 rfl rfl rfl ax (Sub.refl _) ?_)))
  intro dW c1
  obtain rfl := encFact_val.1 c1
  refine Za rfl rfl (Exec.buildSlice (Te := 46) (cs := [Vi (t.Var), Vi (t.Val)]) al rfl (parts_cons (c := [Vi (t.Var), Vi (t.Val)]) (cells_of rfl rfl) parts_nil) (fun _ => by kernel_rfl) ?_)
  intro df ec b9
  obtain ⟨d8, c2, ae⟩ := Zg ae
  refine Za rfl rfl (Exec.append_box (E := encFact) (ys := [t]) (b9).f8 S31 Z46 rfl (by decide) rfl rfl rfl rfl ⟨[Vi (t.Var), Vi (t.Val)], [], rfl, ⟨[Vi (t.Var)], [Vi (t.Val)], rfl, rfl, rfl⟩, rfl⟩ rfl c2 ?_)
  intro bk ed bA
  refine Za rfl rfl (Zo (v := bk) rfl rfl (Zb (ib_normal (Ze (Zd (Za rfl rfl (Exec.add rfl aA rfl (Za rfl rfl (Zm (v := Vi (IntKind.i64.wrap ((bT : Int) + 1))) rfl rfl (Zb (Ze ?_)))))))))))
  have dn := Zu ae
  subst cG
  exact ⟨cH, bk, aO, (((((((bA).f7).f7).f7).f7).f7).f7).f7, aS, cb, cc, cd, rfl, aT, aU, (Eq.trans rfl (wrap_up bP (SliceRep.le (a2.mono o))))⟩
 intro du ee b0
 obtain ⟨bb, ak, ai, aL, cf, cg, ch, ci, cj, dE, ck, cP⟩ := b0
 refine Zc (Zd (Za rfl rfl (Zq rfl cP ck (Zb (Ze (Zc (W_false (Zx (decide_eq_false (by omega))) (W_exit (at_exit (at_exit (ib_here (Ze (Zc (Zc (Zd (Za rfl rfl (Zp F84_1 rfl ci rfl (Za rfl rfl (Zn ((aL).f6) A24 rfl rfl rfl (Za rfl rfl (Zr S24 rfl rfl (a3.mono (Zt o ai)) (Za rfl rfl (Zm (v := Vi (0)) rfl rfl (Zb (Ze ?_)))))))))))))))))))))))))
 obtain ⟨aw, bv, hm⟩ := Zg hm
 refine W_block (W_forS (fun k' s' f' w' => (fun (aw : (List Fact)) => ∃ (bc : PHeap) (q : Value), PHeap.le bb bc ∧ St w0 bc (Res.box l 66 [x, y, z, aa, ab, b, d, i, j] :: Res.arr (encInt .i64) 3 b a.vars :: Res.arr encFact 46 d a.atoms :: Res.arr encBool 4 i a.grouped :: Res.arr (encInt .i64) 3 j a.fluents :: Res.arr encFact 46 p u :: Res.arr encFact 46 q aw :: H) w' ∧ f' 0 = Value.pointer (some ⟨l, 0, none⟩) ∧ f' 2 = aj ∧ f' 3 = av ∧ f' 12 = q ∧ f' 41 = au ∧ f' 42 = Vi ((ah.Neg.length : Int)) ∧ f' 43 = Vi (k' : Int)) s') bv ?_ ?_ ?_)
 ·have bB := ((aL).f6).drop
  exact ⟨bb, ak, (Zv _), (((((((bB).f6).f6).f6).f6).f6).f6).f6, cf, cg, ch, cj, rfl, rfl, rfl⟩
 ·intro bU aw cI dv ef bQ b1 af
  obtain ⟨cJ, q, aP, am, aV, cl, cm, cn, aW, aX, aB⟩ := b1
  refine Zc (Zd (Za rfl rfl (Zq rfl aB aX (Zb (Ze (Zc (W_true (Zx (decide_eq_true (by omega))) (W_skip (Ze (Zc (W_block (Zc (Zd ?_)))))))))))))
  obtain ⟨bo, c3, af⟩ := Zg af
  refine Za rfl rfl (Exec.index_rep S24 rfl aW aB (a3.mono (Zt (Zt o ai) aP)) c3 ?_)
  intro dg dC bs
  refine Za rfl rfl (Zw (E := (encInt .i64)) am A3 rfl rfl rfl bs ?_)
  intro dX c4
  obtain rfl := encInt_val.1 c4
  refine Za rfl rfl (Zo (v := Vi (bo)) rfl rfl (Zb (Ze (Zd (Za rfl rfl (Zm (v := q) rfl cn (Za rfl rfl (Zm (v := Value.pointer (some ⟨l, 0, none⟩)) rfl aV (Za rfl rfl (Exec.nilCheck_ptr rfl rfl (Za rfl rfl (Zp F66_2 rfl rfl rfl (Za rfl rfl (Zn (am) A31 rfl rfl rfl (Za rfl rfl (Zm (v := Vi (bo)) rfl rfl ?_))))))))))))))))
  obtain ⟨ac, ay, af⟩ := Zg af
  obtain ⟨d2, dk, aH⟩ := ((am).f2).arr_at ay
  refine Za rfl rfl (Exec.index_slice S31 rfl aH rfl (idx_some ay).1 (idx_some ay).2.1 (Za rfl rfl (Zp F46_0 rfl rfl rfl (Za rfl rfl (Exec.load_arr (F := (encInt .i64)) ((am).f2) aH A3 rfl rfl rfl ay (Sub.iso (Sub.fst (Sub.refl _))) ?_)))))
  intro cM c5
  obtain rfl : cM = Vi (ac.Var) := encInt_val.1 c5
  refine Za rfl rfl (Exec.build rfl (parts_cons (c := [Vi (ac.Var)]) (cells_of rfl rfl) parts_nil) (v := Value.agg #[Vi (ac.Var), Vi (0)]) (fun _ => by kernel_rfl) (Za rfl rfl (Exec.buildSlice (Te := 46) (cs := [Vi (ac.Var), Vi (0)]) am rfl (parts_cons (c := [Vi (ac.Var), Vi (0)]) (cells_of rfl rfl) parts_nil) (fun _ => by kernel_rfl) ?_)))
  intro dh eg bC
  obtain ⟨d9, c6, af⟩ := Zg af
  refine Za rfl rfl (Exec.append_box (E := encFact) (ys := [(⟨ac.Var, 0⟩ : Fact)]) (bC).f7 S31 Z46 rfl (by decide) rfl rfl rfl rfl ⟨[Vi (ac.Var), Vi (0)], [], rfl, ⟨[Vi (ac.Var)], [Vi (0)], rfl, rfl, rfl⟩, rfl⟩ rfl c6 ?_)
  intro bl eh bD
  refine Za rfl rfl (Zo (v := bl) rfl rfl (Zb (ib_normal (Ze (Zd (Za rfl rfl (Exec.add rfl aB rfl (Za rfl rfl (Zm (v := Vi (IntKind.i64.wrap ((bU : Int) + 1))) rfl rfl (Zb (Ze ?_)))))))))))
  have dp := Zu af
  subst cI
  exact ⟨cJ, bl, aP, ((((((bD).f6).f6).f6).f6).f6).f6, aV, cl, cm, rfl, aW, aX, (Eq.trans rfl (wrap_up bQ (SliceRep.le (a3.mono (Zt o ai)))))⟩
 intro dw ei b2
 obtain ⟨bd, q, a7, bE, co, cp, cq, cr, dF, ct, cQ⟩ := b2
 refine Zc (Zd (Za rfl rfl (Zq rfl cQ ct (Zb (Ze (Zc (W_false (Zx (decide_eq_false (by omega))) (W_exit (at_exit (at_exit (ib_here (Ze (Zc (Zc (Zd (Za rfl rfl (Zm (v := aj) rfl cp (Za rfl rfl (Zr S24 rfl rfl (aC.mono (Zt (Zt o ai) a7)) (Za rfl rfl (Zm (v := Vi (0)) rfl rfl (Zb (Ze ?_)))))))))))))))))))))))
 obtain ⟨dS, bw, hm⟩ := Zg hm
 refine W_block (W_forS (fun k' s' f' w' => (fun (_ : Unit) => ∃ (be : PHeap) , PHeap.le bd be ∧ St w0 be (Res.box l 66 [x, y, z, aa, ab, b, d, i, j] :: Res.arr (encInt .i64) 3 b a.vars :: Res.arr encFact 46 d a.atoms :: Res.arr encBool 4 i a.grouped :: Res.arr (encInt .i64) 3 j a.fluents :: Res.arr encFact 46 p u :: Res.arr encFact 46 q aw :: H) w' ∧ f' 0 = Value.pointer (some ⟨l, 0, none⟩) ∧ f' 3 = av ∧ f' 12 = q ∧ f' 60 = aj ∧ f' 61 = Vi ((a4.length : Int)) ∧ f' 62 = Vi (k' : Int)) s') bw ?_ ?_ ?_)
 ·have bF := (bE).f6
  exact ⟨bd, (Zv _), ((((((bF).f6).f6).f6).f6).f6).f6, co, cq, cr, rfl, rfl, rfl⟩
 ·intro d7 dT dN dx ej d5 b3 a5
  obtain ⟨dO, bV, bG, dG, dH, dI, cu, cv, bp⟩ := b3
  refine Zc (Zd (Za rfl rfl (Zq rfl bp cv (Zb (Ze (Zc (W_true (Zx (decide_eq_true (by omega))) (W_skip (Ze (Zc (W_block (Zc (Zd ?_)))))))))))))
  obtain ⟨cR, c7, a5⟩ := Zg a5
  refine Za rfl rfl (Exec.index_rep S24 rfl cu bp (aC.mono (Zt (Zt (Zt o ai) a7) bV)) c7 ?_)
  intro di dD bt
  refine Za rfl rfl (Zw (E := (encInt .i64)) bG A3 rfl rfl rfl bt ?_)
  intro dY c8
  obtain rfl := encInt_val.1 c8
  refine Za rfl rfl (Zo (v := Vi (cR)) rfl rfl (Zb (Ze ?_)))
  cases a5
 intro dy ek b4
 obtain ⟨dP, bW, bH, dJ, dK, aY, dL, cw, cS⟩ := b4
 refine Zc (Zd (Za rfl rfl (Zq rfl cS cw (Zb (Ze (Zc (W_false (Zx (decide_eq_false (by omega))) (W_exit (at_exit (at_exit (ib_here (Ze (Zc (Zd (Za rfl rfl (Zm (v := q) rfl aY ?_))))))))))))))))
 obtain ⟨dA, c9, hm⟩ := Zg hm
 refine Za rfl rfl (Tc rfl rfl rfl (Zi rfl (Zi rfl args_nil)) (sortFacts_sim c9 (bH).f6 ).r ?_)
 rintro _ el ⟨dQ, bX, bI, rfl⟩
 refine Zb (Ze (Zc (Zd (Za rfl rfl (Zm (v := q) rfl aY ?_)))))
 obtain ⟨cL, cA, hm⟩ := Zg hm
 obtain ⟨bq, aQ⟩ := cL
 replace hm := un2_eq hm
 refine Za rfl rfl (Tc rfl rfl rfl (Zi rfl args_nil) (slices_Compact_apiFact_o_sim cA bI ).r ?_)
 rintro n em ⟨a9, _, bY, bJ, rfl, cE⟩
 obtain ⟨dU, cB, hm⟩ := Zg hm
 have bK := (bJ).arr_head cE (by simpa using must_some cB)
 refine Za rfl rfl (Zo (v := n) rfl rfl (Zb (Ze (Zc (Zc (Zd (Za rfl rfl (Zo (v := Vi (1)) rfl rfl (Zb (Ze ?_))))))))))
 obtain ⟨aE, bx, d6, bR, bO⟩ := ctl_some hm
 refine W_mid (M := fun f' w' => ∃ s', (aE = .next s' ∨ aE = .brk s') ∧ (fun (aN : Int) => ∃ (bf : PHeap) , PHeap.le a9 bf ∧ St w0 bf (Res.box l 66 [x, y, z, aa, ab, b, d, i, j] :: Res.arr (encInt .i64) 3 b a.vars :: Res.arr encFact 46 d a.atoms :: Res.arr encBool 4 i a.grouped :: Res.arr (encInt .i64) 3 j a.fluents :: Res.arr encFact 46 p u :: Res.arr encFact 46 n ((aQ).take bq) :: H) w' ∧ f' 12 = n ∧ f' 19 = Vi (aN)) s') ?_ ?_
 ·refine W_block (W_while (fun s' f' w' => (fun (ag : Int) => ∃ (bg : PHeap) , PHeap.le a9 bg ∧ St w0 bg (Res.box l 66 [x, y, z, aa, ab, b, d, i, j] :: Res.arr (encInt .i64) 3 b a.vars :: Res.arr encFact 46 d a.atoms :: Res.arr encBool 4 i a.grouped :: Res.arr (encInt .i64) 3 j a.fluents :: Res.arr encFact 46 p u :: Res.arr encFact 46 n ((aQ).take bq) :: H) w' ∧ f' 12 = n ∧ f' 19 = Vi (ag)) s') bx ?_ ?_)
  ·have bL := (bK).f6
   exact ⟨a9, (Zv _), (((((bL).f6).f6).f6).f6).f6, rfl, rfl⟩
  intro ag aF dz en b5 m bS
  obtain ⟨bh, aR, ad, ap, aq⟩ := b5
  refine Zc (Zc (Zd (Za rfl rfl (Zm (v := Vi (ag)) rfl aq (Za rfl rfl (Zm (v := n) rfl ap (Za rfl rfl (Exec.len_arr ((ad).f6) S31 rfl rfl (Za rfl rfl (Zq rfl rfl rfl (Zb (Ze ?_))))))))))))
  rcases ite_some m with ⟨an, m⟩ | ⟨an, m⟩
  ·refine W_cond_t rfl an (W_skip (Ze (Zc (W_block (Zc (W_dl (n0 := 12) (qs 0 12 .done) hmix (by kernel_rfl) (by kernel_rfl) (DL_q rfl rfl (Zm (v := n) rfl ap ⟨rfl, ?_⟩))))))))
   refine DL_q rfl rfl (Zm (v := Vi (ag)) rfl aq ⟨rfl, ?_⟩)
   obtain ⟨cT, az, m⟩ := Zg m
   obtain ⟨d3, dl, aI⟩ := ((ad.drew).f6).arr_at az
   refine DL_q rfl rfl (Exec.index_slice S31 rfl aI rfl (idx_some az).1 (idx_some az).2.1 ⟨rfl, ?_⟩)
   refine DL_q rfl rfl (Zp F46_0 rfl rfl rfl ⟨rfl, ?_⟩)
   refine DL_q rfl rfl (Exec.load_arr (F := (encInt .i64)) ((ad.drew).f6) aI A3 rfl rfl rfl az (Sub.iso (Sub.fst (Sub.refl _))) ?_)
   intro cN cC
   obtain rfl : cN = Vi (cT.Var) := encInt_val.1 cC
   refine ⟨rfl, ?_⟩
   refine DL_q rfl rfl (Zm (v := n) rfl ap ⟨rfl, ?_⟩)
   refine DL_q rfl rfl (Zm (v := Vi (ag)) rfl aq ⟨rfl, ?_⟩)
   refine DL_q rfl rfl (Exec.sub rfl rfl rfl ⟨rfl, ?_⟩)
   obtain ⟨cU, a0, m⟩ := Zg m
   obtain ⟨d4, dm, aJ⟩ := ((ad.drew).f6).arr_at a0
   refine DL_q rfl rfl (Exec.index_slice S31 rfl aJ rfl (idx_some a0).1 (idx_some a0).2.1 ⟨rfl, ?_⟩)
   refine DL_q rfl rfl (Zp F46_0 rfl rfl rfl ⟨rfl, ?_⟩)
   refine DL_q rfl rfl (Exec.load_arr (F := (encInt .i64)) ((ad.drew).f6) aJ A3 rfl rfl rfl a0 (Sub.iso (Sub.fst (Sub.refl _))) ?_)
   intro cO cD
   obtain rfl : cO = Vi (cU.Var) := encInt_val.1 cD
   refine ⟨rfl, ?_⟩
   refine DL_q rfl rfl (Exec.eql rfl rfl rfl ⟨rfl, ?_⟩)
   refine DL_done (Zb (Ze ?_))
   rcases ite_some m with ⟨ao, m⟩ | ⟨ao, m⟩
   ·refine W_cond_t rfl ao (Zc ?_)
    cases m
   refine W_cond_f rfl ao ?_
   replace ao := Zk ao
   refine W_skip (ib_normal (Ze (Zd (Za rfl rfl (Zm (v := Vi (ag)) rfl aq (Za rfl rfl (Exec.add rfl rfl rfl (Za rfl rfl (Zo (v := Vi (IntKind.i64.wrap (ag + 1))) rfl rfl (Zb (Ze ?_)))))))))))
   have dq := Zu m
   subst aF
   refine ⟨_, rfl, ?_⟩; exact ⟨bh, aR, (((((((ad.drew).f6).f6).f6).f6).f6).f6).f6, ap, rfl⟩
  refine W_cond_f rfl an ?_
  replace an := Zk an
  refine W_exit (at_exit (at_exit (ib_here (Ze ?_))))
  have dr := Zu m
  subst aF
  refine ⟨_, .inr (bS (by intro _ h; cases h)), ?_⟩; exact ⟨bh, aR, (((((((ad).f6).f6).f6).f6).f6).f6).f6, ap, aq⟩
 rintro d0 eo ⟨aN, aM, b6⟩
 have hm := aM.elim (bR _) (bO _)
 clear aM
 obtain ⟨dR, bZ, bM, cx, dM⟩ := b6
 refine (Ze (Zc (Zd (Za rfl rfl (Zm (v := n) rfl cx (Za rfl rfl (Zo (v := n) rfl rfl (Za rfl rfl (Zo (v := Value.bool (true)) rfl rfl (Zb (Ze (W_ret ?_))))))))))))
 have ds := Zu hm
 subst r
 refine ⟨_, ret2 rfl, ?_⟩
 obtain ⟨cK, ca, bN, cF⟩ := (bM).f6.freezeArr
 exact ⟨cK, n, (Zt (Zt (Zt (Zt (Zt (Zt (Zt o ai) a7) bW) bX) bY) bZ) ca), ((((((bN).f5).f5).f5).f5).f5).f5, (tup2 rfl rfl), cF⟩
theorem S118 : tySlice Tryz.prog 118 = some (31, 1, 24) := by kernel_rfl
theorem Z31 : tyZero Tryz.prog 31 = some (Value.slice none 0 0) := by kernel_rfl
theorem encode_encoder_cases_o_sim {w0 w : World} {s : PHeap} {H : List Res} {a : encode_encoder} {ap : Cond} {aF : (List Int)} {aT : (List Int)} {ae : (List Fact)} {l : Nat} {ah : Value} {ai : Value} {aj : Value} {ak : Value} {al : Value} {n : Value} {o : Value} {p : Value} {q : Value} {y : Value} {z : Value} {aa : Value} {aC : Value} {aD : Value} {t : Value} {r : (List (List Fact))} (hm : encode_encoder_cases_o_p a ap aF aT ae = some r) (hS : St w0 s (Res.box l 66 [ah, ai, aj, ak, al, n, o, p, q] :: Res.arr (encInt .i64) 3 n a.vars :: Res.arr encFact 46 o a.atoms :: Res.arr encBool 4 p a.grouped :: Res.arr (encInt .i64) 3 q a.fluents :: Res.arr encFact 46 t ae :: H) w) (az : SliceRep encAtom s ah a.g.Atoms) (a0 : SliceRep encGFluent s ai a.g.Fluents) (a1 : SliceRep (encInt .i64) s aj a.g.Init) (a2 : SliceRep encCond s ak a.g.Goal) (a3 : SliceRep encGOp s al a.g.Ops) (aV : SliceRep (encInt .i64) s y ap.Pos) (aW : SliceRep (encInt .i64) s z ap.Neg) (a4 : SliceRep encGTest s aa ap.Tests) (aX : SliceRep (encInt .i64) s aC aF) (aY : SliceRep (encInt .i64) s aD aT) :
  Calls Tryz.prog 55 #[Value.pointer (some ⟨l, 0, none⟩), Value.agg #[y, z, aa], aC, aD, t] w fun e w' => ∃ v, e = .returned v ∧ ((fun (bF : (List (List Fact))) => ∃ (aA : PHeap) (aQ : Value), PHeap.le s aA ∧ St w0 aA (Res.box l 66 [ah, ai, aj, ak, al, n, o, p, q] :: Res.arr (encInt .i64) 3 n a.vars :: Res.arr encFact 46 o a.atoms :: Res.arr encBool 4 p a.grouped :: Res.arr (encInt .i64) 3 q a.fluents :: Res.arr encFact 46 t ae :: H) w' ∧ v = aQ ∧ SliceRep (encSlice encFact) aA aQ bF) r) := by
 unfold encode_encoder_cases_o_p at hm
 refine calls_of_W Tryz.func55 rfl rfl (Zc (Zd (Za rfl rfl (Exec.box (cs := [y, z, aa]) hS rfl rfl rfl ?_))))
 intro ao cb aG
 refine Za rfl rfl (Zo (v := Value.slice none 0 0) rfl rfl (Zb (Ze (Zc (Zd (Za rfl rfl (Zp F84_2 rfl rfl rfl (Za rfl rfl (Zn (aG) A82 rfl rfl rfl (Za rfl rfl (Zm (v := aC) rfl rfl ?_)))))))))))
 obtain ⟨cl, b1, hm⟩ := Zg hm
 refine Za rfl rfl (Tc rfl rfl rfl (Zi rfl (Zi rfl args_nil)) (encode_tested_sim b1 aG a4 aX).r ?_)
 rintro am cc ⟨bY, _, b, be, rfl, aJ⟩
 refine Za rfl rfl (Zo (v := am) rfl rfl (Zb (Ze (Zc (Zd (Za rfl rfl (Zo (v := Value.slice none 0 0) rfl rfl (Zb (Ze (Zc (Zc (Zd (Za rfl rfl (Zm (v := Value.pointer (some ⟨l, 0, none⟩)) rfl rfl (Za rfl rfl (Zm (v := am) rfl rfl (Za rfl rfl (Zm (v := aD) rfl rfl ?_))))))))))))))))))
 obtain ⟨aU, b2, hm⟩ := Zg hm
 refine Za rfl rfl (Tc rfl rfl rfl (Zi rfl (Zi rfl (Zi rfl args_nil))) (encode_encoder_assignments_sim b2 (((((be).f5).f5).f5).f5).f5 (az.mono b) (a0.mono b) (a1.mono b) (a2.mono b) (a3.mono b) aJ (aY.mono b)).r ?_)
 rintro aR cd ⟨aM, _, h, bf, rfl, aw⟩
 refine Za rfl rfl (Zr S41 rfl rfl aw (Za rfl rfl (Zm (v := Vi (0)) rfl rfl (Zb (Ze ?_)))))
 obtain ⟨a8, ba, hm⟩ := Zg hm
 refine W_block (W_forS (fun k' s' f' w' => (fun (a8 : (List (List Fact))) => ∃ (aN : PHeap) (m : Value), PHeap.le aM aN ∧ St w0 aN (Res.box l 66 [ah, ai, aj, ak, al, n, o, p, q] :: Res.arr (encInt .i64) 3 n a.vars :: Res.arr encFact 46 o a.atoms :: Res.arr encBool 4 p a.grouped :: Res.arr (encInt .i64) 3 q a.fluents :: Res.arr encFact 46 t ae :: Res.box ao 84 [y, z, aa] :: Res.arr (encSlice encFact) 31 m a8 :: H) w' ∧ f' 0 = Value.pointer (some ⟨l, 0, none⟩) ∧ f' 4 = t ∧ f' 6 = Value.pointer (some ⟨ao, 0, none⟩) ∧ f' 11 = am ∧ f' 12 = m ∧ f' 24 = aR ∧ f' 25 = Vi ((aU.length : Int)) ∧ f' 26 = Vi (k' : Int)) s') ba ?_ ?_ ?_)
 ·have bg := bf.nilArr (encSlice encFact) 31
  exact ⟨aM, (Value.slice none 0 0), (Zv _), (((((((bg).f6).f7).f7).f7).f7).f7).f7, rfl, rfl, rfl, rfl, rfl, rfl, rfl, rfl⟩
 ·intro a7 a8 aO bO ce aI bb i
  obtain ⟨bZ, m, d, a5, af, aq, ag, ar, a9, au, av, an⟩ := bb
  refine Zc (Zd (Za rfl rfl (Zq rfl an av (Zb (Ze (Zc (W_true (Zx (decide_eq_true (by omega))) (W_skip (Ze (Zc (W_block (Zc (Zd ?_)))))))))))))
  obtain ⟨bD, b3, i⟩ := Zg i
  refine Za rfl rfl (Exec.index_rep S41 rfl au an (aw.mono d) b3 ?_)
  intro bH bS aZ
  refine Za rfl rfl (Zw (E := (encSlice (encInt .i64))) a5 A24 rfl rfl rfl aZ ?_)
  intro aE b4
  have aK : SliceRep _ _ _ (bD) := encSlice_val.1 b4
  refine Za rfl rfl (Zo (v := aE) rfl rfl (Zb (Ze (Zc (Zc (Zd (Za rfl rfl (Zm (v := Value.pointer (some ⟨l, 0, none⟩)) rfl af (Za rfl rfl (Zp F84_2 rfl ag rfl (Za rfl rfl (Zn ((a5).f6) A82 rfl rfl rfl (Za rfl rfl (Zm (v := aE) rfl rfl ?_))))))))))))))
  obtain ⟨cm, b5, i⟩ := Zg i
  refine Za rfl rfl (Tc rfl rfl rfl (Zi rfl (Zi rfl (Zi rfl args_nil))) (encode_encoder_hold_sim b5 (((((a5).f4).f4).f4).f4).f4 (az.mono (Zt (Zt b h) d)) (a0.mono (Zt (Zt b h) d)) (a1.mono (Zt (Zt b h) d)) (a2.mono (Zt (Zt b h) d)) (a3.mono (Zt (Zt b h) d)) (a4.mono (Zt (Zt b h) d)) aK).r ?_)
  rintro _ cf ⟨b9, j, a6, rfl⟩
  refine Za rfl rfl (Exec.not rfl rfl (Zb (Ze ?_)))
  rcases ite_some i with ⟨ab, i⟩ | ⟨ab, i⟩
  ·refine W_cond_t rfl ab (W_exit (at_exit (ib_here (Ze (Zd (Za rfl rfl (Exec.add rfl an rfl (Za rfl rfl (Zm (v := Vi (IntKind.i64.wrap ((a7 : Int) + 1))) rfl rfl (Zb (Ze ?_)))))))))))
   have bJ := Zu i
   subst aO
   exact ⟨b9, m, (Zt d j), ((((((((a6).f7).f7).f7).f7).f7).f7).f7).f7, af, aq, ag, ar, a9, au, av, (Eq.trans rfl (wrap_up aI (SliceRep.le aw)))⟩
  refine W_cond_f rfl ab ?_
  replace ab := Zk ab
  refine W_skip (Ze (Zc (Zd (Za rfl rfl (Zm (v := Value.pointer (some ⟨l, 0, none⟩)) rfl af (Za rfl rfl (Exec.load_box_agg (ds := [y, z, aa]) ((a6).f6) A84 rfl ag rfl (Za rfl rfl (Zm (v := am) rfl ar (Za rfl rfl (Zm (v := aE) rfl rfl (Za rfl rfl (Zm (v := t) rfl aq ?_)))))))))))))
  obtain ⟨bC, b6, i⟩ := Zg i
  obtain ⟨bG, ay⟩ := bC
  replace i := un2_eq i
  refine Za rfl rfl (Tc rfl rfl rfl (Zi rfl (Zi rfl (Zi rfl (Zi rfl (Zi rfl args_nil))))) (encode_encoder_facts_o_sim b6 ((((((a6).f5).f5).f5).f5).f5).f5 (az.mono (Zt (Zt (Zt b h) d) j)) (a0.mono (Zt (Zt (Zt b h) d) j)) (a1.mono (Zt (Zt (Zt b h) d) j)) (a2.mono (Zt (Zt (Zt b h) d) j)) (a3.mono (Zt (Zt (Zt b h) d) j)) (aV.mono (Zt (Zt (Zt b h) d) j)) (aW.mono (Zt (Zt (Zt b h) d) j)) (a4.mono (Zt (Zt (Zt b h) d) j)) (aJ.mono (Zt (Zt h d) j)) (aK.mono j)).r ?_)
  rintro _ cg ⟨aB, x, bm, aH, rfl, aL⟩
  refine Za rfl rfl (Zm (v := Value.tuple #[x, Value.bool (ay)]) rfl rfl (Za rfl rfl (Exec.extract (v := x) rfl rfl rfl (Za rfl rfl (Exec.extract (v := Value.bool (ay)) rfl rfl rfl (Za rfl rfl (Zo (v := x) rfl rfl (Za rfl rfl (Zo (v := Value.bool (ay)) rfl rfl (Zb (Ze (Zc (Zd (Za rfl rfl (Zm (v := Value.bool (ay)) rfl rfl (Zb (Ze ?_)))))))))))))))))
  obtain ⟨ad, u, i⟩ := Zg i
  refine W_mid (M := fun f' w' => (fun (ad : (List (List Fact))) => ∃ (aP : PHeap) (ax : Value), PHeap.le aB aP ∧ St w0 aP (Res.box l 66 [ah, ai, aj, ak, al, n, o, p, q] :: Res.arr (encInt .i64) 3 n a.vars :: Res.arr encFact 46 o a.atoms :: Res.arr encBool 4 p a.grouped :: Res.arr (encInt .i64) 3 q a.fluents :: Res.arr encFact 46 t ae :: Res.box ao 84 [y, z, aa] :: Res.arr (encSlice encFact) 31 ax ad :: H) w' ∧ f' 0 = Value.pointer (some ⟨l, 0, none⟩) ∧ f' 4 = t ∧ f' 6 = Value.pointer (some ⟨ao, 0, none⟩) ∧ f' 11 = am ∧ f' 12 = ax ∧ f' 24 = aR ∧ f' 25 = Vi ((aU.length : Int)) ∧ f' 26 = Vi ((a7 : Int))) ad) ?_ ?_
  ·rcases ite_some u with ⟨ac, u⟩ | ⟨ac, u⟩
   ·refine W_cond_t rfl ac (Zd (Za rfl rfl (Zm (v := m) rfl a9 (Za rfl rfl (Zm (v := x) rfl rfl (Za rfl rfl (Exec.buildSlice (Te := 31) (cs := [x]) aH rfl (parts_cons (c := [x]) (cells_of rfl (cells_one (aL).one)) parts_nil) (fun _ => by kernel_rfl) ?_)))))))
    intro bI ch bh
    obtain ⟨bR, b7, u⟩ := Zg u
    refine Za rfl rfl (Exec.append_box (E := (encSlice encFact)) (ys := [bG]) (bh).f8 S118 Z31 rfl (by decide) rfl rfl rfl rfl ⟨[x], [], rfl, ⟨_, rfl, aL⟩, rfl⟩ rfl b7 ?_)
    intro aS ci bi
    refine Za rfl rfl (Zo (v := aS) rfl rfl (Zb (Ze ?_)))
    have bK := Zu u
    subst ad
    exact ⟨aB, aS, (Zv _), (((((((bi).f7).f7).f7).f7).f7).f7).f7, af, aq, ag, ar, rfl, au, av, an⟩
   refine W_cond_f rfl ac ?_
   replace ac := Zk ac
   refine W_skip (Ze ?_)
   have bL := Zu u
   subst ad
   exact ⟨aB, m, (Zv _), ((((((((aH).f7).f7).f7).f7).f7).f7).f7).f7, af, aq, ag, ar, a9, au, av, an⟩
  intro bP cj bd
  obtain ⟨bA, ax, bn, bj, bq, br, bs, bt, bu, bv, bw, bx⟩ := bd
  refine (ib_normal (Ze (Zd (Za rfl rfl (Exec.add rfl bx rfl (Za rfl rfl (Zm (v := Vi (IntKind.i64.wrap ((a7 : Int) + 1))) rfl rfl (Zb (Ze ?_)))))))))
  have bM := Zu i
  subst aO
  exact ⟨bA, ax, (Zt (Zt (Zt d j) bm) bn), ((((((((bj).f7).f7).f7).f7).f7).f7).f7).f7, bq, br, bs, bt, bu, bv, bw, (Eq.trans rfl (wrap_up aI (SliceRep.le aw)))⟩
 intro bQ ck bc
 obtain ⟨ca, m, bo, bk, bT, bU, bV, bW, bz, bX, b0, bE⟩ := bc
 refine Zc (Zd (Za rfl rfl (Zq rfl bE b0 (Zb (Ze (Zc (W_false (Zx (decide_eq_false (by omega))) (W_exit (at_exit (at_exit (ib_here (Ze (Zc (Zd (Za rfl rfl (Zm (v := m) rfl bz (Za rfl rfl (Zo (v := m) rfl rfl (Zb (Ze (W_ret ?_)))))))))))))))))))))
 have bN := Zu hm
 subst r
 refine ⟨_, ret1 rfl, ?_⟩
 obtain ⟨bB, bp, bl, b8⟩ := (bk).f7.freezeArr
 exact ⟨bB, m, (Zt (Zt (Zt b h) bo) bp), ((((((((bl).f6).drop).f5).f5).f5).f5).f5).f5, rfl, b8⟩
theorem S53 : tySlice Tryz.prog 53 = some (60, 3, 40) := by kernel_rfl
theorem Z60 : tyZero Tryz.prog 60 = some (Value.agg #[Value.slice none 0 0, Vi (0), Vi (0)]) := by kernel_rfl
theorem encode_encoder_effects_sim {w0 w : World} {s : PHeap} {H : List Res} {a : encode_encoder} {d : GOp} {bm : (List Int)} {bO : (List Int)} {h : Nat} {ad : Value} {ae : Value} {af : Value} {ag : Value} {ah : Value} {j : Value} {l : Value} {m : Value} {n : Value} {ak : Value} {al : Value} {am : Value} {t : Value} {ai : Value} {an : Value} {aj : Value} {r : (List Effect)} (hm : encode_encoder_effects_p a d bm bO = some r) (hS : St w0 s (Res.box h 66 [ad, ae, af, ag, ah, j, l, m, n] :: Res.arr (encInt .i64) 3 j a.vars :: Res.arr encFact 46 l a.atoms :: Res.arr encBool 4 m a.grouped :: Res.arr (encInt .i64) 3 n a.fluents :: H) w) (bR : SliceRep encAtom s ad a.g.Atoms) (bS : SliceRep encGFluent s ae a.g.Fluents) (bT : SliceRep (encInt .i64) s af a.g.Init) (bU : SliceRep encCond s ag a.g.Goal) (bV : SliceRep encGOp s ah a.g.Ops) (eA : SliceRep (encInt .i64) s ak d.Pre.Pos) (eB : SliceRep (encInt .i64) s al d.Pre.Neg) (eC : SliceRep encGTest s am d.Pre.Tests) (aJ : SliceRep encGChange s t d.Changes) (bk : SliceRep encGAssign s ai d.Assigns) (bW : SliceRep (encInt .i64) s an bm) (bX : SliceRep (encInt .i64) s aj bO) :
  Calls Tryz.prog 54 #[Value.pointer (some ⟨h, 0, none⟩), Value.agg #[Value.string (d.Name), Vi (d.Cost), ak, al, am, t, ai], an, aj] w fun e w' => ∃ v, e = .returned v ∧ ((fun (e8 : (List Effect)) => ∃ (bh : PHeap) (bL : Value), PHeap.le s bh ∧ St w0 bh (Res.box h 66 [ad, ae, af, ag, ah, j, l, m, n] :: Res.arr (encInt .i64) 3 j a.vars :: Res.arr encFact 46 l a.atoms :: Res.arr encBool 4 m a.grouped :: Res.arr (encInt .i64) 3 n a.fluents :: H) w' ∧ v = bL ∧ SliceRep encEffect bh bL e8) r) := by
 unfold encode_encoder_effects_p at hm
 refine calls_of_W Tryz.func54 rfl rfl (Zc (Zd (Za rfl rfl (Exec.box (cs := [Value.string (d.Name), Vi (d.Cost), ak, al, am, t, ai]) hS rfl rfl rfl ?_))))
 intro z fK cq
 refine Za rfl rfl (Zo (v := Value.slice none 0 0) rfl rfl (Zb (Ze (Zc (Zd (Za rfl rfl (Zo (v := Value.slice none 0 0) rfl rfl (Zb (Ze (Zc (Zc (Zd (Za rfl rfl (Exec.buildSlice (Te := 4) (cs := [Value.bool (false), Value.bool (true)]) cq rfl (parts_cons (c := [Value.bool (false)]) (cells_of rfl rfl) (parts_cons (c := [Value.bool (true)]) (cells_of rfl rfl) parts_nil)) (fun _ => by kernel_rfl) ?_))))))))))))))
 intro a4 fL cr
 have ct := St.boxArr (E := encBool) (xs := [false, true]) cr ⟨[Value.bool (false)], [Value.bool (true)], rfl, rfl, ⟨[Value.bool (true)], [], rfl, rfl, rfl⟩⟩ (by simp [maxLen])
 obtain ⟨b9, o, cu, bf⟩ := ct.freezeArr
 refine Za rfl rfl (Zr S64 rfl rfl bf (Za rfl rfl (Zm (v := Vi (0)) rfl rfl (Zb (Ze ?_)))))
 obtain ⟨aO, cc, hm⟩ := Zg hm
 refine W_block (W_forS (fun k' s' f' w' => (fun (aO : (List Effect)) => ∃ (bA : PHeap) (ab : Value), PHeap.le b9 bA ∧ St w0 bA (Res.box h 66 [ad, ae, af, ag, ah, j, l, m, n] :: Res.arr (encInt .i64) 3 j a.vars :: Res.arr encFact 46 l a.atoms :: Res.arr encBool 4 m a.grouped :: Res.arr (encInt .i64) 3 n a.fluents :: Res.box z 91 [Value.string (d.Name), Vi (d.Cost), ak, al, am, t, ai] :: Res.arr encEffect 60 ab aO :: H) w' ∧ f' 0 = Value.pointer (some ⟨h, 0, none⟩) ∧ f' 2 = an ∧ f' 3 = aj ∧ f' 5 = Value.pointer (some ⟨z, 0, none⟩) ∧ f' 9 = ab ∧ f' 22 = Value.slice (some ⟨a4, 0, none⟩) 2 2 ∧ f' 23 = Vi (([false, true].length : Int)) ∧ f' 24 = Vi (k' : Int)) s') cc ?_ ?_ ?_)
 ·have cv := cu.nilArr encEffect 60
  exact ⟨b9, (Value.slice none 0 0), (Zv _), ((((((cv).f1).f6).f6).f6).f6).f6, rfl, rfl, rfl, rfl, rfl, rfl, rfl, rfl⟩
 ·intro aA aO et eV fM cF cg a8
  obtain ⟨bB, ab, p, ba, cP, cQ, cR, bv, cS, bw, bx, bi⟩ := cg
  refine Zc (Zd (Za rfl rfl (Zq rfl bi bx (Zb (Ze (Zc (W_true (Zx (decide_eq_true (by omega))) (W_skip (Ze (Zc (W_block (Zc (Zd ?_)))))))))))))
  obtain ⟨ap, ec, a8⟩ := Zg a8
  refine Za rfl rfl (Exec.index_rep S64 rfl bw bi (bf.mono p) ec ?_)
  intro eD fm bY
  refine Za rfl rfl (Zw (E := encBool) ba A4 rfl rfl rfl bY ?_)
  intro e0 ed
  obtain rfl : e0 = Value.bool (ap) := encBool_val.1 ed
  refine Za rfl rfl (Zo (v := Value.bool (ap)) rfl rfl (Zb (Ze (Zc (Zd (Za rfl rfl (Zp F91_3 rfl bv rfl (Za rfl rfl (Zn ((ba).f5) A88 rfl rfl rfl (Za rfl rfl (Zr S88 rfl rfl (aJ.mono (Zt o p)) (Za rfl rfl (Zm (v := Vi (0)) rfl rfl (Zb (Ze ?_)))))))))))))))
  obtain ⟨aC, cd, a8⟩ := Zg a8
  refine W_block (W_forS (fun k' s' f' w' => (fun (aC : (List Effect)) => ∃ (bC : PHeap) (x : Value), PHeap.le bB bC ∧ St w0 bC (Res.box h 66 [ad, ae, af, ag, ah, j, l, m, n] :: Res.arr (encInt .i64) 3 j a.vars :: Res.arr encFact 46 l a.atoms :: Res.arr encBool 4 m a.grouped :: Res.arr (encInt .i64) 3 n a.fluents :: Res.box z 91 [Value.string (d.Name), Vi (d.Cost), ak, al, am, t, ai] :: Res.arr encEffect 60 x aC :: H) w' ∧ f' 0 = Value.pointer (some ⟨h, 0, none⟩) ∧ f' 2 = an ∧ f' 3 = aj ∧ f' 5 = Value.pointer (some ⟨z, 0, none⟩) ∧ f' 9 = x ∧ f' 11 = Value.bool (ap) ∧ f' 22 = Value.slice (some ⟨a4, 0, none⟩) 2 2 ∧ f' 23 = Vi (([false, true].length : Int)) ∧ f' 24 = Vi ((aA : Int)) ∧ f' 29 = t ∧ f' 30 = Vi ((d.Changes.length : Int)) ∧ f' 31 = Vi (k' : Int)) s') cd ?_ ?_ ?_)
  ·have cw := (ba).f6
   exact ⟨bB, ab, (Zv _), ((((((cw).f6).f6).f6).f6).f6).f6, cP, cQ, cR, bv, cS, rfl, bw, bx, bi, rfl, rfl, rfl⟩
  ·intro aB aC bD eW fN bs ch i
   obtain ⟨a0, x, aa, bn, aw, aP, aQ, aR, aS, az, aT, aU, aV, aE, aF, a2⟩ := ch
   refine Zc (Zd (Za rfl rfl (Zq rfl a2 aF (Zb (Ze (Zc (W_true (Zx (decide_eq_true (by omega))) (W_skip (Ze (Zc (W_block (Zc (Zd ?_)))))))))))))
   obtain ⟨aq, ee, i⟩ := Zg i
   refine Za rfl rfl (Exec.index_rep S88 rfl aE a2 (aJ.mono (Zt (Zt o p) aa)) ee ?_)
   intro eE fn bZ
   refine Za rfl rfl (Zw (E := encGChange) bn A98 rfl rfl rfl bZ ?_)
   intro fH ef
   obtain ⟨aG, aH, aI, rfl, b5, b6, b7⟩ := encGChange_val.1 ef
   refine Za rfl rfl (Exec.alloc (cs := [Value.slice none 0 0, Value.slice none 0 0, Value.slice none 0 0, Vi (0), Value.bool (false)]) bn Z98 rfl rfl ?_)
   intro aK fO cx
   refine Za rfl rfl (Exec.store_box (ds := [aG, aH, aI, Vi (aq.Atom), Value.bool (aq.Add)]) (es := [aG, aH, aI, Vi (aq.Atom), Value.bool (aq.Add)]) cx A98 rfl rfl rfl rfl (Zj (b5).one (Zj (b6).one (Zj (b7).one (Zj rfl (Zj rfl one_nil))))) (Nat.le_of_ble_eq_true rfl) rfl ?_)
   intro fP ar
   refine Zb (Ze (Zc (Zc (Zd (Za rfl rfl (Zp F98_2 rfl rfl rfl (Za rfl rfl (Zn (ar) A4 rfl rfl rfl (Za rfl rfl (Zm (v := Value.bool (ap)) rfl az (Za rfl rfl (Exec.bool_neq Tryz.underlying4 rfl rfl rfl (Zb (Ze ?_))))))))))))))
   rcases ite_some i with ⟨a5, i⟩ | ⟨a5, i⟩
   ·refine W_cond_t rfl a5 (W_exit (at_exit (ib_here (Ze (Zd (Za rfl rfl (Exec.add rfl a2 rfl (Za rfl rfl (Zm (v := Vi (IntKind.i64.wrap ((aB : Int) + 1))) rfl rfl (Zb (Ze ?_)))))))))))
    have eM := Zu i
    subst bD
    exact ⟨a0, x, aa, ((((((((ar).drop).f6).f6).f6).f6).f6).f6).f6, aw, aP, aQ, aR, aS, az, aT, aU, aV, aE, aF, (Eq.trans rfl (wrap_up bs (SliceRep.le (aJ.mono (Zt o p)))))⟩
   refine W_cond_f rfl a5 ?_
   replace a5 := Zk a5
   refine W_skip (Ze (Zc (W_dl (n0 := 9) (qs 0 8 (.e 8 [0, 1, 2, 3, 4, 5, 6, 7] .done)) hmix (by kernel_rfl) (by kernel_rfl) (DL_q rfl rfl (Zm (v := Value.pointer (some ⟨h, 0, none⟩)) rfl aw ⟨rfl, ?_⟩)))))
   refine DL_q rfl rfl (Exec.nilCheck_ptr rfl rfl ⟨rfl, ?_⟩)
   refine DL_q rfl rfl (Zp F66_2 rfl rfl rfl ⟨rfl, ?_⟩)
   refine DL_q rfl rfl (Zn ((ar.drew).f1) A31 rfl rfl rfl ⟨rfl, ?_⟩)
   refine DL_q rfl rfl (Zp F98_1 rfl rfl rfl ⟨rfl, ?_⟩)
   refine DL_q rfl rfl (Zn (ar.drew) A3 rfl rfl rfl ⟨rfl, ?_⟩)
   obtain ⟨b, ax, i⟩ := Zg i
   obtain ⟨ff, eK, aL⟩ := ((ar.drew).f3).arr_at ax
   refine DL_q rfl rfl (Exec.index_slice S31 rfl aL rfl (idx_some ax).1 (idx_some ax).2.1 ⟨rfl, ?_⟩)
   refine DL_q rfl rfl (Exec.load_arr (F := encFact) ((ar.drew).f3) aL A46 rfl rfl rfl ax (Sub.refl _) ?_)
   intro fI eg
   obtain rfl := encFact_val.1 eg
   refine ⟨rfl, ?_⟩
   refine DL_e rfl rfl (Exec.alloc (cs := [Vi (0), Vi (0)]) ar.drew Z46 rfl rfl ?_)
   intro ay fQ aM
   refine ⟨(ag_cons (ag_r rfl rfl (Zm (v := Value.pointer (some ⟨h, 0, none⟩)) rfl aw ⟨rfl, rfl⟩)) (ag_cons (ag_r rfl rfl (Exec.nilCheck_ptr rfl rfl ⟨rfl, rfl⟩)) (ag_cons (ag_r rfl rfl (Zp F66_2 rfl rfl rfl ⟨rfl, rfl⟩)) (ag_cons (ag_r rfl rfl (Zn ((aM).f2) A31 rfl rfl rfl ⟨rfl, rfl⟩)) (ag_cons (ag_r rfl rfl (Zp F98_1 rfl rfl rfl ⟨rfl, rfl⟩)) (ag_cons (ag_r rfl rfl (Zn ((aM).f1) A3 rfl rfl rfl ⟨rfl, rfl⟩)) (ag_cons (ag_r rfl rfl (Exec.index_slice S31 rfl aL rfl (idx_some ax).1 (idx_some ax).2.1 ⟨rfl, rfl⟩)) (ag_cons (ag_r rfl rfl (Exec.load_arr (F := encFact) ((aM).f4) aL A46 rfl rfl rfl ax (Sub.refl _) (fun _ q => ⟨rfl, encFact_val.1 q⟩))) ag_nil)))))))), ?_⟩
   refine DL_done (Za rfl rfl (Exec.store_box (ds := [Vi (b.Var), Vi (b.Val)]) (es := [Vi (b.Var), Vi (b.Val)]) aM A46 rfl rfl rfl rfl (Zj rfl (Zj rfl one_nil)) (Nat.le_of_ble_eq_true rfl) rfl ?_))
   intro fR bo
   refine Zb (Ze (Zc (Zd (Za rfl rfl (Zo (v := Value.slice none 0 0) rfl rfl (Zb (Ze (Zc (Zc (Zd (Za rfl rfl (Zm (v := Value.bool (ap)) rfl az (Za rfl rfl (Exec.not rfl rfl (Zb (Ze ?_))))))))))))))))
   obtain ⟨aX, ac, i⟩ := Zg i
   refine W_mid (M := fun f' w' => (un2 fun (bu : (List Fact)) (y : Int) => ∃ (bE : PHeap) (aY : Value), PHeap.le a0 bE ∧ St w0 bE (Res.box h 66 [ad, ae, af, ag, ah, j, l, m, n] :: Res.arr (encInt .i64) 3 j a.vars :: Res.arr encFact 46 l a.atoms :: Res.arr encBool 4 m a.grouped :: Res.arr (encInt .i64) 3 n a.fluents :: Res.box z 91 [Value.string (d.Name), Vi (d.Cost), ak, al, am, t, ai] :: Res.arr encEffect 60 x aC :: Res.box aK 98 [aG, aH, aI, Vi (aq.Atom), Value.bool (aq.Add)] :: Res.box ay 46 [Vi (b.Var), Vi (y)] :: Res.arr encFact 46 aY bu :: H) w' ∧ f' 0 = Value.pointer (some ⟨h, 0, none⟩) ∧ f' 2 = an ∧ f' 3 = aj ∧ f' 5 = Value.pointer (some ⟨z, 0, none⟩) ∧ f' 9 = x ∧ f' 11 = Value.bool (ap) ∧ f' 13 = Value.pointer (some ⟨aK, 0, none⟩) ∧ f' 14 = Value.pointer (some ⟨ay, 0, none⟩) ∧ f' 15 = aY ∧ f' 22 = Value.slice (some ⟨a4, 0, none⟩) 2 2 ∧ f' 23 = Vi (([false, true].length : Int)) ∧ f' 24 = Vi ((aA : Int)) ∧ f' 29 = t ∧ f' 30 = Vi ((d.Changes.length : Int)) ∧ f' 31 = Vi ((aB : Int))) aX) ?_ ?_
   ·rcases ite_some ac with ⟨a6, ac⟩ | ⟨a6, ac⟩
    ·refine W_cond_t rfl a6 (Zc (Zc (W_dl (n0 := 8) (qs 0 8 .done) hmix (by kernel_rfl) (by kernel_rfl) ?_)))
     have au := bo.drew
     refine DL_q rfl rfl (Zm (v := Value.pointer (some ⟨h, 0, none⟩)) rfl aw ⟨rfl, ?_⟩)
     refine DL_q rfl rfl (Exec.nilCheck_ptr rfl rfl ⟨rfl, ?_⟩)
     refine DL_q rfl rfl (Zp F66_3 rfl rfl rfl ⟨rfl, ?_⟩)
     refine DL_q rfl rfl (Zn ((au).f2) A64 rfl rfl rfl ⟨rfl, ?_⟩)
     refine DL_q rfl rfl (Zp F98_1 rfl rfl rfl ⟨rfl, ?_⟩)
     refine DL_q rfl rfl (Zn ((au).f1) A3 rfl rfl rfl ⟨rfl, ?_⟩)
     obtain ⟨e3, aW, ac⟩ := Zg ac
     obtain ⟨fg, eL, bl⟩ := ((au).f5).arr_at aW
     refine DL_q rfl rfl (Exec.index_slice S64 rfl bl rfl (idx_some aW).1 (idx_some aW).2.1 ⟨rfl, ?_⟩)
     refine DL_q rfl rfl (Exec.load_arr (F := encBool) ((au).f5) bl A4 rfl rfl rfl aW (Sub.refl _) ?_)
     intro e1 eh
     obtain rfl : e1 = Value.bool (e3) := encBool_val.1 eh
     refine ⟨rfl, ?_⟩
     refine DL_done (Zb (Ze ?_))
     obtain ⟨aD, av, ac⟩ := Zg ac
     refine W_mid (M := fun f' w' => (fun (aD : (List Fact)) => ∃ (bF : PHeap) (aZ : Value), PHeap.le a0 bF ∧ St w0 bF (Res.box h 66 [ad, ae, af, ag, ah, j, l, m, n] :: Res.arr (encInt .i64) 3 j a.vars :: Res.arr encFact 46 l a.atoms :: Res.arr encBool 4 m a.grouped :: Res.arr (encInt .i64) 3 n a.fluents :: Res.box z 91 [Value.string (d.Name), Vi (d.Cost), ak, al, am, t, ai] :: Res.arr encEffect 60 x aC :: Res.box aK 98 [aG, aH, aI, Vi (aq.Atom), Value.bool (aq.Add)] :: Res.box ay 46 [Vi (b.Var), Vi (b.Val)] :: Res.arr encFact 46 aZ aD :: H) w' ∧ f' 0 = Value.pointer (some ⟨h, 0, none⟩) ∧ f' 2 = an ∧ f' 3 = aj ∧ f' 5 = Value.pointer (some ⟨z, 0, none⟩) ∧ f' 9 = x ∧ f' 11 = Value.bool (ap) ∧ f' 13 = Value.pointer (some ⟨aK, 0, none⟩) ∧ f' 14 = Value.pointer (some ⟨ay, 0, none⟩) ∧ f' 15 = aZ ∧ f' 22 = Value.slice (some ⟨a4, 0, none⟩) 2 2 ∧ f' 23 = Vi (([false, true].length : Int)) ∧ f' 24 = Vi ((aA : Int)) ∧ f' 29 = t ∧ f' 30 = Vi ((d.Changes.length : Int)) ∧ f' 31 = Vi ((aB : Int))) aD) ?_ ?_
     ·rcases ite_some av with ⟨a7, av⟩ | ⟨a7, av⟩
      ·refine W_cond_t rfl a7 (Zd (Za rfl rfl (Zm (v := Value.slice none 0 0) rfl rfl (Za rfl rfl (Exec.load_box_agg (ds := [Vi (b.Var), Vi (b.Val)]) (au) A46 rfl rfl rfl (Za rfl rfl (Exec.buildSlice (Te := 46) (cs := [Vi (b.Var), Vi (b.Val)]) au rfl (parts_cons (c := [Vi (b.Var), Vi (b.Val)]) (cells_of rfl rfl) parts_nil) (fun _ => by kernel_rfl) ?_)))))))
       intro eF fS cy
       have cz := cy.nilArr encFact 46
       obtain ⟨fk, ei, av⟩ := Zg av
       refine Za rfl rfl (Exec.append_box (E := encFact) (ys := [b]) ((cz).f1).f1 S31 Z46 rfl (by decide) rfl rfl rfl rfl ⟨[Vi (b.Var), Vi (b.Val)], [], rfl, ⟨[Vi (b.Var)], [Vi (b.Val)], rfl, rfl, rfl⟩, rfl⟩ rfl ei ?_)
       intro bM fT c0
       refine Za rfl rfl (Zo (v := bM) rfl rfl (Zb (Ze ?_)))
       have eN := Zu av
       subst aD
       exact ⟨a0, bM, (Zv _), (((((((((c0).f1).f2).f9).f9).f9).f9).f9).f9).f9, aw, aP, aQ, aR, aS, az, rfl, rfl, rfl, aT, aU, aV, aE, aF, a2⟩
      refine W_cond_f rfl a7 ?_
      replace a7 := Zk a7
      refine W_skip (Ze ?_)
      have eO := Zu av
      subst aD
      have c1 := au.nilArr encFact 46
      exact ⟨a0, (Value.slice none 0 0), (Zv _), (((((((((c1).f1).f2).f9).f9).f9).f9).f9).f9).f9, aw, aP, aQ, aR, aS, az, rfl, rfl, rfl, aT, aU, aV, aE, aF, a2⟩
     intro eX fU co
     obtain ⟨eu, aZ, cI, c2, cT, cU, cV, cW, cX, cY, cZ, bz, da, db, dc, dd, de, df, dg⟩ := co
     refine (Ze (Zd (Za rfl rfl (Zp F46_1 rfl bz rfl (Za rfl rfl (Exec.store_box (ds := [Vi (0)]) (es := [Vi (b.Var), Vi (0)]) (c2).f8 A3 rfl rfl rfl rfl (Zj rfl one_nil) (Nat.le_of_ble_eq_true rfl) rfl ?_))))))
     intro fV c3
     refine Zb (Ze ?_)
     have eP := Zu ac
     subst aX
     exact ⟨eu, aZ, cI, ((((((((((c3).f9).f1).f9).f9).f9).f9).f9).f9).f9).f9, cT, cU, cV, cW, cX, cY, cZ, bz, da, db, dc, dd, de, df, dg⟩
    refine W_cond_f rfl a6 ?_
    replace a6 := Zk a6
    refine W_skip (Ze ?_)
    have eQ := Zu ac
    subst aX
    have c4 := bo.nilArr encFact 46
    exact ⟨a0, (Value.slice none 0 0), (Zv _), (((((((((c4).f1).f2).f9).f9).f9).f9).f9).f9).f9, aw, aP, aQ, aR, aS, az, rfl, rfl, rfl, aT, aU, aV, aE, aF, a2⟩
   intro eY fW cp
   obtain ⟨bu, y⟩ := aX
   replace i := un2_eq i
   obtain ⟨fB, aY, u, bp, b0, b1, b2, dh, di, dj, dk, dl, dm, dn, dp, dq, dr, dt, du⟩ := cp
   refine (Ze (Zc (Zd (Za rfl rfl (Zm (v := Value.pointer (some ⟨h, 0, none⟩)) rfl b0 (Za rfl rfl (Zp F98_0 rfl dk rfl (Za rfl rfl (Exec.load_box_agg (ds := [aG, aH, aI]) ((bp).f7) A84 rfl rfl rfl (Za rfl rfl (Zm (v := an) rfl b1 (Za rfl rfl (Zm (v := aj) rfl b2 (Za rfl rfl (Zm (v := aY) rfl dm ?_)))))))))))))))
   obtain ⟨e9, ej, i⟩ := Zg i
   refine Za rfl rfl (Tc rfl rfl rfl (Zi rfl (Zi rfl (Zi rfl (Zi rfl (Zi rfl args_nil))))) (encode_encoder_cases_o_sim ej ((((((bp).f9).f5).f5).f5).f5).f5 (bR.mono (Zt (Zt (Zt o p) aa) u)) (bS.mono (Zt (Zt (Zt o p) aa) u)) (bT.mono (Zt (Zt (Zt o p) aa) u)) (bU.mono (Zt (Zt (Zt o p) aa) u)) (bV.mono (Zt (Zt (Zt o p) aa) u)) (b5.mono u) (b6.mono u) (b7.mono u) (bW.mono (Zt (Zt (Zt o p) aa) u)) (bX.mono (Zt (Zt (Zt o p) aa) u))).r ?_)
   rintro e2 fX ⟨bG, _, cJ, c5, rfl, bg⟩
   refine Za rfl rfl (Zr S118 rfl rfl bg (Za rfl rfl (Zm (v := Vi (0)) rfl rfl (Zb (Ze ?_)))))
   obtain ⟨bc, ce, i⟩ := Zg i
   refine W_block (W_forS (fun k' s' f' w' => (fun (bc : (List Effect)) => ∃ (bH : PHeap) (a1 : Value), PHeap.le bG bH ∧ St w0 bH (Res.box h 66 [ad, ae, af, ag, ah, j, l, m, n] :: Res.arr (encInt .i64) 3 j a.vars :: Res.arr encFact 46 l a.atoms :: Res.arr encBool 4 m a.grouped :: Res.arr (encInt .i64) 3 n a.fluents :: Res.box z 91 [Value.string (d.Name), Vi (d.Cost), ak, al, am, t, ai] :: Res.arr encEffect 60 a1 bc :: Res.box ay 46 [Vi (b.Var), Vi (y)] :: H) w' ∧ f' 0 = Value.pointer (some ⟨h, 0, none⟩) ∧ f' 2 = an ∧ f' 3 = aj ∧ f' 5 = Value.pointer (some ⟨z, 0, none⟩) ∧ f' 9 = a1 ∧ f' 11 = Value.bool (ap) ∧ f' 14 = Value.pointer (some ⟨ay, 0, none⟩) ∧ f' 22 = Value.slice (some ⟨a4, 0, none⟩) 2 2 ∧ f' 23 = Vi (([false, true].length : Int)) ∧ f' 24 = Vi ((aA : Int)) ∧ f' 29 = t ∧ f' 30 = Vi ((d.Changes.length : Int)) ∧ f' 31 = Vi ((aB : Int)) ∧ f' 68 = e2 ∧ f' 69 = Vi ((e9.length : Int)) ∧ f' 70 = Vi (k' : Int)) s') ce ?_ ?_ ?_)
   ·have c6 := ((c5).f5).drop
    exact ⟨bG, x, (Zv _), ((((((((((c6).f7).drop).f7).f7).f7).f7).f7).f7).f7).f7, b0, b1, b2, dh, di, dj, dl, dn, dp, dq, dr, dt, du, rfl, rfl, rfl⟩
   ·intro cH bc ev eZ fY cG ci a9
    obtain ⟨ew, a1, bt, aN, dv, dw, dx, dy, dz, d0, be, d1, d2, d3, d4, d5, d6, b3, b4, bj⟩ := ci
    refine Zc (Zd (Za rfl rfl (Zq rfl bj b4 (Zb (Ze (Zc (W_true (Zx (decide_eq_true (by omega))) (W_skip (Ze (Zc (W_block (Zc (Zd ?_)))))))))))))
    obtain ⟨bP, ek, a9⟩ := Zg a9
    refine Za rfl rfl (Exec.index_rep S118 rfl b3 bj (bg.mono bt) ek ?_)
    intro eG fo ca
    refine Za rfl rfl (Zw (E := (encSlice encFact)) aN A31 rfl rfl rfl ca ?_)
    intro ao el
    have b8 : SliceRep _ _ _ (bP) := encSlice_val.1 el
    refine Za rfl rfl (Zo (v := ao) rfl rfl (Zb (Ze (Zd (Za rfl rfl (Zm (v := a1) rfl dz (Za rfl rfl (Zm (v := ao) rfl rfl (Za rfl rfl (Zp F46_0 rfl be rfl (Za rfl rfl (Zn ((aN).f7) A3 rfl rfl rfl (Za rfl rfl (Zp F46_1 rfl be rfl (Za rfl rfl (Zn ((aN).f7) A3 rfl rfl rfl (Za rfl rfl (Exec.build rfl (parts_cons (c := [ao]) (cells_of rfl (cells_one (b8).one)) (parts_cons (c := [Vi (b.Var)]) (cells_of rfl rfl) (parts_cons (c := [Vi (y)]) (cells_of rfl rfl) parts_nil))) (v := Value.agg #[ao, Vi (b.Var), Vi (y)]) (fun _ => by kernel_rfl) (Za rfl rfl (Exec.buildSlice (Te := 60) (cs := [ao, Vi (b.Var), Vi (y)]) aN rfl (parts_cons (c := [ao, Vi (b.Var), Vi (y)]) (cells_of rfl rfl) parts_nil) (fun _ => by kernel_rfl) ?_))))))))))))))))))))
    intro eH fZ c7
    obtain ⟨fl, em, a9⟩ := Zg a9
    refine Za rfl rfl (Exec.append_box (E := encEffect) (ys := [(⟨bP, b.Var, y⟩ : Effect)]) (c7).f7 S53 Z60 rfl (by decide) rfl rfl rfl rfl ⟨[ao, Vi (b.Var), Vi (y)], [], rfl, ⟨[ao], [Vi (b.Var), Vi (y)], rfl, ⟨_, rfl, b8⟩, ⟨[Vi (b.Var)], [Vi (y)], rfl, rfl, rfl⟩⟩, rfl⟩ rfl em ?_)
    intro bN ga c8
    refine Za rfl rfl (Zo (v := bN) rfl rfl (Zb (ib_normal (Ze (Zd (Za rfl rfl (Exec.add rfl bj rfl (Za rfl rfl (Zm (v := Vi (IntKind.i64.wrap ((cH : Int) + 1))) rfl rfl (Zb (Ze ?_)))))))))))
    have eR := Zu a9
    subst ev
    exact ⟨ew, bN, bt, ((((((((c8).f7).f1).f7).f7).f7).f7).f7).f7, dv, dw, dx, dy, rfl, d0, be, d1, d2, d3, d4, d5, d6, b3, b4, (Eq.trans rfl (wrap_up cG (SliceRep.le bg)))⟩
   intro fa gb cj
   obtain ⟨ex, a1, cK, c9, d7, d8, d9, dA, dB, dC, fq, dD, dE, dF, dG, dH, dI, fr, dJ, e4⟩ := cj
   refine Zc (Zd (Za rfl rfl (Zq rfl e4 dJ (Zb (Ze (Zc (W_false (Zx (decide_eq_false (by omega))) (W_exit (at_exit (at_exit (ib_here (ib_normal (Ze (Zd (Za rfl rfl (Exec.add rfl dI rfl (Za rfl rfl (Zm (v := Vi (IntKind.i64.wrap ((aB : Int) + 1))) rfl rfl (Zb (Ze ?_))))))))))))))))))))
   have eS := Zu i
   subst bD
   exact ⟨ex, a1, (Zt (Zt (Zt aa u) cJ) cK), (((((((((c9).f7).drop).f6).f6).f6).f6).f6).f6).f6, d7, d8, d9, dA, dB, dC, dD, dE, dF, dG, dH, (Eq.trans rfl (wrap_up bs (SliceRep.le (aJ.mono (Zt o p)))))⟩
  intro fb gc ck
  obtain ⟨ey, x, cL, cA, dK, dL, dM, dN, dO, fs, dP, dQ, dR, ft, dS, e5⟩ := ck
  refine Zc (Zd (Za rfl rfl (Zq rfl e5 dS (Zb (Ze (Zc (W_false (Zx (decide_eq_false (by omega))) (W_exit (at_exit (at_exit (ib_here (ib_normal (Ze (Zd (Za rfl rfl (Exec.add rfl dR rfl (Za rfl rfl (Zm (v := Vi (IntKind.i64.wrap ((aA : Int) + 1))) rfl rfl (Zb (Ze ?_))))))))))))))))))))
  have eT := Zu a8
  subst et
  exact ⟨ey, x, (Zt p cL), (((((((cA).f6).f6).f6).f6).f6).f6).f6, dK, dL, dM, dN, dO, dP, dQ, (Eq.trans rfl (wrap_up cF (SliceRep.le bf)))⟩
 intro fc gd cl
 obtain ⟨bI, ab, bd, bq, dT, fu, dU, dV, dW, fv, dX, e6⟩ := cl
 refine Zc (Zd (Za rfl rfl (Zq rfl e6 dX (Zb (Ze (Zc (W_false (Zx (decide_eq_false (by omega))) (W_exit (at_exit (at_exit (ib_here (Ze (Zc (Zc (Zd (Za rfl rfl (Zp F91_4 rfl dV rfl (Za rfl rfl (Zn ((bq).f5) A89 rfl rfl rfl (Za rfl rfl (Zr S89 rfl rfl (bk.mono (Zt o bd)) (Za rfl rfl (Zm (v := Vi (0)) rfl rfl (Zb (Ze ?_)))))))))))))))))))))))))
 obtain ⟨fF, cf, hm⟩ := Zg hm
 refine W_block (W_forS (fun k' s' f' w' => (fun (_ : Unit) => ∃ (bJ : PHeap) , PHeap.le bI bJ ∧ St w0 bJ (Res.box h 66 [ad, ae, af, ag, ah, j, l, m, n] :: Res.arr (encInt .i64) 3 j a.vars :: Res.arr encFact 46 l a.atoms :: Res.arr encBool 4 m a.grouped :: Res.arr (encInt .i64) 3 n a.fluents :: Res.arr encEffect 60 ab aO :: H) w' ∧ f' 0 = Value.pointer (some ⟨h, 0, none⟩) ∧ f' 3 = aj ∧ f' 9 = ab ∧ f' 87 = ai ∧ f' 88 = Vi ((d.Assigns.length : Int)) ∧ f' 89 = Vi (k' : Int)) s') cf ?_ ?_ ?_)
 ·have cB := ((bq).f5).drop
  exact ⟨bI, (Zv _), ((((((cB).f5).f5).f5).f5).f5).f5, dT, dU, dW, rfl, rfl, rfl⟩
 ·intro fj fG fC fd gf fi cm bb
  obtain ⟨fD, cM, br, fw, fx, fy, dY, dZ, bQ⟩ := cm
  refine Zc (Zd (Za rfl rfl (Zq rfl bQ dZ (Zb (Ze (Zc (W_true (Zx (decide_eq_true (by omega))) (W_skip (Ze (Zc (W_block (Zc (Zd ?_)))))))))))))
  obtain ⟨a3, en, bb⟩ := Zg bb
  refine Za rfl rfl (Exec.index_rep S89 rfl dY bQ (bk.mono (Zt (Zt o bd) cM)) en ?_)
  intro eI fp cb
  refine Za rfl rfl (Zw (E := encGAssign) br A104 rfl rfl rfl cb ?_)
  intro fJ eo
  obtain ⟨bK, rfl, ep⟩ := encGAssign_val.1 eo
  refine Za rfl rfl (Exec.alloc (cs := [Vi (0), Value.string (⟨#[]⟩), Vi (0), Value.slice none 0 0]) br Z104 rfl rfl ?_)
  intro eJ gg cC
  refine Za rfl rfl (Exec.store_box (ds := [Vi (a3.Fluent), Value.string (a3.Value.Op), Vi (a3.Value.N), bK]) (es := [Vi (a3.Fluent), Value.string (a3.Value.Op), Vi (a3.Value.N), bK]) cC A104 rfl rfl rfl rfl (Zj rfl (Zj rfl (Zj rfl (Zj (ep).one one_nil)))) (Nat.le_of_ble_eq_true rfl) rfl ?_)
  intro gh fh
  refine Zb (Ze (Zc ?_))
  cases bb
 intro fe gi cn
 obtain ⟨fE, cN, cD, fz, f0, ea, fA, eb, e7⟩ := cn
 refine Zc (Zd (Za rfl rfl (Zq rfl e7 eb (Zb (Ze (Zc (W_false (Zx (decide_eq_false (by omega))) (W_exit (at_exit (at_exit (ib_here (Ze (Zc (Zd (Za rfl rfl (Zm (v := ab) rfl ea (Za rfl rfl (Zo (v := ab) rfl rfl (Zb (Ze (W_ret ?_)))))))))))))))))))))
 have eU := Zu hm
 subst r
 refine ⟨_, ret1 rfl, ?_⟩
 obtain ⟨ez, cO, cE, er⟩ := (cD).f5.freezeArr
 exact ⟨ez, ab, (Zt (Zt (Zt o bd) cN) cO), (((((cE).f4).f4).f4).f4).f4, rfl, er⟩
theorem F36_3 : tyField Tryz.prog 36 3 = some 6 := by kernel_rfl
theorem F34_3 : tyField Tryz.prog 34 3 = some 3 := by kernel_rfl
theorem A32 : tyAgg Tryz.prog 32 = some (false, 1) := by kernel_rfl
theorem S32 : tySlice Tryz.prog 32 = some (55, 4, 72) := by kernel_rfl
theorem Z55 : tyZero Tryz.prog 55 = some (Value.agg #[Value.string ⟨#[]⟩, Vi (0), Value.slice none 0 0, Value.slice none 0 0]) := by kernel_rfl
theorem encode_encoder_operators_sim {w0 w : World} {s : PHeap} {H : List Res} {l : encode_encoder} {t : Encoding} {q : Int} {bD : (List Int)} {z : Nat} {av : Value} {aw : Value} {ax : Value} {ay : Value} {az : Value} {ac : Value} {ad : Value} {ae : Value} {af : Value} {b : Nat} {u : Value} {x : Value} {y : Value} {b6 : Value} {ag : Value} {ah : Value} {b7 : Value} {b8 : Value} {r : Bool × (List Op) × (List Int)} (hm : encode_encoder_operators_p l t q bD = some r) (hS : St w0 s (Res.box z 66 [av, aw, ax, ay, az, ac, ad, ae, af] :: Res.arr (encInt .i64) 3 ac l.vars :: Res.arr encFact 46 ad l.atoms :: Res.arr encBool 4 ae l.grouped :: Res.arr (encInt .i64) 3 af l.fluents :: Res.box b 36 [u, x, y, b6, ag, ah, b7] :: Res.arr (encInt .i64) 3 u t.Task.Vars :: Res.arr (encInt .i64) 3 x t.Task.Init :: Res.arr encFact 46 y t.Task.Goal :: Res.arr encOp 55 b6 t.Task.Ops :: Res.arr (encInt .i64) 3 b7 t.Ops :: H) w) (aJ : SliceRep encAtom s av l.g.Atoms) (aK : SliceRep encGFluent s aw l.g.Fluents) (aL : SliceRep (encInt .i64) s ax l.g.Init) (aM : SliceRep encCond s ay l.g.Goal) (a8 : SliceRep encGOp s az l.g.Ops) (cb : SliceRep (encInt .i64) s b8 bD) :
  Calls Tryz.prog 24 #[Value.pointer (some ⟨z, 0, none⟩), Value.pointer (some ⟨b, 0, none⟩), Vi (q), b8] w fun e w' => ∃ v, e = .returned v ∧ ((un3 fun (dd : Bool) (cz : (List Op)) (c0 : (List Int)) => ∃ (bU : PHeap) (bZ : Value) (ca : Value), PHeap.le s bU ∧ St w0 bU (Res.box z 66 [av, aw, ax, ay, az, ac, ad, ae, af] :: Res.arr (encInt .i64) 3 ac l.vars :: Res.arr encFact 46 ad l.atoms :: Res.arr encBool 4 ae l.grouped :: Res.arr (encInt .i64) 3 af l.fluents :: Res.box b 36 [u, x, y, bZ, ag, ah, ca] :: Res.arr (encInt .i64) 3 u t.Task.Vars :: Res.arr (encInt .i64) 3 x t.Task.Init :: Res.arr encFact 46 y t.Task.Goal :: Res.arr encOp 55 bZ cz :: Res.arr (encInt .i64) 3 ca c0 :: H) w' ∧ v = Value.bool (dd)) r) := by
 unfold encode_encoder_operators_p at hm
 refine calls_of_W Tryz.func24 rfl rfl (Zc (Zd (Za rfl rfl (Zo (v := Value.bool (false)) rfl rfl (Zb (Ze (Zc (Zd (Za rfl rfl (Zm (v := Value.pointer (some ⟨z, 0, none⟩)) rfl rfl (Za rfl rfl (Exec.nilCheck_ptr rfl rfl (Za rfl rfl (Zp F66_0 rfl rfl rfl (Za rfl rfl (Zp F28_4 rfl rfl rfl (Za rfl rfl (Zn (hS) A26 rfl rfl rfl (Za rfl rfl (Zm (v := Vi (q)) rfl rfl ?_))))))))))))))))))))
 obtain ⟨a, cK, hm⟩ := Zg hm
 refine Za rfl rfl (Exec.index_rep S26 rfl rfl rfl a8 cK ?_)
 intro de dx cc
 refine Za rfl rfl (Zw (E := encGOp) hS A91 rfl rfl rfl cc ?_)
 intro d9 cL
 obtain ⟨ak, al, am, an, ao, rfl, aE, aF, aG, aU, aV⟩ := encGOp_val.1 cL
 refine Za rfl rfl (Exec.alloc (cs := [Value.string (⟨#[]⟩), Vi (0), Value.slice none 0 0, Value.slice none 0 0, Value.slice none 0 0, Value.slice none 0 0, Value.slice none 0 0]) hS Z91 rfl rfl ?_)
 intro ap dA ck
 refine Za rfl rfl (Exec.store_box (ds := [Value.string (a.Name), Vi (a.Cost), ak, al, am, an, ao]) (es := [Value.string (a.Name), Vi (a.Cost), ak, al, am, an, ao]) ck A91 rfl rfl rfl rfl (Zj rfl (Zj rfl (Zj (aE).one (Zj (aF).one (Zj (aG).one (Zj (aU).one (Zj (aV).one one_nil))))))) (Nat.le_of_ble_eq_true rfl) rfl ?_)
 intro dB bG
 refine Zb (Ze (Zc (Zd (Za rfl rfl (Exec.load_box_agg (ds := [Value.string (a.Name), Vi (a.Cost), ak, al, am, an, ao]) (bG) A91 rfl rfl rfl ?_)))))
 obtain ⟨ed, cM, hm⟩ := Zg hm
 refine Za rfl rfl (Tc rfl rfl rfl (Zi rfl args_nil) (encode_given_sim cM bG aE aF aG aU aV).r ?_)
 rintro aq dC ⟨d6, _, h, cl, rfl, b2⟩
 refine Za rfl rfl (Zo (v := aq) rfl rfl (Zb (Ze (Zc (Zc (Zd (Za rfl rfl (Zm (v := Value.pointer (some ⟨z, 0, none⟩)) rfl rfl (Za rfl rfl (Zm (v := aq) rfl rfl (Za rfl rfl (Zm (v := b8) rfl rfl ?_))))))))))))
 obtain ⟨bh, cN, hm⟩ := Zg hm
 refine Za rfl rfl (Tc rfl rfl rfl (Zi rfl (Zi rfl (Zi rfl args_nil))) (encode_encoder_assignments_sim cN (((((cl).f5).f5).f5).f5).f5 (aJ.mono h) (aK.mono h) (aL.mono h) (aM.mono h) (a8.mono h) b2 (cb.mono h)).r ?_)
 rintro aY dD ⟨b4, _, j, cm, rfl, aW⟩
 refine Za rfl rfl (Zr S41 rfl rfl aW (Za rfl rfl (Zm (v := Vi (0)) rfl rfl (Zb (Ze ?_)))))
 obtain ⟨bE, ce, dv, cx, cw⟩ := ctl_some hm
 refine W_mid (M := fun f' w' => ∃ s', (bE = .next s' ∨ bE = .brk s') ∧ (un2 fun (bO : (List Op)) (bP : (List Int)) => ∃ (bV : PHeap) (aZ : Value) (ba : Value), PHeap.le b4 bV ∧ St w0 bV (Res.box z 66 [av, aw, ax, ay, az, ac, ad, ae, af] :: Res.arr (encInt .i64) 3 ac l.vars :: Res.arr encFact 46 ad l.atoms :: Res.arr encBool 4 ae l.grouped :: Res.arr (encInt .i64) 3 af l.fluents :: Res.box b 36 [u, x, y, aZ, ag, ah, ba] :: Res.arr (encInt .i64) 3 u t.Task.Vars :: Res.arr (encInt .i64) 3 x t.Task.Init :: Res.arr encFact 46 y t.Task.Goal :: Res.arr encOp 55 aZ bO :: Res.arr (encInt .i64) 3 ba bP :: Res.box ap 91 [Value.string (a.Name), Vi (a.Cost), ak, al, am, an, ao] :: H) w' ∧ f' 0 = Value.pointer (some ⟨z, 0, none⟩) ∧ f' 1 = Value.pointer (some ⟨b, 0, none⟩) ∧ f' 2 = Vi (q) ∧ f' 9 = Value.pointer (some ⟨ap, 0, none⟩) ∧ f' 10 = aq ∧ f' 29 = aY ∧ f' 30 = Vi ((bh.length : Int))) s') ?_ ?_
 ·refine W_block (W_forC (fun k' s' f' w' => (un2 fun (aQ : (List Op)) (a1 : (List Int)) => ∃ (bW : PHeap) (ar : Value) (aj : Value), PHeap.le b4 bW ∧ St w0 bW (Res.box z 66 [av, aw, ax, ay, az, ac, ad, ae, af] :: Res.arr (encInt .i64) 3 ac l.vars :: Res.arr encFact 46 ad l.atoms :: Res.arr encBool 4 ae l.grouped :: Res.arr (encInt .i64) 3 af l.fluents :: Res.box b 36 [u, x, y, ar, ag, ah, aj] :: Res.arr (encInt .i64) 3 u t.Task.Vars :: Res.arr (encInt .i64) 3 x t.Task.Init :: Res.arr encFact 46 y t.Task.Goal :: Res.arr encOp 55 ar aQ :: Res.arr (encInt .i64) 3 aj a1 :: Res.box ap 91 [Value.string (a.Name), Vi (a.Cost), ak, al, am, an, ao] :: H) w' ∧ f' 0 = Value.pointer (some ⟨z, 0, none⟩) ∧ f' 1 = Value.pointer (some ⟨b, 0, none⟩) ∧ f' 2 = Vi (q) ∧ f' 9 = Value.pointer (some ⟨ap, 0, none⟩) ∧ f' 10 = aq ∧ f' 29 = aY ∧ f' 30 = Vi ((bh.length : Int)) ∧ f' 31 = Vi (k' : Int)) s') ce ?_ ?_ ?_)
  ·have cn := (cm).f5
   exact ⟨b4, b6, b7, (Zv _), (((((((((((cn).f11).f11).f11).f11).f11).f11).f11).f11).f11).f11).f11, rfl, rfl, rfl, rfl, rfl, rfl, rfl, rfl⟩
  ·intro aP cX bF dp dE bN cf m dw
   obtain ⟨aQ, a1⟩ := cX
   replace m := un2_eq m
   obtain ⟨d7, ar, aj, i, bj, a3, aR, bt, a4, aD, aS, aT, aI⟩ := cf
   refine Zc (Zd (Za rfl rfl (Zq rfl aI aT (Zb (Ze (Zc (W_true (Zx (decide_eq_true (by omega))) (W_skip (Ze (Zc (W_block (Zc (Zd ?_)))))))))))))
   obtain ⟨db, cO, m⟩ := Zg m
   refine Za rfl rfl (Exec.index_rep S41 rfl aS aI (aW.mono i) cO ?_)
   intro df dy cd
   refine Za rfl rfl (Zw (E := (encSlice (encInt .i64))) bj A24 rfl rfl rfl cd ?_)
   intro bb cP
   have b3 : SliceRep _ _ _ (db) := encSlice_val.1 cP
   refine Za rfl rfl (Zo (v := bb) rfl rfl (Zb (Ze (Zc (Zc (Zd (Za rfl rfl (Zm (v := Value.pointer (some ⟨z, 0, none⟩)) rfl a3 (Za rfl rfl (Exec.load_box_agg (ds := [Value.string (a.Name), Vi (a.Cost), ak, al, am, an, ao]) ((bj).f11) A91 rfl a4 rfl (Za rfl rfl (Zm (v := bb) rfl rfl ?_))))))))))))
   obtain ⟨ee, cQ, m⟩ := Zg m
   refine Za rfl rfl (Tc rfl rfl rfl (Zi rfl (Zi rfl (Zi rfl args_nil))) (encode_encoder_possible_sim cQ (((((bj).f4).f4).f4).f4).f4 (aJ.mono (Zt (Zt h j) i)) (aK.mono (Zt (Zt h j) i)) (aL.mono (Zt (Zt h j) i)) (aM.mono (Zt (Zt h j) i)) (a8.mono (Zt (Zt h j) i)) (aE.mono (Zt (Zt h j) i)) (aF.mono (Zt (Zt h j) i)) (aG.mono (Zt (Zt h j) i)) (aU.mono (Zt (Zt h j) i)) (aV.mono (Zt (Zt h j) i)) b3).r ?_)
   rintro _ dF ⟨cT, p, bk, rfl⟩
   refine Za rfl rfl (Exec.not rfl rfl (Zb (Ze ?_)))
   rcases ite_some m with ⟨aA, m⟩ | ⟨aA, m⟩
   ·refine W_cond_t rfl aA (W_exit (at_exit (ib_here (Ze (Zd (Za rfl rfl (Exec.add rfl aI rfl (Za rfl rfl (Zm (v := Vi (IntKind.i64.wrap ((aP : Int) + 1))) rfl rfl (Zb (Ze ?_)))))))))))
    have dl := Zu m
    subst bF
    refine ⟨_, rfl, ?_⟩; exact ⟨cT, ar, aj, (Zt i p), ((((((((((((bk).f11).f11).f11).f11).f11).f11).f11).f11).f11).f11).f11).f11, a3, aR, bt, a4, aD, aS, aT, (Eq.trans rfl (wrap_up bN (SliceRep.le aW)))⟩
   refine W_cond_f rfl aA ?_
   replace aA := Zk aA
   refine W_skip (Ze (Zc (Zd (Za rfl rfl (Zm (v := Value.pointer (some ⟨z, 0, none⟩)) rfl a3 (Za rfl rfl (Zp F91_2 rfl a4 rfl (Za rfl rfl (Exec.load_box_agg (ds := [ak, al, am]) ((bk).f11) A84 rfl rfl rfl (Za rfl rfl (Zm (v := aq) rfl aD (Za rfl rfl (Zm (v := bb) rfl rfl ?_)))))))))))))
   obtain ⟨cY, cR, m⟩ := Zg m
   obtain ⟨bC, bi⟩ := cY
   replace m := un2_eq m
   refine Za rfl rfl (Tc rfl rfl rfl (Zi rfl (Zi rfl (Zi rfl (Zi rfl (Zi rfl args_nil))))) (encode_encoder_facts_sim cR (((((bk).f4).f4).f4).f4).f4 (aJ.mono (Zt (Zt (Zt h j) i) p)) (aK.mono (Zt (Zt (Zt h j) i) p)) (aL.mono (Zt (Zt (Zt h j) i) p)) (aM.mono (Zt (Zt (Zt h j) i) p)) (a8.mono (Zt (Zt (Zt h j) i) p)) (aE.mono (Zt (Zt (Zt h j) i) p)) (aF.mono (Zt (Zt (Zt h j) i) p)) (aG.mono (Zt (Zt (Zt h j) i) p)) (b2.mono (Zt (Zt j i) p)) (b3.mono p) (SliceRep.nil _ _)).r ?_)
   rintro _ dG ⟨d8, n, aa, bH, rfl, aH⟩
   refine Za rfl rfl (Zm (v := Value.tuple #[n, Value.bool (bi)]) rfl rfl (Za rfl rfl (Exec.extract (v := n) rfl rfl rfl (Za rfl rfl (Exec.extract (v := Value.bool (bi)) rfl rfl rfl (Za rfl rfl (Zo (v := n) rfl rfl (Za rfl rfl (Zo (v := Value.bool (bi)) rfl rfl (Zb (Ze (Zc (Zc (Zd (Za rfl rfl (Zm (v := Value.bool (bi)) rfl rfl (Za rfl rfl (Exec.not rfl rfl (Zb (Ze ?_))))))))))))))))))))
   rcases ite_some m with ⟨aB, m⟩ | ⟨aB, m⟩
   ·refine W_cond_t rfl aB (Zc ?_)
    cases m
   refine W_cond_f rfl aB ?_
   replace aB := Zk aB
   refine W_skip (Ze (Zc (Zd (Za rfl rfl (Zm (v := Value.pointer (some ⟨z, 0, none⟩)) rfl a3 (Za rfl rfl (Exec.load_box_agg (ds := [Value.string (a.Name), Vi (a.Cost), ak, al, am, an, ao]) ((bH).f11) A91 rfl a4 rfl (Za rfl rfl (Zm (v := aq) rfl aD (Za rfl rfl (Zm (v := bb) rfl rfl ?_)))))))))))
   obtain ⟨a7, cS, m⟩ := Zg m
   refine Za rfl rfl (Tc rfl rfl rfl (Zi rfl (Zi rfl (Zi rfl (Zi rfl args_nil)))) (encode_encoder_effects_sim cS (((((bH).f4).f4).f4).f4).f4 (aJ.mono (Zt (Zt (Zt (Zt h j) i) p) aa)) (aK.mono (Zt (Zt (Zt (Zt h j) i) p) aa)) (aL.mono (Zt (Zt (Zt (Zt h j) i) p) aa)) (aM.mono (Zt (Zt (Zt (Zt h j) i) p) aa)) (a8.mono (Zt (Zt (Zt (Zt h j) i) p) aa)) (aE.mono (Zt (Zt (Zt (Zt h j) i) p) aa)) (aF.mono (Zt (Zt (Zt (Zt h j) i) p) aa)) (aG.mono (Zt (Zt (Zt (Zt h j) i) p) aa)) (aU.mono (Zt (Zt (Zt (Zt h j) i) p) aa)) (aV.mono (Zt (Zt (Zt (Zt h j) i) p) aa)) (b2.mono (Zt (Zt (Zt j i) p) aa)) (b3.mono (Zt p aa))).r ?_)
   rintro o dH ⟨b5, _, a2, aN, rfl, a6⟩
   refine Za rfl rfl (Zo (v := o) rfl rfl (Zb (Ze (Zc (Zc (W_mid (M := fun f' w' => ∃ (bX : PHeap) , PHeap.le b5 bX ∧ St w0 bX (Res.box z 66 [av, aw, ax, ay, az, ac, ad, ae, af] :: Res.arr (encInt .i64) 3 ac l.vars :: Res.arr encFact 46 ad l.atoms :: Res.arr encBool 4 ae l.grouped :: Res.arr (encInt .i64) 3 af l.fluents :: Res.box b 36 [u, x, y, ar, ag, ah, aj] :: Res.arr (encInt .i64) 3 u t.Task.Vars :: Res.arr (encInt .i64) 3 x t.Task.Init :: Res.arr encFact 46 y t.Task.Goal :: Res.arr encOp 55 ar aQ :: Res.arr (encInt .i64) 3 aj a1 :: Res.box ap 91 [Value.string (a.Name), Vi (a.Cost), ak, al, am, an, ao] :: H) w' ∧ f' 0 = Value.pointer (some ⟨z, 0, none⟩) ∧ f' 1 = Value.pointer (some ⟨b, 0, none⟩) ∧ f' 2 = Vi (q) ∧ f' 9 = Value.pointer (some ⟨ap, 0, none⟩) ∧ f' 10 = aq ∧ f' 13 = n ∧ f' 15 = o ∧ f' 29 = aY ∧ f' 30 = Vi ((bh.length : Int)) ∧ f' 31 = Vi ((aP : Int)) ∧ f' 66 = Value.bool (((decide (64 < (a7.length : Int))) || decide ((a1.length : Int) = 4096)))) ?_ ?_))))))
   ·refine Zd (Za rfl rfl (Zm (v := o) rfl rfl (Za rfl rfl (Zr S53 rfl rfl a6 (Za rfl rfl (Exec.gtr rfl rfl rfl (Za rfl rfl (Zm (v := Value.bool (decide (64 < (a7.length : Int)))) rfl rfl ?_))))))))
    by_cases ab : (decide (64 < (a7.length : Int))) = true
    ·refine WL_passes 7 (by rw [ab]; rfl) ?_
     refine Zb (Ze ?_)
     exact ⟨b5, (Zv _), ((((((((((((aN).f11).f11).f11).f11).f11).f11).f11).f11).f11).f11).f11).f11, a3, aR, bt, a4, aD, rfl, rfl, aS, aT, aI, (Zx (or_t ab)).symm⟩
    replace ab := Zk ab
    refine WL_run rfl (Zf rfl (Zx ab)) rfl (Zm (v := Value.pointer (some ⟨b, 0, none⟩)) rfl aR (WL_run rfl (Zf rfl (Zx ab)) rfl (Exec.nilCheck_ptr rfl rfl (WL_run rfl (Zf rfl (Zx ab)) rfl (Zp F36_3 rfl rfl rfl (WL_run rfl (Zf rfl (Zx ab)) rfl (Zn ((aN).f5) A24 rfl rfl rfl (WL_run rfl (Zf rfl (Zx ab)) rfl (Exec.len_arr ((aN).f10) S24 rfl rfl (WL_run rfl (Zf rfl (Zx ab)) rfl (Exec.eql rfl rfl rfl (Za rfl rfl (Exec.pick_f (v := Value.bool (decide ((a1.length : Int) = 4096))) rfl (Zx ab) rfl (Zb (Ze ?_)))))))))))))))
    exact ⟨b5, (Zv _), ((((((((((((aN).f11).f11).f11).f11).f11).f11).f11).f11).f11).f11).f11).f11, a3, aR, bt, a4, aD, rfl, rfl, aS, aT, aI, (Zx (or_f ab)).symm⟩
   intro dq dI ch
   obtain ⟨aX, ai, a0, bu, d, a5, au, bv, bQ, bR, bw, bx, bz, bS⟩ := ch
   refine (Ze ?_)
   rcases ite_some m with ⟨aC, m⟩ | ⟨aC, m⟩
   ·refine W_cond_t bS aC (Zc ?_)
    cases m
   refine W_cond_f bS aC ?_
   replace aC := Zk aC
   refine W_skip (Ze ?_)
   obtain ⟨c1, b0, m⟩ := Zg m
   obtain ⟨c2, b1, m⟩ := Zg m
   refine W_mid (M := fun f' w' => ∃ (bY : PHeap) (bc : Value) (bd : Value), PHeap.le aX bY ∧ St w0 bY (Res.box z 66 [av, aw, ax, ay, az, ac, ad, ae, af] :: Res.arr (encInt .i64) 3 ac l.vars :: Res.arr encFact 46 ad l.atoms :: Res.arr encBool 4 ae l.grouped :: Res.arr (encInt .i64) 3 af l.fluents :: Res.box b 36 [u, x, y, bc, ag, ah, bd] :: Res.arr (encInt .i64) 3 u t.Task.Vars :: Res.arr (encInt .i64) 3 x t.Task.Init :: Res.arr encFact 46 y t.Task.Goal :: Res.arr encOp 55 bc c1 :: Res.arr (encInt .i64) 3 bd c2 :: Res.box ap 91 [Value.string (a.Name), Vi (a.Cost), ak, al, am, an, ao] :: H) w' ∧ f' 0 = Value.pointer (some ⟨z, 0, none⟩) ∧ f' 1 = Value.pointer (some ⟨b, 0, none⟩) ∧ f' 2 = Vi (q) ∧ f' 9 = Value.pointer (some ⟨ap, 0, none⟩) ∧ f' 10 = aq ∧ f' 29 = aY ∧ f' 30 = Vi ((bh.length : Int)) ∧ f' 31 = Vi ((aP : Int))) ?_ ?_
   ·refine W_dl (n0 := 27) (qs 0 14 (qs 16 5 (.alt (.e 14 [0, 1, 2, 3, 4, 5, 6, 16, 17, 18, 19, 20] (.alt (.e 15 [0, 1, 16, 17, 18, 19, 20] (.e 21 [0, 1, 16, 17, 18, 19] (.e 22 [0, 1] (qs 23 3 (.e 26 [1] .done))))) (.e 21 [0, 1, 2, 3, 4, 5, 6, 16, 17, 18, 19] (.e 15 [0, 1, 16, 17, 18, 19] (.e 22 [0, 1] (qs 23 3 (.e 26 [1] .done))))))) (.e 21 [0, 1, 2, 3, 4, 5, 6, 7, 8, 9, 10, 11, 12, 13, 16, 17, 18, 19] (.e 14 [0, 1, 2, 3, 4, 5, 6, 16, 17, 18, 19] (.e 15 [0, 1, 16, 17, 18, 19] (.e 22 [0, 1] (qs 23 3 (.e 26 [1] .done))))))))) hmix (by kernel_rfl) (by kernel_rfl) (DL_q rfl rfl (Zm (v := Value.pointer (some ⟨b, 0, none⟩)) rfl d ⟨rfl, ?_⟩))
    refine DL_q rfl rfl (Zm (v := Value.pointer (some ⟨b, 0, none⟩)) rfl d ⟨rfl, ?_⟩)
    refine DL_q rfl rfl (Zm (v := Value.pointer (some ⟨b, 0, none⟩)) rfl d ⟨rfl, ?_⟩)
    refine DL_q rfl rfl (Exec.nilCheck_ptr rfl rfl ⟨rfl, ?_⟩)
    refine DL_q rfl rfl (Zp F36_0 rfl rfl rfl ⟨rfl, ?_⟩)
    refine DL_q rfl rfl (Zp F34_3 rfl rfl rfl ⟨rfl, ?_⟩)
    refine DL_q rfl rfl (Zn ((a0.drew).f5) A32 rfl rfl rfl ⟨rfl, ?_⟩)
    refine DL_q rfl rfl (Zp F91_0 rfl au rfl ⟨rfl, ?_⟩)
    refine DL_q rfl rfl (Zn ((a0.drew).f11) A9 rfl rfl rfl ⟨rfl, ?_⟩)
    refine DL_q rfl rfl (Zp F91_1 rfl au rfl ⟨rfl, ?_⟩)
    refine DL_q rfl rfl (Zn ((a0.drew).f11) A3 rfl rfl rfl ⟨rfl, ?_⟩)
    refine DL_q rfl rfl (Zm (v := n) rfl bQ ⟨rfl, ?_⟩)
    refine DL_q rfl rfl (Zm (v := o) rfl bR ⟨rfl, ?_⟩)
    refine DL_q rfl rfl (Exec.build rfl (parts_cons (c := [Value.string (a.Name)]) (cells_of rfl rfl) (parts_cons (c := [Vi (a.Cost)]) (cells_of rfl rfl) (parts_cons (c := [n]) (cells_of rfl (cells_one ((aH.mono (Zt a2 ai))).one)) (parts_cons (c := [o]) (cells_of rfl (cells_one ((a6.mono ai)).one)) parts_nil)))) (v := Value.agg #[Value.string (a.Name), Vi (a.Cost), n, o]) (fun _ => by kernel_rfl) ⟨rfl, ?_⟩)
    refine DL_q rfl rfl (Zm (v := Value.pointer (some ⟨b, 0, none⟩)) rfl d ⟨rfl, ?_⟩)
    refine DL_q rfl rfl (Exec.nilCheck_ptr rfl rfl ⟨rfl, ?_⟩)
    refine DL_q rfl rfl (Zp F36_3 rfl rfl rfl ⟨rfl, ?_⟩)
    refine DL_q rfl rfl (Zn ((a0.drew).f5) A24 rfl rfl rfl ⟨rfl, ?_⟩)
    refine DL_q rfl rfl (Zm (v := Vi (q)) rfl a5 ⟨rfl, ?_⟩)
    refine DL_alt ?_ ?_
    ·refine DL_e rfl rfl (Exec.buildSlice (Te := 55) (cs := [Value.string (a.Name), Vi (a.Cost), n, o]) a0.drew rfl (parts_cons (c := [Value.string (a.Name), Vi (a.Cost), n, o]) (cells_of rfl rfl) parts_nil) (fun _ => by kernel_rfl) ?_)
     intro dg dJ aO
     refine ⟨(ag_cons (ag_r rfl rfl (Zm (v := Value.pointer (some ⟨b, 0, none⟩)) rfl d ⟨rfl, rfl⟩)) (ag_cons (ag_r rfl rfl (Zm (v := Value.pointer (some ⟨b, 0, none⟩)) rfl d ⟨rfl, rfl⟩)) (ag_cons (ag_r rfl rfl (Zm (v := Value.pointer (some ⟨b, 0, none⟩)) rfl d ⟨rfl, rfl⟩)) (ag_cons (ag_r rfl rfl (Exec.nilCheck_ptr rfl rfl ⟨rfl, rfl⟩)) (ag_cons (ag_r rfl rfl (Zp F36_0 rfl rfl rfl ⟨rfl, rfl⟩)) (ag_cons (ag_r rfl rfl (Zp F34_3 rfl rfl rfl ⟨rfl, rfl⟩)) (ag_cons (ag_r rfl rfl (Zn ((aO).f6) A32 rfl rfl rfl ⟨rfl, rfl⟩)) (ag_cons (ag_r rfl rfl (Zm (v := Value.pointer (some ⟨b, 0, none⟩)) rfl d ⟨rfl, rfl⟩)) (ag_cons (ag_r rfl rfl (Exec.nilCheck_ptr rfl rfl ⟨rfl, rfl⟩)) (ag_cons (ag_r rfl rfl (Zp F36_3 rfl rfl rfl ⟨rfl, rfl⟩)) (ag_cons (ag_r rfl rfl (Zn ((aO).f6) A24 rfl rfl rfl ⟨rfl, rfl⟩)) (ag_cons (ag_r rfl rfl (Zm (v := Vi (q)) rfl a5 ⟨rfl, rfl⟩)) ag_nil)))))))))))), ?_⟩
     refine DL_alt ?_ ?_
     ·have co := (aO).f10
      refine DL_e rfl rfl (Exec.append_box (E := encOp) (ys := [(⟨a.Name, a.Cost, bC, a7⟩ : Op)]) co S32 Z55 rfl (by decide) rfl rfl rfl rfl ⟨[Value.string (a.Name), Vi (a.Cost), n, o], [], rfl, ⟨[Value.string (a.Name)], [Vi (a.Cost), n, o], rfl, rfl, ⟨[Vi (a.Cost)], [n, o], rfl, rfl, ⟨[n], [o], rfl, ⟨_, rfl, (aH.mono (Zt a2 ai))⟩, ⟨_, rfl, (a6.mono ai)⟩⟩⟩⟩, rfl⟩ rfl b0 ?_)
      intro be dK bI
      refine ⟨(ag_cons (ag_r rfl rfl (Zm (v := Value.pointer (some ⟨b, 0, none⟩)) rfl d ⟨rfl, rfl⟩)) (ag_cons (ag_r rfl rfl (Zm (v := Value.pointer (some ⟨b, 0, none⟩)) rfl d ⟨rfl, rfl⟩)) (ag_cons (ag_r rfl rfl (Zm (v := Value.pointer (some ⟨b, 0, none⟩)) rfl d ⟨rfl, rfl⟩)) (ag_cons (ag_r rfl rfl (Exec.nilCheck_ptr rfl rfl ⟨rfl, rfl⟩)) (ag_cons (ag_r rfl rfl (Zp F36_3 rfl rfl rfl ⟨rfl, rfl⟩)) (ag_cons (ag_r rfl rfl (Zn ((bI).f6) A24 rfl rfl rfl ⟨rfl, rfl⟩)) (ag_cons (ag_r rfl rfl (Zm (v := Vi (q)) rfl a5 ⟨rfl, rfl⟩)) ag_nil))))))), ?_⟩
      refine DL_e rfl rfl (Exec.buildSlice (Te := 3) (cs := [Vi (q)]) bI rfl (parts_cons (c := [Vi (q)]) (cells_of rfl rfl) parts_nil) (fun _ => by kernel_rfl) ?_)
      intro dh dL bJ
      refine ⟨(ag_cons (ag_r rfl rfl (Zm (v := Value.pointer (some ⟨b, 0, none⟩)) rfl d ⟨rfl, rfl⟩)) (ag_cons (ag_r rfl rfl (Zm (v := Value.pointer (some ⟨b, 0, none⟩)) rfl d ⟨rfl, rfl⟩)) (ag_cons (ag_r rfl rfl (Zm (v := Value.pointer (some ⟨b, 0, none⟩)) rfl d ⟨rfl, rfl⟩)) (ag_cons (ag_r rfl rfl (Exec.nilCheck_ptr rfl rfl ⟨rfl, rfl⟩)) (ag_cons (ag_r rfl rfl (Zp F36_3 rfl rfl rfl ⟨rfl, rfl⟩)) (ag_cons (ag_r rfl rfl (Zn ((bJ).f7) A24 rfl rfl rfl ⟨rfl, rfl⟩)) ag_nil)))))), ?_⟩
      refine DL_e rfl rfl (Exec.append_box (E := (encInt .i64)) (ys := [q]) (bJ).f11 S24 Z3 rfl (by decide) rfl rfl rfl rfl ⟨[Vi (q)], [], rfl, rfl, rfl⟩ rfl b1 ?_)
      intro b9 dM bl
      refine ⟨(ag_cons (ag_r rfl rfl (Zm (v := Value.pointer (some ⟨b, 0, none⟩)) rfl d ⟨rfl, rfl⟩)) (ag_cons (ag_r rfl rfl (Zm (v := Value.pointer (some ⟨b, 0, none⟩)) rfl d ⟨rfl, rfl⟩)) ag_nil)), ?_⟩
      refine DL_q rfl rfl (Exec.nilCheck_ptr rfl rfl ⟨rfl, ?_⟩)
      refine DL_q rfl rfl (Zp F36_0 rfl rfl rfl ⟨rfl, ?_⟩)
      refine DL_q rfl rfl (Zp F34_3 rfl rfl rfl ⟨rfl, ?_⟩)
      refine DL_e rfl rfl (Exec.store_box (ds := [be]) (es := [u, x, y, be, ag, ah, aj]) (bl).f7 A32 rfl rfl rfl (cells_one (((bl).f7).f2).arr_one) (Zj (((bl).f7).f2).arr_one one_nil) (Nat.le_of_ble_eq_true rfl) rfl ?_)
      intro dN bm
      refine ⟨(ag_cons (ag_r rfl rfl (Zm (v := Value.pointer (some ⟨b, 0, none⟩)) rfl d ⟨rfl, rfl⟩)) ag_nil), ?_⟩
      refine DL_done (Za rfl rfl (Exec.nilCheck_ptr rfl rfl (Za rfl rfl (Zp F36_3 rfl rfl rfl (Za rfl rfl (Exec.store_box (ds := [b9]) (es := [u, x, y, be, ag, ah, b9]) bm A24 rfl rfl rfl (cells_one ((bm).f1).arr_one) (Zj ((bm).f1).arr_one one_nil) (Nat.le_of_ble_eq_true rfl) rfl ?_))))))
      intro dO cp
      refine Zb (Ze ?_)
      exact ⟨aX, be, b9, (Zv _), ((((((((((((cp).f11).f2).f3).f11).f11).f11).f6).f11).f11).f11).f11).f11, bu, d, a5, au, bv, bw, bx, bz⟩
     refine DL_e rfl rfl (Exec.buildSlice (Te := 3) (cs := [Vi (q)]) aO rfl (parts_cons (c := [Vi (q)]) (cells_of rfl rfl) parts_nil) (fun _ => by kernel_rfl) ?_)
     intro di dP bn
     refine ⟨(ag_cons (ag_r rfl rfl (Zm (v := Value.pointer (some ⟨b, 0, none⟩)) rfl d ⟨rfl, rfl⟩)) (ag_cons (ag_r rfl rfl (Zm (v := Value.pointer (some ⟨b, 0, none⟩)) rfl d ⟨rfl, rfl⟩)) (ag_cons (ag_r rfl rfl (Zm (v := Value.pointer (some ⟨b, 0, none⟩)) rfl d ⟨rfl, rfl⟩)) (ag_cons (ag_r rfl rfl (Exec.nilCheck_ptr rfl rfl ⟨rfl, rfl⟩)) (ag_cons (ag_r rfl rfl (Zp F36_0 rfl rfl rfl ⟨rfl, rfl⟩)) (ag_cons (ag_r rfl rfl (Zp F34_3 rfl rfl rfl ⟨rfl, rfl⟩)) (ag_cons (ag_r rfl rfl (Zn ((bn).f7) A32 rfl rfl rfl ⟨rfl, rfl⟩)) (ag_cons (ag_r rfl rfl (Zm (v := Value.pointer (some ⟨b, 0, none⟩)) rfl d ⟨rfl, rfl⟩)) (ag_cons (ag_r rfl rfl (Exec.nilCheck_ptr rfl rfl ⟨rfl, rfl⟩)) (ag_cons (ag_r rfl rfl (Zp F36_3 rfl rfl rfl ⟨rfl, rfl⟩)) (ag_cons (ag_r rfl rfl (Zn ((bn).f7) A24 rfl rfl rfl ⟨rfl, rfl⟩)) ag_nil))))))))))), ?_⟩
     refine DL_e rfl rfl (Exec.append_box (E := encOp) (ys := [(⟨a.Name, a.Cost, bC, a7⟩ : Op)]) ((bn).f1).f11 S32 Z55 rfl (by decide) rfl rfl rfl rfl ⟨[Value.string (a.Name), Vi (a.Cost), n, o], [], rfl, ⟨[Value.string (a.Name)], [Vi (a.Cost), n, o], rfl, rfl, ⟨[Vi (a.Cost)], [n, o], rfl, rfl, ⟨[n], [o], rfl, ⟨_, rfl, (aH.mono (Zt a2 ai))⟩, ⟨_, rfl, (a6.mono ai)⟩⟩⟩⟩, rfl⟩ rfl b0 ?_)
     intro bf dQ bK
     refine ⟨(ag_cons (ag_r rfl rfl (Zm (v := Value.pointer (some ⟨b, 0, none⟩)) rfl d ⟨rfl, rfl⟩)) (ag_cons (ag_r rfl rfl (Zm (v := Value.pointer (some ⟨b, 0, none⟩)) rfl d ⟨rfl, rfl⟩)) (ag_cons (ag_r rfl rfl (Zm (v := Value.pointer (some ⟨b, 0, none⟩)) rfl d ⟨rfl, rfl⟩)) (ag_cons (ag_r rfl rfl (Exec.nilCheck_ptr rfl rfl ⟨rfl, rfl⟩)) (ag_cons (ag_r rfl rfl (Zp F36_3 rfl rfl rfl ⟨rfl, rfl⟩)) (ag_cons (ag_r rfl rfl (Zn ((bK).f7) A24 rfl rfl rfl ⟨rfl, rfl⟩)) ag_nil)))))), ?_⟩
     refine DL_e rfl rfl (Exec.append_box (E := (encInt .i64)) (ys := [q]) ((bK).f1).f11 S24 Z3 rfl (by decide) rfl rfl rfl rfl ⟨[Vi (q)], [], rfl, rfl, rfl⟩ rfl b1 ?_)
     intro bA dR bo
     refine ⟨(ag_cons (ag_r rfl rfl (Zm (v := Value.pointer (some ⟨b, 0, none⟩)) rfl d ⟨rfl, rfl⟩)) (ag_cons (ag_r rfl rfl (Zm (v := Value.pointer (some ⟨b, 0, none⟩)) rfl d ⟨rfl, rfl⟩)) ag_nil)), ?_⟩
     refine DL_q rfl rfl (Exec.nilCheck_ptr rfl rfl ⟨rfl, ?_⟩)
     refine DL_q rfl rfl (Zp F36_0 rfl rfl rfl ⟨rfl, ?_⟩)
     refine DL_q rfl rfl (Zp F34_3 rfl rfl rfl ⟨rfl, ?_⟩)
     refine DL_e rfl rfl (Exec.store_box (ds := [bf]) (es := [u, x, y, bf, ag, ah, aj]) (bo).f7 A32 rfl rfl rfl (cells_one (((bo).f7).f2).arr_one) (Zj (((bo).f7).f2).arr_one one_nil) (Nat.le_of_ble_eq_true rfl) rfl ?_)
     intro dS bp
     refine ⟨(ag_cons (ag_r rfl rfl (Zm (v := Value.pointer (some ⟨b, 0, none⟩)) rfl d ⟨rfl, rfl⟩)) ag_nil), ?_⟩
     refine DL_done (Za rfl rfl (Exec.nilCheck_ptr rfl rfl (Za rfl rfl (Zp F36_3 rfl rfl rfl (Za rfl rfl (Exec.store_box (ds := [bA]) (es := [u, x, y, bf, ag, ah, bA]) bp A24 rfl rfl rfl (cells_one ((bp).f1).arr_one) (Zj ((bp).f1).arr_one one_nil) (Nat.le_of_ble_eq_true rfl) rfl ?_))))))
     intro dT cq
     refine Zb (Ze ?_)
     exact ⟨aX, bf, bA, (Zv _), ((((((((((((cq).f11).f2).f3).f11).f11).f11).f6).f11).f11).f11).f11).f11, bu, d, a5, au, bv, bw, bx, bz⟩
    refine DL_e rfl rfl (Exec.buildSlice (Te := 3) (cs := [Vi (q)]) a0.drew rfl (parts_cons (c := [Vi (q)]) (cells_of rfl rfl) parts_nil) (fun _ => by kernel_rfl) ?_)
    intro dj dU a9
    refine ⟨(ag_cons (ag_r rfl rfl (Zm (v := Value.pointer (some ⟨b, 0, none⟩)) rfl d ⟨rfl, rfl⟩)) (ag_cons (ag_r rfl rfl (Zm (v := Value.pointer (some ⟨b, 0, none⟩)) rfl d ⟨rfl, rfl⟩)) (ag_cons (ag_r rfl rfl (Zm (v := Value.pointer (some ⟨b, 0, none⟩)) rfl d ⟨rfl, rfl⟩)) (ag_cons (ag_r rfl rfl (Exec.nilCheck_ptr rfl rfl ⟨rfl, rfl⟩)) (ag_cons (ag_r rfl rfl (Zp F36_0 rfl rfl rfl ⟨rfl, rfl⟩)) (ag_cons (ag_r rfl rfl (Zp F34_3 rfl rfl rfl ⟨rfl, rfl⟩)) (ag_cons (ag_r rfl rfl (Zn ((a9).f6) A32 rfl rfl rfl ⟨rfl, rfl⟩)) (ag_cons (ag_r rfl rfl (Zp F91_0 rfl au rfl ⟨rfl, rfl⟩)) (ag_cons (ag_r rfl rfl (Zn ((a9).f12) A9 rfl rfl rfl ⟨rfl, rfl⟩)) (ag_cons (ag_r rfl rfl (Zp F91_1 rfl au rfl ⟨rfl, rfl⟩)) (ag_cons (ag_r rfl rfl (Zn ((a9).f12) A3 rfl rfl rfl ⟨rfl, rfl⟩)) (ag_cons (ag_r rfl rfl (Zm (v := n) rfl bQ ⟨rfl, rfl⟩)) (ag_cons (ag_r rfl rfl (Zm (v := o) rfl bR ⟨rfl, rfl⟩)) (ag_cons (ag_r rfl rfl (Exec.build rfl (parts_cons (c := [Value.string (a.Name)]) (cells_of rfl rfl) (parts_cons (c := [Vi (a.Cost)]) (cells_of rfl rfl) (parts_cons (c := [n]) (cells_of rfl (cells_one ((aH.mono (Zt a2 ai))).one)) (parts_cons (c := [o]) (cells_of rfl (cells_one ((a6.mono ai)).one)) parts_nil)))) (v := Value.agg #[Value.string (a.Name), Vi (a.Cost), n, o]) (fun _ => by kernel_rfl) ⟨rfl, rfl⟩)) (ag_cons (ag_r rfl rfl (Zm (v := Value.pointer (some ⟨b, 0, none⟩)) rfl d ⟨rfl, rfl⟩)) (ag_cons (ag_r rfl rfl (Exec.nilCheck_ptr rfl rfl ⟨rfl, rfl⟩)) (ag_cons (ag_r rfl rfl (Zp F36_3 rfl rfl rfl ⟨rfl, rfl⟩)) (ag_cons (ag_r rfl rfl (Zn ((a9).f6) A24 rfl rfl rfl ⟨rfl, rfl⟩)) ag_nil)))))))))))))))))), ?_⟩
    refine DL_e rfl rfl (Exec.buildSlice (Te := 55) (cs := [Value.string (a.Name), Vi (a.Cost), n, o]) a9 rfl (parts_cons (c := [Value.string (a.Name), Vi (a.Cost), n, o]) (cells_of rfl rfl) parts_nil) (fun _ => by kernel_rfl) ?_)
    intro dk dV bq
    refine ⟨(ag_cons (ag_r rfl rfl (Zm (v := Value.pointer (some ⟨b, 0, none⟩)) rfl d ⟨rfl, rfl⟩)) (ag_cons (ag_r rfl rfl (Zm (v := Value.pointer (some ⟨b, 0, none⟩)) rfl d ⟨rfl, rfl⟩)) (ag_cons (ag_r rfl rfl (Zm (v := Value.pointer (some ⟨b, 0, none⟩)) rfl d ⟨rfl, rfl⟩)) (ag_cons (ag_r rfl rfl (Exec.nilCheck_ptr rfl rfl ⟨rfl, rfl⟩)) (ag_cons (ag_r rfl rfl (Zp F36_0 rfl rfl rfl ⟨rfl, rfl⟩)) (ag_cons (ag_r rfl rfl (Zp F34_3 rfl rfl rfl ⟨rfl, rfl⟩)) (ag_cons (ag_r rfl rfl (Zn ((bq).f7) A32 rfl rfl rfl ⟨rfl, rfl⟩)) (ag_cons (ag_r rfl rfl (Zm (v := Value.pointer (some ⟨b, 0, none⟩)) rfl d ⟨rfl, rfl⟩)) (ag_cons (ag_r rfl rfl (Exec.nilCheck_ptr rfl rfl ⟨rfl, rfl⟩)) (ag_cons (ag_r rfl rfl (Zp F36_3 rfl rfl rfl ⟨rfl, rfl⟩)) (ag_cons (ag_r rfl rfl (Zn ((bq).f7) A24 rfl rfl rfl ⟨rfl, rfl⟩)) ag_nil))))))))))), ?_⟩
    refine DL_e rfl rfl (Exec.append_box (E := encOp) (ys := [(⟨a.Name, a.Cost, bC, a7⟩ : Op)]) (bq).f11 S32 Z55 rfl (by decide) rfl rfl rfl rfl ⟨[Value.string (a.Name), Vi (a.Cost), n, o], [], rfl, ⟨[Value.string (a.Name)], [Vi (a.Cost), n, o], rfl, rfl, ⟨[Vi (a.Cost)], [n, o], rfl, rfl, ⟨[n], [o], rfl, ⟨_, rfl, (aH.mono (Zt a2 ai))⟩, ⟨_, rfl, (a6.mono ai)⟩⟩⟩⟩, rfl⟩ rfl b0 ?_)
    intro bg dW bL
    refine ⟨(ag_cons (ag_r rfl rfl (Zm (v := Value.pointer (some ⟨b, 0, none⟩)) rfl d ⟨rfl, rfl⟩)) (ag_cons (ag_r rfl rfl (Zm (v := Value.pointer (some ⟨b, 0, none⟩)) rfl d ⟨rfl, rfl⟩)) (ag_cons (ag_r rfl rfl (Zm (v := Value.pointer (some ⟨b, 0, none⟩)) rfl d ⟨rfl, rfl⟩)) (ag_cons (ag_r rfl rfl (Exec.nilCheck_ptr rfl rfl ⟨rfl, rfl⟩)) (ag_cons (ag_r rfl rfl (Zp F36_3 rfl rfl rfl ⟨rfl, rfl⟩)) (ag_cons (ag_r rfl rfl (Zn ((bL).f7) A24 rfl rfl rfl ⟨rfl, rfl⟩)) ag_nil)))))), ?_⟩
    refine DL_e rfl rfl (Exec.append_box (E := (encInt .i64)) (ys := [q]) ((bL).f1).f11 S24 Z3 rfl (by decide) rfl rfl rfl rfl ⟨[Vi (q)], [], rfl, rfl, rfl⟩ rfl b1 ?_)
    intro bB dX br
    refine ⟨(ag_cons (ag_r rfl rfl (Zm (v := Value.pointer (some ⟨b, 0, none⟩)) rfl d ⟨rfl, rfl⟩)) (ag_cons (ag_r rfl rfl (Zm (v := Value.pointer (some ⟨b, 0, none⟩)) rfl d ⟨rfl, rfl⟩)) ag_nil)), ?_⟩
    refine DL_q rfl rfl (Exec.nilCheck_ptr rfl rfl ⟨rfl, ?_⟩)
    refine DL_q rfl rfl (Zp F36_0 rfl rfl rfl ⟨rfl, ?_⟩)
    refine DL_q rfl rfl (Zp F34_3 rfl rfl rfl ⟨rfl, ?_⟩)
    refine DL_e rfl rfl (Exec.store_box (ds := [bg]) (es := [u, x, y, bg, ag, ah, aj]) (br).f7 A32 rfl rfl rfl (cells_one (((br).f7).f2).arr_one) (Zj (((br).f7).f2).arr_one one_nil) (Nat.le_of_ble_eq_true rfl) rfl ?_)
    intro dY bs
    refine ⟨(ag_cons (ag_r rfl rfl (Zm (v := Value.pointer (some ⟨b, 0, none⟩)) rfl d ⟨rfl, rfl⟩)) ag_nil), ?_⟩
    refine DL_done (Za rfl rfl (Exec.nilCheck_ptr rfl rfl (Za rfl rfl (Zp F36_3 rfl rfl rfl (Za rfl rfl (Exec.store_box (ds := [bB]) (es := [u, x, y, bg, ag, ah, bB]) bs A24 rfl rfl rfl (cells_one ((bs).f1).arr_one) (Zj ((bs).f1).arr_one one_nil) (Nat.le_of_ble_eq_true rfl) rfl ?_))))))
    intro dZ cr
    refine Zb (Ze ?_)
    exact ⟨aX, bg, bB, (Zv _), ((((((((((((cr).f11).f2).f3).f11).f11).f11).f6).f11).f11).f11).f11).f11, bu, d, a5, au, bv, bw, bx, bz⟩
   intro dr ea ci
   obtain ⟨cU, bc, bd, c3, ct, c6, c7, c8, c9, cA, cB, cC, cD⟩ := ci
   refine (ib_normal (Ze (Zd (Za rfl rfl (Exec.add rfl cD rfl (Za rfl rfl (Zm (v := Vi (IntKind.i64.wrap ((aP : Int) + 1))) rfl rfl (Zb (Ze ?_)))))))))
   have dm := Zu m
   subst bF
   refine ⟨_, rfl, ?_⟩; exact ⟨cU, bc, bd, (Zt (Zt (Zt (Zt (Zt i p) aa) a2) ai) c3), ((((((((((((ct).f11).f11).f11).f11).f11).f11).f11).f11).f11).f11).f11).f11, c6, c7, c8, c9, cA, cB, cC, (Eq.trans rfl (wrap_up bN (SliceRep.le aW)))⟩
  intro cZ dt eb cg cy
  obtain ⟨aQ, a1⟩ := cZ
  obtain ⟨cV, ar, aj, c4, cu, cE, cF, cG, cH, cI, cJ, bT, dc⟩ := cg
  refine Zc (Zd (Za rfl rfl (Zq rfl dc bT (Zb (Ze (Zc (W_false (Zx (decide_eq_false (by omega))) (W_exit (at_exit (at_exit (ib_here (Ze ?_))))))))))))
  refine ⟨_, .inl cy, ?_⟩; exact ⟨cV, ar, aj, c4, ((((((((((((cu).f11).f11).f11).f11).f11).f11).f11).f11).f11).f11).f11).f11, cE, cF, cG, cH, cI, cJ, bT⟩
 rintro du ec ⟨da, bM, cj⟩
 have hm := bM.elim (cx _) (cw _)
 clear bM
 obtain ⟨bO, bP⟩ := da
 replace hm := un2_eq hm
 obtain ⟨cW, aZ, ba, c5, cv, dz, d0, d1, d2, d3, d4, d5⟩ := cj
 refine (Ze (Zc (Zd (Za rfl rfl (Zo (v := Value.bool (true)) rfl rfl (Zb (Ze (W_ret ?_))))))))
 have dn := Zu hm
 subst r
 refine ⟨_, ret1 rfl, ?_⟩
 exact ⟨cW, aZ, ba, (Zt (Zt h j) c5), (((((((((((((cv).f11).drop).f10).f10).f10).f10).f10).f10).f10).f10).f10).f10).f10, rfl⟩
theorem F34_2 : tyField Tryz.prog 34 2 = some 2 := by kernel_rfl
theorem encode_encoder_goal_sim {w0 w : World} {s : PHeap} {H : List Res} {a : encode_encoder} {b : Encoding} {ao : (List Int)} {d : Nat} {ac : Value} {ad : Value} {ae : Value} {af : Value} {ag : Value} {p : Value} {q : Value} {t : Value} {u : Value} {o : Nat} {j : Value} {k : Value} {z : Value} {l : Value} {ah : Value} {ai : Value} {m : Value} {aj : Value} {r : Bool × (List Fact)} (hm : encode_encoder_goal_p a b ao = some r) (hS : St w0 s (Res.box d 66 [ac, ad, ae, af, ag, p, q, t, u] :: Res.arr (encInt .i64) 3 p a.vars :: Res.arr encFact 46 q a.atoms :: Res.arr encBool 4 t a.grouped :: Res.arr (encInt .i64) 3 u a.fluents :: Res.box o 36 [j, k, z, l, ah, ai, m] :: Res.arr (encInt .i64) 3 j b.Task.Vars :: Res.arr (encInt .i64) 3 k b.Task.Init :: Res.arr encFact 46 z b.Task.Goal :: Res.arr encOp 55 l b.Task.Ops :: Res.arr (encInt .i64) 3 m b.Ops :: H) w) (aw : SliceRep encAtom s ac a.g.Atoms) (ax : SliceRep encGFluent s ad a.g.Fluents) (ay : SliceRep (encInt .i64) s ae a.g.Init) (ab : SliceRep encCond s af a.g.Goal) (az : SliceRep encGOp s ag a.g.Ops) (a0 : SliceRep (encInt .i64) s aj ao) :
  Calls Tryz.prog 25 #[Value.pointer (some ⟨d, 0, none⟩), Value.pointer (some ⟨o, 0, none⟩), aj] w fun e w' => ∃ v, e = .returned v ∧ ((un2 fun (aK : Bool) (aL : (List Fact)) => ∃ (an : PHeap) (au : Value), PHeap.le s an ∧ St w0 an (Res.box d 66 [ac, ad, ae, af, ag, p, q, t, u] :: Res.arr (encInt .i64) 3 p a.vars :: Res.arr encFact 46 q a.atoms :: Res.arr encBool 4 t a.grouped :: Res.arr (encInt .i64) 3 u a.fluents :: Res.box o 36 [j, k, au, l, ah, ai, m] :: Res.arr (encInt .i64) 3 j b.Task.Vars :: Res.arr (encInt .i64) 3 k b.Task.Init :: Res.arr encFact 46 z b.Task.Goal :: Res.arr encOp 55 l b.Task.Ops :: Res.arr (encInt .i64) 3 m b.Ops :: H) w' ∧ v = Value.bool (aK) ∧ SliceRep encFact an au aL) r) := by
 unfold encode_encoder_goal_p at hm
 refine calls_of_W Tryz.func25 rfl rfl (Zc (Zd (Za rfl rfl (Zo (v := Value.bool (false)) rfl rfl (Zb (Ze (Zc (Zc ?_))))))))
 obtain ⟨aa, i, hm⟩ := Zg hm
 refine W_mid (M := fun f' w' => (fun (aa : Bool) => ∃ (ar : PHeap) , PHeap.le s ar ∧ St w0 ar (Res.box d 66 [ac, ad, ae, af, ag, p, q, t, u] :: Res.arr (encInt .i64) 3 p a.vars :: Res.arr encFact 46 q a.atoms :: Res.arr encBool 4 t a.grouped :: Res.arr (encInt .i64) 3 u a.fluents :: Res.box o 36 [j, k, z, l, ah, ai, m] :: Res.arr (encInt .i64) 3 j b.Task.Vars :: Res.arr (encInt .i64) 3 k b.Task.Init :: Res.arr encFact 46 z b.Task.Goal :: Res.arr encOp 55 l b.Task.Ops :: Res.arr (encInt .i64) 3 m b.Ops :: H) w' ∧ f' 0 = Value.pointer (some ⟨d, 0, none⟩) ∧ f' 1 = Value.pointer (some ⟨o, 0, none⟩) ∧ f' 2 = aj ∧ f' 32 = Value.bool (aa)) aa) ?_ ?_
 ·refine Zd (Za rfl rfl (Zm (v := Value.pointer (some ⟨d, 0, none⟩)) rfl rfl (Za rfl rfl (Exec.nilCheck_ptr rfl rfl (Za rfl rfl (Zp F66_0 rfl rfl rfl (Za rfl rfl (Zp F28_3 rfl rfl rfl (Za rfl rfl (Zn (hS) A25 rfl rfl rfl (Za rfl rfl (Zr S25 rfl rfl ab (Za rfl rfl (Exec.eql rfl rfl rfl (Za rfl rfl (Zm (v := Value.bool (decide ((a.g.Goal.length : Int) = 1))) rfl rfl ?_))))))))))))))))
  rcases ite_some i with ⟨c, i⟩ | ⟨c, i⟩
  ·refine WL_run rfl (Zf rfl (Zx c)) rfl (Zm (v := Value.pointer (some ⟨d, 0, none⟩)) rfl rfl (WL_run rfl (Zf rfl (Zx c)) rfl (Exec.nilCheck_ptr rfl rfl (WL_run rfl (Zf rfl (Zx c)) rfl (Zp F66_0 rfl rfl rfl (WL_run rfl (Zf rfl (Zx c)) rfl (Zp F28_3 rfl rfl rfl (WL_run rfl (Zf rfl (Zx c)) rfl (Zn (hS) A25 rfl rfl rfl ?_)))))))))
   obtain ⟨av, a9, i⟩ := Zg i
   refine WL_run rfl (Zf rfl (Zx c)) rfl (Exec.index_rep S25 rfl rfl rfl ab a9 ?_)
   intro aM aS a1
   refine WL_run rfl (Zf rfl (Zx c)) rfl (Zp F84_2 rfl rfl rfl (WL_run rfl (Zf rfl (Zx c)) rfl (Zw (E := (encSlice encGTest)) hS A82 rfl rfl rfl (a1.sub (Sub.iso (Sub.snd (Sub.snd (Sub.refl _) rfl) rfl)) rfl) ?_)))
   intro aY aA
   have aE : SliceRep _ _ _ (av.Tests) := encSlice_val.1 aA
   refine WL_run rfl (Zf rfl (Zx c)) rfl (Zr S82 rfl rfl aE (WL_run rfl (Zf rfl (Zx c)) rfl (Exec.eql rfl rfl rfl (Za rfl rfl (Zs (v := Value.bool (decide ((av.Tests.length : Int) = 0))) rfl (Zx c) rfl (Zb (Ze ?_)))))))
   have aO := Zu i
   subst aa
   exact ⟨s, (Zv _), (((((((((((hS).f10).f10).f10).f10).f10).f10).f10).f10).f10).f10).f10, rfl, rfl, rfl, rfl⟩
  replace c := Zk c
  refine WL_passes 11 (by rw [c]; rfl) ?_
  refine Zb (Ze ?_)
  have aP := Zu i
  subst aa
  exact ⟨s, (Zv _), (((((((((((hS).f10).f10).f10).f10).f10).f10).f10).f10).f10).f10).f10, rfl, rfl, rfl, rfl⟩
 intro aR ba a3
 obtain ⟨aU, h, al, ap, a7, a8, aq⟩ := a3
 refine (Ze ?_)
 rcases ite_some hm with ⟨x, hm⟩ | ⟨x, hm⟩
 ·refine W_cond_t aq x (Zc (Zd (Za rfl rfl (Zm (v := Value.pointer (some ⟨d, 0, none⟩)) rfl ap (Za rfl rfl (Zm (v := Value.pointer (some ⟨d, 0, none⟩)) rfl ap (Za rfl rfl (Exec.nilCheck_ptr rfl rfl (Za rfl rfl (Zp F66_0 rfl rfl rfl (Za rfl rfl (Zp F28_3 rfl rfl rfl (Za rfl rfl (Zn (al) A25 rfl rfl rfl ?_))))))))))))))
  obtain ⟨bd, aB, hm⟩ := Zg hm
  refine Za rfl rfl (Exec.index_rep S25 rfl rfl rfl (ab.mono h) aB ?_)
  intro aN aT a2
  refine Za rfl rfl (Zw (E := encCond) al A84 rfl rfl rfl a2 ?_)
  intro aZ aC
  obtain ⟨aV, aW, aX, rfl, aF, aG, aH⟩ := encCond_val.1 aC
  refine Za rfl rfl (Zm (v := aj) rfl a8 ?_)
  obtain ⟨aJ, aD, hm⟩ := Zg hm
  obtain ⟨be, ak⟩ := aJ
  replace hm := un2_eq hm
  refine Za rfl rfl (Tc rfl rfl rfl (Zi rfl (Zi rfl (Zi rfl (Zi rfl (Zi rfl args_nil))))) (encode_encoder_facts_sim aD (((((al).f4).f4).f4).f4).f4 (aw.mono h) (ax.mono h) (ay.mono h) (ab.mono h) (az.mono h) aF aG aH (SliceRep.nil _ _) (a0.mono h) (SliceRep.nil _ _)).r ?_)
  rintro _ bb ⟨aI, n, a6, a4, rfl, am⟩
  refine Za rfl rfl (Zm (v := Value.tuple #[n, Value.bool (ak)]) rfl rfl (Za rfl rfl (Exec.extract (v := n) rfl rfl rfl (Za rfl rfl (Exec.extract (v := Value.bool (ak)) rfl rfl rfl (Za rfl rfl (Zo (v := n) rfl rfl (Za rfl rfl (Zo (v := Value.bool (ak)) rfl rfl (Zb (Ze (Zc (Zd (Za rfl rfl (Zm (v := Value.bool (ak)) rfl rfl (Zb (Ze ?_)))))))))))))))))
  rcases ite_some hm with ⟨y, hm⟩ | ⟨y, hm⟩
  ·refine W_cond_t rfl y (Zc (Zd (Za rfl rfl (Zm (v := Value.pointer (some ⟨o, 0, none⟩)) rfl a7 (Za rfl rfl (Zm (v := n) rfl rfl (Za rfl rfl (Exec.nilCheck_ptr rfl rfl (Za rfl rfl (Zp F36_0 rfl rfl rfl (Za rfl rfl (Zp F34_2 rfl rfl rfl (Za rfl rfl (Exec.store_box (ds := [n]) (es := [j, k, n, l, ah, ai, m]) (a4).f5 A31 rfl rfl rfl (cells_one (am).one) (Zj (am).one one_nil) (Nat.le_of_ble_eq_true rfl) rfl ?_))))))))))))))
   intro bc a5
   refine Zb (Ze (Zc (Zd (Za rfl rfl (Zo (v := Value.bool (true)) rfl rfl (Zb (Ze (W_ret (at_ret ?_)))))))))
   have aQ := Zu hm
   subst r
   refine ⟨_, ret1 rfl, ?_⟩
   exact ⟨aI, n, (Zt h a6), (((((((((((a5).f10).f10).f10).f10).f10).f5).f10).f10).f10).f10).f10, rfl, am⟩
  refine W_cond_f rfl y ?_
  replace y := Zk y
  refine W_skip (Ze (Zc ?_))
  cases hm
 refine W_cond_f aq x ?_
 replace x := Zk x
 refine W_skip (Ze (Zc ?_))
 cases hm
theorem A34 : tyAgg Tryz.prog 34 = some (true, 4) := by kernel_rfl
theorem A55 : tyAgg Tryz.prog 55 = some (true, 4) := by kernel_rfl
theorem F55_3 : tyField Tryz.prog 55 3 = some 3 := by kernel_rfl
theorem A53 : tyAgg Tryz.prog 53 = some (false, 1) := by kernel_rfl
theorem F55_2 : tyField Tryz.prog 55 2 = some 2 := by kernel_rfl
theorem A60 : tyAgg Tryz.prog 60 = some (true, 3) := by kernel_rfl
theorem F60_0 : tyField Tryz.prog 60 0 = some 0 := by kernel_rfl
theorem task_conditions_sim {w0 w : World} {s : PHeap} {H : List Res} {a : Task} {ab : Value} {ac : Value} {g : Value} {n : Value} {r : (List (List Fact))} (hm : task_conditions_p a = some r) (hS : St w0 s (H) w) (bs : SliceRep (encInt .i64) s ab a.Vars) (bt : SliceRep (encInt .i64) s ac a.Init) (af : SliceRep encFact s g a.Goal) (q : SliceRep encOp s n a.Ops) :
  Calls Tryz.prog 58 #[Value.agg #[ab, ac, g, n]] w fun e w' => ∃ v, e = .returned v ∧ ((fun (br : (List (List Fact))) => ∃ (z : PHeap) (a0 : Value), PHeap.le s z ∧ St w0 z (H) w' ∧ v = a0 ∧ SliceRep (encSlice encFact) z a0 br) r) := by
 unfold task_conditions_p at hm
 refine calls_of_W Tryz.func58 rfl rfl (Zc (Zd (Za rfl rfl (Exec.box (cs := [ab, ac, g, n]) hS rfl rfl rfl ?_))))
 intro bu bI ah
 refine Za rfl rfl (Zo (v := Value.slice none 0 0) rfl rfl (Zb (Ze (Zc (Zd (Za rfl rfl (Zp F34_2 rfl rfl rfl (Za rfl rfl (Zn (ah) A31 rfl rfl rfl (Za rfl rfl (Exec.buildSlice (Te := 31) (cs := [g]) ah rfl (parts_cons (c := [g]) (cells_of rfl (cells_one (af).one)) parts_nil) (fun _ => by kernel_rfl) ?_)))))))))))
 intro ag bJ ai
 refine Za rfl rfl (Zo (v := Value.slice (some ⟨ag, 0, none⟩) 1 1) rfl rfl (Zb (Ze (Zc (Zc (Zd (Za rfl rfl (Zp F34_3 rfl rfl rfl (Za rfl rfl (Zn ((ai).f1) A32 rfl rfl rfl (Za rfl rfl (Zr S32 rfl rfl q (Za rfl rfl (Zm (v := Vi (0)) rfl rfl (Zb (Ze ?_))))))))))))))))
 obtain ⟨u, a5, hm⟩ := Zg hm
 refine W_block (W_forS (fun k' s' f' w' => (fun (u : (List (List Fact))) => ∃ (ax : PHeap) (b : Value), PHeap.le s ax ∧ St w0 ax (Res.arr (encSlice encFact) 31 b u :: H) w' ∧ f' 3 = b ∧ f' 12 = n ∧ f' 13 = Vi ((a.Ops.length : Int)) ∧ f' 14 = Vi (k' : Int)) s') a5 ?_ ?_ ?_)
 ·have aB := St.boxArr (E := (encSlice encFact)) (xs := [a.Goal]) ai ⟨[g], [], rfl, ⟨_, rfl, af⟩, rfl⟩ (by simp [maxLen])
  exact ⟨s, (Value.slice (some ⟨ag, 0, none⟩) 1 1), (Zv _), ((aB).f1).drop, rfl, rfl, rfl, rfl⟩
 ·intro ao u bk b5 bK aL a7 d
  obtain ⟨ay, b, ap, aj, aR, ar, au, ad⟩ := a7
  refine Zc (Zd (Za rfl rfl (Zq rfl ad au (Zb (Ze (Zc (W_true (Zx (decide_eq_true (by omega))) (W_skip (Ze (Zc (W_block (Zc (Zd ?_)))))))))))))
  obtain ⟨i, bd, d⟩ := Zg d
  refine Za rfl rfl (Exec.index_rep S32 rfl ar ad (q.mono ap) bd ?_)
  intro bv bB a3
  refine Za rfl rfl (Zw (E := encOp) aj A55 rfl rfl rfl a3 ?_)
  intro bG be
  obtain ⟨l, aa, rfl, x, p⟩ := encOp_val.1 be
  refine Za rfl rfl (Exec.alloc (cs := [Value.string (⟨#[]⟩), Vi (0), Value.slice none 0 0, Value.slice none 0 0]) aj Z55 rfl rfl ?_)
  intro bw bL aC
  refine Za rfl rfl (Exec.store_box (ds := [Value.string (i.Name), Vi (i.Cost), l, aa]) (es := [Value.string (i.Name), Vi (i.Cost), l, aa]) aC A55 rfl rfl rfl rfl (Zj rfl (Zj rfl (Zj (x).one (Zj (p).one one_nil)))) (Nat.le_of_ble_eq_true rfl) rfl ?_)
  intro bM ak
  refine Zb (Ze (Zc (Zd (Za rfl rfl (Zm (v := b) rfl aR (Za rfl rfl (Zp F55_2 rfl rfl rfl (Za rfl rfl (Zn (ak) A31 rfl rfl rfl (Za rfl rfl (Exec.buildSlice (Te := 31) (cs := [l]) ak rfl (parts_cons (c := [l]) (cells_of rfl (cells_one (x).one)) parts_nil) (fun _ => by kernel_rfl) ?_)))))))))))
  intro bx bN aD
  obtain ⟨b9, bf, d⟩ := Zg d
  refine Za rfl rfl (Exec.append_box (E := (encSlice encFact)) (ys := [i.Pre]) (aD).f2 S118 Z31 rfl (by decide) rfl rfl rfl rfl ⟨[l], [], rfl, ⟨_, rfl, x⟩, rfl⟩ rfl bf ?_)
  intro a1 bO al
  refine Za rfl rfl (Zo (v := a1) rfl rfl (Zb (Ze (Zc (Zd (Za rfl rfl (Zp F55_3 rfl rfl rfl (Za rfl rfl (Zn ((al).f1) A53 rfl rfl rfl (Za rfl rfl (Zr S53 rfl rfl p (Za rfl rfl (Zm (v := Vi (0)) rfl rfl (Zb (Ze ?_)))))))))))))))
  obtain ⟨t, a6, d⟩ := Zg d
  refine W_block (W_forS (fun k' s' f' w' => (fun (t : (List (List Fact))) => ∃ (az : PHeap) (h : Value), PHeap.le ay az ∧ St w0 az (Res.arr (encSlice encFact) 31 h t :: H) w' ∧ f' 3 = h ∧ f' 12 = n ∧ f' 13 = Vi ((a.Ops.length : Int)) ∧ f' 14 = Vi ((ao : Int)) ∧ f' 24 = aa ∧ f' 25 = Vi ((i.Effs.length : Int)) ∧ f' 26 = Vi (k' : Int)) s') a6 ?_ ?_ ?_)
  ·have aE := ((al).f1).drop
   exact ⟨ay, a1, (Zv _), aE, rfl, ar, au, ad, rfl, rfl, rfl⟩
  ·intro aN t bl b6 bP aM a8 j
   obtain ⟨bm, h, aq, am, aS, aT, aU, aV, av, aw, ae⟩ := a8
   refine Zc (Zd (Za rfl rfl (Zq rfl ae aw (Zb (Ze (Zc (W_true (Zx (decide_eq_true (by omega))) (W_skip (Ze (Zc (W_block (Zc (Zd ?_)))))))))))))
   obtain ⟨o, bg, j⟩ := Zg j
   refine Za rfl rfl (Exec.index_rep S53 rfl av ae (p.mono aq) bg ?_)
   intro bz bC a4
   refine Za rfl rfl (Zw (E := encEffect) am A60 rfl rfl rfl a4 ?_)
   intro bH bh
   obtain ⟨m, rfl, y⟩ := encEffect_val.1 bh
   refine Za rfl rfl (Exec.alloc (cs := [Value.slice none 0 0, Vi (0), Vi (0)]) am Z60 rfl rfl ?_)
   intro b0 bQ aF
   refine Za rfl rfl (Exec.store_box (ds := [m, Vi (o.Var), Vi (o.Val)]) (es := [m, Vi (o.Var), Vi (o.Val)]) aF A60 rfl rfl rfl rfl (Zj (y).one (Zj rfl (Zj rfl one_nil))) (Nat.le_of_ble_eq_true rfl) rfl ?_)
   intro bR an
   refine Zb (Ze (Zd (Za rfl rfl (Zm (v := h) rfl aS (Za rfl rfl (Zp F60_0 rfl rfl rfl (Za rfl rfl (Zn (an) A31 rfl rfl rfl (Za rfl rfl (Exec.buildSlice (Te := 31) (cs := [m]) an rfl (parts_cons (c := [m]) (cells_of rfl (cells_one (y).one)) parts_nil) (fun _ => by kernel_rfl) ?_))))))))))
   intro b1 bS aG
   obtain ⟨bA, bi, j⟩ := Zg j
   refine Za rfl rfl (Exec.append_box (E := (encSlice encFact)) (ys := [o.When]) (aG).f2 S118 Z31 rfl (by decide) rfl rfl rfl rfl ⟨[m], [], rfl, ⟨_, rfl, y⟩, rfl⟩ rfl bi ?_)
   intro a2 bT aH
   refine Za rfl rfl (Zo (v := a2) rfl rfl (Zb (ib_normal (Ze (Zd (Za rfl rfl (Exec.add rfl ae rfl (Za rfl rfl (Zm (v := Vi (IntKind.i64.wrap ((aN : Int) + 1))) rfl rfl (Zb (Ze ?_)))))))))))
   have b2 := Zu j
   subst bl
   exact ⟨bm, a2, aq, ((aH).f1).drop, rfl, aT, aU, aV, av, aw, (Eq.trans rfl (wrap_up aM (SliceRep.le p)))⟩
  intro b7 bU a9
  obtain ⟨bn, h, aO, aI, aW, aX, aY, aZ, bD, ba, bp⟩ := a9
  refine Zc (Zd (Za rfl rfl (Zq rfl bp ba (Zb (Ze (Zc (W_false (Zx (decide_eq_false (by omega))) (W_exit (at_exit (at_exit (ib_here (ib_normal (Ze (Zd (Za rfl rfl (Exec.add rfl aZ rfl (Za rfl rfl (Zm (v := Vi (IntKind.i64.wrap ((ao : Int) + 1))) rfl rfl (Zb (Ze ?_))))))))))))))))))))
  have b3 := Zu d
  subst bk
  exact ⟨bn, h, (Zt ap aO), aI, aW, aX, aY, (Eq.trans rfl (wrap_up aL (SliceRep.le q)))⟩
 intro b8 bV aA
 obtain ⟨bF, b, aP, aJ, bb, bE, bc, bq⟩ := aA
 refine Zc (Zd (Za rfl rfl (Zq rfl bq bc (Zb (Ze (Zc (W_false (Zx (decide_eq_false (by omega))) (W_exit (at_exit (at_exit (ib_here (Ze (Zc (Zd (Za rfl rfl (Zm (v := b) rfl bb (Za rfl rfl (Zo (v := b) rfl rfl (Zb (Ze (W_ret ?_)))))))))))))))))))))
 have b4 := Zu hm
 subst r
 refine ⟨_, ret1 rfl, ?_⟩
 obtain ⟨bo, aQ, aK, bj⟩ := aJ.freezeArr
 exact ⟨bo, b, (Zt aP aQ), aK, rfl, bj⟩
theorem N81 : (Tryz.f81.name == "runtime.NumGoroutine") = false := by kernel_rfl
theorem task_large_c1_sim {w0 w : World} {s : PHeap} {H : List Res} {a : (List Fact)} {b : Value} {r : Bool} (hm : task_large_c1_p a = some r) (hS : St w0 s (H) w) (d : SliceRep encFact s b a) :
  Calls Tryz.prog 81 #[b] w fun e w' => ∃ v, e = .returned v ∧ ((fun (f : Bool) => ∃ (c : PHeap) , PHeap.le s c ∧ St w0 c (H) w' ∧ v = Value.bool (f)) r) := by
 unfold task_large_c1_p at hm
 refine calls_of_W Tryz.func81 rfl rfl (Zc (Zd (Za rfl rfl (Zo (v := Value.bool (false)) rfl rfl (Zb (Ze (Zc (Zd (Za rfl rfl (Zm (v := b) rfl rfl (Za rfl rfl (Zr S31 rfl rfl d (Za rfl rfl (Exec.gtr rfl rfl rfl (Za rfl rfl (Zo (v := Value.bool (decide (64 < (a.length : Int)))) rfl rfl (Zb (Ze (W_ret ?_)))))))))))))))))))
 have g := Zu hm
 subst r
 refine ⟨_, ret1 rfl, ?_⟩
 exact ⟨s, (Zv _), hS, rfl⟩
theorem slices_IndexFunc_apiFact_large_c1_sim {w0 w : World} {s : PHeap} {H : List Res} {g : (List (List Fact))} {c : Value} {r : Int} (hm : slices_IndexFunc_apiFact_large_c1_p g = some r) (hS : St w0 s (H) w) (i : SliceRep (encSlice encFact) s c g) :
  Calls Tryz.prog 93 #[c, Value.func (.func 81) #[] #[]] w fun e w' => ∃ v, e = .returned v ∧ ((fun (a5 : Int) => ∃ (aa : PHeap) , PHeap.le s aa ∧ St w0 aa (H) w' ∧ v = Vi (a5)) r) := by
 unfold slices_IndexFunc_apiFact_large_c1_p at hm
 refine calls_of_W Tryz.func93 rfl rfl (Zc (Zd (Za rfl rfl (Zo (v := Vi (0)) rfl rfl (Zb (Ze (Zc (Zc (Zd (Za rfl rfl (Zm (v := c) rfl rfl (Za rfl rfl (Zr S118 rfl rfl i (Za rfl rfl (Zm (v := Vi (0)) rfl rfl (Zb (Ze ?_)))))))))))))))))
 obtain ⟨m, ag, aq, ao, am⟩ := ctl_some hm
 refine W_mid (M := fun f' w' => ∃ s', (m = .next s' ∨ m = .brk s') ∧ (fun (_ : Unit) => ∃ (ab : PHeap) , PHeap.le s ab ∧ St w0 ab (H) w' ∧ f' 0 = c ∧ f' 1 = Value.func (.func 81) #[] #[] ∧ f' 7 = Vi ((g.length : Int))) s') ?_ ?_
 ·refine W_block (W_forC (fun k' s' f' w' => (fun (_ : Unit) => ∃ (ac : PHeap) , PHeap.le s ac ∧ St w0 ac (H) w' ∧ f' 0 = c ∧ f' 1 = Value.func (.func 81) #[] #[] ∧ f' 7 = Vi ((g.length : Int)) ∧ f' 8 = Vi (k' : Int)) s') ag ?_ ?_ ?_)
  ·exact ⟨s, (Zv _), hS, rfl, rfl, rfl, rfl⟩
  ·intro b aJ n aB aN an ah a ar
   obtain ⟨aI, j, o, u, x, y, l⟩ := ah
   refine Zc (Zd (Za rfl rfl (Zq rfl l y (Zb (Ze (Zc (W_true (Zx (decide_eq_true (by omega))) (W_skip (Ze (Zc (W_block (Zc (Zd (Za rfl rfl (Zm (v := Vi ((b : Int))) rfl l (Za rfl rfl (Zo (v := Vi ((b : Int))) rfl rfl (Zb (Ze (Zc (Zd (Za rfl rfl (Zm (v := Value.func (.func 81) #[] #[]) rfl x (Za rfl rfl (Zm (v := c) rfl u (Za rfl rfl (Zm (v := Vi ((b : Int))) rfl rfl ?_)))))))))))))))))))))))))))
   obtain ⟨ae, az, a⟩ := Zg a
   refine Za rfl rfl (Exec.index_rep S118 rfl rfl rfl (i.mono j) az ?_)
   intro a6 aE af
   refine Za rfl rfl (Zw (E := (encSlice encFact)) o A31 rfl rfl rfl af ?_)
   intro aM a0
   have a1 : SliceRep _ _ _ (ae) := encSlice_val.1 a0
   refine Za rfl rfl (Exec.callf rfl rfl Tryz.func81 rfl N81 (Zi rfl args_nil) ((task_large_c1_sim (task_large_c1_tot ae) o a1).mono ?_))
   rintro _ aO ⟨_, rfl, ⟨ad, t, p, rfl⟩⟩
   refine ⟨_, rfl, ?_⟩
   refine Zb (Ze ?_)
   rcases ite_some a with ⟨d, a⟩ | ⟨d, a⟩
   ·refine W_cond_t rfl d (Zc (Zd (Za rfl rfl (Zm (v := Vi ((b : Int))) rfl rfl (Za rfl rfl (Zo (v := Vi ((b : Int))) rfl rfl (Zb (Ze (W_ret (ib_ret (at_ret (at_ret (ib_ret (at_ret (at_ret ?_)))))))))))))))
    have a7 := Zu a
    subst n
    have ap := aq _ (ar (by intro _ h; cases h))
    have a8 := Zu ap
    subst r
    refine ⟨_, ret1 rfl, ?_⟩
    exact ⟨ad, (Zt j t), p, rfl⟩
   refine W_cond_f rfl d ?_
   replace d := Zk d
   refine W_skip (ib_normal (Ze (Zd (Za rfl rfl (Exec.add rfl l rfl (Za rfl rfl (Zm (v := Vi (IntKind.i64.wrap ((b : Int) + 1))) rfl rfl (Zb (Ze ?_)))))))))
   have a9 := Zu a
   subst n
   refine ⟨_, rfl, ?_⟩; exact ⟨ad, (Zt j t), p, u, x, y, (Eq.trans rfl (wrap_up an (SliceRep.le i)))⟩
  intro aK aC aP ai au
  obtain ⟨a2, av, ak, ax, ay, z, a4⟩ := ai
  refine Zc (Zd (Za rfl rfl (Zq rfl a4 z (Zb (Ze (Zc (W_false (Zx (decide_eq_false (by omega))) (W_exit (at_exit (at_exit (ib_here (Ze ?_))))))))))))
  refine ⟨_, .inl au, ?_⟩; exact ⟨a2, av, ak, ax, ay, z⟩
 rintro aD aQ ⟨aL, q, aj⟩
 have hm := q.elim (ao _) (am _)
 clear q
 obtain ⟨a3, aw, al, aF, aG, aH⟩ := aj
 refine (Ze (Zc (Zd (Za rfl rfl (Zo (v := Vi ((-1))) rfl rfl (Zb (Ze (W_ret ?_))))))))
 have aA := Zu hm
 subst r
 refine ⟨_, ret1 rfl, ?_⟩
 exact ⟨a3, aw, al, rfl⟩
theorem slices_ContainsFunc_apiFact_large_c1_sim {w0 w : World} {s : PHeap} {H : List Res} {c : (List (List Fact))} {a : Value} {r : Bool} (hm : slices_ContainsFunc_apiFact_large_c1_p c = some r) (hS : St w0 s (H) w) (d : SliceRep (encSlice encFact) s a c) :
  Calls Tryz.prog 80 #[a, Value.func (.func 81) #[] #[]] w fun e w' => ∃ v, e = .returned v ∧ ((fun (j : Bool) => ∃ (b : PHeap) , PHeap.le s b ∧ St w0 b (H) w' ∧ v = Value.bool (j)) r) := by
 unfold slices_ContainsFunc_apiFact_large_c1_p at hm
 refine calls_of_W Tryz.func80 rfl rfl (Zc (Zd (Za rfl rfl (Zo (v := Value.bool (false)) rfl rfl (Zb (Ze (Zc (Zd (Za rfl rfl (Zm (v := a) rfl rfl (Za rfl rfl (Zm (v := Value.func (.func 81) #[] #[]) rfl rfl ?_))))))))))))
 obtain ⟨k, h, hm⟩ := Zg hm
 refine Za rfl rfl (Tc rfl rfl rfl (Zi rfl (Zi rfl args_nil)) (slices_IndexFunc_apiFact_large_c1_sim h hS d).r ?_)
 rintro _ m ⟨i, g, f, rfl⟩
 refine Za rfl rfl (Exec.geq rfl rfl rfl (Za rfl rfl (Zo (v := Value.bool (decide (0 ≤ k))) rfl rfl (Zb (Ze (W_ret ?_))))))
 have l := Zu hm
 subst r
 refine ⟨_, ret1 rfl, ?_⟩
 exact ⟨i, g, f, rfl⟩
theorem task_large_sim {w0 w : World} {s : PHeap} {H : List Res} {a : Task} {h : Value} {i : Value} {j : Value} {c : Value} {r : Bool} (hm : task_large_p a = some r) (hS : St w0 s (H) w) (y : SliceRep (encInt .i64) s h a.Vars) (au : SliceRep (encInt .i64) s i a.Init) (av : SliceRep encFact s j a.Goal) (m : SliceRep encOp s c a.Ops) :
  Calls Tryz.prog 56 #[Value.agg #[h, i, j, c]] w fun e w' => ∃ v, e = .returned v ∧ ((fun (aT : Bool) => ∃ (am : PHeap) , PHeap.le s am ∧ St w0 am (H) w' ∧ v = Value.bool (aT)) r) := by
 unfold task_large_p at hm
 refine calls_of_W Tryz.func56 rfl rfl (Zc (Zd (Za rfl rfl (Exec.box (cs := [h, i, j, c]) hS rfl rfl rfl ?_))))
 intro l bp q
 refine Za rfl rfl (Zo (v := Value.bool (false)) rfl rfl (Zb (Ze (Zc (Zc (W_mid (M := fun f' w' => ∃ (an : PHeap) , PHeap.le s an ∧ St w0 an (Res.box l 34 [h, i, j, c] :: H) w' ∧ f' 1 = Value.pointer (some ⟨l, 0, none⟩) ∧ f' 14 = Value.bool (((decide (64 < (a.Vars.length : Int))) || decide (4096 < (a.Ops.length : Int))))) ?_ ?_))))))
 ·refine Zd (Za rfl rfl (Zp F34_0 rfl rfl rfl (Za rfl rfl (Zn (q) A24 rfl rfl rfl (Za rfl rfl (Zr S24 rfl rfl y (Za rfl rfl (Exec.gtr rfl rfl rfl (Za rfl rfl (Zm (v := Value.bool (decide (64 < (a.Vars.length : Int)))) rfl rfl ?_))))))))))
  by_cases b : (decide (64 < (a.Vars.length : Int))) = true
  ·refine WL_passes 5 (by rw [b]; rfl) ?_
   refine Zb (Ze ?_)
   exact ⟨s, (Zv _), q, rfl, (Zx (or_t b)).symm⟩
  replace b := Zk b
  refine WL_run rfl (Zf rfl (Zx b)) rfl (Zp F34_3 rfl rfl rfl (WL_run rfl (Zf rfl (Zx b)) rfl (Zn (q) A32 rfl rfl rfl (WL_run rfl (Zf rfl (Zx b)) rfl (Zr S32 rfl rfl m (WL_run rfl (Zf rfl (Zx b)) rfl (Exec.gtr rfl rfl rfl (Za rfl rfl (Exec.pick_f (v := Value.bool (decide (4096 < (a.Ops.length : Int)))) rfl (Zx b) rfl (Zb (Ze ?_)))))))))))
  exact ⟨s, (Zv _), q, rfl, (Zx (or_f b)).symm⟩
 intro aZ bq a1
 obtain ⟨u, d, aa, ag, ah⟩ := a1
 refine (Ze ?_)
 rcases ite_some hm with ⟨n, hm⟩ | ⟨n, hm⟩
 ·refine W_cond_t ah n (Zc ?_)
  cases hm
 refine W_cond_f ah n ?_
 replace n := Zk n
 refine W_skip (Ze (Zc (Zc (Zd (Za rfl rfl (Zp F34_3 rfl ag rfl (Za rfl rfl (Zn (aa) A32 rfl rfl rfl (Za rfl rfl (Zr S32 rfl rfl (m.mono d) (Za rfl rfl (Zm (v := Vi (0)) rfl rfl (Zb (Ze ?_))))))))))))))
 obtain ⟨z, ay, bd, a9, a7⟩ := ctl_some hm
 refine W_mid (M := fun f' w' => ∃ s', (z = .next s' ∨ z = .brk s') ∧ (fun (_ : Unit) => ∃ (ao : PHeap) , PHeap.le u ao ∧ St w0 ao (Res.box l 34 [h, i, j, c] :: H) w' ∧ f' 1 = Value.pointer (some ⟨l, 0, none⟩) ∧ f' 16 = c ∧ f' 17 = Vi ((a.Ops.length : Int))) s') ?_ ?_
 ·refine W_block (W_forC (fun k' s' f' w' => (fun (_ : Unit) => ∃ (ap : PHeap) , PHeap.le u ap ∧ St w0 ap (Res.box l 34 [h, i, j, c] :: H) w' ∧ f' 1 = Value.pointer (some ⟨l, 0, none⟩) ∧ f' 16 = c ∧ f' 17 = Vi ((a.Ops.length : Int)) ∧ f' 18 = Vi (k' : Int)) s') ay ?_ ?_ ?_)
  ·exact ⟨u, (Zv _), aa, ag, rfl, rfl, rfl⟩
  ·intro aB bk ax ba br a8 az g be
   obtain ⟨aP, af, ab, aF, ai, aj, x⟩ := az
   refine Zc (Zd (Za rfl rfl (Zq rfl x aj (Zb (Ze (Zc (W_true (Zx (decide_eq_true (by omega))) (W_skip (Ze (Zc (W_block (Zc (Zd ?_)))))))))))))
   obtain ⟨t, aJ, g⟩ := Zg g
   refine Za rfl rfl (Exec.index_rep S32 rfl ai x (m.mono (Zt d af)) aJ ?_)
   intro aV bf aw
   refine Za rfl rfl (Zw (E := encOp) ab A55 rfl rfl rfl aw ?_)
   intro bn aK
   obtain ⟨aq, ar, rfl, aN, al⟩ := encOp_val.1 aK
   refine Za rfl rfl (Exec.alloc (cs := [Value.string (⟨#[]⟩), Vi (0), Value.slice none 0 0, Value.slice none 0 0]) ab Z55 rfl rfl ?_)
   intro aW bs a3
   refine Za rfl rfl (Exec.store_box (ds := [Value.string (t.Name), Vi (t.Cost), aq, ar]) (es := [Value.string (t.Name), Vi (t.Cost), aq, ar]) a3 A55 rfl rfl rfl rfl (Zj rfl (Zj rfl (Zj (aN).one (Zj (al).one one_nil)))) (Nat.le_of_ble_eq_true rfl) rfl ?_)
   intro bt ac
   refine Zb (Ze (Zc (Zd (Za rfl rfl (Zp F55_3 rfl rfl rfl (Za rfl rfl (Zn (ac) A53 rfl rfl rfl (Za rfl rfl (Zr S53 rfl rfl al (Za rfl rfl (Exec.gtr rfl rfl rfl (Zb (Ze ?_)))))))))))))
   rcases ite_some g with ⟨o, g⟩ | ⟨o, g⟩
   ·refine W_cond_t rfl o (Zc ?_)
    cases g
   refine W_cond_f rfl o ?_
   replace o := Zk o
   refine W_skip (ib_normal (Ze (Zd (Za rfl rfl (Exec.add rfl x rfl (Za rfl rfl (Zm (v := Vi (IntKind.i64.wrap ((aB : Int) + 1))) rfl rfl (Zb (Ze ?_)))))))))
   have aX := Zu g
   subst ax
   refine ⟨_, rfl, ?_⟩; exact ⟨aP, af, (ac).drop, aF, ai, aj, (Eq.trans rfl (wrap_up a8 (SliceRep.le (m.mono d))))⟩
  intro bl bb bu a0 aA
  obtain ⟨aQ, aC, a4, aG, aH, ak, aS⟩ := a0
  refine Zc (Zd (Za rfl rfl (Zq rfl aS ak (Zb (Ze (Zc (W_false (Zx (decide_eq_false (by omega))) (W_exit (at_exit (at_exit (ib_here (Ze ?_))))))))))))
  refine ⟨_, .inl aA, ?_⟩; exact ⟨aQ, aC, a4, aG, aH, ak⟩
 rintro bc bv ⟨bm, ae, a2⟩
 have hm := ae.elim (a9 _) (a7 _)
 clear ae
 obtain ⟨bi, p, ad, aI, bg, bh⟩ := a2
 refine (Ze (Zc (Zd (Za rfl rfl (Exec.load_box_agg (ds := [h, i, j, c]) (ad) A34 rfl aI rfl ?_)))))
 obtain ⟨bz, aL, hm⟩ := Zg hm
 refine Za rfl rfl (Tc rfl rfl rfl (Zi rfl args_nil) (task_conditions_sim aL ad (y.mono (Zt d p)) (au.mono (Zt d p)) (av.mono (Zt d p)) (m.mono (Zt d p))).r ?_)
 rintro bo bw ⟨bj, _, aD, a5, rfl, aO⟩
 obtain ⟨aU, aM, hm⟩ := Zg hm
 refine Za rfl rfl (Tc rfl rfl rfl (Zi rfl (Zi rfl args_nil)) (slices_ContainsFunc_apiFact_large_c1_sim aM a5 aO).r ?_)
 rintro _ bx ⟨aR, aE, a6, rfl⟩
 refine Za rfl rfl (Zo (v := Value.bool (aU)) rfl rfl (Zb (Ze (W_ret ?_))))
 have aY := Zu hm
 subst r
 refine ⟨_, ret1 rfl, ?_⟩
 exact ⟨aR, (Zt (Zt (Zt d p) aD) aE), (a6).drop, rfl⟩
theorem F55_1 : tyField Tryz.prog 55 1 = some 1 := by kernel_rfl
theorem task_Proper_sim {w0 w : World} {s : PHeap} {H : List Res} {aj : (List Int)} {l : (List Int)} {d : Value} {g : Value} {r : Bool} (hm : task_Proper_p aj l = some r) (hS : St w0 s (H) w) (aa : SliceRep (encInt .i64) s d aj) (p : SliceRep (encInt .i64) s g l) :
  Calls Tryz.prog 57 #[d, g] w fun e w' => ∃ v, e = .returned v ∧ ((fun (aJ : Bool) => ∃ (af : PHeap) , PHeap.le s af ∧ St w0 af (H) w' ∧ v = Value.bool (aJ)) r) := by
 unfold task_Proper_p at hm
 refine calls_of_W Tryz.func57 rfl rfl (Zc (Zd (Za rfl rfl (Zo (v := Value.bool (false)) rfl rfl (Zb (Ze (Zc (Zc (Zd (Za rfl rfl (Zm (v := g) rfl rfl (Za rfl rfl (Zr S24 rfl rfl p (Za rfl rfl (Zm (v := d) rfl rfl (Za rfl rfl (Zr S24 rfl rfl aa (Za rfl rfl (Exec.neq rfl rfl rfl (Zb (Ze ?_)))))))))))))))))))))
 rcases ite_some hm with ⟨h, hm⟩ | ⟨h, hm⟩
 ·refine W_cond_t rfl h (Zc ?_)
  cases hm
 refine W_cond_f rfl h ?_
 replace h := Zk h
 refine W_skip (Ze (Zc (Zc (Zd (Za rfl rfl (Zm (v := g) rfl rfl (Za rfl rfl (Zr S24 rfl rfl p (Za rfl rfl (Zm (v := Vi (0)) rfl rfl (Zb (Ze ?_))))))))))))
 obtain ⟨ab, an, aU, az, ax⟩ := ctl_some hm
 refine W_mid (M := fun f' w' => ∃ s', (ab = .next s' ∨ ab = .brk s') ∧ (fun (_ : Unit) => ∃ (ag : PHeap) , PHeap.le s ag ∧ St w0 ag (H) w' ∧ f' 0 = d ∧ f' 12 = g ∧ f' 13 = Vi ((l.length : Int))) s') ?_ ?_
 ·refine W_block (W_forC (fun k' s' f' w' => (fun (_ : Unit) => ∃ (ah : PHeap) , PHeap.le s ah ∧ St w0 ah (H) w' ∧ f' 0 = d ∧ f' 12 = g ∧ f' 13 = Vi ((l.length : Int)) ∧ f' 14 = Vi (k' : Int)) s') an ?_ ?_ ?_)
  ·exact ⟨s, (Zv _), hS, rfl, rfl, rfl, rfl⟩
  ·intro j bb am aQ bg ay ao b aV
   obtain ⟨z, t, q, u, x, y, m⟩ := ao
   refine Zc (Zd (Za rfl rfl (Zq rfl m y (Zb (Ze (Zc (W_true (Zx (decide_eq_true (by omega))) (W_skip (Ze (Zc (W_block (Zc (Zd (Za rfl rfl (Zm (v := Vi ((j : Int))) rfl m ?_)))))))))))))))
   obtain ⟨n, aA, b⟩ := Zg b
   refine Za rfl rfl (Exec.index_rep S24 rfl x m (p.mono t) aA ?_)
   intro aK aW ak
   refine Za rfl rfl (Zw (E := (encInt .i64)) q A3 rfl rfl rfl ak ?_)
   intro be aB
   obtain rfl := encInt_val.1 aB
   refine Za rfl rfl (Zo (v := Vi ((j : Int))) rfl rfl (Za rfl rfl (Zo (v := Vi (n)) rfl rfl (Zb (Ze (Zc ?_))))))
   obtain ⟨o, c, b⟩ := Zg b
   refine W_mid (M := fun f' w' => (fun (o : Bool) => ∃ (ai : PHeap) , PHeap.le z ai ∧ St w0 ai (H) w' ∧ f' 0 = d ∧ f' 12 = g ∧ f' 13 = Vi ((l.length : Int)) ∧ f' 14 = Vi ((j : Int)) ∧ f' 28 = Value.bool (o)) o) ?_ ?_
   ·refine Zd (Za rfl rfl (Zm (v := Vi (n)) rfl rfl (Za rfl rfl (Zq rfl rfl rfl (Za rfl rfl (Zm (v := Value.bool (decide (n < 0))) rfl rfl ?_))))))
    rcases ite_some c with ⟨a, c⟩ | ⟨a, c⟩
    ·refine WL_passes 7 (by rw [a]; rfl) ?_
     refine Zb (Ze ?_)
     have aM := Zu c
     subst o
     exact ⟨z, (Zv _), q, u, x, y, m, rfl⟩
    replace a := Zk a
    refine WL_run rfl (Zf rfl (Zx a)) rfl (Zm (v := Vi (n)) rfl rfl (WL_run rfl (Zf rfl (Zx a)) rfl (Zm (v := d) rfl u (WL_run rfl (Zf rfl (Zx a)) rfl (Zm (v := Vi ((j : Int))) rfl rfl ?_)))))
    obtain ⟨aH, aC, c⟩ := Zg c
    refine WL_run rfl (Zf rfl (Zx a)) rfl (Exec.index_rep S24 rfl rfl rfl (aa.mono t) aC ?_)
    intro aL aX al
    refine WL_run rfl (Zf rfl (Zx a)) rfl (Zw (E := (encInt .i64)) q A3 rfl rfl rfl al ?_)
    intro bf aD
    obtain rfl := encInt_val.1 aD
    refine WL_run rfl (Zf rfl (Zx a)) rfl (Exec.geq rfl rfl rfl (Za rfl rfl (Exec.pick_f (v := Value.bool (decide (aH ≤ n))) rfl (Zx a) rfl (Zb (Ze ?_)))))
    have aN := Zu c
    subst o
    exact ⟨z, (Zv _), q, u, x, y, m, rfl⟩
   intro aR bh aq
   obtain ⟨aE, a1, au, a4, a5, a6, a7, ad⟩ := aq
   refine (Ze ?_)
   rcases ite_some b with ⟨i, b⟩ | ⟨i, b⟩
   ·refine W_cond_t ad i (Zc ?_)
    cases b
   refine W_cond_f ad i ?_
   replace i := Zk i
   refine W_skip (ib_normal (Ze (Zd (Za rfl rfl (Exec.add rfl a7 rfl (Za rfl rfl (Zm (v := Vi (IntKind.i64.wrap ((j : Int) + 1))) rfl rfl (Zb (Ze ?_)))))))))
   have aO := Zu b
   subst am
   refine ⟨_, rfl, ?_⟩; exact ⟨aE, (Zt t a1), au, a4, a5, a6, (Eq.trans rfl (wrap_up ay (SliceRep.le p)))⟩
  intro bc aS bi ap a0
  obtain ⟨aF, a2, av, a8, a9, ae, aI⟩ := ap
  refine Zc (Zd (Za rfl rfl (Zq rfl aI ae (Zb (Ze (Zc (W_false (Zx (decide_eq_false (by omega))) (W_exit (at_exit (at_exit (ib_here (Ze ?_))))))))))))
  refine ⟨_, .inl a0, ?_⟩; exact ⟨aF, a2, av, a8, a9, ae⟩
 rintro aT bj ⟨bd, ac, ar⟩
 have hm := ac.elim (az _) (ax _)
 clear ac
 obtain ⟨aG, a3, aw, aY, aZ, ba⟩ := ar
 refine (Ze (Zc (Zd (Za rfl rfl (Zo (v := Value.bool (true)) rfl rfl (Zb (Ze (W_ret ?_))))))))
 have aP := Zu hm
 subst r
 refine ⟨_, ret1 rfl, ?_⟩
 exact ⟨aG, a3, aw, rfl⟩
theorem task_Facts_sim {w0 w : World} {s : PHeap} {H : List Res} {aa : (List Int)} {p : (List Fact)} {j : Value} {n : Value} {r : Bool} (hm : task_Facts_p aa p = some r) (hS : St w0 s (H) w) (ac : SliceRep (encInt .i64) s j aa) (ab : SliceRep encFact s n p) :
  Calls Tryz.prog 59 #[j, n] w fun e w' => ∃ v, e = .returned v ∧ ((fun (aT : Bool) => ∃ (am : PHeap) , PHeap.le s am ∧ St w0 am (H) w' ∧ v = Value.bool (aT)) r) := by
 unfold task_Facts_p at hm
 refine calls_of_W Tryz.func59 rfl rfl (Zc (Zd (Za rfl rfl (Zo (v := Value.bool (false)) rfl rfl (Zb (Ze (Zc (Zd (Za rfl rfl (Zo (v := Vi ((-1))) rfl rfl (Zb (Ze (Zc (Zc (Zd (Za rfl rfl (Zm (v := n) rfl rfl (Za rfl rfl (Zr S31 rfl rfl ab (Za rfl rfl (Zm (v := Vi (0)) rfl rfl (Zb (Ze ?_)))))))))))))))))))))))
 obtain ⟨ae, av, bh, a6, a4⟩ := ctl_some hm
 refine W_mid (M := fun f' w' => ∃ s', (ae = .next s' ∨ ae = .brk s') ∧ (fun (aj : Int) => ∃ (an : PHeap) , PHeap.le s an ∧ St w0 an (H) w' ∧ f' 0 = j ∧ f' 5 = Vi (aj) ∧ f' 8 = n ∧ f' 9 = Vi ((p.length : Int))) s') ?_ ?_
 ·refine W_block (W_forC (fun k' s' f' w' => (fun (t : Int) => ∃ (ao : PHeap) , PHeap.le s ao ∧ St w0 ao (H) w' ∧ f' 0 = j ∧ f' 5 = Vi (t) ∧ f' 8 = n ∧ f' 9 = Vi ((p.length : Int)) ∧ f' 10 = Vi (k' : Int)) s') av ?_ ?_ ?_)
  ·exact ⟨s, (Zv _), hS, rfl, rfl, rfl, rfl, rfl⟩
  ·intro ai t au bd br a5 aw h bi
   obtain ⟨y, z, af, m, aB, u, x, o⟩ := aw
   refine Zc (Zd (Za rfl rfl (Zq rfl o x (Zb (Ze (Zc (W_true (Zx (decide_eq_true (by omega))) (W_skip (Ze (Zc (W_block (Zc (Zd ?_)))))))))))))
   obtain ⟨c, aK, h⟩ := Zg h
   refine Za rfl rfl (Exec.index_rep S31 rfl u o (ab.mono z) aK ?_)
   intro aU bj aq
   refine Za rfl rfl (Zw (E := encFact) af A46 rfl rfl rfl aq ?_)
   intro bp aL
   obtain rfl := encFact_val.1 aL
   refine Za rfl rfl (Exec.alloc (cs := [Vi (0), Vi (0)]) af Z46 rfl rfl ?_)
   intro ad bs a0
   refine Za rfl rfl (Exec.store_box (ds := [Vi (c.Var), Vi (c.Val)]) (es := [Vi (c.Var), Vi (c.Val)]) a0 A46 rfl rfl rfl rfl (Zj rfl (Zj rfl one_nil)) (Nat.le_of_ble_eq_true rfl) rfl ?_)
   intro bt a1
   refine Zb (Ze (Zc (Zc ?_)))
   obtain ⟨l, a, h⟩ := Zg h
   refine W_mid (M := fun f' w' => (fun (l : Bool) => ∃ (ap : PHeap) , PHeap.le y ap ∧ St w0 ap (Res.box ad 46 [Vi (c.Var), Vi (c.Val)] :: H) w' ∧ f' 0 = j ∧ f' 7 = Value.pointer (some ⟨ad, 0, none⟩) ∧ f' 8 = n ∧ f' 9 = Vi ((p.length : Int)) ∧ f' 10 = Vi ((ai : Int)) ∧ f' 39 = Value.bool (l)) l) ?_ ?_
   ·refine W_dl (n0 := 26) (qs 0 26 .done) hmix (by kernel_rfl) (by kernel_rfl) ?_
    have d := a1.drew
    refine DL_q rfl rfl (Zp F46_0 rfl rfl rfl ⟨rfl, ?_⟩)
    refine DL_q rfl rfl (Zn (d) A3 rfl rfl rfl ⟨rfl, ?_⟩)
    refine DL_q rfl rfl (Zm (v := Vi (t)) rfl aB ⟨rfl, ?_⟩)
    refine DL_q rfl rfl (Exec.leq rfl rfl rfl ⟨rfl, ?_⟩)
    refine DL_q rfl rfl (Zm (v := Value.bool (decide (c.Var ≤ t))) rfl rfl ⟨rfl, ?_⟩)
    rcases ite_some a with ⟨g, a⟩ | ⟨g, a⟩
    ·refine DL_passes 21 (by rw [g]; rfl) ?_
     refine DL_done (Zb (Ze ?_))
     have aW := Zu a
     subst l
     exact ⟨y, (Zv _), d, m, rfl, u, x, o, rfl⟩
    replace g := Zk g
    refine DL_qg rfl rfl (Zf rfl (Zx g)) (Zp F46_0 rfl rfl rfl ⟨rfl, ?_⟩)
    refine DL_qg rfl rfl (Zf rfl (Zx g)) (Zn (d) A3 rfl rfl rfl ⟨rfl, ?_⟩)
    refine DL_qg rfl rfl (Zf rfl (Zx g)) (Zm (v := j) rfl m ⟨rfl, ?_⟩)
    refine DL_qg rfl rfl (Zf rfl (Zx g)) (Zr S24 rfl rfl (ac.mono z) ⟨rfl, ?_⟩)
    refine DL_qg rfl rfl (Zf rfl (Zx g)) (Exec.geq rfl rfl rfl ⟨rfl, ?_⟩)
    refine DL_q rfl rfl (Exec.pick_f (v := Value.bool (decide ((aa.length : Int) ≤ c.Var))) rfl (Zx g) rfl ⟨rfl, ?_⟩)
    refine DL_q rfl rfl (Zm (v := Value.bool (decide ((aa.length : Int) ≤ c.Var))) rfl rfl ⟨rfl, ?_⟩)
    rcases ite_some a with ⟨i, a⟩ | ⟨i, a⟩
    ·refine DL_passes 14 (by rw [i]; rfl) ?_
     refine DL_done (Zb (Ze ?_))
     have aX := Zu a
     subst l
     exact ⟨y, (Zv _), d, m, rfl, u, x, o, rfl⟩
    replace i := Zk i
    refine DL_qg rfl rfl (Zf rfl (Zx i)) (Zp F46_1 rfl rfl rfl ⟨rfl, ?_⟩)
    refine DL_qg rfl rfl (Zf rfl (Zx i)) (Zn (d) A3 rfl rfl rfl ⟨rfl, ?_⟩)
    refine DL_qg rfl rfl (Zf rfl (Zx i)) (Zq rfl rfl rfl ⟨rfl, ?_⟩)
    refine DL_passes 2 (by rw [i]; rfl) ?_
    rcases ite_some a with ⟨b, a⟩ | ⟨b, a⟩
    ·refine DL_passes 9 (by rw [b]; rfl) ?_
     refine DL_done (Zb (Ze ?_))
     have aY := Zu a
     subst l
     exact ⟨y, (Zv _), d, m, rfl, u, x, o, rfl⟩
    replace b := Zk b
    refine DL_qg rfl rfl (Zf rfl (Zx b)) (Zp F46_1 rfl rfl rfl ⟨rfl, ?_⟩)
    refine DL_qg rfl rfl (Zf rfl (Zx b)) (Zn (d) A3 rfl rfl rfl ⟨rfl, ?_⟩)
    refine DL_qg rfl rfl (Zf rfl (Zx b)) (Zm (v := j) rfl m ⟨rfl, ?_⟩)
    refine DL_qg rfl rfl (Zf rfl (Zx b)) (Zp F46_0 rfl rfl rfl ⟨rfl, ?_⟩)
    refine DL_qg rfl rfl (Zf rfl (Zx b)) (Zn (d) A3 rfl rfl rfl ⟨rfl, ?_⟩)
    obtain ⟨aR, aM, a⟩ := Zg a
    refine DL_qg rfl rfl (Zf rfl (Zx b)) (Exec.index_repE S24 rfl rfl rfl (ac.mono z) aM ?_)
    intro aV bk ar aZ
    refine ⟨rfl, ?_⟩
    refine DL_qg rfl rfl (Zf rfl (Zx b)) (Zw (E := (encInt .i64)) d A3 rfl rfl rfl ar ?_)
    intro bq aN
    obtain rfl := encInt_val.1 aN
    refine ⟨rfl, ?_⟩
    refine DL_qg rfl rfl (Zf rfl (Zx b)) (Exec.geq rfl rfl rfl ⟨rfl, ?_⟩)
    refine DL_q rfl rfl (Exec.pick_f (v := Value.bool (decide (aR ≤ c.Val))) rfl (Zx b) rfl ⟨rfl, ?_⟩)
    refine DL_done (Zb (Ze ?_))
    have ba := Zu a
    subst l
    exact ⟨y, (Zv _), d, m, rfl, u, x, o, rfl⟩
   intro be bu ay
   obtain ⟨aO, a8, ag, aC, aD, aE, aF, aG, ak⟩ := ay
   refine (Ze ?_)
   rcases ite_some h with ⟨q, h⟩ | ⟨q, h⟩
   ·refine W_cond_t ak q (Zc ?_)
    cases h
   refine W_cond_f ak q ?_
   replace q := Zk q
   refine W_skip (Ze (Zd (Za rfl rfl (Zp F46_0 rfl aD rfl (Za rfl rfl (Zn (ag) A3 rfl rfl rfl (Za rfl rfl (Zo (v := Vi (c.Var)) rfl rfl (Zb (ib_normal (Ze (Zd (Za rfl rfl (Exec.add rfl aG rfl (Za rfl rfl (Zm (v := Vi (IntKind.i64.wrap ((ai : Int) + 1))) rfl rfl (Zb (Ze ?_))))))))))))))))))
   have bb := Zu h
   subst au
   refine ⟨_, rfl, ?_⟩; exact ⟨aO, (Zt z a8), (ag).drop, aC, rfl, aE, aF, (Eq.trans rfl (wrap_up a5 (SliceRep.le ab)))⟩
  intro t bf bv ax a7
  obtain ⟨aP, a9, a2, aH, aI, aJ, al, aS⟩ := ax
  refine Zc (Zd (Za rfl rfl (Zq rfl aS al (Zb (Ze (Zc (W_false (Zx (decide_eq_false (by omega))) (W_exit (at_exit (at_exit (ib_here (Ze ?_))))))))))))
  refine ⟨_, .inl a7, ?_⟩; exact ⟨aP, a9, a2, aH, aI, aJ, al⟩
 rintro bg bw ⟨aj, ah, az⟩
 have hm := ah.elim (a6 _) (a4 _)
 clear ah
 obtain ⟨aQ, aA, a3, bl, bm, bn, bo⟩ := az
 refine (Ze (Zc (Zd (Za rfl rfl (Zo (v := Value.bool (true)) rfl rfl (Zb (Ze (W_ret ?_))))))))
 have bc := Zu hm
 subst r
 refine ⟨_, ret1 rfl, ?_⟩
 exact ⟨aQ, aA, a3, rfl⟩
theorem F60_1 : tyField Tryz.prog 60 1 = some 1 := by kernel_rfl
theorem F60_2 : tyField Tryz.prog 60 2 = some 2 := by kernel_rfl
theorem F55_0 : tyField Tryz.prog 55 0 = some 0 := by kernel_rfl
theorem task_named_sim {w0 w : World} {s : PHeap} {H : List Res} {a : ByteArray}  {r : Bool} (hm : task_named_p a = some r) (hS : St w0 s (H) w)  :
  Calls Tryz.prog 60 #[Value.string (a)] w fun e w' => ∃ v, e = .returned v ∧ ((fun (aA : Bool) => ∃ (ad : PHeap) , PHeap.le s ad ∧ St w0 ad (H) w' ∧ v = Value.bool (aA)) r) := by
 unfold task_named_p at hm
 refine calls_of_W Tryz.func60 rfl rfl (Zc (Zd (Za rfl rfl (Zo (v := Value.bool (false)) rfl rfl (Zb (Ze (Zc (Zc (Zd (Za rfl rfl (Zm (v := Value.string (a)) rfl rfl (Za rfl rfl (Exec.len_str Tryz.underlying9 rfl rfl (Za rfl rfl (Zm (v := Vi (0)) rfl rfl (Zb (Ze ?_)))))))))))))))))
 obtain ⟨aP, a6, hm⟩ := Zg hm
 obtain ⟨p, aj, aw, au, aq⟩ := ctl_some hm
 refine W_mid (M := fun f' w' => ∃ s', (p = .next s' ∨ p = .brk s') ∧ (fun (_ : Unit) => ∃ (ae : PHeap) , PHeap.le s ae ∧ St w0 ae (H) w' ∧ f' 0 = Value.string (a) ∧ f' 5 = Vi ((a.size : Int))) s') ?_ ?_
 ·refine W_block (W_forC (fun k' s' f' w' => (fun (_ : Unit) => ∃ (af : PHeap) , PHeap.le s af ∧ St w0 af (H) w' ∧ f' 0 = Value.string (a) ∧ f' 5 = Vi ((a.size : Int)) ∧ f' 6 = Vi (k' : Int)) s') aj ?_ ?_ ?_)
  ·exact ⟨s, (Zv _), hS, rfl, rfl, rfl⟩
  ·intro g aM q aH aQ ar ak c ax
   obtain ⟨o, y, t, l, n, m⟩ := ak
   refine Zc (Zd (Za rfl rfl (Zq rfl m n (Zb (Ze (Zc (W_true (Zx (decide_eq_true (by omega))) (W_skip (Ze (Zc (W_block (Zc (Zd (Za rfl rfl (Zm (v := Vi ((g : Int))) rfl m (Za rfl rfl (Zo (v := Vi ((g : Int))) rfl rfl (Zb (Ze (Zc ?_))))))))))))))))))))
   obtain ⟨j, d, c⟩ := Zg c
   refine W_mid (M := fun f' w' => (fun (j : Bool) => ∃ (ag : PHeap) , PHeap.le o ag ∧ St w0 ag (H) w' ∧ f' 0 = Value.string (a) ∧ f' 5 = Vi ((a.size : Int)) ∧ f' 6 = Vi ((g : Int)) ∧ f' 18 = Value.bool (j)) j) ?_ ?_
   ·refine Zd (Za rfl rfl (Zm (v := Value.string (a)) rfl l (Za rfl rfl (Zm (v := Vi ((g : Int))) rfl rfl ?_))))
    obtain ⟨ai, ac, d⟩ := Zg d
    refine Za rfl rfl (Exec.index_str Tryz.underlying9 rfl rfl rfl ac (Za rfl rfl (Zq rfl rfl rfl (Za rfl rfl (Zm (v := Value.bool (decide (ai < 32))) rfl rfl ?_)))))
    rcases ite_some d with ⟨b, d⟩ | ⟨b, d⟩
    ·refine WL_passes 5 (by rw [b]; rfl) ?_
     refine Zb (Ze ?_)
     have aB := Zu d
     subst j
     exact ⟨o, (Zv _), t, l, n, m, rfl⟩
    replace b := Zk b
    refine WL_run rfl (Zf rfl (Zx b)) rfl (Zm (v := Value.string (a)) rfl l (WL_run rfl (Zf rfl (Zx b)) rfl (Zm (v := Vi ((g : Int))) rfl rfl (WL_run rfl (Zf rfl (Zx b)) rfl (Exec.index_str Tryz.underlying9 rfl rfl rfl ac (WL_run rfl (Zf rfl (Zx b)) rfl (Exec.gtr rfl rfl rfl (Za rfl rfl (Exec.pick_f (v := Value.bool (decide (126 < ai))) rfl (Zx b) rfl (Zb (Ze ?_)))))))))))
    have aC := Zu d
    subst j
    exact ⟨o, (Zv _), t, l, n, m, rfl⟩
   intro aI aR am
   obtain ⟨ah, z, u, a1, a2, a3, aa⟩ := am
   refine (Ze ?_)
   rcases ite_some c with ⟨i, c⟩ | ⟨i, c⟩
   ·refine W_cond_t aa i (Zc (Zd (Za rfl rfl (Zo (v := Value.bool (false)) rfl rfl (Zb (Ze (W_ret (ib_ret (at_ret (at_ret (ib_ret (at_ret (at_ret ?_)))))))))))))
    have aD := Zu c
    subst q
    have av := aw _ (ax (by intro _ h; cases h))
    have aE := Zu av
    subst r
    refine ⟨_, ret1 rfl, ?_⟩
    exact ⟨ah, (Zt y z), u, rfl⟩
   refine W_cond_f aa i ?_
   replace i := Zk i
   refine W_skip (ib_normal (Ze (Zd (Za rfl rfl (Exec.add rfl a3 rfl (Za rfl rfl (Zm (v := Vi (IntKind.i64.wrap ((g : Int) + 1))) rfl rfl (Zb (Ze ?_)))))))))
   have aF := Zu c
   subst q
   refine ⟨_, rfl, ?_⟩; exact ⟨ah, (Zt y z), u, a1, a2, (Eq.trans rfl (wrap_up ar (by have h := must_some a6; simp at h; simp only [maxLen]; omega)))⟩
  intro aN aJ aS al ay
  obtain ⟨a7, az, ao, a4, ab, a9⟩ := al
  refine Zc (Zd (Za rfl rfl (Zq rfl a9 ab (Zb (Ze (Zc (W_false (Zx (decide_eq_false (by omega))) (W_exit (at_exit (at_exit (ib_here (Ze ?_))))))))))))
  refine ⟨_, .inl ay, ?_⟩; exact ⟨a7, az, ao, a4, ab⟩
 rintro aK aT ⟨aO, x, an⟩
 have hm := x.elim (au _) (aq _)
 clear x
 obtain ⟨a8, a0, ap, a5, aL⟩ := an
 refine (Ze (Zc (Zd (Za rfl rfl (Zm (v := Value.string (a)) rfl a5 (Za rfl rfl (Exec.len_str Tryz.underlying9 rfl rfl (Za rfl rfl (Exec.leq rfl rfl rfl (Za rfl rfl (Zo (v := Value.bool (decide ((a.size : Int) ≤ 256))) rfl rfl (Zb (Ze (W_ret ?_))))))))))))))
 have aG := Zu hm
 subst r
 refine ⟨_, ret1 rfl, ?_⟩
 exact ⟨a8, a0, ap, rfl⟩
end Go.Pw
