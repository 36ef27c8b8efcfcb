/-
  The walks (printed by my generator).
-/
import Derived.Test.YtkfcbmecmdpilaaL29
import Derived.Test.YtkfcbmecmdpilaaL27
import Derived.Test.YtkfcbmecmdpilaaSs6
set_option maxRecDepth 100000
set_option maxHeartbeats 4000000
set_option linter.unusedVariables false
namespace Go.Pw
open Go.Proofs
theorem base_Clip_sim {w0 w : World} {s : PHeap} {H : List Res} {c : Int} {b : Int} {a : Int}  {r : Int} (hm : base_Clip_p c b a = some r) (hS : St w0 s (H) w)  :
  Calls Try.prog 20 #[Vi (c), Vi (b), Vi (a)] w fun e w' => ∃ v, e = .returned v ∧ ((fun (f : Int) => ∃ (d : PHeap) , PHeap.le s d ∧ St w0 d (H) w' ∧ v = Vi (f)) r) := by
 unfold base_Clip_p at hm
 refine calls_of_W Try.func20 rfl rfl (Zc (Zd (Za rfl rfl (Zo (v := Vi (0)) rfl rfl (Zb (Ze (Zc (Zd (Za rfl rfl (Zm (v := Vi (b)) rfl rfl (Za rfl rfl (Zm (v := Vi (c)) rfl rfl (Za rfl rfl (Zm (v := Vi (a)) rfl rfl (Za rfl rfl (Exec.min2 rfl rfl rfl (Za rfl rfl (Exec.max2 rfl rfl rfl (Za rfl rfl (Zo (v := Vi (max b (min c a))) rfl rfl (Zb (Ze (W_ret ?_)))))))))))))))))))))))
 have g := Zu hm
 subst r
 refine ⟨_, ret1 rfl, ?_⟩
 exact ⟨s, (Zv _), hS, rfl⟩
theorem base_Ints_o_sim {w0 w : World} {s : PHeap} {H : List Res} {c : (List Int)} {q : (List Int)} {a : Value} {d : Value} {r : Bool} (hm : base_Ints_o_p c q = some r) (hS : St w0 s (Res.arr (encInt .i64) 3 a c :: H) w) (p : SliceRep (encInt .i64) s d q) :
  Calls Try.prog 16 #[a, d] w fun e w' => ∃ v, e = .returned v ∧ ((fun (a7 : Bool) => ∃ (ad : PHeap) , PHeap.le s ad ∧ St w0 ad (Res.arr (encInt .i64) 3 a c :: H) w' ∧ v = Value.bool (a7)) r) := by
 unfold base_Ints_o_p at hm
 refine calls_of_W Try.func16 rfl rfl (Zc (Zd (Za rfl rfl (Zo (v := Value.bool (false)) rfl rfl (Zb (Ze (Zc (Zc (Zd (Za rfl rfl (Zm (v := a) rfl rfl (Za rfl rfl (Exec.len_arr (hS) S24 rfl rfl (Za rfl rfl (Zm (v := d) rfl rfl (Za rfl rfl (Zr S24 rfl rfl p (Za rfl rfl (Exec.neq rfl rfl rfl (Zb (Ze ?_)))))))))))))))))))))
 rcases ite_some hm with ⟨i, hm⟩ | ⟨i, hm⟩
 ·refine W_cond_t rfl i (Zc (Zd (Za rfl rfl (Zo (v := Value.bool (false)) rfl rfl (Zb (Ze (W_ret (at_ret ?_))))))))
  have aA := Zu hm
  subst r
  refine ⟨_, ret1 rfl, ?_⟩
  exact ⟨s, (Zv _), hS, rfl⟩
 refine W_cond_f rfl i ?_
 replace i := Zk i
 refine W_skip (Ze (Zc (Zc (Zd (Za rfl rfl (Zm (v := a) rfl rfl (Za rfl rfl (Exec.len_arr (hS) S24 rfl rfl (Za rfl rfl (Zm (v := Vi (0)) rfl rfl (Zb (Ze ?_))))))))))))
 obtain ⟨t, ai, au, aq, ao⟩ := ctl_some hm
 refine W_mid (M := fun f' w' => ∃ s', (t = .next s' ∨ t = .brk s') ∧ (fun (_ : Unit) => ∃ (ae : PHeap) , PHeap.le s ae ∧ St w0 ae (Res.arr (encInt .i64) 3 a c :: H) w' ∧ f' 0 = a ∧ f' 1 = d ∧ f' 12 = Vi ((c.length : Int))) s') ?_ ?_
 ·refine W_block (W_forC (fun k' s' f' w' => (fun (_ : Unit) => ∃ (af : PHeap) , PHeap.le s af ∧ St w0 af (Res.arr (encInt .i64) 3 a c :: H) w' ∧ f' 0 = a ∧ f' 1 = d ∧ f' 12 = Vi ((c.length : Int)) ∧ f' 13 = Vi (k' : Int)) s') ai ?_ ?_ ?_)
  ·exact ⟨s, (Zv _), hS, rfl, rfl, rfl, rfl⟩
  ·intro l aO u aG aT ap aj b av
   obtain ⟨ag, n, g, z, aa, ab, o⟩ := aj
   refine Zc (Zd (Za rfl rfl (Zq rfl o ab (Zb (Ze (Zc (W_true (Zx (decide_eq_true (by omega))) (W_skip (Ze (Zc (W_block (Zc (Zd (Za rfl rfl (Zm (v := Vi ((l : Int))) rfl o (Za rfl rfl (Zo (v := Vi ((l : Int))) rfl rfl (Zb (Ze (Zc (W_dl (n0 := 9) (qs 0 9 .done) hmix (by kernel_rfl) (by kernel_rfl) (DL_q rfl rfl (Zm (v := a) rfl z ⟨rfl, ?_⟩)))))))))))))))))))))))
   refine DL_q rfl rfl (Zm (v := Vi ((l : Int))) rfl rfl ⟨rfl, ?_⟩)
   obtain ⟨aW, m, b⟩ := Zg b
   obtain ⟨aJ, a9, x⟩ := (g.drew).arr_at m
   refine DL_q rfl rfl (Exec.index_slice S24 rfl x rfl (idx_some m).1 (idx_some m).2.1 ⟨rfl, ?_⟩)
   refine DL_q rfl rfl (Exec.load_arr (F := (encInt .i64)) (g.drew) x A3 rfl rfl rfl m (Sub.refl _) ?_)
   intro aR a1
   obtain rfl := encInt_val.1 a1
   refine ⟨rfl, ?_⟩
   refine DL_q rfl rfl (Zm (v := d) rfl aa ⟨rfl, ?_⟩)
   refine DL_q rfl rfl (Zm (v := Vi ((l : Int))) rfl rfl ⟨rfl, ?_⟩)
   obtain ⟨aX, a2, b⟩ := Zg b
   refine DL_q rfl rfl (Exec.index_repE S24 rfl rfl rfl (p.mono n) a2 ?_)
   intro a8 aK ah aB
   refine ⟨rfl, ?_⟩
   refine DL_q rfl rfl (Zw (E := (encInt .i64)) g.drew A3 rfl rfl rfl ah ?_)
   intro aS a3
   obtain rfl := encInt_val.1 a3
   refine ⟨rfl, ?_⟩
   refine DL_q rfl rfl (Exec.neq rfl rfl rfl ⟨rfl, ?_⟩)
   refine DL_done (Zb (Ze ?_))
   rcases ite_some b with ⟨j, b⟩ | ⟨j, b⟩
   ·refine W_cond_t rfl j (Zc (Zd (Za rfl rfl (Zo (v := Value.bool (false)) rfl rfl (Zb (Ze (W_ret (ib_ret (at_ret (at_ret (ib_ret (at_ret (at_ret ?_)))))))))))))
    have aC := Zu b
    subst u
    have ar := au _ (av (by intro _ h; cases h))
    have aD := Zu ar
    subst r
    refine ⟨_, ret1 rfl, ?_⟩
    exact ⟨ag, n, g.drew, rfl⟩
   refine W_cond_f rfl j ?_
   replace j := Zk j
   refine W_skip (ib_normal (Ze (Zd (Za rfl rfl (Exec.add rfl o rfl (Za rfl rfl (Zm (v := Vi (IntKind.i64.wrap ((l : Int) + 1))) rfl rfl (Zb (Ze ?_)))))))))
   have aE := Zu b
   subst u
   refine ⟨_, rfl, ?_⟩; exact ⟨ag, n, g.drew, z, aa, ab, (Eq.trans rfl (wrap_up ap (hS).arr_le))⟩
  intro aP aH aU ak aw
  obtain ⟨a4, ax, am, az, a0, ac, a6⟩ := ak
  refine Zc (Zd (Za rfl rfl (Zq rfl a6 ac (Zb (Ze (Zc (W_false (Zx (decide_eq_false (by omega))) (W_exit (at_exit (at_exit (ib_here (Ze ?_))))))))))))
  refine ⟨_, .inl aw, ?_⟩; exact ⟨a4, ax, am, az, a0, ac⟩
 rintro aI aV ⟨aQ, y, al⟩
 have hm := y.elim (aq _) (ao _)
 clear y
 obtain ⟨a5, ay, an, aL, aM, aN⟩ := al
 refine (Ze (Zc (Zd (Za rfl rfl (Zo (v := Value.bool (true)) rfl rfl (Zb (Ze (W_ret ?_))))))))
 have aF := Zu hm
 subst r
 refine ⟨_, ret1 rfl, ?_⟩
 exact ⟨a5, ay, an, rfl⟩
theorem law19_SimplifyCopies_sim {w0 w : World} {s : PHeap} {H : List Res} {fu : Nat} {aj : Ground} {aL : Int} {k : Int} {t : Value} {u : Value} {x : Value} {y : Value} {ae : Value} {r : Bool} (hm : law19_SimplifyCopies_p fu aj aL k = some r) (hS : St w0 s (H) w) (ax : SliceRep encAtom s t aj.Atoms) (ay : SliceRep encGFluent s u aj.Fluents) (az : SliceRep (encInt .i64) s x aj.Init) (a0 : SliceRep encCond s y aj.Goal) (ac : SliceRep encGOp s ae aj.Ops) :
  Calls Try.prog 5 #[Value.agg #[t, u, x, y, ae], Value.int .u8 (aL), Vi (k)] w fun e w' => ∃ v, e = .returned v ∧ ((fun (dO : Bool) => ∃ (ci : PHeap) , PHeap.le s ci ∧ St w0 ci (H) w' ∧ v = Value.bool (dO)) r) := by
 unfold law19_SimplifyCopies_p at hm
 refine calls_of_W Try.func5 rfl rfl (Zc (Zd (Za rfl rfl (Exec.box (cs := [t, u, x, y, ae]) hS rfl rfl rfl ?_))))
 intro a1 fb bB
 refine Za rfl rfl (Zo (v := Value.bool (false)) rfl rfl (Zb (Ze (Zc (Zc ?_)))))
 obtain ⟨aw, aa, hm⟩ := Zg hm
 refine W_mid (M := fun f' w' => (fun (aw : Bool) => ∃ (cj : PHeap) , PHeap.le s cj ∧ St w0 cj (Res.box a1 28 [t, u, x, y, ae] :: H) w' ∧ f' 1 = Value.int .u8 (aL) ∧ f' 2 = Vi (k) ∧ f' 3 = Value.pointer (some ⟨a1, 0, none⟩) ∧ f' 32 = Value.bool (aw)) aw) ?_ ?_
 ·refine Zd (Za rfl rfl (Exec.load_box_agg (ds := [t, u, x, y, ae]) (bB) A28 rfl rfl rfl ?_))
  obtain ⟨dP, di, aa⟩ := Zg aa
  refine Za rfl rfl (Tc rfl rfl rfl (Zi rfl args_nil) (law18_Large_sim di bB ax ay az a0 ac).r ?_)
  rintro _ fc ⟨b4, a3, a2, rfl⟩
  refine Za rfl rfl (Zm (v := Value.bool (dP)) rfl rfl ?_)
  rcases ite_some aa with ⟨al, aa⟩ | ⟨al, aa⟩
  ·refine WL_passes 15 (by rw [al]; rfl) ?_
   refine Zb (Ze ?_)
   have ek := Zu aa
   subst aw
   exact ⟨b4, a3, a2, rfl, rfl, rfl, rfl⟩
  replace al := Zk al
  refine WL_run rfl (Zf rfl (Zx al)) rfl (Zp F28_4 rfl rfl rfl (WL_run rfl (Zf rfl (Zx al)) rfl (Zn (a2) A26 rfl rfl rfl (WL_run rfl (Zf rfl (Zx al)) rfl (Zr S26 rfl rfl (ac.mono a3) (WL_run rfl (Zf rfl (Zx al)) rfl (Exec.gtr rfl rfl rfl ?_)))))))
  refine WL_passes 2 (by rw [al]; rfl) ?_
  rcases ite_some aa with ⟨am, aa⟩ | ⟨am, aa⟩
  ·refine WL_passes 9 (by rw [am]; rfl) ?_
   refine Zb (Ze ?_)
   have el := Zu aa
   subst aw
   exact ⟨b4, a3, a2, rfl, rfl, rfl, rfl⟩
  replace am := Zk am
  refine WL_run rfl (Zf rfl (Zx am)) rfl (Zp F28_4 rfl rfl rfl (WL_run rfl (Zf rfl (Zx am)) rfl (Zn (a2) A26 rfl rfl rfl (WL_run rfl (Zf rfl (Zx am)) rfl (Zr S26 rfl rfl (ac.mono a3) (WL_run rfl (Zf rfl (Zx am)) rfl (Exec.eql rfl rfl rfl ?_)))))))
  refine WL_passes 2 (by rw [am]; rfl) ?_
  rcases ite_some aa with ⟨ar, aa⟩ | ⟨ar, aa⟩
  ·refine WL_passes 3 (by rw [ar]; rfl) ?_
   refine Zb (Ze ?_)
   have em := Zu aa
   subst aw
   exact ⟨b4, a3, a2, rfl, rfl, rfl, rfl⟩
  replace ar := Zk ar
  obtain ⟨dQ, dj, aa⟩ := Zg aa
  refine WL_run rfl (Zf rfl (Zx ar)) rfl (Tc rfl rfl rfl args_nil (law19_awake_sim dj a2 ).r ?_)
  rintro _ fd ⟨d9, cW, cz, rfl⟩
  refine WL_run rfl (Zf rfl (Zx ar)) rfl (Exec.not rfl rfl (Za rfl rfl (Exec.pick_f (v := Value.bool (!dQ)) rfl (Zx ar) rfl (Zb (Ze ?_)))))
  have en := Zu aa
  subst aw
  exact ⟨d9, (Zt a3 cW), cz, rfl, rfl, rfl, rfl⟩
 intro eA fe cv
 obtain ⟨eM, h, a7, bT, de, ab, bU⟩ := cv
 refine (Ze ?_)
 rcases ite_some hm with ⟨a8, hm⟩ | ⟨a8, hm⟩
 ·refine W_cond_t bU a8 (Zc (Zd ?_))
  obtain ⟨dR, dk, hm⟩ := Zg hm
  refine Za rfl rfl (Tc rfl rfl rfl args_nil (law19_awake_sim dk a7 ).r ?_)
  rintro _ ff ⟨dA, cX, c0, rfl⟩
  refine Za rfl rfl (Zo (v := Value.bool (dR)) rfl rfl (Zb (Ze (W_ret (at_ret ?_)))))
  have eo := Zu hm
  subst r
  refine ⟨_, ret1 rfl, ?_⟩
  exact ⟨dA, (Zt h cX), (c0).drop, rfl⟩
 refine W_cond_f bU a8 ?_
 replace a8 := Zk a8
 refine W_skip (Ze (Zc (W_dl (n0 := 11) (qs 0 10 (.e 10 [0, 1, 2, 3, 4, 5, 6, 7, 8, 9] .done)) hmix (by kernel_rfl) (by kernel_rfl) (DL_q rfl rfl (Zp F28_4 rfl ab rfl ⟨rfl, ?_⟩)))))
 refine DL_q rfl rfl (Zn (a7.drew) A26 rfl rfl rfl ⟨rfl, ?_⟩)
 refine DL_q rfl rfl (Zm (v := Value.int .u8 (aL)) rfl bT ⟨rfl, ?_⟩)
 refine DL_q rfl rfl (Exec.convert_int (by rw [Try.underlying5]; rfl) Try.underlying3 rfl rfl ⟨rfl, ?_⟩)
 refine DL_q rfl rfl (Zp F28_4 rfl ab rfl ⟨rfl, ?_⟩)
 refine DL_q rfl rfl (Zn (a7.drew) A26 rfl rfl rfl ⟨rfl, ?_⟩)
 refine DL_q rfl rfl (Zr S26 rfl rfl (ac.mono h) ⟨rfl, ?_⟩)
 obtain ⟨eQ, bW, hm⟩ := Zg hm
 refine DL_q rfl rfl (Exec.rem rfl rfl rfl (by simpa using must_some bW) ⟨rfl, ?_⟩)
 obtain ⟨g, dl, hm⟩ := Zg hm
 refine DL_q rfl rfl (Exec.index_repE S26 rfl rfl rfl (ac.mono h) dl ?_)
 intro dU eL cr ct
 refine ⟨rfl, ?_⟩
 refine DL_q rfl rfl (Exec.load_atR (E := encGOp) a7.drew A51 rfl rfl rfl cr ?_)
 intro eR dm cu
 obtain ⟨l, i, j, m, n, rfl, aY, aZ, ba, bb, bc⟩ := encGOp_val.1 dm
 refine ⟨rfl, ?_⟩
 refine DL_e rfl rfl (Exec.alloc (cs := [Value.string (⟨#[]⟩), Vi (0), Value.slice none 0 0, Value.slice none 0 0, Value.slice none 0 0, Value.slice none 0 0, Value.slice none 0 0]) a7.drew Z51 rfl rfl ?_)
 intro dV fg aO
 refine ⟨(ag_cons (ag_r rfl rfl (Zp F28_4 rfl ab rfl ⟨rfl, rfl⟩)) (ag_cons (ag_r rfl rfl (Zn ((aO).f1) A26 rfl rfl rfl ⟨rfl, rfl⟩)) (ag_cons (ag_r rfl rfl (Zm (v := Value.int .u8 (aL)) rfl bT ⟨rfl, rfl⟩)) (ag_cons (ag_r rfl rfl (Exec.convert_int (by rw [Try.underlying5]; rfl) Try.underlying3 rfl rfl ⟨rfl, rfl⟩)) (ag_cons (ag_r rfl rfl (Zp F28_4 rfl ab rfl ⟨rfl, rfl⟩)) (ag_cons (ag_r rfl rfl (Zn ((aO).f1) A26 rfl rfl rfl ⟨rfl, rfl⟩)) (ag_cons (ag_r rfl rfl (Zr S26 rfl rfl (ac.mono h) ⟨rfl, rfl⟩)) (ag_cons (ag_r rfl rfl (Exec.rem rfl rfl rfl (by simpa using must_some bW) ⟨rfl, rfl⟩)) (ag_cons (ag_r rfl rfl (Exec.index_run rfl rfl rfl ct ⟨rfl, rfl⟩)) (ag_cons (ag_r rfl rfl (Exec.load_run rfl rfl (cu (Zv _) aO) ⟨rfl, rfl⟩)) ag_nil)))))))))), ?_⟩
 refine DL_done (Za rfl rfl (Exec.store_box (ds := [Value.string (g.Name), Vi (g.Cost), l, i, j, m, n]) (es := [Value.string (g.Name), Vi (g.Cost), l, i, j, m, n]) aO A51 rfl rfl rfl rfl (Zj rfl (Zj rfl (Zj (aY).one (Zj (aZ).one (Zj (ba).one (Zj (bb).one (Zj (bc).one one_nil))))))) (Nat.le_of_ble_eq_true rfl) rfl ?_))
 intro fh bC
 refine Zb (Ze (Zc (W_dl (n0 := 7) (qs 0 3 (.q 5 (.e 3 [0, 1, 5] (.q 4 (.e 6 [4] .done))))) hmix (by kernel_rfl) (by kernel_rfl) (DL_q rfl rfl (Zp F51_1 rfl rfl rfl ⟨rfl, ?_⟩)))))
 refine DL_q rfl rfl (Zn (bC.drew) A3 rfl rfl rfl ⟨rfl, ?_⟩)
 refine DL_q rfl rfl (Zm (v := Vi (k)) rfl de ⟨rfl, ?_⟩)
 refine DL_q rfl rfl (Zp F51_0 rfl rfl rfl ⟨rfl, ?_⟩)
 refine DL_e rfl rfl (Tc rfl rfl rfl (Zi rfl (Zi rfl (Zi rfl args_nil))) (base_Clip_sim (base_Clip_tot k 0 5) bC.drew ).r ?_)
 rintro _ fi ⟨bh, d, bD, rfl⟩
 refine ⟨(ag_cons (ag_r rfl rfl (Zp F51_1 rfl rfl rfl ⟨rfl, rfl⟩)) (ag_cons (ag_r rfl rfl (Zn (bD) A3 rfl rfl rfl ⟨rfl, rfl⟩)) (ag_cons (ag_r rfl rfl (Zp F51_0 rfl rfl rfl ⟨rfl, rfl⟩)) ag_nil))), ?_⟩
 refine DL_q rfl rfl (Exec.add rfl rfl rfl ⟨rfl, ?_⟩)
 refine DL_e rfl rfl (Exec.store_box (ds := [Value.string (⟨#[40, 99, 111, 112, 121, 41]⟩)]) (es := [Value.string (⟨#[40, 99, 111, 112, 121, 41]⟩), Vi (g.Cost), l, i, j, m, n]) bD A9 rfl rfl rfl rfl (Zj rfl one_nil) (Nat.le_of_ble_eq_true rfl) rfl ?_)
 intro fj c1
 refine ⟨(ag_cons (ag_r rfl rfl (Exec.add rfl rfl rfl ⟨rfl, rfl⟩)) ag_nil), ?_⟩
 refine DL_done (Za rfl rfl (Zp F51_1 rfl rfl rfl (Za rfl rfl (Exec.store_box (ds := [Vi (IntKind.i64.wrap (g.Cost + (base_Clip_t k 0 5)))]) (es := [Value.string (⟨#[40, 99, 111, 112, 121, 41]⟩), Vi (IntKind.i64.wrap (g.Cost + (base_Clip_t k 0 5))), l, i, j, m, n]) c1 A3 rfl rfl rfl rfl (Zj rfl one_nil) (Nat.le_of_ble_eq_true rfl) rfl ?_))))
 intro fk bE
 refine Zb (Ze (Zc (Zd (Za rfl rfl (Exec.load_box_agg (ds := [t, u, x, y, ae]) ((bE).f1) A28 rfl ab rfl (Za rfl rfl (Exec.alloc (cs := [Value.slice none 0 0, Value.slice none 0 0, Value.slice none 0 0, Value.slice none 0 0, Value.slice none 0 0]) bE Z28 rfl rfl ?_)))))))
 intro aN fl c2
 refine Za rfl rfl (Exec.store_box (ds := [t, u, x, y, ae]) (es := [t, u, x, y, ae]) c2 A28 rfl rfl rfl rfl (Zj ((ax.mono (Zt h d))).one (Zj ((ay.mono (Zt h d))).one (Zj ((az.mono (Zt h d))).one (Zj ((a0.mono (Zt h d))).one (Zj ((ac.mono (Zt h d))).one one_nil))))) (Nat.le_of_ble_eq_true rfl) rfl ?_)
 intro fm aP
 refine Zb (Ze (Zc ?_))
 obtain ⟨eE, b2, hm⟩ := Zg hm
 obtain ⟨cY, b3, hm⟩ := Zg hm
 refine W_mid (M := fun f' w' => ∃ (ck : PHeap) (a6 : Value), PHeap.le bh ck ∧ St w0 ck (Res.box a1 28 [t, u, x, y, ae] :: Res.box aN 28 [t, u, x, y, a6] :: Res.arr encGOp 51 a6 cY :: H) w' ∧ f' 3 = Value.pointer (some ⟨a1, 0, none⟩) ∧ f' 8 = Value.pointer (some ⟨aN, 0, none⟩)) ?_ ?_
 ·refine W_dl (n0 := 7) (.q 1 (.q 2 (.q 4 (.alt (.e 0 [1, 2, 4] (.alt (.e 3 [4] (.e 5 [] (.e 6 [] .done))) (.e 5 [1, 2] (.e 3 [] (.e 6 [] .done))))) (.e 5 [1, 2] (.e 0 [1, 2] (.e 3 [] (.e 6 [] .done)))))))) hmix (by kernel_rfl) (by kernel_rfl) (DL_q rfl rfl (Zp F28_4 rfl ab rfl ⟨rfl, ?_⟩))
  refine DL_q rfl rfl (Zn ((aP.drew).f2) A26 rfl rfl rfl ⟨rfl, ?_⟩)
  refine DL_q rfl rfl (Exec.load_box_agg (ds := [Value.string (⟨#[40, 99, 111, 112, 121, 41]⟩), Vi (IntKind.i64.wrap (g.Cost + (base_Clip_t k 0 5))), l, i, j, m, n]) ((aP.drew).f1) A51 rfl rfl rfl ⟨rfl, ?_⟩)
  refine DL_alt ?_ ?_
  ·refine DL_e rfl rfl (Exec.buildSlice (Te := 51) (cs := []) aP.drew rfl parts_nil (fun _ => by kernel_rfl) ?_)
   intro dW fn aQ
   refine ⟨(ag_cons (ag_r rfl rfl (Zp F28_4 rfl ab rfl ⟨rfl, rfl⟩)) (ag_cons (ag_r rfl rfl (Zn ((aQ).f3) A26 rfl rfl rfl ⟨rfl, rfl⟩)) (ag_cons (ag_r rfl rfl (Exec.load_box_agg (ds := [Value.string (⟨#[40, 99, 111, 112, 121, 41]⟩), Vi (IntKind.i64.wrap (g.Cost + (base_Clip_t k 0 5))), l, i, j, m, n]) ((aQ).f2) A51 rfl rfl rfl ⟨rfl, rfl⟩)) ag_nil))), ?_⟩
   refine DL_alt ?_ ?_
   ·have c3 := St.boxArr (E := encGOp) (xs := []) aQ rfl (by simp [maxLen])
    refine DL_e rfl rfl (Exec.append_rep (E := encGOp) (ys := aj.Ops) c3 S26 Z51 rfl (by decide) rfl rfl rfl (ac.mono (Zt h d)) b2 ?_)
    intro eS fo bF
    refine ⟨(ag_cons (ag_r rfl rfl (Exec.load_box_agg (ds := [Value.string (⟨#[40, 99, 111, 112, 121, 41]⟩), Vi (IntKind.i64.wrap (g.Cost + (base_Clip_t k 0 5))), l, i, j, m, n]) ((bF).f2) A51 rfl rfl rfl ⟨rfl, rfl⟩)) ag_nil), ?_⟩
    refine DL_e rfl rfl (Exec.buildSlice (Te := 51) (cs := [Value.string (⟨#[40, 99, 111, 112, 121, 41]⟩), Vi (IntKind.i64.wrap (g.Cost + (base_Clip_t k 0 5))), l, i, j, m, n]) bF rfl (parts_cons (c := [Value.string (⟨#[40, 99, 111, 112, 121, 41]⟩), Vi (IntKind.i64.wrap (g.Cost + (base_Clip_t k 0 5))), l, i, j, m, n]) (cells_of rfl rfl) parts_nil) (fun _ => by kernel_rfl) ?_)
    intro dX fp c4
    refine ⟨ag_nil, ?_⟩
    refine DL_e rfl rfl (Exec.append_box (E := encGOp) (ys := [(⟨⟨#[40, 99, 111, 112, 121, 41]⟩, IntKind.i64.wrap (g.Cost + (base_Clip_t k 0 5)), g.Pre, g.Changes, g.Assigns⟩ : GOp)]) (c4).f1 S26 Z51 rfl (by decide) rfl rfl rfl rfl ⟨[Value.string (⟨#[40, 99, 111, 112, 121, 41]⟩), Vi (IntKind.i64.wrap (g.Cost + (base_Clip_t k 0 5))), l, i, j, m, n], [], rfl, ⟨[Value.string (⟨#[40, 99, 111, 112, 121, 41]⟩)], [Vi (IntKind.i64.wrap (g.Cost + (base_Clip_t k 0 5))), l, i, j, m, n], rfl, rfl, ⟨[Vi (IntKind.i64.wrap (g.Cost + (base_Clip_t k 0 5)))], [l, i, j, m, n], rfl, rfl, ⟨[l, i, j], [m, n], rfl, ⟨[l], [i, j], rfl, ⟨_, rfl, (aY.mono d)⟩, ⟨[i], [j], rfl, ⟨_, rfl, (aZ.mono d)⟩, ⟨_, rfl, (ba.mono d)⟩⟩⟩, ⟨[m], [n], rfl, ⟨_, rfl, (bb.mono d)⟩, ⟨_, rfl, (bc.mono d)⟩⟩⟩⟩⟩, rfl⟩ rfl b3 ?_)
    intro b7 fq br
    refine ⟨ag_nil, ?_⟩
    refine DL_done (Za rfl rfl (Zp F28_4 rfl rfl rfl (Za rfl rfl (Exec.store_box (ds := [b7]) (es := [t, u, x, y, b7]) (br).f1 A26 rfl rfl rfl (cells_one (((br).f1).f1).arr_one) (Zj (((br).f1).f1).arr_one one_nil) (Nat.le_of_ble_eq_true rfl) rfl ?_))))
    intro fr c5
    refine Zb (Ze ?_)
    exact ⟨bh, b7, (Zv _), (((((c5).f2).drop).f1).f1).f2, ab, rfl⟩
   refine DL_e rfl rfl (Exec.buildSlice (Te := 51) (cs := [Value.string (⟨#[40, 99, 111, 112, 121, 41]⟩), Vi (IntKind.i64.wrap (g.Cost + (base_Clip_t k 0 5))), l, i, j, m, n]) aQ rfl (parts_cons (c := [Value.string (⟨#[40, 99, 111, 112, 121, 41]⟩), Vi (IntKind.i64.wrap (g.Cost + (base_Clip_t k 0 5))), l, i, j, m, n]) (cells_of rfl rfl) parts_nil) (fun _ => by kernel_rfl) ?_)
   intro dY fs bG
   refine ⟨(ag_cons (ag_r rfl rfl (Zp F28_4 rfl ab rfl ⟨rfl, rfl⟩)) (ag_cons (ag_r rfl rfl (Zn ((bG).f4) A26 rfl rfl rfl ⟨rfl, rfl⟩)) ag_nil)), ?_⟩
   have c6 := St.boxArr (E := encGOp) (xs := []) (bG).f1 rfl (by simp [maxLen])
   refine DL_e rfl rfl (Exec.append_rep (E := encGOp) (ys := aj.Ops) c6 S26 Z51 rfl (by decide) rfl rfl rfl (ac.mono (Zt h d)) b2 ?_)
   intro eT ft c7
   refine ⟨ag_nil, ?_⟩
   refine DL_e rfl rfl (Exec.append_box (E := encGOp) (ys := [(⟨⟨#[40, 99, 111, 112, 121, 41]⟩, IntKind.i64.wrap (g.Cost + (base_Clip_t k 0 5)), g.Pre, g.Changes, g.Assigns⟩ : GOp)]) ((c7).f1).f1 S26 Z51 rfl (by decide) rfl rfl rfl rfl ⟨[Value.string (⟨#[40, 99, 111, 112, 121, 41]⟩), Vi (IntKind.i64.wrap (g.Cost + (base_Clip_t k 0 5))), l, i, j, m, n], [], rfl, ⟨[Value.string (⟨#[40, 99, 111, 112, 121, 41]⟩)], [Vi (IntKind.i64.wrap (g.Cost + (base_Clip_t k 0 5))), l, i, j, m, n], rfl, rfl, ⟨[Vi (IntKind.i64.wrap (g.Cost + (base_Clip_t k 0 5)))], [l, i, j, m, n], rfl, rfl, ⟨[l, i, j], [m, n], rfl, ⟨[l], [i, j], rfl, ⟨_, rfl, (aY.mono d)⟩, ⟨[i], [j], rfl, ⟨_, rfl, (aZ.mono d)⟩, ⟨_, rfl, (ba.mono d)⟩⟩⟩, ⟨[m], [n], rfl, ⟨_, rfl, (bb.mono d)⟩, ⟨_, rfl, (bc.mono d)⟩⟩⟩⟩⟩, rfl⟩ rfl b3 ?_)
   intro b8 fv bs
   refine ⟨ag_nil, ?_⟩
   refine DL_done (Za rfl rfl (Zp F28_4 rfl rfl rfl (Za rfl rfl (Exec.store_box (ds := [b8]) (es := [t, u, x, y, b8]) (bs).f1 A26 rfl rfl rfl (cells_one (((bs).f1).f1).arr_one) (Zj (((bs).f1).f1).arr_one one_nil) (Nat.le_of_ble_eq_true rfl) rfl ?_))))
   intro fw c8
   refine Zb (Ze ?_)
   exact ⟨bh, b8, (Zv _), (((((c8).f2).drop).f1).f1).f2, ab, rfl⟩
  refine DL_e rfl rfl (Exec.buildSlice (Te := 51) (cs := [Value.string (⟨#[40, 99, 111, 112, 121, 41]⟩), Vi (IntKind.i64.wrap (g.Cost + (base_Clip_t k 0 5))), l, i, j, m, n]) aP.drew rfl (parts_cons (c := [Value.string (⟨#[40, 99, 111, 112, 121, 41]⟩), Vi (IntKind.i64.wrap (g.Cost + (base_Clip_t k 0 5))), l, i, j, m, n]) (cells_of rfl rfl) parts_nil) (fun _ => by kernel_rfl) ?_)
  intro dZ fx bH
  refine ⟨(ag_cons (ag_r rfl rfl (Zp F28_4 rfl ab rfl ⟨rfl, rfl⟩)) (ag_cons (ag_r rfl rfl (Zn ((bH).f3) A26 rfl rfl rfl ⟨rfl, rfl⟩)) ag_nil)), ?_⟩
  refine DL_e rfl rfl (Exec.buildSlice (Te := 51) (cs := []) bH rfl parts_nil (fun _ => by kernel_rfl) ?_)
  intro ea fy bI
  refine ⟨(ag_cons (ag_r rfl rfl (Zp F28_4 rfl ab rfl ⟨rfl, rfl⟩)) (ag_cons (ag_r rfl rfl (Zn ((bI).f4) A26 rfl rfl rfl ⟨rfl, rfl⟩)) ag_nil)), ?_⟩
  have c9 := St.boxArr (E := encGOp) (xs := []) bI rfl (by simp [maxLen])
  refine DL_e rfl rfl (Exec.append_rep (E := encGOp) (ys := aj.Ops) c9 S26 Z51 rfl (by decide) rfl rfl rfl (ac.mono (Zt h d)) b2 ?_)
  intro eU fz cA
  refine ⟨ag_nil, ?_⟩
  refine DL_e rfl rfl (Exec.append_box (E := encGOp) (ys := [(⟨⟨#[40, 99, 111, 112, 121, 41]⟩, IntKind.i64.wrap (g.Cost + (base_Clip_t k 0 5)), g.Pre, g.Changes, g.Assigns⟩ : GOp)]) ((cA).f1).f1 S26 Z51 rfl (by decide) rfl rfl rfl rfl ⟨[Value.string (⟨#[40, 99, 111, 112, 121, 41]⟩), Vi (IntKind.i64.wrap (g.Cost + (base_Clip_t k 0 5))), l, i, j, m, n], [], rfl, ⟨[Value.string (⟨#[40, 99, 111, 112, 121, 41]⟩)], [Vi (IntKind.i64.wrap (g.Cost + (base_Clip_t k 0 5))), l, i, j, m, n], rfl, rfl, ⟨[Vi (IntKind.i64.wrap (g.Cost + (base_Clip_t k 0 5)))], [l, i, j, m, n], rfl, rfl, ⟨[l, i, j], [m, n], rfl, ⟨[l], [i, j], rfl, ⟨_, rfl, (aY.mono d)⟩, ⟨[i], [j], rfl, ⟨_, rfl, (aZ.mono d)⟩, ⟨_, rfl, (ba.mono d)⟩⟩⟩, ⟨[m], [n], rfl, ⟨_, rfl, (bb.mono d)⟩, ⟨_, rfl, (bc.mono d)⟩⟩⟩⟩⟩, rfl⟩ rfl b3 ?_)
  intro b9 f0 bt
  refine ⟨ag_nil, ?_⟩
  refine DL_done (Za rfl rfl (Zp F28_4 rfl rfl rfl (Za rfl rfl (Exec.store_box (ds := [b9]) (es := [t, u, x, y, b9]) (bt).f1 A26 rfl rfl rfl (cells_one (((bt).f1).f1).arr_one) (Zj (((bt).f1).f1).arr_one one_nil) (Nat.le_of_ble_eq_true rfl) rfl ?_))))
  intro f5 cB
  refine Zb (Ze ?_)
  exact ⟨bh, b9, (Zv _), (((((cB).f2).drop).f1).f1).f2, ab, rfl⟩
 intro eB f6 cw
 obtain ⟨dB, a6, p, bJ, b0, b1⟩ := cw
 refine (Ze (Zc (Zc ?_)))
 obtain ⟨bi, an, hm⟩ := Zg hm
 refine W_mid (M := fun f' w' => (un2 fun (cp : Bool) (cq : (List GOp)) => ∃ (b5 : PHeap) (bj : Value), PHeap.le dB b5 ∧ St w0 b5 (Res.box a1 28 [t, u, x, y, ae] :: Res.box aN 28 [t, u, x, y, bj] :: H) w' ∧ f' 3 = Value.pointer (some ⟨a1, 0, none⟩) ∧ f' 8 = Value.pointer (some ⟨aN, 0, none⟩) ∧ f' 67 = Value.bool (cp) ∧ SliceRep encGOp b5 bj cq) bi) ?_ ?_
 ·refine Zd (Za rfl rfl (Exec.load_box_agg (ds := [t, u, x, y, ae]) (bJ) A28 rfl b0 rfl ?_))
  obtain ⟨dS, dn, an⟩ := Zg an
  refine Za rfl rfl (Tc rfl rfl rfl (Zi rfl args_nil) (ground_Valid_sim dn bJ (ax.mono (Zt (Zt h d) p)) (ay.mono (Zt (Zt h d) p)) (az.mono (Zt (Zt h d) p)) (a0.mono (Zt (Zt h d) p)) (ac.mono (Zt (Zt h d) p))).r ?_)
  rintro _ f7 ⟨eN, a4, bu, rfl⟩
  refine Za rfl rfl (Exec.not rfl rfl (Za rfl rfl (Zm (v := Value.bool (!dS)) rfl rfl ?_)))
  rcases ite_some an with ⟨ao, an⟩ | ⟨ao, an⟩
  ·refine WL_passes 4 (by rw [ao]; rfl) ?_
   refine Zb (Ze ?_)
   have ep := Zu an
   subst bi
   obtain ⟨dC, cZ, cC, d6⟩ := (bu).f2.freezeArr
   exact ⟨dC, a6, (Zt a4 cZ), ((cC).f1).f1, b0, b1, rfl, d6⟩
  replace ao := Zk ao
  refine WL_run rfl (Zf rfl (Zx ao)) rfl (Exec.load_box_agg (ds := [t, u, x, y, a6]) ((bu).f1) A28 rfl b1 rfl ?_)
  obtain ⟨eO, aA, cD, bX⟩ := (bu).f2.freezeArr
  obtain ⟨dT, dp, an⟩ := Zg an
  refine WL_run rfl (Zf rfl (Zx ao)) rfl (Tc rfl rfl rfl (Zi rfl args_nil) (ground_Valid_sim dp cD (ax.mono (Zt (Zt (Zt (Zt h d) p) a4) aA)) (ay.mono (Zt (Zt (Zt (Zt h d) p) a4) aA)) (az.mono (Zt (Zt (Zt (Zt h d) p) a4) aA)) (a0.mono (Zt (Zt (Zt (Zt h d) p) a4) aA)) bX).r ?_)
  rintro _ f8 ⟨dD, bS, cE, rfl⟩
  refine WL_run rfl (Zf rfl (Zx ao)) rfl (Exec.not rfl rfl (Za rfl rfl (Exec.pick_f (v := Value.bool (!dT)) rfl (Zx ao) rfl (Zb (Ze ?_)))))
  have er := Zu an
  subst bi
  exact ⟨dD, a6, (Zt (Zt a4 aA) bS), ((cE).f1).f1, b0, b1, rfl, (bX.mono bS)⟩
 intro eC f9 cx
 obtain ⟨cp, cq⟩ := bi
 replace hm := un2_eq hm
 obtain ⟨dE, bj, af, bv, df, dg, bV, cV⟩ := cx
 refine (Ze ?_)
 rcases ite_some hm with ⟨a9, hm⟩ | ⟨a9, hm⟩
 ·refine W_cond_t bV a9 (Zc (Zd (Za rfl rfl (Zo (v := Value.bool (true)) rfl rfl (Zb (Ze (W_ret (at_ret ?_))))))))
  have et := Zu hm
  subst r
  refine ⟨_, ret1 rfl, ?_⟩
  exact ⟨dE, (Zt (Zt (Zt h d) p) af), ((bv).drop).drop, rfl⟩
 refine W_cond_f bV a9 ?_
 replace a9 := Zk a9
 refine W_skip (Ze (Zc (Zd (Za rfl rfl (Exec.load_box_agg (ds := [t, u, x, y, ae]) (bv) A28 rfl df rfl ?_)))))
 obtain ⟨dM, dq, hm⟩ := Zg hm
 obtain ⟨aM, gd, bA⟩ := dM
 replace hm := un3_eq hm
 refine Za rfl rfl (Tc rfl rfl rfl (Zi rfl args_nil) (simplify_Simplify_sim dq bv (ax.mono (Zt (Zt (Zt h d) p) af)) (ay.mono (Zt (Zt (Zt h d) p) af)) (az.mono (Zt (Zt (Zt h d) p) af)) (a0.mono (Zt (Zt (Zt h d) p) af)) (ac.mono (Zt (Zt (Zt h d) p) af))).r ?_)
 rintro _ fA ⟨eP, aB, aC, aD, aE, aF, bk, bl, bm, a5, cF, rfl, bY, bZ, ca, cb, cc, bd, d7, be⟩
 refine Za rfl rfl (Zm (v := Value.tuple #[Value.agg #[aB, aC, aD, aE, aF], Value.agg #[bk, bl, bm], errV 41 (aM)]) rfl rfl (Za rfl rfl (Exec.extract (v := Value.agg #[aB, aC, aD, aE, aF]) rfl rfl rfl (Za rfl rfl (Exec.extract (v := Value.agg #[bk, bl, bm]) rfl rfl rfl (Za rfl rfl (Exec.extract (v := errV 41 (aM)) rfl rfl rfl (Za rfl rfl (Exec.alloc (cs := [Value.slice none 0 0, Value.slice none 0 0, Value.slice none 0 0, Value.slice none 0 0, Value.slice none 0 0]) cF Z28 rfl rfl ?_)))))))))
 intro eb fB cG
 refine Za rfl rfl (Exec.alloc (cs := [Value.slice none 0 0, Value.slice none 0 0, Value.slice none 0 0]) cG Z32 rfl rfl ?_)
 intro ec fC cH
 refine Za rfl rfl (Exec.store_box (ds := [aB, aC, aD, aE, aF]) (es := [aB, aC, aD, aE, aF]) (cH).f1 A28 rfl rfl rfl rfl (Zj (bY).one (Zj (bZ).one (Zj (ca).one (Zj (cb).one (Zj (cc).one one_nil))))) (Nat.le_of_ble_eq_true rfl) rfl ?_)
 intro fD cI
 refine Za rfl rfl (Exec.store_box (ds := [bk, bl, bm]) (es := [bk, bl, bm]) (cI).f1 A32 rfl rfl rfl rfl (Zj (bd).one (Zj (d7).one (Zj (be).one one_nil))) (Nat.le_of_ble_eq_true rfl) rfl ?_)
 intro fE bK
 refine Za rfl rfl (Zo (v := errV 41 (aM)) rfl rfl (Zb (Ze (Zc (Zd (Za rfl rfl (Exec.load_box_agg (ds := [t, u, x, y, bj]) ((bK).f3) A28 rfl dg rfl ?_)))))))
 obtain ⟨dN, dr, hm⟩ := Zg hm
 obtain ⟨bq, gf, gg⟩ := dN
 replace hm := un3_eq hm
 refine Za rfl rfl (Tc rfl rfl rfl (Zi rfl args_nil) (simplify_Simplify_sim dr bK (ax.mono (Zt (Zt (Zt (Zt h d) p) af) a5)) (ay.mono (Zt (Zt (Zt (Zt h d) p) af) a5)) (az.mono (Zt (Zt (Zt (Zt h d) p) af) a5)) (a0.mono (Zt (Zt (Zt (Zt h d) p) af) a5)) (cV.mono a5)).r ?_)
 rintro _ fF ⟨av, aG, aH, aI, aJ, aK, bn, bo, bp, ad, cJ, rfl, cd, ce, cf, cg, ch, bf, d8, bg⟩
 refine Za rfl rfl (Zm (v := Value.tuple #[Value.agg #[aG, aH, aI, aJ, aK], Value.agg #[bn, bo, bp], errV 41 (bq)]) rfl rfl (Za rfl rfl (Exec.extract (v := Value.agg #[aG, aH, aI, aJ, aK]) rfl rfl rfl (Za rfl rfl (Exec.extract (v := Value.agg #[bn, bo, bp]) rfl rfl rfl (Za rfl rfl (Exec.extract (v := errV 41 (bq)) rfl rfl rfl (Za rfl rfl (Exec.alloc (cs := [Value.slice none 0 0, Value.slice none 0 0, Value.slice none 0 0, Value.slice none 0 0, Value.slice none 0 0]) cJ Z28 rfl rfl ?_)))))))))
 intro ed fG cK
 refine Za rfl rfl (Exec.alloc (cs := [Value.slice none 0 0, Value.slice none 0 0, Value.slice none 0 0]) cK Z32 rfl rfl ?_)
 intro ee fH cL
 refine Za rfl rfl (Exec.store_box (ds := [aG, aH, aI, aJ, aK]) (es := [aG, aH, aI, aJ, aK]) (cL).f1 A28 rfl rfl rfl rfl (Zj (cd).one (Zj (ce).one (Zj (cf).one (Zj (cg).one (Zj (ch).one one_nil))))) (Nat.le_of_ble_eq_true rfl) rfl ?_)
 intro fI cM
 refine Za rfl rfl (Exec.store_box (ds := [bn, bo, bp]) (es := [bn, bo, bp]) (cM).f1 A32 rfl rfl rfl rfl (Zj (bf).one (Zj (d8).one (Zj (bg).one one_nil))) (Nat.le_of_ble_eq_true rfl) rfl ?_)
 intro fJ cN
 refine Za rfl rfl (Zo (v := errV 41 (bq)) rfl rfl (Zb (Ze (Zc ?_))))
 obtain ⟨z, a, hm⟩ := Zg hm
 refine W_mid (M := fun f' w' => (fun (z : Bool) => ∃ (cl : PHeap) , PHeap.le av cl ∧ St w0 cl (H) w' ∧ f' 6 = Value.bool (z)) z) ?_ ?_
 ·refine W_dl (n0 := 29) (qs 0 9 (.e 9 [] (.q 10 (.q 11 (.q 13 (.q 14 (.q 18 (.q 19 (.alt (.e 12 [13, 14, 18, 19] (.alt (.e 15 [18, 19] (.e 16 [18, 19] (.e 17 [18, 19] (.e 20 [] (qs 21 6 (.e 27 [] (.q 28 .done))))))) (.e 16 [13, 14, 18, 19] (.e 15 [18, 19] (.e 17 [18, 19] (.e 20 [] (qs 21 6 (.e 27 [] (.q 28 .done))))))))) (.e 16 [13, 14, 18, 19] (.e 12 [13, 14, 18, 19] (.e 15 [18, 19] (.e 17 [18, 19] (.e 20 [] (qs 21 6 (.e 27 [] (.q 28 .done))))))))))))))))) hmix (by kernel_rfl) (by kernel_rfl) ?_
  have ak := cN.drew
  refine DL_q rfl rfl (Zm (v := errV 41 (aM)) rfl rfl ⟨rfl, ?_⟩)
  refine DL_q rfl rfl (Exec.err_eql_nil (T := 41) Try.underlying34 rfl rfl rfl ⟨rfl, ?_⟩)
  refine DL_q rfl rfl (Zm (v := Value.bool (aM.isNone)) rfl rfl ⟨rfl, ?_⟩)
  rcases ite_some a with ⟨au, a⟩ | ⟨au, a⟩
  ·refine DL_qg rfl rfl (Zf rfl (Zx au)) (Zm (v := errV 41 (bq)) rfl rfl ⟨rfl, ?_⟩)
   refine DL_qg rfl rfl (Zf rfl (Zx au)) (Exec.err_eql_nil (T := 41) Try.underlying34 rfl rfl rfl ⟨rfl, ?_⟩)
   refine DL_passes 2 (by rw [au]; rfl) ?_
   rcases ite_some a with ⟨ap, a⟩ | ⟨ap, a⟩
   ·refine DL_qg rfl rfl (Zf rfl (Zx ap)) (Exec.load_box_agg (ds := [aB, aC, aD, aE, aF]) ((ak).f3) A28 rfl rfl rfl ⟨rfl, ?_⟩)
    refine DL_qg rfl rfl (Zf rfl (Zx ap)) (Exec.load_box_agg (ds := [aG, aH, aI, aJ, aK]) ((ak).f1) A28 rfl rfl rfl ⟨rfl, ?_⟩)
    obtain ⟨gh, dt, a⟩ := Zg a
    refine DL_eg rfl rfl (Zf rfl (Zx ap)) (Tc rfl rfl rfl (Zi rfl (Zi rfl args_nil)) (ref18_Same_sim dt ak (bY.mono ad) (bZ.mono ad) (ca.mono ad) (cb.mono ad) (cc.mono ad) cd ce cf cg ch).r ?_)
    rintro _ fK ⟨b6, o, aq, rfl⟩
    refine ⟨ag_nil, ?_⟩
    refine DL_passes 2 (by rw [ap]; rfl) ?_
    rcases ite_some a with ⟨b, a⟩ | ⟨b, a⟩
    ·refine DL_qg rfl rfl (Zf rfl (Zx b)) (Zp F32_2 rfl rfl rfl ⟨rfl, ?_⟩)
     refine DL_qg rfl rfl (Zf rfl (Zx b)) (Zn ((aq).f2) A24 rfl rfl rfl ⟨rfl, ?_⟩)
     refine DL_qg rfl rfl (Zf rfl (Zx b)) (Zp F32_2 rfl rfl rfl ⟨rfl, ?_⟩)
     refine DL_qg rfl rfl (Zf rfl (Zx b)) (Zn (aq) A24 rfl rfl rfl ⟨rfl, ?_⟩)
     refine DL_alt ?_ ?_
     ·refine DL_eg rfl rfl (Zf rfl (Zx b)) (Exec.buildSlice (Te := 3) (cs := []) aq rfl parts_nil (fun _ => by kernel_rfl) ?_)
      intro ef fL aR
      refine ⟨(ag_cons (ag_g rfl rfl (Zf rfl (Zx b)) (Zp F32_2 rfl rfl rfl ⟨rfl, rfl⟩)) (ag_cons (ag_g rfl rfl (Zf rfl (Zx b)) (Zn ((aR).f3) A24 rfl rfl rfl ⟨rfl, rfl⟩)) (ag_cons (ag_g rfl rfl (Zf rfl (Zx b)) (Zp F32_2 rfl rfl rfl ⟨rfl, rfl⟩)) (ag_cons (ag_g rfl rfl (Zf rfl (Zx b)) (Zn ((aR).f1) A24 rfl rfl rfl ⟨rfl, rfl⟩)) ag_nil)))), ?_⟩
      refine DL_alt ?_ ?_
      ·have cO := St.boxArr (E := (encInt .i64)) (xs := []) aR rfl (by simp [maxLen])
       obtain ⟨eF, du, a⟩ := Zg a
       refine DL_eg rfl rfl (Zf rfl (Zx b)) (Exec.append_rep (E := (encInt .i64)) (ys := bA.Ops) cO S24 Z3 rfl (by decide) rfl rfl rfl (be.mono (Zt ad o)) du ?_)
       intro eV fM bL
       refine ⟨(ag_cons (ag_g rfl rfl (Zf rfl (Zx b)) (Zp F32_2 rfl rfl rfl ⟨rfl, rfl⟩)) (ag_cons (ag_g rfl rfl (Zf rfl (Zx b)) (Zn ((bL).f1) A24 rfl rfl rfl ⟨rfl, rfl⟩)) ag_nil)), ?_⟩
       refine DL_eg rfl rfl (Zf rfl (Zx b)) (Exec.buildSlice (Te := 3) (cs := [Vi ((-1))]) bL rfl (parts_cons (c := [Vi ((-1))]) (cells_of rfl rfl) parts_nil) (fun _ => by kernel_rfl) ?_)
       intro eg fN bM
       refine ⟨(ag_cons (ag_g rfl rfl (Zf rfl (Zx b)) (Zp F32_2 rfl rfl rfl ⟨rfl, rfl⟩)) (ag_cons (ag_g rfl rfl (Zf rfl (Zx b)) (Zn ((bM).f2) A24 rfl rfl rfl ⟨rfl, rfl⟩)) ag_nil)), ?_⟩
       obtain ⟨eG, dv, a⟩ := Zg a
       refine DL_eg rfl rfl (Zf rfl (Zx b)) (Exec.append_box (E := (encInt .i64)) (ys := [(-1)]) (bM).f1 S24 Z3 rfl (by decide) rfl rfl rfl rfl ⟨[Vi ((-1))], [], rfl, rfl, rfl⟩ rfl dv ?_)
       intro eW fO bN
       refine ⟨(ag_cons (ag_g rfl rfl (Zf rfl (Zx b)) (Zp F32_2 rfl rfl rfl ⟨rfl, rfl⟩)) (ag_cons (ag_g rfl rfl (Zf rfl (Zx b)) (Zn ((bN).f1) A24 rfl rfl rfl ⟨rfl, rfl⟩)) ag_nil)), ?_⟩
       obtain ⟨gi, dw, a⟩ := Zg a
       refine DL_eg rfl rfl (Zf rfl (Zx b)) (Tc rfl rfl rfl (Zi rfl (Zi rfl args_nil)) (base_Ints_o_sim dw bN (bg.mono o)).r ?_)
       rintro _ fP ⟨dF, aV, aS, rfl⟩
       refine ⟨ag_nil, ?_⟩
       refine DL_passes 2 (by rw [b]; rfl) ?_
       rcases ite_some a with ⟨ag, a⟩ | ⟨ag, a⟩
       ·refine DL_qg rfl rfl (Zf rfl (Zx ag)) (Zp F32_0 rfl rfl rfl ⟨rfl, ?_⟩)
        refine DL_qg rfl rfl (Zf rfl (Zx ag)) (Zn ((aS).f3) A24 rfl rfl rfl ⟨rfl, ?_⟩)
        refine DL_qg rfl rfl (Zf rfl (Zx ag)) (Zp F32_0 rfl rfl rfl ⟨rfl, ?_⟩)
        refine DL_qg rfl rfl (Zf rfl (Zx ag)) (Zn ((aS).f1) A24 rfl rfl rfl ⟨rfl, ?_⟩)
        obtain ⟨cm, dx, a⟩ := Zg a
        refine DL_eg rfl rfl (Zf rfl (Zx ag)) (Tc rfl rfl rfl (Zi rfl (Zi rfl args_nil)) (base_Ints_sim dx aS (bd.mono (Zt (Zt ad o) aV)) (bf.mono (Zt o aV))).r ?_)
        rintro _ fQ ⟨dG, da, cP, rfl⟩
        refine ⟨ag_nil, ?_⟩
        refine DL_q rfl rfl (Zs (v := Value.bool (cm)) rfl (Zx ag) rfl ⟨rfl, ?_⟩)
        refine DL_done (Za rfl rfl (Zo (v := Value.bool (cm)) rfl rfl (Zb (Ze ?_))))
        have eu := Zu a
        subst z
        exact ⟨dG, (Zt (Zt o aV) da), (((((((cP).drop).drop).drop).drop).drop).drop).drop, rfl⟩
       replace ag := Zk ag
       refine DL_passes 6 (by rw [ag]; rfl) ?_
       refine DL_done (Za rfl rfl (Zo (v := Value.bool (false)) rfl rfl (Zb (Ze ?_))))
       have ev := Zu a
       subst z
       exact ⟨dF, (Zt o aV), (((((((aS).drop).drop).drop).drop).drop).drop).drop, rfl⟩
      refine DL_eg rfl rfl (Zf rfl (Zx b)) (Exec.buildSlice (Te := 3) (cs := [Vi ((-1))]) aR rfl (parts_cons (c := [Vi ((-1))]) (cells_of rfl rfl) parts_nil) (fun _ => by kernel_rfl) ?_)
      intro eh fR bw
      refine ⟨(ag_cons (ag_g rfl rfl (Zf rfl (Zx b)) (Zp F32_2 rfl rfl rfl ⟨rfl, rfl⟩)) (ag_cons (ag_g rfl rfl (Zf rfl (Zx b)) (Zn ((bw).f4) A24 rfl rfl rfl ⟨rfl, rfl⟩)) (ag_cons (ag_g rfl rfl (Zf rfl (Zx b)) (Zp F32_2 rfl rfl rfl ⟨rfl, rfl⟩)) (ag_cons (ag_g rfl rfl (Zf rfl (Zx b)) (Zn ((bw).f2) A24 rfl rfl rfl ⟨rfl, rfl⟩)) ag_nil)))), ?_⟩
      have cQ := St.boxArr (E := (encInt .i64)) (xs := []) (bw).f1 rfl (by simp [maxLen])
      obtain ⟨eH, dy, a⟩ := Zg a
      refine DL_eg rfl rfl (Zf rfl (Zx b)) (Exec.append_rep (E := (encInt .i64)) (ys := bA.Ops) cQ S24 Z3 rfl (by decide) rfl rfl rfl (be.mono (Zt ad o)) dy ?_)
      intro eX fS bO
      refine ⟨(ag_cons (ag_g rfl rfl (Zf rfl (Zx b)) (Zp F32_2 rfl rfl rfl ⟨rfl, rfl⟩)) (ag_cons (ag_g rfl rfl (Zf rfl (Zx b)) (Zn ((bO).f2) A24 rfl rfl rfl ⟨rfl, rfl⟩)) ag_nil)), ?_⟩
      obtain ⟨eI, dz, a⟩ := Zg a
      refine DL_eg rfl rfl (Zf rfl (Zx b)) (Exec.append_box (E := (encInt .i64)) (ys := [(-1)]) ((bO).f1).f1 S24 Z3 rfl (by decide) rfl rfl rfl rfl ⟨[Vi ((-1))], [], rfl, rfl, rfl⟩ rfl dz ?_)
      intro eY fT bP
      refine ⟨(ag_cons (ag_g rfl rfl (Zf rfl (Zx b)) (Zp F32_2 rfl rfl rfl ⟨rfl, rfl⟩)) (ag_cons (ag_g rfl rfl (Zf rfl (Zx b)) (Zn ((bP).f1) A24 rfl rfl rfl ⟨rfl, rfl⟩)) ag_nil)), ?_⟩
      obtain ⟨gj, d0, a⟩ := Zg a
      refine DL_eg rfl rfl (Zf rfl (Zx b)) (Tc rfl rfl rfl (Zi rfl (Zi rfl args_nil)) (base_Ints_o_sim d0 bP (bg.mono o)).r ?_)
      rintro _ fU ⟨dH, aW, aT, rfl⟩
      refine ⟨ag_nil, ?_⟩
      refine DL_passes 2 (by rw [b]; rfl) ?_
      rcases ite_some a with ⟨ah, a⟩ | ⟨ah, a⟩
      ·refine DL_qg rfl rfl (Zf rfl (Zx ah)) (Zp F32_0 rfl rfl rfl ⟨rfl, ?_⟩)
       refine DL_qg rfl rfl (Zf rfl (Zx ah)) (Zn ((aT).f3) A24 rfl rfl rfl ⟨rfl, ?_⟩)
       refine DL_qg rfl rfl (Zf rfl (Zx ah)) (Zp F32_0 rfl rfl rfl ⟨rfl, ?_⟩)
       refine DL_qg rfl rfl (Zf rfl (Zx ah)) (Zn ((aT).f1) A24 rfl rfl rfl ⟨rfl, ?_⟩)
       obtain ⟨cn, d1, a⟩ := Zg a
       refine DL_eg rfl rfl (Zf rfl (Zx ah)) (Tc rfl rfl rfl (Zi rfl (Zi rfl args_nil)) (base_Ints_sim d1 aT (bd.mono (Zt (Zt ad o) aW)) (bf.mono (Zt o aW))).r ?_)
       rintro _ fV ⟨dI, db, cR, rfl⟩
       refine ⟨ag_nil, ?_⟩
       refine DL_q rfl rfl (Zs (v := Value.bool (cn)) rfl (Zx ah) rfl ⟨rfl, ?_⟩)
       refine DL_done (Za rfl rfl (Zo (v := Value.bool (cn)) rfl rfl (Zb (Ze ?_))))
       have ew := Zu a
       subst z
       exact ⟨dI, (Zt (Zt o aW) db), (((((((cR).drop).drop).drop).drop).drop).drop).drop, rfl⟩
      replace ah := Zk ah
      refine DL_passes 6 (by rw [ah]; rfl) ?_
      refine DL_done (Za rfl rfl (Zo (v := Value.bool (false)) rfl rfl (Zb (Ze ?_))))
      have ex := Zu a
      subst z
      exact ⟨dH, (Zt o aW), (((((((aT).drop).drop).drop).drop).drop).drop).drop, rfl⟩
     refine DL_eg rfl rfl (Zf rfl (Zx b)) (Exec.buildSlice (Te := 3) (cs := [Vi ((-1))]) aq rfl (parts_cons (c := [Vi ((-1))]) (cells_of rfl rfl) parts_nil) (fun _ => by kernel_rfl) ?_)
     intro ei fW bx
     refine ⟨(ag_cons (ag_g rfl rfl (Zf rfl (Zx b)) (Zp F32_2 rfl rfl rfl ⟨rfl, rfl⟩)) (ag_cons (ag_g rfl rfl (Zf rfl (Zx b)) (Zn ((bx).f3) A24 rfl rfl rfl ⟨rfl, rfl⟩)) (ag_cons (ag_g rfl rfl (Zf rfl (Zx b)) (Zp F32_2 rfl rfl rfl ⟨rfl, rfl⟩)) (ag_cons (ag_g rfl rfl (Zf rfl (Zx b)) (Zn ((bx).f1) A24 rfl rfl rfl ⟨rfl, rfl⟩)) ag_nil)))), ?_⟩
     refine DL_eg rfl rfl (Zf rfl (Zx b)) (Exec.buildSlice (Te := 3) (cs := []) bx rfl parts_nil (fun _ => by kernel_rfl) ?_)
     intro ej fX bz
     refine ⟨(ag_cons (ag_g rfl rfl (Zf rfl (Zx b)) (Zp F32_2 rfl rfl rfl ⟨rfl, rfl⟩)) (ag_cons (ag_g rfl rfl (Zf rfl (Zx b)) (Zn ((bz).f4) A24 rfl rfl rfl ⟨rfl, rfl⟩)) (ag_cons (ag_g rfl rfl (Zf rfl (Zx b)) (Zp F32_2 rfl rfl rfl ⟨rfl, rfl⟩)) (ag_cons (ag_g rfl rfl (Zf rfl (Zx b)) (Zn ((bz).f2) A24 rfl rfl rfl ⟨rfl, rfl⟩)) ag_nil)))), ?_⟩
     have cS := St.boxArr (E := (encInt .i64)) (xs := []) bz rfl (by simp [maxLen])
     obtain ⟨eJ, d2, a⟩ := Zg a
     refine DL_eg rfl rfl (Zf rfl (Zx b)) (Exec.append_rep (E := (encInt .i64)) (ys := bA.Ops) cS S24 Z3 rfl (by decide) rfl rfl rfl (be.mono (Zt ad o)) d2 ?_)
     intro eZ fY bQ
     refine ⟨(ag_cons (ag_g rfl rfl (Zf rfl (Zx b)) (Zp F32_2 rfl rfl rfl ⟨rfl, rfl⟩)) (ag_cons (ag_g rfl rfl (Zf rfl (Zx b)) (Zn ((bQ).f2) A24 rfl rfl rfl ⟨rfl, rfl⟩)) ag_nil)), ?_⟩
     obtain ⟨eK, d3, a⟩ := Zg a
     refine DL_eg rfl rfl (Zf rfl (Zx b)) (Exec.append_box (E := (encInt .i64)) (ys := [(-1)]) ((bQ).f1).f1 S24 Z3 rfl (by decide) rfl rfl rfl rfl ⟨[Vi ((-1))], [], rfl, rfl, rfl⟩ rfl d3 ?_)
     intro fa fZ bR
     refine ⟨(ag_cons (ag_g rfl rfl (Zf rfl (Zx b)) (Zp F32_2 rfl rfl rfl ⟨rfl, rfl⟩)) (ag_cons (ag_g rfl rfl (Zf rfl (Zx b)) (Zn ((bR).f1) A24 rfl rfl rfl ⟨rfl, rfl⟩)) ag_nil)), ?_⟩
     obtain ⟨gk, d4, a⟩ := Zg a
     refine DL_eg rfl rfl (Zf rfl (Zx b)) (Tc rfl rfl rfl (Zi rfl (Zi rfl args_nil)) (base_Ints_o_sim d4 bR (bg.mono o)).r ?_)
     rintro _ ga ⟨dJ, aX, aU, rfl⟩
     refine ⟨ag_nil, ?_⟩
     refine DL_passes 2 (by rw [b]; rfl) ?_
     rcases ite_some a with ⟨ai, a⟩ | ⟨ai, a⟩
     ·refine DL_qg rfl rfl (Zf rfl (Zx ai)) (Zp F32_0 rfl rfl rfl ⟨rfl, ?_⟩)
      refine DL_qg rfl rfl (Zf rfl (Zx ai)) (Zn ((aU).f3) A24 rfl rfl rfl ⟨rfl, ?_⟩)
      refine DL_qg rfl rfl (Zf rfl (Zx ai)) (Zp F32_0 rfl rfl rfl ⟨rfl, ?_⟩)
      refine DL_qg rfl rfl (Zf rfl (Zx ai)) (Zn ((aU).f1) A24 rfl rfl rfl ⟨rfl, ?_⟩)
      obtain ⟨co, d5, a⟩ := Zg a
      refine DL_eg rfl rfl (Zf rfl (Zx ai)) (Tc rfl rfl rfl (Zi rfl (Zi rfl args_nil)) (base_Ints_sim d5 aU (bd.mono (Zt (Zt ad o) aX)) (bf.mono (Zt o aX))).r ?_)
      rintro _ gb ⟨dK, dc, cT, rfl⟩
      refine ⟨ag_nil, ?_⟩
      refine DL_q rfl rfl (Zs (v := Value.bool (co)) rfl (Zx ai) rfl ⟨rfl, ?_⟩)
      refine DL_done (Za rfl rfl (Zo (v := Value.bool (co)) rfl rfl (Zb (Ze ?_))))
      have ey := Zu a
      subst z
      exact ⟨dK, (Zt (Zt o aX) dc), (((((((cT).drop).drop).drop).drop).drop).drop).drop, rfl⟩
     replace ai := Zk ai
     refine DL_passes 6 (by rw [ai]; rfl) ?_
     refine DL_done (Za rfl rfl (Zo (v := Value.bool (false)) rfl rfl (Zb (Ze ?_))))
     have ez := Zu a
     subst z
     exact ⟨dJ, (Zt o aX), (((((((aU).drop).drop).drop).drop).drop).drop).drop, rfl⟩
    replace b := Zk b
    refine DL_passes 4 (by rw [b]; rfl) ?_
    refine DL_alt ?_ ?_
    ·refine DL_ep rfl rfl (Zf rfl rfl) rfl (DL_alt ?_ ?_)
     ·refine DL_passes 12 rfl (DL_done (Za rfl rfl (Zo (v := Value.bool (false)) rfl rfl (Zb (Ze ?_)))))
      have e0 := Zu a
      subst z
      exact ⟨b6, o, ((((((aq).drop).drop).drop).drop).drop).drop, rfl⟩
     refine DL_passes 12 rfl (DL_done (Za rfl rfl (Zo (v := Value.bool (false)) rfl rfl (Zb (Ze ?_)))))
     have e1 := Zu a
     subst z
     exact ⟨b6, o, ((((((aq).drop).drop).drop).drop).drop).drop, rfl⟩
    refine DL_passes 13 rfl (DL_done (Za rfl rfl (Zo (v := Value.bool (false)) rfl rfl (Zb (Ze ?_)))))
    have e2 := Zu a
    subst z
    exact ⟨b6, o, ((((((aq).drop).drop).drop).drop).drop).drop, rfl⟩
   replace ap := Zk ap
   refine DL_passes 9 (by rw [ap]; rfl) ?_
   refine DL_alt ?_ ?_
   ·refine DL_ep rfl rfl (Zf rfl rfl) rfl (DL_alt ?_ ?_)
    ·refine DL_passes 12 rfl (DL_done (Za rfl rfl (Zo (v := Value.bool (false)) rfl rfl (Zb (Ze ?_)))))
     have e3 := Zu a
     subst z
     exact ⟨av, (Zv _), ((((((ak).drop).drop).drop).drop).drop).drop, rfl⟩
    refine DL_passes 12 rfl (DL_done (Za rfl rfl (Zo (v := Value.bool (false)) rfl rfl (Zb (Ze ?_)))))
    have e4 := Zu a
    subst z
    exact ⟨av, (Zv _), ((((((ak).drop).drop).drop).drop).drop).drop, rfl⟩
   refine DL_passes 13 rfl (DL_done (Za rfl rfl (Zo (v := Value.bool (false)) rfl rfl (Zb (Ze ?_)))))
   have e5 := Zu a
   subst z
   exact ⟨av, (Zv _), ((((((ak).drop).drop).drop).drop).drop).drop, rfl⟩
  replace au := Zk au
  refine DL_passes 13 (by rw [au]; rfl) ?_
  refine DL_alt ?_ ?_
  ·refine DL_ep rfl rfl (Zf rfl rfl) rfl (DL_alt ?_ ?_)
   ·refine DL_passes 12 rfl (DL_done (Za rfl rfl (Zo (v := Value.bool (false)) rfl rfl (Zb (Ze ?_)))))
    have e6 := Zu a
    subst z
    exact ⟨av, (Zv _), ((((((ak).drop).drop).drop).drop).drop).drop, rfl⟩
   refine DL_passes 12 rfl (DL_done (Za rfl rfl (Zo (v := Value.bool (false)) rfl rfl (Zb (Ze ?_)))))
   have e7 := Zu a
   subst z
   exact ⟨av, (Zv _), ((((((ak).drop).drop).drop).drop).drop).drop, rfl⟩
  refine DL_passes 13 rfl (DL_done (Za rfl rfl (Zo (v := Value.bool (false)) rfl rfl (Zb (Ze ?_)))))
  have e8 := Zu a
  subst z
  exact ⟨av, (Zv _), ((((((ak).drop).drop).drop).drop).drop).drop, rfl⟩
 intro eD gc cy
 obtain ⟨dL, dd, cU, dh⟩ := cy
 refine (Ze (W_ret ?_))
 have e9 := Zu hm
 subst r
 refine ⟨_, ret1 rfl, ?_⟩
 exact ⟨dL, (Zt (Zt (Zt (Zt (Zt (Zt h d) p) af) a5) ad) dd), cU, dh⟩
end Go.Pw
