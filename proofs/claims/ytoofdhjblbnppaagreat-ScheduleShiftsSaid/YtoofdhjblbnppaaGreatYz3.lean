/-
  The walks (printed by my generator).
-/
import Derived.Test.YtoofdhjblbnppaaGreatL29
import Derived.Test.YtoofdhjblbnppaaGreatL27
import Derived.Test.YtoofdhjblbnppaaGreatYz2
set_option maxRecDepth 100000
set_option maxHeartbeats 4000000
set_option linter.unusedVariables false
namespace Go.Pw
open Go.Proofs
theorem stn_Network_Add_sim {w0 w : World} {s : PHeap} {H : List Res} {q : stn_Network} {a : Bound} {b : Nat} {c : Value} {j : List Value} {r : (Option Int) × (List (List Int))} (hm : stn_Network_Add_p q a = some r) (hS : St w0 s (Res.box b 101 [c] :: Res.arr encRaw 22 c j :: Res.rows (encInt .i64) 3 j q.d :: H) w)  :
  Calls Tryz.prog 20 #[Value.pointer (some ⟨b, 0, none⟩), Value.agg #[Vi (a.A), Vi (a.B), Vi (a.Most)]] w fun e w' => ∃ v, e = .returned v ∧ ((un2 fun (cy : (Option Int)) (bK : (List (List Int))) => ∃ (bw : PHeap) , PHeap.le s bw ∧ St w0 bw (Res.box b 101 [c] :: Res.arr encRaw 22 c j :: Res.rows (encInt .i64) 3 j bK :: H) w' ∧ v = errV 60 (cy)) r) := by
 unfold stn_Network_Add_p at hm
 refine calls_of_W Tryz.func20 rfl rfl (Zc (Zd (Za rfl rfl (Exec.box (cs := [Vi (a.A), Vi (a.B), Vi (a.Most)]) hS rfl rfl rfl ?_))))
 intro o dt bc
 refine Za rfl rfl (Zo (v := errV 60 (none)) rfl rfl (Zb (Ze (Zc (Zc (Zd (Za rfl rfl (Zm (v := Value.pointer (some ⟨b, 0, none⟩)) rfl rfl (Za rfl rfl (Exec.ptr_eql_nil Tryz.underlying50 rfl rfl rfl (Zb (Ze (W_false rfl (W_skip (Ze (Zc (Zc ?_)))))))))))))))))
 obtain ⟨ag, l, hm⟩ := Zg hm
 refine W_mid (M := fun f' w' => (fun (ag : Bool) => ∃ (bx : PHeap) , PHeap.le s bx ∧ St w0 bx (Res.box b 101 [c] :: Res.arr encRaw 22 c j :: Res.rows (encInt .i64) 3 j q.d :: Res.box o 49 [Vi (a.A), Vi (a.B), Vi (a.Most)] :: H) w' ∧ f' 0 = Value.pointer (some ⟨b, 0, none⟩) ∧ f' 3 = Value.pointer (some ⟨o, 0, none⟩) ∧ f' 34 = Value.bool (ag)) ag) ?_ ?_
 ·refine Zd (Za rfl rfl (Zm (v := Value.pointer (some ⟨b, 0, none⟩)) rfl rfl (Za rfl rfl (Zp F49_0 rfl rfl rfl (Za rfl rfl (Zn (bc) A3 rfl rfl rfl (Za rfl rfl (Tc rfl rfl rfl (Zi rfl (Zi rfl args_nil)) (stn_Network_point_sim (stn_Network_point_tot q a.A) (((bc).f3).f3).f3 ).r ?_))))))))
  rintro _ du ⟨cn, az, a9, rfl⟩
  refine Za rfl rfl (Exec.not rfl rfl (Za rfl rfl (Zm (v := Value.bool (!(stn_Network_point_t q a.A))) rfl rfl ?_)))
  rcases ite_some l with ⟨p, l⟩ | ⟨p, l⟩
  ·refine WL_passes 16 (by rw [p]; rfl) ?_
   refine Zb (Ze ?_)
   have c8 := Zu l
   subst ag
   exact ⟨cn, az, ((((a9).f3).f3).f3).f3, rfl, rfl, rfl⟩
  replace p := Zk p
  refine WL_run rfl (Zf rfl (Zx p)) rfl (Zm (v := Value.pointer (some ⟨b, 0, none⟩)) rfl rfl (WL_run rfl (Zf rfl (Zx p)) rfl (Zp F49_1 rfl rfl rfl (WL_run rfl (Zf rfl (Zx p)) rfl (Zn ((a9).f3) A3 rfl rfl rfl (WL_run rfl (Zf rfl (Zx p)) rfl (Tc rfl rfl rfl (Zi rfl (Zi rfl args_nil)) (stn_Network_point_sim (stn_Network_point_tot q a.B) (((a9).f2).f2).f2 ).r ?_)))))))
  rintro _ dv ⟨aM, aA, aj, rfl⟩
  refine WL_run rfl (Zf rfl (Zx p)) rfl (Exec.not rfl rfl ?_)
  refine WL_passes 2 (by rw [p]; rfl) ?_
  rcases ite_some l with ⟨z, l⟩ | ⟨z, l⟩
  ·refine WL_passes 9 (by rw [z]; rfl) ?_
   refine Zb (Ze ?_)
   have c9 := Zu l
   subst ag
   exact ⟨aM, (Zt az aA), ((((aj).f3).f3).f3).f3, rfl, rfl, rfl⟩
  replace z := Zk z
  refine WL_run rfl (Zf rfl (Zx z)) rfl (Zp F49_2 rfl rfl rfl (WL_run rfl (Zf rfl (Zx z)) rfl (Zn ((aj).f3) A3 rfl rfl rfl (WL_run rfl (Zf rfl (Zx z)) rfl (Zq rfl rfl rfl ?_)))))
  refine WL_passes 2 (by rw [z]; rfl) ?_
  rcases ite_some l with ⟨aa, l⟩ | ⟨aa, l⟩
  ·refine WL_passes 4 (by rw [aa]; rfl) ?_
   refine Zb (Ze ?_)
   have cA := Zu l
   subst ag
   exact ⟨aM, (Zt az aA), ((((aj).f3).f3).f3).f3, rfl, rfl, rfl⟩
  replace aa := Zk aa
  refine WL_run rfl (Zf rfl (Zx aa)) rfl (Zp F49_2 rfl rfl rfl (WL_run rfl (Zf rfl (Zx aa)) rfl (Zn ((aj).f3) A3 rfl rfl rfl (WL_run rfl (Zf rfl (Zx aa)) rfl (Exec.gtr rfl rfl rfl (Za rfl rfl (Exec.pick_f (v := Value.bool (decide (1099511627776 < a.Most))) rfl (Zx aa) rfl (Zb (Ze ?_)))))))))
  have cB := Zu l
  subst ag
  exact ⟨aM, (Zt az aA), ((((aj).f3).f3).f3).f3, rfl, rfl, rfl⟩
 intro cK dw bA
 obtain ⟨a6, aB, bd, aE, ap, bi⟩ := bA
 refine (Ze ?_)
 rcases ite_some hm with ⟨ak, hm⟩ | ⟨ak, hm⟩
 ·refine W_cond_t bi ak (Zc (Zd (Za rfl rfl (Exec.makeInterface C60 rfl rfl (Za rfl rfl (Zo (v := errV 60 (some 1)) rfl rfl (Zb (Ze (W_ret (at_ret ?_))))))))))
  have cC := Zu hm
  subst r
  refine ⟨_, ret1 rfl, ?_⟩
  exact ⟨a6, aB, (((((bd).f3).drop).f2).f2).f2, rfl⟩
 refine W_cond_f bi ak ?_
 replace ak := Zk ak
 refine W_skip (Ze (Zc (Zc (W_dl (n0 := 12) (qs 0 12 .done) hmix (by kernel_rfl) (by kernel_rfl) ?_))))
 have m := bd.drew
 refine DL_q rfl rfl (Zm (v := Value.pointer (some ⟨b, 0, none⟩)) rfl aE ⟨rfl, ?_⟩)
 refine DL_q rfl rfl (Exec.nilCheck_ptr rfl rfl ⟨rfl, ?_⟩)
 refine DL_q rfl rfl (Zp F101_0 rfl rfl rfl ⟨rfl, ?_⟩)
 refine DL_q rfl rfl (Zn (m) A79 rfl rfl rfl ⟨rfl, ?_⟩)
 refine DL_q rfl rfl (Zp F49_1 rfl ap rfl ⟨rfl, ?_⟩)
 refine DL_q rfl rfl (Zn ((m).f3) A3 rfl rfl rfl ⟨rfl, ?_⟩)
 obtain ⟨di, aK, hm⟩ := Zg hm
 obtain ⟨da, au, aR, _⟩ := ((((m).f2).f2).f1).rows_at aK
 obtain ⟨cR, cz, aS⟩ := (((m).f2).f2).arr_at au
 refine DL_q rfl rfl (Exec.index_slice S79 rfl aS rfl (idx_some au).1 (idx_some au).2.1 ⟨rfl, ?_⟩)
 refine DL_q rfl rfl (Exec.load_arr (F := encRaw) (((m).f2).f2) aS A22 rfl rfl rfl au (Sub.refl _) ?_)
 intro ct bp
 replace bp := (encRaw_val.1 bp).1
 subst ct
 refine ⟨rfl, ?_⟩
 refine DL_q rfl rfl (Zp F49_0 rfl ap rfl ⟨rfl, ?_⟩)
 refine DL_q rfl rfl (Zn ((m).f3) A3 rfl rfl rfl ⟨rfl, ?_⟩)
 obtain ⟨ab, a2, hm⟩ := Zg hm
 obtain ⟨cS, c0, aT⟩ := (((((m).f2).f2).f1).rows_split aR (idx_some aK).2.2).arr_at a2
 refine DL_q rfl rfl (Exec.index_slice S22 rfl aT rfl (idx_some a2).1 (idx_some a2).2.1 ⟨rfl, ?_⟩)
 refine DL_q rfl rfl (Exec.load_arr (F := (encInt .i64)) (((((m).f2).f2).f1).rows_split aR (idx_some aK).2.2) aT A3 rfl rfl rfl a2 (Sub.refl _) ?_)
 intro dn cg
 obtain rfl := encInt_val.1 cg
 refine ⟨rfl, ?_⟩
 refine DL_done (Za rfl rfl (Zo (v := Vi (ab)) rfl rfl (Zb (Ze (Zc (W_mid (M := fun f' w' => ∃ (bz : PHeap) , PHeap.le a6 bz ∧ St w0 bz (Res.box b 101 [c] :: Res.arr encRaw 22 c j :: Res.rows (encInt .i64) 3 j q.d :: Res.box o 49 [Vi (a.A), Vi (a.B), Vi (a.Most)] :: H) w' ∧ f' 0 = Value.pointer (some ⟨b, 0, none⟩) ∧ f' 3 = Value.pointer (some ⟨o, 0, none⟩) ∧ f' 56 = Value.bool (((decide (ab < 1125899906842624)) && decide ((IntKind.i64.wrap (ab + a.Most)) < 0)))) ?_ ?_))))))
 ·refine Zd (Za rfl rfl (Zm (v := Vi (ab)) rfl rfl (Za rfl rfl (Zq rfl rfl rfl (Za rfl rfl (Zm (v := Value.bool (decide (ab < 1125899906842624))) rfl rfl ?_))))))
  by_cases n : (decide (ab < 1125899906842624)) = true
  ·refine WL_run rfl (Zf rfl (Zx n)) rfl (Zm (v := Vi (ab)) rfl rfl (WL_run rfl (Zf rfl (Zx n)) rfl (Zp F49_2 rfl ap rfl (WL_run rfl (Zf rfl (Zx n)) rfl (Zn ((m).f3) A3 rfl rfl rfl (WL_run rfl (Zf rfl (Zx n)) rfl (Exec.add rfl rfl rfl (WL_run rfl (Zf rfl (Zx n)) rfl (Zq rfl rfl rfl (Za rfl rfl (Zs (v := Value.bool (decide ((IntKind.i64.wrap (ab + a.Most)) < 0))) rfl (Zx n) rfl (Zb (Ze ?_)))))))))))))
   exact ⟨a6, (Zv _), ((((m).f3).f3).f3).f3, aE, ap, (Zx (and_t n)).symm⟩
  replace n := Zk n
  refine WL_passes 6 (by rw [n]; rfl) ?_
  refine Zb (Ze ?_)
  exact ⟨a6, (Zv _), ((((m).f3).f3).f3).f3, aE, ap, (Zx (and_f n)).symm⟩
 intro cL dx bB
 obtain ⟨aN, bg, u, bj, bP, bk⟩ := bB
 refine (Ze ?_)
 rcases ite_some hm with ⟨al, hm⟩ | ⟨al, hm⟩
 ·refine W_cond_t bk al (Zc (Zd (Za rfl rfl (Exec.makeInterface C60 rfl rfl (Za rfl rfl (Zo (v := errV 60 (some 21)) rfl rfl (Zb (Ze (W_ret (at_ret ?_))))))))))
  have cD := Zu hm
  subst r
  refine ⟨_, ret1 rfl, ?_⟩
  exact ⟨aN, (Zt aB bg), (((((u).f3).drop).f2).f2).f2, rfl⟩
 refine W_cond_f bk al ?_
 replace al := Zk al
 refine W_skip (Ze (Zc (Zc (Zd (Za rfl rfl (Zm (v := Value.pointer (some ⟨b, 0, none⟩)) rfl bj (Za rfl rfl (Exec.nilCheck_ptr rfl rfl (Za rfl rfl (Zp F101_0 rfl rfl rfl (Za rfl rfl (Zn (u) A79 rfl rfl rfl (Za rfl rfl (Exec.len_grid (((u).f2).f2) (((u).f2).f2).f1.rows_len S79 rfl rfl (Za rfl rfl (Zm (v := Vi (0)) rfl rfl (Zb (Ze ?_))))))))))))))))))
 obtain ⟨aC, b4, hm⟩ := Zg hm
 refine W_block (W_forS (fun k' s' f' w' => (fun (aC : (List (List Int))) => ∃ (b0 : PHeap) , PHeap.le aN b0 ∧ St w0 b0 (Res.box b 101 [c] :: Res.arr encRaw 22 c j :: Res.rows (encInt .i64) 3 j aC :: Res.box o 49 [Vi (a.A), Vi (a.B), Vi (a.Most)] :: H) w' ∧ f' 0 = Value.pointer (some ⟨b, 0, none⟩) ∧ f' 3 = Value.pointer (some ⟨o, 0, none⟩) ∧ f' 61 = c ∧ f' 62 = Vi ((q.d.length : Int)) ∧ f' 63 = Vi (k' : Int)) s') b4 ?_ ?_ ?_)
 ·have bD := (u).f3
  exact ⟨aN, (Zv _), (((bD).f3).f3).f3, bj, bP, rfl, rfl, rfl⟩
 ·intro ay aC b1 cM dy bf b6 g
  obtain ⟨aO, bh, x, aF, a0, aG, aH, a7⟩ := b6
  refine Zc (Zd (Za rfl rfl (Zq rfl a7 aH (Zb (Ze (Zc (W_true (Zx (decide_eq_true (by omega))) (W_skip (Ze (Zc (W_block (Zc (Zd ?_)))))))))))))
  obtain ⟨dj, aL, g⟩ := Zg g
  obtain ⟨ac, av, t, _⟩ := ((((x).f2).f2).f1).rows_at aL
  obtain ⟨cT, c1, aU⟩ := (((x).f2).f2).arr_at av
  refine Za rfl rfl (Exec.index_slice S79 rfl (Eq.trans aG aU) a7 (idx_some av).1 (idx_some av).2.1 (Za rfl rfl (Exec.load_arr (F := encRaw) (((x).f2).f2) aU A22 rfl rfl rfl av (Sub.refl _) ?_)))
  intro cu bq
  replace bq := (encRaw_val.1 bq).1
  subst cu
  refine Za rfl rfl (Zo (v := ac) rfl rfl (Zb (Ze (Zc (Zc (Zd (Za rfl rfl (Zm (v := ac) rfl rfl (Za rfl rfl (Zp F49_0 rfl a0 rfl (Za rfl rfl (Zn ((x).f3) A3 rfl rfl rfl ?_))))))))))))
  obtain ⟨d4, a3, g⟩ := Zg g
  obtain ⟨cU, c2, aV⟩ := (((((x).f2).f2).f1).rows_split t (idx_some aL).2.2).arr_at a3
  refine Za rfl rfl (Exec.index_slice S22 rfl aV rfl (idx_some a3).1 (idx_some a3).2.1 (Za rfl rfl (Exec.load_arr (F := (encInt .i64)) (((((x).f2).f2).f1).rows_split t (idx_some aL).2.2) aV A3 rfl rfl rfl a3 (Sub.refl _) ?_)))
  intro dp ch
  obtain rfl := encInt_val.1 ch
  refine Za rfl rfl (Exec.geq rfl rfl rfl (Zb (Ze ?_)))
  rcases ite_some g with ⟨am, g⟩ | ⟨am, g⟩
  ·refine W_cond_t rfl am (W_exit (at_exit (ib_here (Ze (Zd (Za rfl rfl (Exec.add rfl a7 rfl (Za rfl rfl (Zm (v := Vi (IntKind.i64.wrap ((ay : Int) + 1))) rfl rfl (Zb (Ze ?_)))))))))))
   have cE := Zu g
   subst b1
   exact ⟨aO, bh, ((((x).f3).f3).f3).f3, aF, a0, aG, aH, (Eq.trans rfl (wrap_up bf (by have h := (((u).f2).f2).f1.rows_len; have h2 := (((u).f2).f2).arr_le; omega)))⟩
  refine W_cond_f rfl am ?_
  replace am := Zk am
  refine W_skip (Ze (Zc (W_dl (n0 := 10) (qs 0 10 .done) hmix (by kernel_rfl) (by kernel_rfl) ?_)))
  have ad := x.drew
  refine DL_q rfl rfl (Zm (v := Value.pointer (some ⟨b, 0, none⟩)) rfl aF ⟨rfl, ?_⟩)
  refine DL_q rfl rfl (Exec.nilCheck_ptr rfl rfl ⟨rfl, ?_⟩)
  refine DL_q rfl rfl (Zp F101_0 rfl rfl rfl ⟨rfl, ?_⟩)
  refine DL_q rfl rfl (Zn (ad) A79 rfl rfl rfl ⟨rfl, ?_⟩)
  refine DL_q rfl rfl (Zp F49_1 rfl a0 rfl ⟨rfl, ?_⟩)
  refine DL_q rfl rfl (Zn ((ad).f3) A3 rfl rfl rfl ⟨rfl, ?_⟩)
  obtain ⟨bv, br, g⟩ := Zg g
  obtain ⟨bb, aw, a8, _⟩ := ((((ad).f2).f2).f1).rows_at br
  obtain ⟨cV, c3, aW⟩ := (((ad).f2).f2).arr_at aw
  refine DL_q rfl rfl (Exec.index_slice S79 rfl aW rfl (idx_some aw).1 (idx_some aw).2.1 ⟨rfl, ?_⟩)
  refine DL_q rfl rfl (Exec.load_arr (F := encRaw) (((ad).f2).f2) aW A22 rfl rfl rfl aw (Sub.refl _) ?_)
  intro cv bs
  replace bs := (encRaw_val.1 bs).1
  subst cv
  refine ⟨rfl, ?_⟩
  refine DL_q rfl rfl (Exec.len_arr (((((ad).f2).f2).f1).rows_split a8 (idx_some br).2.2) S22 rfl rfl ⟨rfl, ?_⟩)
  refine DL_q rfl rfl (Zm (v := Vi (0)) rfl rfl ⟨rfl, ?_⟩)
  refine DL_done (Zb (Ze ?_))
  obtain ⟨dm, ci, g⟩ := Zg g
  obtain ⟨aD, b5, g⟩ := Zg g
  refine W_block (W_forS (fun k' s' f' w' => (fun (aD : (List (List Int))) => ∃ (b2 : PHeap) , PHeap.le aO b2 ∧ St w0 b2 (Res.box b 101 [c] :: Res.arr encRaw 22 c j :: Res.rows (encInt .i64) 3 j aD :: Res.box o 49 [Vi (a.A), Vi (a.B), Vi (a.Most)] :: H) w' ∧ f' 0 = Value.pointer (some ⟨b, 0, none⟩) ∧ f' 3 = Value.pointer (some ⟨o, 0, none⟩) ∧ f' 7 = ac ∧ f' 61 = c ∧ f' 62 = Vi ((q.d.length : Int)) ∧ f' 63 = Vi ((ay : Int)) ∧ f' 80 = bb ∧ f' 81 = Vi ((bv.length : Int)) ∧ f' 82 = Vi (k' : Int)) s') b5 ?_ ?_ ?_)
  ·have bE := (ad).f3
   exact ⟨aO, (Zv _), (((bE).f3).f3).f3, aF, a0, rfl, aG, aH, a7, rfl, rfl, rfl⟩
  ·intro ah aD co cN dz bJ b7 ae
   obtain ⟨aP, bL, ax, bl, a1, aq, bm, bn, bo, aI, aJ, ar⟩ := b7
   refine Zc (Zd (Za rfl rfl (Zq rfl ar aJ (Zb (Ze (Zc (W_true (Zx (decide_eq_true (by omega))) (W_skip (Ze (Zc (W_block (Zc (Zd (Za rfl rfl (Zm (v := Vi ((ah : Int))) rfl ar ?_)))))))))))))))
   obtain ⟨dk, bt, ae⟩ := Zg ae
   obtain ⟨aQ, a4, ae⟩ := Zg ae
   obtain ⟨cW, c4, aX⟩ := (((((ax).f2).f2).f1).rows_split a8 (idx_some bt).2.2).arr_at a4
   refine Za rfl rfl (Exec.index_slice S22 rfl (Eq.trans aI aX) ar (idx_some a4).1 (idx_some a4).2.1 (Za rfl rfl (Exec.load_arr (F := (encInt .i64)) (((((ax).f2).f2).f1).rows_split a8 (idx_some bt).2.2) aX A3 rfl rfl rfl a4 (Sub.refl _) ?_)))
   intro dq cj
   obtain rfl := encInt_val.1 cj
   refine Za rfl rfl (Zo (v := Vi ((ah : Int))) rfl rfl (Za rfl rfl (Zo (v := Vi (aQ)) rfl rfl (Zb (Ze (Zc (Zd (Za rfl rfl (Zm (v := Vi (aQ)) rfl rfl (Za rfl rfl (Zq rfl rfl rfl (Zb (Ze ?_)))))))))))))
   obtain ⟨ao, i, ae⟩ := Zg ae
   refine W_mid (M := fun f' w' => (fun (ao : (List (List Int))) => ∃ (b3 : PHeap) , PHeap.le aP b3 ∧ St w0 b3 (Res.box b 101 [c] :: Res.arr encRaw 22 c j :: Res.rows (encInt .i64) 3 j ao :: Res.box o 49 [Vi (a.A), Vi (a.B), Vi (a.Most)] :: H) w' ∧ f' 0 = Value.pointer (some ⟨b, 0, none⟩) ∧ f' 3 = Value.pointer (some ⟨o, 0, none⟩) ∧ f' 7 = ac ∧ f' 61 = c ∧ f' 62 = Vi ((q.d.length : Int)) ∧ f' 63 = Vi ((ay : Int)) ∧ f' 80 = bb ∧ f' 81 = Vi ((bv.length : Int)) ∧ f' 82 = Vi ((ah : Int))) ao) ?_ ?_
   ·rcases ite_some i with ⟨an, i⟩ | ⟨an, i⟩
    ·refine W_cond_t rfl an (W_dl (n0 := 17) (qs 0 17 .done) hmix (by kernel_rfl) (by kernel_rfl) ?_)
     have y := ax.drew
     refine DL_q rfl rfl (Zm (v := ac) rfl aq ⟨rfl, ?_⟩)
     refine DL_q rfl rfl (Zm (v := Vi ((ah : Int))) rfl rfl ⟨rfl, ?_⟩)
     refine DL_q rfl rfl (Zm (v := ac) rfl aq ⟨rfl, ?_⟩)
     refine DL_q rfl rfl (Zm (v := Vi ((ah : Int))) rfl rfl ⟨rfl, ?_⟩)
     obtain ⟨dl, ai, i⟩ := Zg i
     obtain ⟨d5, af, i⟩ := Zg i
     obtain ⟨cX, c5, aY⟩ := (((((y).f2).f2).f1).rows_split t (idx_some ai).2.2).arr_at af
     refine DL_q rfl rfl (Exec.index_slice S22 rfl aY rfl (idx_some af).1 (idx_some af).2.1 ⟨rfl, ?_⟩)
     refine DL_q rfl rfl (Exec.load_arr (F := (encInt .i64)) (((((y).f2).f2).f1).rows_split t (idx_some ai).2.2) aY A3 rfl rfl rfl af (Sub.refl _) ?_)
     intro dr ck
     obtain rfl := encInt_val.1 ck
     refine ⟨rfl, ?_⟩
     refine DL_q rfl rfl (Zm (v := ac) rfl aq ⟨rfl, ?_⟩)
     refine DL_q rfl rfl (Zp F49_0 rfl a1 rfl ⟨rfl, ?_⟩)
     refine DL_q rfl rfl (Zn ((y).f3) A3 rfl rfl rfl ⟨rfl, ?_⟩)
     obtain ⟨d6, a5, i⟩ := Zg i
     obtain ⟨cY, c6, aZ⟩ := (((((y).f2).f2).f1).rows_split t (idx_some ai).2.2).arr_at a5
     refine DL_q rfl rfl (Exec.index_slice S22 rfl aZ rfl (idx_some a5).1 (idx_some a5).2.1 ⟨rfl, ?_⟩)
     refine DL_q rfl rfl (Exec.load_arr (F := (encInt .i64)) (((((y).f2).f2).f1).rows_split t (idx_some ai).2.2) aZ A3 rfl rfl rfl a5 (Sub.refl _) ?_)
     intro ds cl
     obtain rfl := encInt_val.1 cl
     refine ⟨rfl, ?_⟩
     refine DL_q rfl rfl (Zp F49_2 rfl a1 rfl ⟨rfl, ?_⟩)
     refine DL_q rfl rfl (Zn ((y).f3) A3 rfl rfl rfl ⟨rfl, ?_⟩)
     refine DL_q rfl rfl (Exec.add rfl rfl rfl ⟨rfl, ?_⟩)
     refine DL_q rfl rfl (Zm (v := Vi (aQ)) rfl rfl ⟨rfl, ?_⟩)
     refine DL_q rfl rfl (Exec.add rfl rfl rfl ⟨rfl, ?_⟩)
     refine DL_q rfl rfl (Exec.min2 rfl rfl rfl ⟨rfl, ?_⟩)
     refine DL_done ?_
     obtain ⟨cZ, c7, ba⟩ := (((((y).f2).f2).f1).rows_split t (idx_some ai).2.2).arr_at af
     refine Za rfl rfl (Exec.index_slice S22 rfl ba rfl (idx_some af).1 (idx_some af).2.1 ?_)
     obtain ⟨db, cm, i⟩ := Zg i
     obtain ⟨dc, bu, i⟩ := Zg i
     refine Za rfl rfl (Exec.store_arr (((((y).f2).f2).f1).rows_split t (idx_some ai).2.2) ba A3 rfl rfl rfl rfl (encInt_val.2 rfl) cm ?_)
     intro d0 bF
     have be := (bF).rows_back t (setI_some bu).2.1
     rw [← (setI_some bu).2.2] at be
     refine Zb (Ze ?_)
     have cF := Zu i
     subst ao
     exact ⟨aP, (Zv _), (((((be).f1).f3).f2).f2).f3, bl, a1, aq, bm, bn, bo, aI, aJ, ar⟩
    refine W_cond_f rfl an ?_
    replace an := Zk an
    refine W_skip (Ze ?_)
    have cG := Zu i
    subst ao
    exact ⟨aP, (Zv _), ((((ax).f3).f3).f3).f3, bl, a1, aq, bm, bn, bo, aI, aJ, ar⟩
   intro cO d1 bC
   obtain ⟨cp, bM, bG, bQ, bR, bS, bT, bU, bV, bW, bX, bY⟩ := bC
   refine (ib_normal (Ze (Zd (Za rfl rfl (Exec.add rfl bY rfl (Za rfl rfl (Zm (v := Vi (IntKind.i64.wrap ((ah : Int) + 1))) rfl rfl (Zb (Ze ?_)))))))))
   have cH := Zu ae
   subst co
   exact ⟨cp, (Zt bL bM), ((((bG).f3).f3).f3).f3, bQ, bR, bS, bT, bU, bV, bW, bX, (Eq.trans rfl (wrap_up bJ (by have h := must_some ci; simpa [maxLen] using h)))⟩
  intro cP d2 b8
  obtain ⟨cq, bN, bH, bZ, ca, dd, cb, cc, cd, de, ce, cw⟩ := b8
  refine Zc (Zd (Za rfl rfl (Zq rfl cw ce (Zb (Ze (Zc (W_false (Zx (decide_eq_false (by omega))) (W_exit (at_exit (at_exit (ib_here (ib_normal (Ze (Zd (Za rfl rfl (Exec.add rfl cd rfl (Za rfl rfl (Zm (v := Vi (IntKind.i64.wrap ((ay : Int) + 1))) rfl rfl (Zb (Ze ?_))))))))))))))))))))
  have cI := Zu g
  subst b1
  exact ⟨cq, (Zt bh bN), ((((bH).f3).f3).f3).f3, bZ, ca, cb, cc, (Eq.trans rfl (wrap_up bf (by have h := (((u).f2).f2).f1.rows_len; have h2 := (((u).f2).f2).arr_le; omega)))⟩
 intro cQ d3 b9
 obtain ⟨cr, bO, bI, df, dg, dh, cf, cx⟩ := b9
 refine Zc (Zd (Za rfl rfl (Zq rfl cx cf (Zb (Ze (Zc (W_false (Zx (decide_eq_false (by omega))) (W_exit (at_exit (at_exit (ib_here (Ze (Zc (Zd (Za rfl rfl (Zo (v := errV 60 (none)) rfl rfl (Zb (Ze (W_ret ?_)))))))))))))))))))
 have cJ := Zu hm
 subst r
 refine ⟨_, ret1 rfl, ?_⟩
 exact ⟨cr, (Zt (Zt aB bg) bO), (((((bI).f3).drop).f2).f2).f2, rfl⟩
theorem stn_Network_Add_nil_sim {w0 w : World} {s : PHeap} {H : List Res} {a : Bound}  {r : (Option Int)} (hm : stn_Network_Add_nil_p a = some r) (hS : St w0 s (H) w)  :
  Calls Tryz.prog 20 #[Value.pointer none, Value.agg #[Vi (a.A), Vi (a.B), Vi (a.Most)]] w fun e w' => ∃ v, e = .returned v ∧ ((fun (d : (Option Int)) => ∃ (b : PHeap) , PHeap.le s b ∧ St w0 b (H) w' ∧ v = errV 60 (d)) r) := by
 unfold stn_Network_Add_nil_p at hm
 refine calls_of_W Tryz.func20 rfl rfl (Zc (Zd (Za rfl rfl (Exec.box (cs := [Vi (a.A), Vi (a.B), Vi (a.Most)]) hS rfl rfl rfl ?_))))
 intro f h c
 refine Za rfl rfl (Zo (v := errV 60 (none)) rfl rfl (Zb (Ze (Zc (Zc (Zd (Za rfl rfl (Zm (v := Value.pointer none) rfl rfl (Za rfl rfl (Exec.ptr_eql_nil Tryz.underlying50 rfl rfl rfl (Zb (Ze (W_true rfl (Zc (Zd (Za rfl rfl (Exec.makeInterface C60 rfl rfl (Za rfl rfl (Zo (v := errV 60 (some 3)) rfl rfl (Zb (Ze (W_ret (at_ret ?_)))))))))))))))))))))))
 have g := Zu hm
 subst r
 refine ⟨_, ret1 rfl, ?_⟩
 exact ⟨s, (Zv _), (c).drop, rfl⟩
theorem schedule_plan_network_sim {w0 w : World} {s : PHeap} {H : List Res} {a : schedule_plan} {n : Nat} {q : Value} {u : Value} {x : Value} {y : Value} {b : Value} {c : Value} {g : Value} {r : (Option stn_Network) × (Option Int)} (hm : schedule_plan_network_p a = some r) (hS : St w0 s (Res.box n 88 [q, u, x, y, b, c, g] :: Res.arr encLaunch 56 b a.launches :: Res.arr encschedule_happening 118 c a.starts :: Res.arr encschedule_happening 118 g a.ends :: H) w) (bb : SliceRep (encInt .i64) s q a.t.Vars) (bc : SliceRep (encInt .i64) s u a.t.Init) (bd : SliceRep encFact s x a.t.Goal) (be : SliceRep encJob s y a.t.Jobs) :
  Calls Tryz.prog 31 #[Value.pointer (some ⟨n, 0, none⟩)] w fun e w' => ∃ v, e = .returned v ∧ ((un2 fun (aQ : (Option stn_Network)) (ba : (Option Int)) => (∃ a3 : stn_Network, aQ = some a3 ∧ ∃ (aR : PHeap) (ay : Nat) (aZ : Value) (aE : List Value), PHeap.le s aR ∧ St w0 aR (Res.box n 88 [q, u, x, y, b, c, g] :: Res.arr encLaunch 56 b a.launches :: Res.arr encschedule_happening 118 c a.starts :: Res.arr encschedule_happening 118 g a.ends :: Res.box ay 101 [aZ] :: Res.arr encRaw 22 aZ aE :: Res.rows (encInt .i64) 3 aE a3.d :: H) w' ∧ v = Value.tuple #[Value.pointer (some ⟨ay, 0, none⟩), errV 60 (ba)]) ∨ (aQ = none ∧ ∃ (aS : PHeap) , PHeap.le s aS ∧ St w0 aS (Res.box n 88 [q, u, x, y, b, c, g] :: Res.arr encLaunch 56 b a.launches :: Res.arr encschedule_happening 118 c a.starts :: Res.arr encschedule_happening 118 g a.ends :: H) w' ∧ v = Value.tuple #[Value.pointer none, errV 60 (ba)])) r) := by
 unfold schedule_plan_network_p at hm
 refine calls_of_W Tryz.func31 rfl rfl (Zc (Zd (Za rfl rfl (Zo (v := Value.pointer none) rfl rfl (Za rfl rfl (Zo (v := errV 60 (none)) rfl rfl (Zb (Ze (Zc (Zd (Za rfl rfl (Zm (v := Value.pointer (some ⟨n, 0, none⟩)) rfl rfl ?_))))))))))))
 obtain ⟨cb, bP, hm⟩ := Zg hm
 obtain ⟨ap, ae⟩ := cb
 replace hm := un2_eq hm
 refine Za rfl rfl (Tc rfl rfl rfl (Zi rfl args_nil) (schedule_plan_bounds_sim bP ((((hS).f3).f3).f3).f3 bb bc bd be).r ?_)
 rintro _ cI ⟨bW, o, aa, am, rfl, ad⟩
 refine Za rfl rfl (Zm (v := Value.tuple #[o, errV 60 (ae)]) rfl rfl (Za rfl rfl (Exec.extract (v := o) rfl rfl rfl (Za rfl rfl (Exec.extract (v := errV 60 (ae)) rfl rfl rfl (Za rfl rfl (Zo (v := o) rfl rfl (Za rfl rfl (Zo (v := errV 60 (ae)) rfl rfl (Zb (Ze (Zc (Zc (Zd (Za rfl rfl (Zm (v := errV 60 (ae)) rfl rfl (Za rfl rfl (Exec.err_neq_nil (T := 60) Tryz.underlying31 rfl rfl rfl (Zb (Ze ?_))))))))))))))))))))
 rcases ite_some hm with ⟨af, hm⟩ | ⟨af, hm⟩
 ·refine W_cond_t rfl af (Zc (Zd (Za rfl rfl (Zm (v := errV 60 (ae)) rfl rfl (Za rfl rfl (Zo (v := Value.pointer none) rfl rfl (Za rfl rfl (Zo (v := errV 60 (ae)) rfl rfl (Zb (Ze (W_ret (at_ret ?_))))))))))))
  have cl := Zu hm
  subst r
  refine ⟨_, ret2 rfl, ?_⟩
  refine (Or.inr ⟨rfl, ?_⟩); exact ⟨bW, aa, ((((am).f3).f3).f3).f3, (tup2 rfl rfl)⟩
 refine W_cond_f rfl af ?_
 replace af := Zk af
 refine W_skip (Ze (Zc (Zd (Za rfl rfl (Zm (v := Value.pointer (some ⟨n, 0, none⟩)) rfl rfl (Za rfl rfl (Exec.nilCheck_ptr rfl rfl (Za rfl rfl (Zp F88_1 rfl rfl rfl (Za rfl rfl (Zn (am) A27 rfl rfl rfl (Za rfl rfl (Exec.len_arr ((am).f1) S27 rfl rfl (Za rfl rfl (Exec.mul rfl rfl rfl (Za rfl rfl (Exec.add rfl rfl rfl ?_)))))))))))))))))
 obtain ⟨cc, bQ, hm⟩ := Zg hm
 obtain ⟨cA, j⟩ := cc
 replace hm := un2_eq hm
 refine Za rfl rfl (Tc rfl rfl rfl (Zi rfl args_nil) (stn_New_sim bQ am ).r ?_)
 rintro _ cJ b4
 rcases b4 with ⟨ck, rfl, an, m, ak, al, ab, a4, rfl⟩ | ⟨rfl, ao, ac, a5, rfl⟩
 ·replace hm := optC_some hm
  refine Za rfl rfl (Zm (v := Value.tuple #[Value.pointer (some ⟨m, 0, none⟩), errV 60 (j)]) rfl rfl (Za rfl rfl (Exec.extract (v := Value.pointer (some ⟨m, 0, none⟩)) rfl rfl rfl (Za rfl rfl (Exec.extract (v := errV 60 (j)) rfl rfl rfl (Za rfl rfl (Zo (v := Value.pointer (some ⟨m, 0, none⟩)) rfl rfl (Za rfl rfl (Zo (v := errV 60 (j)) rfl rfl (Zb (Ze (Zc (Zc (Zd (Za rfl rfl (Zm (v := errV 60 (j)) rfl rfl (Za rfl rfl (Exec.err_neq_nil (T := 60) Tryz.underlying31 rfl rfl rfl (Zb (Ze ?_))))))))))))))))))))
  rcases ite_some hm with ⟨ag, hm⟩ | ⟨ag, hm⟩
  ·refine W_cond_t rfl ag (Zc (Zd (Za rfl rfl (Zm (v := errV 60 (j)) rfl rfl (Za rfl rfl (Zo (v := Value.pointer none) rfl rfl (Za rfl rfl (Zo (v := errV 60 (j)) rfl rfl (Zb (Ze (W_ret (at_ret ?_))))))))))))
   have cm := Zu hm
   subst r
   refine ⟨_, ret2 rfl, ?_⟩
   refine (Or.inr ⟨rfl, ?_⟩); exact ⟨an, (Zt aa ab), (((((((a4).drop).drop).drop).f3).f3).f3).f3, (tup2 rfl rfl)⟩
  refine W_cond_f rfl ag ?_
  replace ag := Zk ag
  refine W_skip (Ze (Zc (Zc (Zd (Za rfl rfl (Zm (v := o) rfl rfl (Za rfl rfl (Zr S42 rfl rfl (ad.mono ab) (Za rfl rfl (Zm (v := Vi (0)) rfl rfl (Zb (Ze ?_))))))))))))
  obtain ⟨az, bh, b7, b2, bx⟩ := ctl_some hm
  refine W_mid (M := fun f' w' => ∃ s', (az = .next s' ∨ az = .brk s') ∧ (fun (aF : (List (List Int))) => ∃ (aT : PHeap) , PHeap.le an aT ∧ St w0 aT (Res.box n 88 [q, u, x, y, b, c, g] :: Res.arr encLaunch 56 b a.launches :: Res.arr encschedule_happening 118 c a.starts :: Res.arr encschedule_happening 118 g a.ends :: Res.box m 101 [ak] :: Res.arr encRaw 22 ak al :: Res.rows (encInt .i64) 3 al aF :: H) w' ∧ f' 6 = Value.pointer (some ⟨m, 0, none⟩) ∧ f' 32 = o ∧ f' 33 = Vi ((ap.length : Int))) s') ?_ ?_
  ·refine W_block (W_forC (fun k' s' f' w' => (fun (ar : (List (List Int))) => ∃ (aU : PHeap) , PHeap.le an aU ∧ St w0 aU (Res.box n 88 [q, u, x, y, b, c, g] :: Res.arr encLaunch 56 b a.launches :: Res.arr encschedule_happening 118 c a.starts :: Res.arr encschedule_happening 118 g a.ends :: Res.box m 101 [ak] :: Res.arr encRaw 22 ak al :: Res.rows (encInt .i64) 3 al ar :: H) w' ∧ f' 6 = Value.pointer (some ⟨m, 0, none⟩) ∧ f' 32 = o ∧ f' 33 = Vi ((ap.length : Int)) ∧ f' 34 = Vi (k' : Int)) s') bh ?_ ?_ ?_)
   ·have bp := ((a4).f2).f2
    exact ⟨an, (Zv _), (((((bp).f2).f6).f6).f6).f6, rfl, rfl, rfl, rfl⟩
   ·intro bD ar a0 cx cK b0 bj l b9
    obtain ⟨cB, au, a6, aI, aJ, aK, aw⟩ := bj
    refine Zc (Zd (Za rfl rfl (Zq rfl aw aK (Zb (Ze (Zc (W_true (Zx (decide_eq_true (by omega))) (W_skip (Ze (Zc (W_block (Zc (Zd ?_)))))))))))))
    obtain ⟨p, bR, l⟩ := Zg l
    refine Za rfl rfl (Exec.index_rep S42 rfl aJ aw (ad.mono (Zt ab au)) bR ?_)
    intro cg c4 bf
    refine Za rfl rfl (Zw (E := encBound) a6 A49 rfl rfl rfl bf ?_)
    intro cG bS
    obtain rfl := encBound_val.1 bS
    refine Za rfl rfl (Exec.alloc (cs := [Vi (0), Vi (0), Vi (0)]) a6 Z49 rfl rfl ?_)
    intro ch cL bq
    refine Za rfl rfl (Exec.store_box (ds := [Vi (p.A), Vi (p.B), Vi (p.Most)]) (es := [Vi (p.A), Vi (p.B), Vi (p.Most)]) bq A49 rfl rfl rfl rfl (Zj rfl (Zj rfl (Zj rfl one_nil))) (Nat.le_of_ble_eq_true rfl) rfl ?_)
    intro cM a7
    refine Zb (Ze (Zc (Zd (Za rfl rfl (Zm (v := Value.pointer (some ⟨m, 0, none⟩)) rfl aI (Za rfl rfl (Exec.load_box_agg (ds := [Vi (p.A), Vi (p.B), Vi (p.Most)]) (a7) A49 rfl rfl rfl ?_)))))))
    obtain ⟨cd, bT, l⟩ := Zg l
    obtain ⟨aq, c3⟩ := cd
    replace l := un2_eq l
    refine Za rfl rfl (Tc rfl rfl rfl (Zi rfl (Zi rfl args_nil)) (stn_Network_Add_sim bT (((a7).f7).f7).f7 ).r ?_)
    rintro _ cN ⟨aV, aG, a8, rfl⟩
    refine Za rfl rfl (Zo (v := errV 60 (aq)) rfl rfl (Zb (Ze (Zc (Zd (Za rfl rfl (Zm (v := errV 60 (aq)) rfl rfl (Za rfl rfl (Exec.err_neq_nil (T := 60) Tryz.underlying31 rfl rfl rfl (Zb (Ze ?_)))))))))))
    rcases ite_some l with ⟨ah, l⟩ | ⟨ah, l⟩
    ·refine W_cond_t rfl ah (Zc (Zd (Za rfl rfl (Zm (v := errV 60 (aq)) rfl rfl (Za rfl rfl (Zo (v := Value.pointer none) rfl rfl (Za rfl rfl (Zo (v := errV 60 (aq)) rfl rfl (Zb (Ze (W_ret (ib_ret (at_ret (at_ret (ib_ret (at_ret (at_ret ?_)))))))))))))))))
     have cn := Zu l
     subst a0
     have b5 := b7 _ (b9 (by intro _ h; cases h))
     have co := Zu b5
     subst r
     refine ⟨_, ret2 rfl, ?_⟩
     refine (Or.inr ⟨rfl, ?_⟩); exact ⟨aV, (Zt (Zt (Zt aa ab) au) aG), ((((((((a8).drop).drop).drop).drop).f3).f3).f3).f3, (tup2 rfl rfl)⟩
    refine W_cond_f rfl ah ?_
    replace ah := Zk ah
    refine W_skip (ib_normal (Ze (Zd (Za rfl rfl (Exec.add rfl aw rfl (Za rfl rfl (Zm (v := Vi (IntKind.i64.wrap ((bD : Int) + 1))) rfl rfl (Zb (Ze ?_)))))))))
    have cp := Zu l
    subst a0
    refine ⟨_, rfl, ?_⟩; exact ⟨aV, (Zt au aG), (((((((((a8).f3).drop).f2).f2).f2).f6).f6).f6).f6, aI, aJ, aK, (Eq.trans rfl (wrap_up b0 (SliceRep.le (ad.mono ab))))⟩
   intro ar cy cO bk bA
   obtain ⟨bX, bF, br, bJ, bK, aL, ce⟩ := bk
   refine Zc (Zd (Za rfl rfl (Zq rfl ce aL (Zb (Ze (Zc (W_false (Zx (decide_eq_false (by omega))) (W_exit (at_exit (at_exit (ib_here (Ze ?_))))))))))))
   refine ⟨_, .inl bA, ?_⟩; exact ⟨bX, bF, (((((((br).f6).f6).f6).f6).f6).f6).f6, bJ, bK, aL⟩
  rintro cz cP ⟨aF, aC, bn⟩
  have hm := aC.elim (b2 _) (bx _)
  clear aC
  obtain ⟨bY, bG, bs, bL, c6, c7⟩ := bn
  refine (Ze (Zc (Zd (Za rfl rfl (Zm (v := Value.pointer (some ⟨m, 0, none⟩)) rfl bL (Za rfl rfl (Zo (v := Value.pointer (some ⟨m, 0, none⟩)) rfl rfl (Za rfl rfl (Zo (v := errV 60 (none)) rfl rfl (Zb (Ze (W_ret ?_))))))))))))
  have cq := Zu hm
  subst r
  refine ⟨_, ret2 rfl, ?_⟩
  refine (Or.inl ⟨_, rfl, ?_⟩); exact ⟨bY, m, ak, al, (Zt (Zt aa ab) bG), (((((((bs).f6).f6).f6).f6).f6).f6).f6, (tup2 rfl rfl)⟩
 replace hm := optC_none hm
 refine Za rfl rfl (Zm (v := Value.tuple #[Value.pointer none, errV 60 (j)]) rfl rfl (Za rfl rfl (Exec.extract (v := Value.pointer none) rfl rfl rfl (Za rfl rfl (Exec.extract (v := errV 60 (j)) rfl rfl rfl (Za rfl rfl (Zo (v := Value.pointer none) rfl rfl (Za rfl rfl (Zo (v := errV 60 (j)) rfl rfl (Zb (Ze (Zc (Zc (Zd (Za rfl rfl (Zm (v := errV 60 (j)) rfl rfl (Za rfl rfl (Exec.err_neq_nil (T := 60) Tryz.underlying31 rfl rfl rfl (Zb (Ze ?_))))))))))))))))))))
 rcases ite_some hm with ⟨ai, hm⟩ | ⟨ai, hm⟩
 ·refine W_cond_t rfl ai (Zc (Zd (Za rfl rfl (Zm (v := errV 60 (j)) rfl rfl (Za rfl rfl (Zo (v := Value.pointer none) rfl rfl (Za rfl rfl (Zo (v := errV 60 (j)) rfl rfl (Zb (Ze (W_ret (at_ret ?_))))))))))))
  have cr := Zu hm
  subst r
  refine ⟨_, ret2 rfl, ?_⟩
  refine (Or.inr ⟨rfl, ?_⟩); exact ⟨ao, (Zt aa ac), ((((a5).f3).f3).f3).f3, (tup2 rfl rfl)⟩
 refine W_cond_f rfl ai ?_
 replace ai := Zk ai
 refine W_skip (Ze (Zc (Zc (Zd (Za rfl rfl (Zm (v := o) rfl rfl (Za rfl rfl (Zr S42 rfl rfl (ad.mono ac) (Za rfl rfl (Zm (v := Vi (0)) rfl rfl (Zb (Ze ?_))))))))))))
 obtain ⟨a1, bi, b8, b3, bz⟩ := ctl_some hm
 refine W_mid (M := fun f' w' => ∃ s', (a1 = .next s' ∨ a1 = .brk s') ∧ (fun (_ : Unit) => ∃ (aW : PHeap) , PHeap.le ao aW ∧ St w0 aW (Res.box n 88 [q, u, x, y, b, c, g] :: Res.arr encLaunch 56 b a.launches :: Res.arr encschedule_happening 118 c a.starts :: Res.arr encschedule_happening 118 g a.ends :: H) w' ∧ f' 6 = Value.pointer none ∧ f' 32 = o ∧ f' 33 = Vi ((ap.length : Int))) s') ?_ ?_
 ·refine W_block (W_forC (fun k' s' f' w' => (fun (_ : Unit) => ∃ (aX : PHeap) , PHeap.le ao aX ∧ St w0 aX (Res.box n 88 [q, u, x, y, b, c, g] :: Res.arr encLaunch 56 b a.launches :: Res.arr encschedule_happening 118 c a.starts :: Res.arr encschedule_happening 118 g a.ends :: H) w' ∧ f' 6 = Value.pointer none ∧ f' 32 = o ∧ f' 33 = Vi ((ap.length : Int)) ∧ f' 34 = Vi (k' : Int)) s') bi ?_ ?_ ?_)
  ·have bt := (a5).f3
   exact ⟨ao, (Zv _), (((bt).f3).f3).f3, rfl, rfl, rfl, rfl⟩
  ·intro bE cD a2 c0 cQ b1 bl z bB
   obtain ⟨cC, av, a9, aM, aN, aO, ax⟩ := bl
   refine Zc (Zd (Za rfl rfl (Zq rfl ax aO (Zb (Ze (Zc (W_true (Zx (decide_eq_true (by omega))) (W_skip (Ze (Zc (W_block (Zc (Zd ?_)))))))))))))
   obtain ⟨i, bU, z⟩ := Zg z
   refine Za rfl rfl (Exec.index_rep S42 rfl aN ax (ad.mono (Zt ac av)) bU ?_)
   intro ci c5 bg
   refine Za rfl rfl (Zw (E := encBound) a9 A49 rfl rfl rfl bg ?_)
   intro cH bV
   obtain rfl := encBound_val.1 bV
   refine Za rfl rfl (Exec.alloc (cs := [Vi (0), Vi (0), Vi (0)]) a9 Z49 rfl rfl ?_)
   intro cj cR bu
   refine Za rfl rfl (Exec.store_box (ds := [Vi (i.A), Vi (i.B), Vi (i.Most)]) (es := [Vi (i.A), Vi (i.B), Vi (i.Most)]) bu A49 rfl rfl rfl rfl (Zj rfl (Zj rfl (Zj rfl one_nil))) (Nat.le_of_ble_eq_true rfl) rfl ?_)
   intro cS aA
   refine Zb (Ze (Zc (Zd (Za rfl rfl (Zm (v := Value.pointer none) rfl aM (Za rfl rfl (Exec.load_box_agg (ds := [Vi (i.A), Vi (i.B), Vi (i.Most)]) (aA) A49 rfl rfl rfl (Za rfl rfl (Tc rfl rfl rfl (Zi rfl (Zi rfl args_nil)) (stn_Network_Add_nil_sim (stn_Network_Add_nil_tot i) aA ).r ?_)))))))))
   rintro _ cT ⟨aY, aH, aB, rfl⟩
   refine Za rfl rfl (Zo (v := errV 60 ((stn_Network_Add_nil_t i))) rfl rfl (Zb (Ze (Zc (Zd (Za rfl rfl (Zm (v := errV 60 ((stn_Network_Add_nil_t i))) rfl rfl (Za rfl rfl (Exec.err_neq_nil (T := 60) Tryz.underlying31 rfl rfl rfl (Zb (Ze ?_)))))))))))
   rcases ite_some z with ⟨aj, z⟩ | ⟨aj, z⟩
   ·refine W_cond_t rfl aj (Zc (Zd (Za rfl rfl (Zm (v := errV 60 ((stn_Network_Add_nil_t i))) rfl rfl (Za rfl rfl (Zo (v := Value.pointer none) rfl rfl (Za rfl rfl (Zo (v := errV 60 ((stn_Network_Add_nil_t i))) rfl rfl (Zb (Ze (W_ret (ib_ret (at_ret (at_ret (ib_ret (at_ret (at_ret ?_)))))))))))))))))
    have ct := Zu z
    subst a2
    have b6 := b8 _ (bB (by intro _ h; cases h))
    have cu := Zu b6
    subst r
    refine ⟨_, ret2 rfl, ?_⟩
    refine (Or.inr ⟨rfl, ?_⟩); exact ⟨aY, (Zt (Zt (Zt aa ac) av) aH), (((((aB).drop).f3).f3).f3).f3, (tup2 rfl rfl)⟩
   refine W_cond_f rfl aj ?_
   replace aj := Zk aj
   refine W_skip (ib_normal (Ze (Zd (Za rfl rfl (Exec.add rfl ax rfl (Za rfl rfl (Zm (v := Vi (IntKind.i64.wrap ((bE : Int) + 1))) rfl rfl (Zb (Ze ?_)))))))))
   have cv := Zu z
   subst a2
   refine ⟨_, rfl, ?_⟩; exact ⟨aY, (Zt av aH), (((((aB).drop).f3).f3).f3).f3, aM, aN, aO, (Eq.trans rfl (wrap_up b1 (SliceRep.le (ad.mono ac))))⟩
  intro cE c1 cU bm bC
  obtain ⟨bZ, bH, bv, bM, bN, aP, cf⟩ := bm
  refine Zc (Zd (Za rfl rfl (Zq rfl cf aP (Zb (Ze (Zc (W_false (Zx (decide_eq_false (by omega))) (W_exit (at_exit (at_exit (ib_here (Ze ?_))))))))))))
  refine ⟨_, .inl bC, ?_⟩; exact ⟨bZ, bH, ((((bv).f3).f3).f3).f3, bM, bN, aP⟩
 rintro c2 cV ⟨cF, aD, bo⟩
 have hm := aD.elim (b3 _) (bz _)
 clear aD
 obtain ⟨ca, bI, bw, bO, c8, c9⟩ := bo
 refine (Ze (Zc (Zd (Za rfl rfl (Zm (v := Value.pointer none) rfl bO (Za rfl rfl (Zo (v := Value.pointer none) rfl rfl (Za rfl rfl (Zo (v := errV 60 (none)) rfl rfl (Zb (Ze (W_ret ?_))))))))))))
 have cw := Zu hm
 subst r
 refine ⟨_, ret2 rfl, ?_⟩
 refine (Or.inr ⟨rfl, ?_⟩); exact ⟨ca, (Zt (Zt aa ac) bI), ((((bw).f3).f3).f3).f3, (tup2 rfl rfl)⟩
theorem stn_Network_Distance_sim {w0 w : World} {s : PHeap} {H : List Res} {a : stn_Network} {c : Int} {h : Int} {g : Nat} {k : Value} {j : List Value} {r : Int × (Option Int)} (hm : stn_Network_Distance_p a c h = some r) (hS : St w0 s (Res.box g 101 [k] :: Res.arr encRaw 22 k j :: Res.rows (encInt .i64) 3 j a.d :: H) w)  :
  Calls Tryz.prog 61 #[Value.pointer (some ⟨g, 0, none⟩), Vi (c), Vi (h)] w fun e w' => ∃ v, e = .returned v ∧ ((un2 fun (ap : Int) (aq : (Option Int)) => ∃ (ab : PHeap) , PHeap.le s ab ∧ St w0 ab (Res.box g 101 [k] :: Res.arr encRaw 22 k j :: Res.rows (encInt .i64) 3 j a.d :: H) w' ∧ v = Value.tuple #[Vi (ap), errV 60 (aq)]) r) := by
 unfold stn_Network_Distance_p at hm
 refine calls_of_W Tryz.func61 rfl rfl (Zc (Zd (Za rfl rfl (Zo (v := Vi (0)) rfl rfl (Za rfl rfl (Zo (v := errV 60 (none)) rfl rfl (Zb (Ze (Zc (Zc (Zd (Za rfl rfl (Zm (v := Value.pointer (some ⟨g, 0, none⟩)) rfl rfl (Za rfl rfl (Exec.ptr_eql_nil Tryz.underlying50 rfl rfl rfl (Zb (Ze (W_false rfl (W_skip (Ze (Zc (Zc (W_mid (M := fun f' w' => ∃ (ac : PHeap) , PHeap.le s ac ∧ St w0 ac (Res.box g 101 [k] :: Res.arr encRaw 22 k j :: Res.rows (encInt .i64) 3 j a.d :: H) w' ∧ f' 0 = Value.pointer (some ⟨g, 0, none⟩) ∧ f' 1 = Vi (c) ∧ f' 2 = Vi (h) ∧ f' 20 = Value.bool (((!(stn_Network_point_t a c)) || !(stn_Network_point_t a h)))) ?_ ?_)))))))))))))))))))))))
 ·refine Zd (Za rfl rfl (Zm (v := Value.pointer (some ⟨g, 0, none⟩)) rfl rfl (Za rfl rfl (Zm (v := Vi (c)) rfl rfl (Za rfl rfl (Tc rfl rfl rfl (Zi rfl (Zi rfl args_nil)) (stn_Network_point_sim (stn_Network_point_tot a c) (((hS).f2).f2).f2 ).r ?_))))))
  rintro _ a3 ⟨al, x, u, rfl⟩
  refine Za rfl rfl (Exec.not rfl rfl (Za rfl rfl (Zm (v := Value.bool (!(stn_Network_point_t a c))) rfl rfl ?_)))
  by_cases b : (!(stn_Network_point_t a c)) = true
  ·refine WL_passes 5 (by rw [b]; rfl) ?_
   refine Zb (Ze ?_)
   exact ⟨al, x, (((u).f2).f2).f2, rfl, rfl, rfl, (Zx (or_t b)).symm⟩
  replace b := Zk b
  refine WL_run rfl (Zf rfl (Zx b)) rfl (Zm (v := Value.pointer (some ⟨g, 0, none⟩)) rfl rfl (WL_run rfl (Zf rfl (Zx b)) rfl (Zm (v := Vi (h)) rfl rfl (WL_run rfl (Zf rfl (Zx b)) rfl (Tc rfl rfl rfl (Zi rfl (Zi rfl args_nil)) (stn_Network_point_sim (stn_Network_point_tot a h) (((u).f2).f2).f2 ).r ?_)))))
  rintro _ a4 ⟨am, ag, af, rfl⟩
  refine WL_run rfl (Zf rfl (Zx b)) rfl (Exec.not rfl rfl (Za rfl rfl (Exec.pick_f (v := Value.bool (!(stn_Network_point_t a h))) rfl (Zx b) rfl (Zb (Ze ?_)))))
  exact ⟨am, (Zt x ag), (((af).f2).f2).f2, rfl, rfl, rfl, (Zx (or_f b)).symm⟩
 intro ax a5 ae
 obtain ⟨ad, y, i, ah, ai, aj, z⟩ := ae
 refine (Ze ?_)
 rcases ite_some hm with ⟨l, hm⟩ | ⟨l, hm⟩
 ·refine W_cond_t z l (Zc (Zd (Za rfl rfl (Exec.makeInterface C60 rfl rfl (Za rfl rfl (Zo (v := Vi (0)) rfl rfl (Za rfl rfl (Zo (v := errV 60 (some 1)) rfl rfl (Zb (Ze (W_ret (at_ret ?_))))))))))))
  have av := Zu hm
  subst r
  refine ⟨_, ret2 rfl, ?_⟩
  exact ⟨ad, y, (((i).f2).f2).f2, (tup2 rfl rfl)⟩
 refine W_cond_f z l ?_
 replace l := Zk l
 refine W_skip (Ze (Zc (Zd (Za rfl rfl (Zm (v := Value.pointer (some ⟨g, 0, none⟩)) rfl ah (Za rfl rfl (Exec.nilCheck_ptr rfl rfl (Za rfl rfl (Zp F101_0 rfl rfl rfl (Za rfl rfl (Zn (i) A79 rfl rfl rfl (Za rfl rfl (Zm (v := Vi (c)) rfl ai ?_)))))))))))))
 obtain ⟨a1, o, hm⟩ := Zg hm
 obtain ⟨a0, m, p, _⟩ := ((((i).f2).f2).f1).rows_at o
 obtain ⟨ay, ar, q⟩ := (((i).f2).f2).arr_at m
 refine Za rfl rfl (Exec.index_slice S79 rfl q rfl (idx_some m).1 (idx_some m).2.1 (Za rfl rfl (Exec.load_arr (F := encRaw) (((i).f2).f2) q A22 rfl rfl rfl m (Sub.refl _) ?_)))
 intro an aa
 replace aa := (encRaw_val.1 aa).1
 subst an
 refine Za rfl rfl (Zm (v := Vi (h)) rfl aj ?_)
 obtain ⟨ao, n, hm⟩ := Zg hm
 obtain ⟨az, au, t⟩ := (((((i).f2).f2).f1).rows_split p (idx_some o).2.2).arr_at n
 refine Za rfl rfl (Exec.index_slice S22 rfl t rfl (idx_some n).1 (idx_some n).2.1 (Za rfl rfl (Exec.load_arr (F := (encInt .i64)) (((((i).f2).f2).f1).rows_split p (idx_some o).2.2) t A3 rfl rfl rfl n (Sub.refl _) ?_)))
 intro a2 ak
 obtain rfl := encInt_val.1 ak
 refine Za rfl rfl (Zo (v := Vi (ao)) rfl rfl (Za rfl rfl (Zo (v := errV 60 (none)) rfl rfl (Zb (Ze (W_ret ?_))))))
 have aw := Zu hm
 subst r
 refine ⟨_, ret2 rfl, ?_⟩
 exact ⟨ad, y, (((i).f2).f2).f2, (tup2 rfl rfl)⟩
theorem stn_Network_Earliest_sim {w0 w : World} {s : PHeap} {H : List Res} {l : stn_Network} {m : Int} {g : Nat} {i : Value} {h : List Value} {r : Int × (Option Int)} (hm : stn_Network_Earliest_p l m = some r) (hS : St w0 s (Res.box g 101 [i] :: Res.arr encRaw 22 i h :: Res.rows (encInt .i64) 3 h l.d :: H) w)  :
  Calls Tryz.prog 60 #[Value.pointer (some ⟨g, 0, none⟩), Vi (m)] w fun e w' => ∃ v, e = .returned v ∧ ((un2 fun (t : Int) (u : (Option Int)) => ∃ (o : PHeap) , PHeap.le s o ∧ St w0 o (Res.box g 101 [i] :: Res.arr encRaw 22 i h :: Res.rows (encInt .i64) 3 h l.d :: H) w' ∧ v = Value.tuple #[Vi (t), errV 60 (u)]) r) := by
 unfold stn_Network_Earliest_p at hm
 refine calls_of_W Tryz.func60 rfl rfl (Zc (Zd (Za rfl rfl (Zo (v := Vi (0)) rfl rfl (Za rfl rfl (Zo (v := errV 60 (none)) rfl rfl (Zb (Ze (Zc (Zd (Za rfl rfl (Zm (v := Value.pointer (some ⟨g, 0, none⟩)) rfl rfl (Za rfl rfl (Zm (v := Vi (m)) rfl rfl ?_))))))))))))))
 obtain ⟨q, p, hm⟩ := Zg hm
 obtain ⟨a, b⟩ := q
 replace hm := un2_eq hm
 refine Za rfl rfl (Tc rfl rfl rfl (Zi rfl (Zi rfl (Zi rfl args_nil))) (stn_Network_Distance_sim p (((hS).f2).f2).f2 ).r ?_)
 rintro _ aa ⟨n, k, j, rfl⟩
 refine Za rfl rfl (Zm (v := Value.tuple #[Vi (a), errV 60 (b)]) rfl rfl (Za rfl rfl (Exec.extract (v := Vi (a)) rfl rfl rfl (Za rfl rfl (Exec.extract (v := errV 60 (b)) rfl rfl rfl (Za rfl rfl (Zo (v := Vi (a)) rfl rfl (Za rfl rfl (Zo (v := errV 60 (b)) rfl rfl (Zb (Ze (Zc (Zc (Zd (Za rfl rfl (Zm (v := errV 60 (b)) rfl rfl (Za rfl rfl (Exec.err_neq_nil (T := 60) Tryz.underlying31 rfl rfl rfl (Zb (Ze ?_))))))))))))))))))))
 rcases ite_some hm with ⟨c, hm⟩ | ⟨c, hm⟩
 ·refine W_cond_t rfl c (Zc (Zd (Za rfl rfl (Zm (v := errV 60 (b)) rfl rfl (Za rfl rfl (Zo (v := Vi (0)) rfl rfl (Za rfl rfl (Zo (v := errV 60 (b)) rfl rfl (Zb (Ze (W_ret (at_ret ?_))))))))))))
  have x := Zu hm
  subst r
  refine ⟨_, ret2 rfl, ?_⟩
  exact ⟨n, k, (((j).f2).f2).f2, (tup2 rfl rfl)⟩
 refine W_cond_f rfl c ?_
 replace c := Zk c
 refine W_skip (Ze (Zc (Zc (Zd (Za rfl rfl (Zm (v := Vi (a)) rfl rfl (Za rfl rfl (Exec.geq rfl rfl rfl (Zb (Ze ?_))))))))))
 rcases ite_some hm with ⟨f, hm⟩ | ⟨f, hm⟩
 ·refine W_cond_t rfl f (Zc (Zd (Za rfl rfl (Exec.makeInterface C60 rfl rfl (Za rfl rfl (Zo (v := Vi (0)) rfl rfl (Za rfl rfl (Zo (v := errV 60 (some 3)) rfl rfl (Zb (Ze (W_ret (at_ret ?_))))))))))))
  have y := Zu hm
  subst r
  refine ⟨_, ret2 rfl, ?_⟩
  exact ⟨n, k, (((j).f2).f2).f2, (tup2 rfl rfl)⟩
 refine W_cond_f rfl f ?_
 replace f := Zk f
 refine W_skip (Ze (Zc (Zd (Za rfl rfl (Zm (v := Vi (a)) rfl rfl (Za rfl rfl (Exec.neg rfl rfl (Za rfl rfl (Zo (v := Vi (IntKind.i64.wrap (0 - a))) rfl rfl (Za rfl rfl (Zo (v := errV 60 (none)) rfl rfl (Zb (Ze (W_ret ?_))))))))))))))
 have z := Zu hm
 subst r
 refine ⟨_, ret2 rfl, ?_⟩
 exact ⟨n, k, (((j).f2).f2).f2, (tup2 rfl rfl)⟩
theorem schedule_plan_shift_sim {w0 w : World} {s : PHeap} {H : List Res} {a : schedule_plan} {ab : stn_Network} {q : Nat} {ac : Value} {ad : Value} {ae : Value} {af : Value} {j : Value} {n : Value} {o : Value} {l : Nat} {p : Value} {m : List Value} {r : (List Launch) × (Option Int)} (hm : schedule_plan_shift_p a ab = some r) (hS : St w0 s (Res.box q 88 [ac, ad, ae, af, j, n, o] :: Res.arr encLaunch 56 j a.launches :: Res.arr encschedule_happening 118 n a.starts :: Res.arr encschedule_happening 118 o a.ends :: Res.box l 101 [p] :: Res.arr encRaw 22 p m :: Res.rows (encInt .i64) 3 m ab.d :: H) w) (bh : SliceRep (encInt .i64) s ac a.t.Vars) (bi : SliceRep (encInt .i64) s ad a.t.Init) (bj : SliceRep encFact s ae a.t.Goal) (bk : SliceRep encJob s af a.t.Jobs) :
  Calls Tryz.prog 32 #[Value.pointer (some ⟨q, 0, none⟩), Value.pointer (some ⟨l, 0, none⟩)] w fun e w' => ∃ v, e = .returned v ∧ ((un2 fun (bf : (List Launch)) (bg : (Option Int)) => ∃ (al : PHeap) (a3 : Value), PHeap.le s al ∧ St w0 al (Res.box q 88 [ac, ad, ae, af, j, n, o] :: Res.arr encLaunch 56 j a.launches :: Res.arr encschedule_happening 118 n a.starts :: Res.arr encschedule_happening 118 o a.ends :: Res.box l 101 [p] :: Res.arr encRaw 22 p m :: Res.rows (encInt .i64) 3 m ab.d :: H) w' ∧ v = Value.tuple #[a3, errV 60 (bg)] ∧ SliceRep encLaunch al a3 bf) r) := by
 unfold schedule_plan_shift_p at hm
 refine calls_of_W Tryz.func32 rfl rfl (Zc (Zd (Za rfl rfl (Zo (v := Value.slice none 0 0) rfl rfl (Za rfl rfl (Zo (v := errV 60 (none)) rfl rfl (Zb (Ze (Zc (Zd (Za rfl rfl (Zo (v := Value.slice none 0 0) rfl rfl (Zb (Ze (Zc (Zc (Zd (Za rfl rfl (Zm (v := Value.pointer (some ⟨q, 0, none⟩)) rfl rfl (Za rfl rfl (Exec.nilCheck_ptr rfl rfl (Za rfl rfl (Zp F88_1 rfl rfl rfl (Za rfl rfl (Zn (hS) A27 rfl rfl rfl (Za rfl rfl (Exec.len_arr ((hS).f1) S27 rfl rfl (Za rfl rfl (Zm (v := Vi (0)) rfl rfl (Zb (Ze ?_)))))))))))))))))))))))))))))))
 obtain ⟨am, a5, aM, aK, aI⟩ := ctl_some hm
 refine W_mid (M := fun f' w' => ∃ s', (am = .next s' ∨ am = .brk s') ∧ (fun (av : (List Launch)) => ∃ (a0 : PHeap) (u : Value), PHeap.le s a0 ∧ St w0 a0 (Res.box q 88 [ac, ad, ae, af, j, n, o] :: Res.arr encLaunch 56 j a.launches :: Res.arr encschedule_happening 118 n a.starts :: Res.arr encschedule_happening 118 o a.ends :: Res.box l 101 [p] :: Res.arr encRaw 22 p m :: Res.rows (encInt .i64) 3 m ab.d :: Res.arr encLaunch 56 u av :: H) w' ∧ f' 1 = Value.pointer (some ⟨l, 0, none⟩) ∧ f' 6 = u ∧ f' 14 = j ∧ f' 15 = Vi ((a.launches.length : Int))) s') ?_ ?_
 ·refine W_block (W_forC (fun k' s' f' w' => (fun (ak : (List Launch)) => ∃ (a1 : PHeap) (x : Value), PHeap.le s a1 ∧ St w0 a1 (Res.box q 88 [ac, ad, ae, af, j, n, o] :: Res.arr encLaunch 56 j a.launches :: Res.arr encschedule_happening 118 n a.starts :: Res.arr encschedule_happening 118 o a.ends :: Res.box l 101 [p] :: Res.arr encRaw 22 p m :: Res.rows (encInt .i64) 3 m ab.d :: Res.arr encLaunch 56 x ak :: H) w' ∧ f' 1 = Value.pointer (some ⟨l, 0, none⟩) ∧ f' 6 = x ∧ f' 14 = j ∧ f' 15 = Vi ((a.launches.length : Int)) ∧ f' 16 = Vi (k' : Int)) s') a5 ?_ ?_ ?_)
  ·have a9 := hS.nilArr encLaunch 56
   exact ⟨s, (Value.slice none 0 0), (Zv _), (((((((a9).f7).f7).f7).f7).f7).f7).f7, rfl, rfl, rfl, rfl, rfl⟩
  ·intro aa ak an bs b5 aJ a6 b aN
   obtain ⟨b1, x, aq, ai, aw, aS, ax, ay, ah⟩ := a6
   refine Zc (Zd (Za rfl rfl (Zq rfl ah ay (Zb (Ze (Zc (W_true (Zx (decide_eq_true (by omega))) (W_skip (Ze (Zc (W_block (Zc (Zd (Za rfl rfl (Zm (v := Vi ((aa : Int))) rfl ah ?_)))))))))))))))
   obtain ⟨g, ag, b⟩ := Zg b
   obtain ⟨bv, bn, ao⟩ := ((ai).f1).arr_at ag
   refine Za rfl rfl (Exec.index_slice S27 rfl (Eq.trans ax ao) ah (idx_some ag).1 (idx_some ag).2.1 (Za rfl rfl (Exec.load_arr (F := encLaunch) ((ai).f1) ao A56 rfl rfl rfl ag (Sub.refl _) ?_)))
   intro b4 aX
   obtain rfl := encLaunch_val.1 aX
   refine Za rfl rfl (Exec.alloc (cs := [Vi (0), Vi (0)]) ai Z56 rfl rfl ?_)
   intro bl b6 aA
   refine Za rfl rfl (Zo (v := Vi ((aa : Int))) rfl rfl (Za rfl rfl (Exec.store_box (ds := [Vi (g.At), Vi (g.Job)]) (es := [Vi (g.At), Vi (g.Job)]) aA A56 rfl rfl rfl rfl (Zj rfl (Zj rfl one_nil)) (Nat.le_of_ble_eq_true rfl) rfl ?_)))
   intro b7 aB
   refine Zb (Ze (Zc (Zd (Za rfl rfl (Zm (v := Value.pointer (some ⟨l, 0, none⟩)) rfl aw (Za rfl rfl (Zm (v := Vi ((aa : Int))) rfl rfl (Za rfl rfl (Tc rfl rfl rfl (Zi rfl args_nil) (schedule_start_sim (schedule_start_tot (aa : Int)) aB ).r ?_)))))))))
   rintro _ b8 ⟨b2, ar, aC, rfl⟩
   obtain ⟨bd, aY, b⟩ := Zg b
   obtain ⟨i, y⟩ := bd
   replace b := un2_eq b
   refine Za rfl rfl (Tc rfl rfl rfl (Zi rfl (Zi rfl args_nil)) (stn_Network_Earliest_sim aY (((aC).f7).f7).f7 ).r ?_)
   rintro _ b9 ⟨a2, au, aj, rfl⟩
   refine Za rfl rfl (Zm (v := Value.tuple #[Vi (i), errV 60 (y)]) rfl rfl (Za rfl rfl (Exec.extract (v := Vi (i)) rfl rfl rfl (Za rfl rfl (Exec.extract (v := errV 60 (y)) rfl rfl rfl (Za rfl rfl (Zo (v := Vi (i)) rfl rfl (Za rfl rfl (Zo (v := errV 60 (y)) rfl rfl (Zb (Ze (Zc (Zc (Zd (Za rfl rfl (Zm (v := errV 60 (y)) rfl rfl (Za rfl rfl (Exec.err_neq_nil (T := 60) Tryz.underlying31 rfl rfl rfl (Zb (Ze ?_))))))))))))))))))))
   rcases ite_some b with ⟨z, b⟩ | ⟨z, b⟩
   ·refine W_cond_t rfl z (Zc (Zd (Za rfl rfl (Zm (v := errV 60 (y)) rfl rfl (Za rfl rfl (Zo (v := Value.slice none 0 0) rfl rfl (Za rfl rfl (Zo (v := errV 60 (y)) rfl rfl (Zb (Ze (W_ret (at_ret (ib_ret (at_ret (at_ret (ib_ret (at_ret (at_ret ?_))))))))))))))))))
    have bo := Zu b
    subst an
    have aL := aM _ (aN (by intro _ h; cases h))
    have bp := Zu aL
    subst r
    refine ⟨_, ret2 rfl, ?_⟩
    exact ⟨a2, (Value.slice none 0 0), (Zt (Zt aq ar) au), (((((((((((aj).f3).drop).f7).drop).f2).f2).f2).f6).f6).f6).f6, (tup2 rfl rfl), (SliceRep.nil _ _)⟩
   refine W_cond_f rfl z ?_
   replace z := Zk z
   refine W_skip (Ze (Zd (Za rfl rfl (Zm (v := x) rfl aS (Za rfl rfl (Zm (v := Vi (i)) rfl rfl (Za rfl rfl (Zp F56_1 rfl rfl rfl (Za rfl rfl (Zn ((aj).f3) A3 rfl rfl rfl (Za rfl rfl (Exec.build rfl (parts_cons (c := [Vi (i)]) (cells_of rfl rfl) (parts_cons (c := [Vi (g.Job)]) (cells_of rfl rfl) parts_nil)) (v := Value.agg #[Vi (i), Vi (g.Job)]) (fun _ => by kernel_rfl) (Za rfl rfl (Exec.buildSlice (Te := 56) (cs := [Vi (i), Vi (g.Job)]) aj rfl (parts_cons (c := [Vi (i), Vi (g.Job)]) (cells_of rfl rfl) parts_nil) (fun _ => by kernel_rfl) ?_))))))))))))))
   intro bm bA aD
   obtain ⟨bw, aZ, b⟩ := Zg b
   refine Za rfl rfl (Exec.append_box (E := encLaunch) (ys := [(⟨i, g.Job⟩ : Launch)]) (aD).f9 S27 Z56 rfl (by decide) rfl rfl rfl rfl ⟨[Vi (i), Vi (g.Job)], [], rfl, ⟨[Vi (i)], [Vi (g.Job)], rfl, rfl, rfl⟩, rfl⟩ rfl aZ ?_)
   intro a4 bB aE
   refine Za rfl rfl (Zo (v := a4) rfl rfl (Zb (ib_normal (Ze (Zd (Za rfl rfl (Exec.add rfl ah rfl (Za rfl rfl (Zm (v := Vi (IntKind.i64.wrap ((aa : Int) + 1))) rfl rfl (Zb (Ze ?_)))))))))))
   have bq := Zu b
   subst an
   refine ⟨_, rfl, ?_⟩; exact ⟨a2, a4, (Zt (Zt aq ar) au), (((((((((aE).f4).drop).f3).f3).f3).f7).f7).f7).f7, aw, rfl, ax, ay, (Eq.trans rfl (wrap_up aJ ((hS).f1).arr_le))⟩
  intro ak bt bC a7 aO
  obtain ⟨bb, x, aP, aF, aT, aU, aV, az, be⟩ := a7
  refine Zc (Zd (Za rfl rfl (Zq rfl be az (Zb (Ze (Zc (W_false (Zx (decide_eq_false (by omega))) (W_exit (at_exit (at_exit (ib_here (Ze ?_))))))))))))
  refine ⟨_, .inl aO, ?_⟩; exact ⟨bb, x, aP, ((((((((aF).f7).f7).f7).f7).f7).f7).f7).f7, aT, aU, aV, az⟩
 rintro bu bD ⟨av, ap, a8⟩
 have hm := ap.elim (aK _) (aI _)
 clear ap
 obtain ⟨b3, u, aQ, aG, bx, aW, bz, b0⟩ := a8
 refine (Ze (Zc (Zd (Za rfl rfl (Zm (v := u) rfl aW (Za rfl rfl (Zo (v := u) rfl rfl (Za rfl rfl (Zo (v := errV 60 (none)) rfl rfl (Zb (Ze (W_ret ?_))))))))))))
 have br := Zu hm
 subst r
 refine ⟨_, ret2 rfl, ?_⟩
 obtain ⟨bc, aR, aH, ba⟩ := (aG).f7.freezeArr
 exact ⟨bc, u, (Zt aQ aR), (((((((aH).f6).f6).f6).f6).f6).f6).f6, (tup2 rfl rfl), ba⟩
theorem stn_Network_Distance_nil_sim {w0 w : World} {s : PHeap} {H : List Res} {a : Int} {b : Int}  {r : Int × (Option Int)} (hm : stn_Network_Distance_nil_p a b = some r) (hS : St w0 s (H) w)  :
  Calls Tryz.prog 61 #[Value.pointer none, Vi (a), Vi (b)] w fun e w' => ∃ v, e = .returned v ∧ ((un2 fun (d : Int) (f : (Option Int)) => ∃ (c : PHeap) , PHeap.le s c ∧ St w0 c (H) w' ∧ v = Value.tuple #[Vi (d), errV 60 (f)]) r) := by
 unfold stn_Network_Distance_nil_p at hm
 refine calls_of_W Tryz.func61 rfl rfl (Zc (Zd (Za rfl rfl (Zo (v := Vi (0)) rfl rfl (Za rfl rfl (Zo (v := errV 60 (none)) rfl rfl (Zb (Ze (Zc (Zc (Zd (Za rfl rfl (Zm (v := Value.pointer none) rfl rfl (Za rfl rfl (Exec.ptr_eql_nil Tryz.underlying50 rfl rfl rfl (Zb (Ze (W_true rfl (Zc (Zd (Za rfl rfl (Exec.makeInterface C60 rfl rfl (Za rfl rfl (Zo (v := Vi (0)) rfl rfl (Za rfl rfl (Zo (v := errV 60 (some 3)) rfl rfl (Zb (Ze (W_ret (at_ret ?_))))))))))))))))))))))))))))))
 have g := Zu hm
 subst r
 refine ⟨_, ret2 rfl, ?_⟩
 exact ⟨s, (Zv _), hS, (tup2 rfl rfl)⟩
theorem stn_Network_Earliest_nil_sim {w0 w : World} {s : PHeap} {H : List Res} {a : Int}  {r : Int × (Option Int)} (hm : stn_Network_Earliest_nil_p a = some r) (hS : St w0 s (H) w)  :
  Calls Tryz.prog 60 #[Value.pointer none, Vi (a)] w fun e w' => ∃ v, e = .returned v ∧ ((un2 fun (i : Int) (j : (Option Int)) => ∃ (h : PHeap) , PHeap.le s h ∧ St w0 h (H) w' ∧ v = Value.tuple #[Vi (i), errV 60 (j)]) r) := by
 unfold stn_Network_Earliest_nil_p at hm
 refine calls_of_W Tryz.func60 rfl rfl (Zc (Zd (Za rfl rfl (Zo (v := Vi (0)) rfl rfl (Za rfl rfl (Zo (v := errV 60 (none)) rfl rfl (Zb (Ze (Zc (Zd (Za rfl rfl (Zm (v := Value.pointer none) rfl rfl (Za rfl rfl (Zm (v := Vi (a)) rfl rfl (Za rfl rfl (Tc rfl rfl rfl (Zi rfl (Zi rfl (Zi rfl args_nil))) (stn_Network_Distance_nil_sim (stn_Network_Distance_nil_tot a 0) hS ).r ?_))))))))))))))))
 rintro _ n ⟨g, f, d, rfl⟩
 refine Za rfl rfl (Zm (v := Value.tuple #[Vi ((stn_Network_Distance_nil_t a 0).1), errV 60 ((stn_Network_Distance_nil_t a 0).2)]) rfl rfl (Za rfl rfl (Exec.extract (v := Vi ((stn_Network_Distance_nil_t a 0).1)) rfl rfl rfl (Za rfl rfl (Exec.extract (v := errV 60 ((stn_Network_Distance_nil_t a 0).2)) rfl rfl rfl (Za rfl rfl (Zo (v := Vi ((stn_Network_Distance_nil_t a 0).1)) rfl rfl (Za rfl rfl (Zo (v := errV 60 ((stn_Network_Distance_nil_t a 0).2)) rfl rfl (Zb (Ze (Zc (Zc (Zd (Za rfl rfl (Zm (v := errV 60 ((stn_Network_Distance_nil_t a 0).2)) rfl rfl (Za rfl rfl (Exec.err_neq_nil (T := 60) Tryz.underlying31 rfl rfl rfl (Zb (Ze ?_))))))))))))))))))))
 rcases ite_some hm with ⟨b, hm⟩ | ⟨b, hm⟩
 ·refine W_cond_t rfl b (Zc (Zd (Za rfl rfl (Zm (v := errV 60 ((stn_Network_Distance_nil_t a 0).2)) rfl rfl (Za rfl rfl (Zo (v := Vi (0)) rfl rfl (Za rfl rfl (Zo (v := errV 60 ((stn_Network_Distance_nil_t a 0).2)) rfl rfl (Zb (Ze (W_ret (at_ret ?_))))))))))))
  have k := Zu hm
  subst r
  refine ⟨_, ret2 rfl, ?_⟩
  exact ⟨g, f, d, (tup2 rfl rfl)⟩
 refine W_cond_f rfl b ?_
 replace b := Zk b
 refine W_skip (Ze (Zc (Zc (Zd (Za rfl rfl (Zm (v := Vi ((stn_Network_Distance_nil_t a 0).1)) rfl rfl (Za rfl rfl (Exec.geq rfl rfl rfl (Zb (Ze ?_))))))))))
 rcases ite_some hm with ⟨c, hm⟩ | ⟨c, hm⟩
 ·refine W_cond_t rfl c (Zc (Zd (Za rfl rfl (Exec.makeInterface C60 rfl rfl (Za rfl rfl (Zo (v := Vi (0)) rfl rfl (Za rfl rfl (Zo (v := errV 60 (some 3)) rfl rfl (Zb (Ze (W_ret (at_ret ?_))))))))))))
  have l := Zu hm
  subst r
  refine ⟨_, ret2 rfl, ?_⟩
  exact ⟨g, f, d, (tup2 rfl rfl)⟩
 refine W_cond_f rfl c ?_
 replace c := Zk c
 refine W_skip (Ze (Zc (Zd (Za rfl rfl (Zm (v := Vi ((stn_Network_Distance_nil_t a 0).1)) rfl rfl (Za rfl rfl (Exec.neg rfl rfl (Za rfl rfl (Zo (v := Vi (IntKind.i64.wrap (0 - ((stn_Network_Distance_nil_t a 0).1)))) rfl rfl (Za rfl rfl (Zo (v := errV 60 (none)) rfl rfl (Zb (Ze (W_ret ?_))))))))))))))
 have m := Zu hm
 subst r
 refine ⟨_, ret2 rfl, ?_⟩
 exact ⟨g, f, d, (tup2 rfl rfl)⟩
theorem schedule_plan_shift_nil_sim {w0 w : World} {s : PHeap} {H : List Res} {b : schedule_plan} {m : Nat} {q : Value} {u : Value} {x : Value} {y : Value} {g : Value} {j : Value} {l : Value} {r : (List Launch) × (Option Int)} (hm : schedule_plan_shift_nil_p b = some r) (hS : St w0 s (Res.box m 88 [q, u, x, y, g, j, l] :: Res.arr encLaunch 56 g b.launches :: Res.arr encschedule_happening 118 j b.starts :: Res.arr encschedule_happening 118 l b.ends :: H) w) (aY : SliceRep (encInt .i64) s q b.t.Vars) (aZ : SliceRep (encInt .i64) s u b.t.Init) (ba : SliceRep encFact s x b.t.Goal) (bb : SliceRep encJob s y b.t.Jobs) :
  Calls Tryz.prog 32 #[Value.pointer (some ⟨m, 0, none⟩), Value.pointer none] w fun e w' => ∃ v, e = .returned v ∧ ((un2 fun (aW : (List Launch)) (aX : (Option Int)) => ∃ (ae : PHeap) (aw : Value), PHeap.le s ae ∧ St w0 ae (Res.box m 88 [q, u, x, y, g, j, l] :: Res.arr encLaunch 56 g b.launches :: Res.arr encschedule_happening 118 j b.starts :: Res.arr encschedule_happening 118 l b.ends :: H) w' ∧ v = Value.tuple #[aw, errV 60 (aX)] ∧ SliceRep encLaunch ae aw aW) r) := by
 unfold schedule_plan_shift_nil_p at hm
 refine calls_of_W Tryz.func32 rfl rfl (Zc (Zd (Za rfl rfl (Zo (v := Value.slice none 0 0) rfl rfl (Za rfl rfl (Zo (v := errV 60 (none)) rfl rfl (Zb (Ze (Zc (Zd (Za rfl rfl (Zo (v := Value.slice none 0 0) rfl rfl (Zb (Ze (Zc (Zc (Zd (Za rfl rfl (Zm (v := Value.pointer (some ⟨m, 0, none⟩)) rfl rfl (Za rfl rfl (Exec.nilCheck_ptr rfl rfl (Za rfl rfl (Zp F88_1 rfl rfl rfl (Za rfl rfl (Zn (hS) A27 rfl rfl rfl (Za rfl rfl (Exec.len_arr ((hS).f1) S27 rfl rfl (Za rfl rfl (Zm (v := Vi (0)) rfl rfl (Zb (Ze ?_)))))))))))))))))))))))))))))))
 obtain ⟨af, ay, aF, aD, aB⟩ := ctl_some hm
 refine W_mid (M := fun f' w' => ∃ s', (af = .next s' ∨ af = .brk s') ∧ (fun (am : (List Launch)) => ∃ (ar : PHeap) (n : Value), PHeap.le s ar ∧ St w0 ar (Res.box m 88 [q, u, x, y, g, j, l] :: Res.arr encLaunch 56 g b.launches :: Res.arr encschedule_happening 118 j b.starts :: Res.arr encschedule_happening 118 l b.ends :: Res.arr encLaunch 56 n am :: H) w' ∧ f' 1 = Value.pointer none ∧ f' 6 = n ∧ f' 14 = g ∧ f' 15 = Vi ((b.launches.length : Int))) s') ?_ ?_
 ·refine W_block (W_forC (fun k' s' f' w' => (fun (ad : (List Launch)) => ∃ (au : PHeap) (o : Value), PHeap.le s au ∧ St w0 au (Res.box m 88 [q, u, x, y, g, j, l] :: Res.arr encLaunch 56 g b.launches :: Res.arr encschedule_happening 118 j b.starts :: Res.arr encschedule_happening 118 l b.ends :: Res.arr encLaunch 56 o ad :: H) w' ∧ f' 1 = Value.pointer none ∧ f' 6 = o ∧ f' 14 = g ∧ f' 15 = Vi ((b.launches.length : Int)) ∧ f' 16 = Vi (k' : Int)) s') ay ?_ ?_ ?_)
  ·have a2 := hS.nilArr encLaunch 56
   exact ⟨s, (Value.slice none 0 0), (Zv _), ((((a2).f4).f4).f4).f4, rfl, rfl, rfl, rfl, rfl⟩
  ·intro a ad ag bj bv aC az i aG
   obtain ⟨br, o, aj, ab, an, aL, ao, ap, aa⟩ := az
   refine Zc (Zd (Za rfl rfl (Zq rfl aa ap (Zb (Ze (Zc (W_true (Zx (decide_eq_true (by omega))) (W_skip (Ze (Zc (W_block (Zc (Zd (Za rfl rfl (Zm (v := Vi ((a : Int))) rfl aa ?_)))))))))))))))
   obtain ⟨d, z, i⟩ := Zg i
   obtain ⟨bm, be, ah⟩ := ((ab).f1).arr_at z
   refine Za rfl rfl (Exec.index_slice S27 rfl (Eq.trans ao ah) aa (idx_some z).1 (idx_some z).2.1 (Za rfl rfl (Exec.load_arr (F := encLaunch) ((ab).f1) ah A56 rfl rfl rfl z (Sub.refl _) ?_)))
   intro bu aQ
   obtain rfl := encLaunch_val.1 aQ
   refine Za rfl rfl (Exec.alloc (cs := [Vi (0), Vi (0)]) ab Z56 rfl rfl ?_)
   intro bc bw a3
   refine Za rfl rfl (Zo (v := Vi ((a : Int))) rfl rfl (Za rfl rfl (Exec.store_box (ds := [Vi (d.At), Vi (d.Job)]) (es := [Vi (d.At), Vi (d.Job)]) a3 A56 rfl rfl rfl rfl (Zj rfl (Zj rfl one_nil)) (Nat.le_of_ble_eq_true rfl) rfl ?_)))
   intro bx a4
   refine Zb (Ze (Zc (Zd (Za rfl rfl (Zm (v := Value.pointer none) rfl an (Za rfl rfl (Zm (v := Vi ((a : Int))) rfl rfl (Za rfl rfl (Tc rfl rfl rfl (Zi rfl args_nil) (schedule_start_sim (schedule_start_tot (a : Int)) a4 ).r ?_)))))))))
   rintro _ bz ⟨bs, ak, a5, rfl⟩
   refine Za rfl rfl (Tc rfl rfl rfl (Zi rfl (Zi rfl args_nil)) (stn_Network_Earliest_nil_sim (stn_Network_Earliest_nil_tot (schedule_start_t (a : Int))) a5 ).r ?_)
   rintro _ b0 ⟨av, al, ac, rfl⟩
   refine Za rfl rfl (Zm (v := Value.tuple #[Vi ((stn_Network_Earliest_nil_t (schedule_start_t (a : Int))).1), errV 60 ((stn_Network_Earliest_nil_t (schedule_start_t (a : Int))).2)]) rfl rfl (Za rfl rfl (Exec.extract (v := Vi ((stn_Network_Earliest_nil_t (schedule_start_t (a : Int))).1)) rfl rfl rfl (Za rfl rfl (Exec.extract (v := errV 60 ((stn_Network_Earliest_nil_t (schedule_start_t (a : Int))).2)) rfl rfl rfl (Za rfl rfl (Zo (v := Vi ((stn_Network_Earliest_nil_t (schedule_start_t (a : Int))).1)) rfl rfl (Za rfl rfl (Zo (v := errV 60 ((stn_Network_Earliest_nil_t (schedule_start_t (a : Int))).2)) rfl rfl (Zb (Ze (Zc (Zc (Zd (Za rfl rfl (Zm (v := errV 60 ((stn_Network_Earliest_nil_t (schedule_start_t (a : Int))).2)) rfl rfl (Za rfl rfl (Exec.err_neq_nil (T := 60) Tryz.underlying31 rfl rfl rfl (Zb (Ze ?_))))))))))))))))))))
   rcases ite_some i with ⟨p, i⟩ | ⟨p, i⟩
   ·refine W_cond_t rfl p (Zc (Zd (Za rfl rfl (Zm (v := errV 60 ((stn_Network_Earliest_nil_t (schedule_start_t (a : Int))).2)) rfl rfl (Za rfl rfl (Zo (v := Value.slice none 0 0) rfl rfl (Za rfl rfl (Zo (v := errV 60 ((stn_Network_Earliest_nil_t (schedule_start_t (a : Int))).2)) rfl rfl (Zb (Ze (W_ret (at_ret (ib_ret (at_ret (at_ret (ib_ret (at_ret (at_ret ?_))))))))))))))))))
    have bf := Zu i
    subst ag
    have aE := aF _ (aG (by intro _ h; cases h))
    have bg := Zu aE
    subst r
    refine ⟨_, ret2 rfl, ?_⟩
    exact ⟨av, (Value.slice none 0 0), (Zt (Zt aj ak) al), (((((((ac).drop).f4).drop).f3).f3).f3).f3, (tup2 rfl rfl), (SliceRep.nil _ _)⟩
   refine W_cond_f rfl p ?_
   replace p := Zk p
   refine W_skip (Ze (Zd (Za rfl rfl (Zm (v := o) rfl aL (Za rfl rfl (Zm (v := Vi ((stn_Network_Earliest_nil_t (schedule_start_t (a : Int))).1)) rfl rfl (Za rfl rfl (Zp F56_1 rfl rfl rfl (Za rfl rfl (Zn (ac) A3 rfl rfl rfl (Za rfl rfl (Exec.build rfl (parts_cons (c := [Vi ((stn_Network_Earliest_nil_t (schedule_start_t (a : Int))).1)]) (cells_of rfl rfl) (parts_cons (c := [Vi (d.Job)]) (cells_of rfl rfl) parts_nil)) (v := Value.agg #[Vi ((stn_Network_Earliest_nil_t (schedule_start_t (a : Int))).1), Vi (d.Job)]) (fun _ => by kernel_rfl) (Za rfl rfl (Exec.buildSlice (Te := 56) (cs := [Vi ((stn_Network_Earliest_nil_t (schedule_start_t (a : Int))).1), Vi (d.Job)]) ac rfl (parts_cons (c := [Vi ((stn_Network_Earliest_nil_t (schedule_start_t (a : Int))).1), Vi (d.Job)]) (cells_of rfl rfl) parts_nil) (fun _ => by kernel_rfl) ?_))))))))))))))
   intro bd b1 a6
   obtain ⟨bn, aR, i⟩ := Zg i
   refine Za rfl rfl (Exec.append_box (E := encLaunch) (ys := [(⟨(stn_Network_Earliest_nil_t (schedule_start_t (a : Int))).1, d.Job⟩ : Launch)]) (a6).f6 S27 Z56 rfl (by decide) rfl rfl rfl rfl ⟨[Vi ((stn_Network_Earliest_nil_t (schedule_start_t (a : Int))).1), Vi (d.Job)], [], rfl, ⟨[Vi ((stn_Network_Earliest_nil_t (schedule_start_t (a : Int))).1)], [Vi (d.Job)], rfl, rfl, rfl⟩, rfl⟩ rfl aR ?_)
   intro ax b2 a7
   refine Za rfl rfl (Zo (v := ax) rfl rfl (Zb (ib_normal (Ze (Zd (Za rfl rfl (Exec.add rfl aa rfl (Za rfl rfl (Zm (v := Vi (IntKind.i64.wrap ((a : Int) + 1))) rfl rfl (Zb (Ze ?_)))))))))))
   have bh := Zu i
   subst ag
   refine ⟨_, rfl, ?_⟩; exact ⟨av, ax, (Zt (Zt aj ak) al), ((((((a7).f1).drop).f4).f4).f4).f4, an, rfl, ao, ap, (Eq.trans rfl (wrap_up aC ((hS).f1).arr_le))⟩
  intro ad bk b3 a0 aH
  obtain ⟨aT, o, aI, a8, aM, aN, aO, aq, aV⟩ := a0
  refine Zc (Zd (Za rfl rfl (Zq rfl aV aq (Zb (Ze (Zc (W_false (Zx (decide_eq_false (by omega))) (W_exit (at_exit (at_exit (ib_here (Ze ?_))))))))))))
  refine ⟨_, .inl aH, ?_⟩; exact ⟨aT, o, aI, (((((a8).f4).f4).f4).f4).f4, aM, aN, aO, aq⟩
 rintro bl b4 ⟨am, ai, a1⟩
 have hm := ai.elim (aD _) (aB _)
 clear ai
 obtain ⟨bt, n, aJ, a9, bo, aP, bp, bq⟩ := a1
 refine (Ze (Zc (Zd (Za rfl rfl (Zm (v := n) rfl aP (Za rfl rfl (Zo (v := n) rfl rfl (Za rfl rfl (Zo (v := errV 60 (none)) rfl rfl (Zb (Ze (W_ret ?_))))))))))))
 have bi := Zu hm
 subst r
 refine ⟨_, ret2 rfl, ?_⟩
 obtain ⟨aU, aK, aA, aS⟩ := (a9).f4.freezeArr
 exact ⟨aU, n, (Zt aJ aK), ((((aA).f3).f3).f3).f3, (tup2 rfl rfl), aS⟩
theorem schedule_Shift_sim {w0 w : World} {s : PHeap} {H : List Res} {l : Temporal} {ah : (List Launch)} {n : Value} {o : Value} {p : Value} {q : Value} {ac : Value} {r : (List Launch) × (Option Int)} (hm : schedule_Shift_p l ah = some r) (hS : St w0 s (H) w) (al : SliceRep (encInt .i64) s n l.Vars) (am : SliceRep (encInt .i64) s o l.Init) (an : SliceRep encFact s p l.Goal) (ao : SliceRep encJob s q l.Jobs) (ap : SliceRep encLaunch s ac ah) :
  Calls Tryz.prog 9 #[Value.agg #[n, o, p, q], ac] w fun e w' => ∃ v, e = .returned v ∧ ((un2 fun (aG : (List Launch)) (aH : (Option Int)) => ∃ (z : PHeap) (ai : Value), PHeap.le s z ∧ St w0 z (H) w' ∧ v = Value.tuple #[ai, errV 60 (aH)] ∧ SliceRep encLaunch z ai aG) r) := by
 unfold schedule_Shift_p at hm
 refine calls_of_W Tryz.func9 rfl rfl (Zc (Zd (Za rfl rfl (Exec.box (cs := [n, o, p, q]) hS rfl rfl rfl ?_))))
 intro aI bc ad
 refine Za rfl rfl (Zo (v := Value.slice none 0 0) rfl rfl (Za rfl rfl (Zo (v := errV 60 (none)) rfl rfl (Zb (Ze (Zc (Zd (Za rfl rfl (Exec.load_box_agg (ds := [n, o, p, q]) (ad) A26 rfl rfl rfl (Za rfl rfl (Zm (v := ac) rfl rfl ?_)))))))))))
 obtain ⟨aC, a0, hm⟩ := Zg hm
 obtain ⟨aR, a⟩ := aC
 replace hm := un2_eq hm
 refine Za rfl rfl (Tc rfl rfl rfl (Zi rfl (Zi rfl args_nil)) (schedule_read_sim a0 ad al am an ao ap).r ?_)
 rintro _ bd av
 rcases av with ⟨aJ, rfl, a6, aT, aU, aV, aW, f, aX, aY, aZ, k, ae, rfl, t, u, x, y⟩ | ⟨rfl, a7, ax, aq, rfl⟩
 ·replace hm := optC_some hm
  refine Za rfl rfl (Zm (v := Value.tuple #[Value.pointer (some ⟨f, 0, none⟩), errV 60 (a)]) rfl rfl (Za rfl rfl (Exec.extract (v := Value.pointer (some ⟨f, 0, none⟩)) rfl rfl rfl (Za rfl rfl (Exec.extract (v := errV 60 (a)) rfl rfl rfl (Za rfl rfl (Zo (v := Value.pointer (some ⟨f, 0, none⟩)) rfl rfl (Za rfl rfl (Zo (v := errV 60 (a)) rfl rfl (Zb (Ze (Zc (Zc (Zd (Za rfl rfl (Zm (v := errV 60 (a)) rfl rfl (Za rfl rfl (Exec.err_neq_nil (T := 60) Tryz.underlying31 rfl rfl rfl (Zb (Ze ?_))))))))))))))))))))
  rcases ite_some hm with ⟨g, hm⟩ | ⟨g, hm⟩
  ·refine W_cond_t rfl g (Zc (Zd (Za rfl rfl (Zm (v := errV 60 (a)) rfl rfl (Za rfl rfl (Zo (v := Value.slice none 0 0) rfl rfl (Za rfl rfl (Zo (v := errV 60 (a)) rfl rfl (Zb (Ze (W_ret (at_ret ?_))))))))))))
   have aL := Zu hm
   subst r
   refine ⟨_, ret2 rfl, ?_⟩
   exact ⟨a6, (Value.slice none 0 0), k, (((((ae).drop).drop).drop).drop).drop, (tup2 rfl rfl), (SliceRep.nil _ _)⟩
  refine W_cond_f rfl g ?_
  replace g := Zk g
  refine W_skip (Ze (Zc (Zd (Za rfl rfl (Zm (v := Value.pointer (some ⟨f, 0, none⟩)) rfl rfl ?_)))))
  obtain ⟨aD, a1, hm⟩ := Zg hm
  obtain ⟨aS, b⟩ := aD
  replace hm := un2_eq hm
  refine Za rfl rfl (Tc rfl rfl rfl (Zi rfl args_nil) (schedule_plan_network_sim a1 ((((ae).f3).f3).f3).f3 t u x y).r ?_)
  rintro _ be aw
  rcases aw with ⟨aK, rfl, a8, m, ba, bb, c, af, rfl⟩ | ⟨rfl, a9, d, ag, rfl⟩
  ·replace hm := optC_some hm
   refine Za rfl rfl (Zm (v := Value.tuple #[Value.pointer (some ⟨m, 0, none⟩), errV 60 (b)]) rfl rfl (Za rfl rfl (Exec.extract (v := Value.pointer (some ⟨m, 0, none⟩)) rfl rfl rfl (Za rfl rfl (Exec.extract (v := errV 60 (b)) rfl rfl rfl (Za rfl rfl (Zo (v := Value.pointer (some ⟨m, 0, none⟩)) rfl rfl (Za rfl rfl (Zo (v := errV 60 (b)) rfl rfl (Zb (Ze (Zc (Zc (Zd (Za rfl rfl (Zm (v := errV 60 (b)) rfl rfl (Za rfl rfl (Exec.err_neq_nil (T := 60) Tryz.underlying31 rfl rfl rfl (Zb (Ze ?_))))))))))))))))))))
   rcases ite_some hm with ⟨h, hm⟩ | ⟨h, hm⟩
   ·refine W_cond_t rfl h (Zc (Zd (Za rfl rfl (Zm (v := errV 60 (b)) rfl rfl (Za rfl rfl (Zo (v := Value.slice none 0 0) rfl rfl (Za rfl rfl (Zo (v := errV 60 (b)) rfl rfl (Zb (Ze (W_ret (at_ret ?_))))))))))))
    have aM := Zu hm
    subst r
    refine ⟨_, ret2 rfl, ?_⟩
    exact ⟨a8, (Value.slice none 0 0), (Zt k c), ((((((((af).drop).drop).drop).drop).drop).drop).drop).drop, (tup2 rfl rfl), (SliceRep.nil _ _)⟩
   refine W_cond_f rfl h ?_
   replace h := Zk h
   refine W_skip (Ze (Zc (Zd (Za rfl rfl (Zm (v := Value.pointer (some ⟨f, 0, none⟩)) rfl rfl (Za rfl rfl (Zm (v := Value.pointer (some ⟨m, 0, none⟩)) rfl rfl ?_)))))))
   obtain ⟨aE, a2, hm⟩ := Zg hm
   obtain ⟨bh, aj⟩ := aE
   replace hm := un2_eq hm
   refine Za rfl rfl (Tc rfl rfl rfl (Zi rfl (Zi rfl args_nil)) (schedule_plan_shift_sim a2 (((((((af).f6).f6).f6).f6).f6).f6).f6 (t.mono c) (u.mono c) (x.mono c) (y.mono c)).r ?_)
   rintro _ bf ⟨aA, aa, ay, ar, rfl, a4⟩
   refine Za rfl rfl (Exec.extract (v := aa) rfl rfl rfl (Za rfl rfl (Exec.extract (v := errV 60 (aj)) rfl rfl rfl (Za rfl rfl (Zo (v := aa) rfl rfl (Za rfl rfl (Zo (v := errV 60 (aj)) rfl rfl (Zb (Ze (W_ret ?_))))))))))
   have aN := Zu hm
   subst r
   refine ⟨_, ret2 rfl, ?_⟩
   exact ⟨aA, aa, (Zt (Zt k c) ay), ((((((((ar).drop).drop).drop).drop).drop).drop).drop).drop, (tup2 rfl rfl), a4⟩
  replace hm := optC_none hm
  refine Za rfl rfl (Zm (v := Value.tuple #[Value.pointer none, errV 60 (b)]) rfl rfl (Za rfl rfl (Exec.extract (v := Value.pointer none) rfl rfl rfl (Za rfl rfl (Exec.extract (v := errV 60 (b)) rfl rfl rfl (Za rfl rfl (Zo (v := Value.pointer none) rfl rfl (Za rfl rfl (Zo (v := errV 60 (b)) rfl rfl (Zb (Ze (Zc (Zc (Zd (Za rfl rfl (Zm (v := errV 60 (b)) rfl rfl (Za rfl rfl (Exec.err_neq_nil (T := 60) Tryz.underlying31 rfl rfl rfl (Zb (Ze ?_))))))))))))))))))))
  rcases ite_some hm with ⟨i, hm⟩ | ⟨i, hm⟩
  ·refine W_cond_t rfl i (Zc (Zd (Za rfl rfl (Zm (v := errV 60 (b)) rfl rfl (Za rfl rfl (Zo (v := Value.slice none 0 0) rfl rfl (Za rfl rfl (Zo (v := errV 60 (b)) rfl rfl (Zb (Ze (W_ret (at_ret ?_))))))))))))
   have aO := Zu hm
   subst r
   refine ⟨_, ret2 rfl, ?_⟩
   exact ⟨a9, (Value.slice none 0 0), (Zt k d), (((((ag).drop).drop).drop).drop).drop, (tup2 rfl rfl), (SliceRep.nil _ _)⟩
  refine W_cond_f rfl i ?_
  replace i := Zk i
  refine W_skip (Ze (Zc (Zd (Za rfl rfl (Zm (v := Value.pointer (some ⟨f, 0, none⟩)) rfl rfl (Za rfl rfl (Zm (v := Value.pointer none) rfl rfl ?_)))))))
  obtain ⟨aF, a3, hm⟩ := Zg hm
  obtain ⟨bi, ak⟩ := aF
  replace hm := un2_eq hm
  refine Za rfl rfl (Tc rfl rfl rfl (Zi rfl (Zi rfl args_nil)) (schedule_plan_shift_nil_sim a3 ((((ag).f3).f3).f3).f3 (t.mono d) (u.mono d) (x.mono d) (y.mono d)).r ?_)
  rintro _ bg ⟨aB, ab, az, au, rfl, a5⟩
  refine Za rfl rfl (Exec.extract (v := ab) rfl rfl rfl (Za rfl rfl (Exec.extract (v := errV 60 (ak)) rfl rfl rfl (Za rfl rfl (Zo (v := ab) rfl rfl (Za rfl rfl (Zo (v := errV 60 (ak)) rfl rfl (Zb (Ze (W_ret ?_))))))))))
  have aP := Zu hm
  subst r
  refine ⟨_, ret2 rfl, ?_⟩
  exact ⟨aB, ab, (Zt (Zt k d) az), (((((au).drop).drop).drop).drop).drop, (tup2 rfl rfl), a5⟩
 replace hm := optC_none hm
 refine Za rfl rfl (Zm (v := Value.tuple #[Value.pointer none, errV 60 (a)]) rfl rfl (Za rfl rfl (Exec.extract (v := Value.pointer none) rfl rfl rfl (Za rfl rfl (Exec.extract (v := errV 60 (a)) rfl rfl rfl (Za rfl rfl (Zo (v := Value.pointer none) rfl rfl (Za rfl rfl (Zo (v := errV 60 (a)) rfl rfl (Zb (Ze (Zc (Zc (Zd (Za rfl rfl (Zm (v := errV 60 (a)) rfl rfl (Za rfl rfl (Exec.err_neq_nil (T := 60) Tryz.underlying31 rfl rfl rfl (Zb (Ze ?_))))))))))))))))))))
 rcases ite_some hm with ⟨j, hm⟩ | ⟨j, hm⟩
 ·refine W_cond_t rfl j (Zc (Zd (Za rfl rfl (Zm (v := errV 60 (a)) rfl rfl (Za rfl rfl (Zo (v := Value.slice none 0 0) rfl rfl (Za rfl rfl (Zo (v := errV 60 (a)) rfl rfl (Zb (Ze (W_ret (at_ret ?_))))))))))))
  have aQ := Zu hm
  subst r
  refine ⟨_, ret2 rfl, ?_⟩
  exact ⟨a7, (Value.slice none 0 0), ax, (aq).drop, (tup2 rfl rfl), (SliceRep.nil _ _)⟩
 refine W_cond_f rfl j ?_
 replace j := Zk j
 refine W_skip (Ze (Zc ?_))
 cases hm
theorem stn_Network_Latest_sim {w0 w : World} {s : PHeap} {H : List Res} {l : stn_Network} {m : Int} {g : Nat} {i : Value} {h : List Value} {r : Int × (Option Int)} (hm : stn_Network_Latest_p l m = some r) (hS : St w0 s (Res.box g 101 [i] :: Res.arr encRaw 22 i h :: Res.rows (encInt .i64) 3 h l.d :: H) w)  :
  Calls Tryz.prog 34 #[Value.pointer (some ⟨g, 0, none⟩), Vi (m)] w fun e w' => ∃ v, e = .returned v ∧ ((un2 fun (t : Int) (u : (Option Int)) => ∃ (o : PHeap) , PHeap.le s o ∧ St w0 o (Res.box g 101 [i] :: Res.arr encRaw 22 i h :: Res.rows (encInt .i64) 3 h l.d :: H) w' ∧ v = Value.tuple #[Vi (t), errV 60 (u)]) r) := by
 unfold stn_Network_Latest_p at hm
 refine calls_of_W Tryz.func34 rfl rfl (Zc (Zd (Za rfl rfl (Zo (v := Vi (0)) rfl rfl (Za rfl rfl (Zo (v := errV 60 (none)) rfl rfl (Zb (Ze (Zc (Zd (Za rfl rfl (Zm (v := Value.pointer (some ⟨g, 0, none⟩)) rfl rfl (Za rfl rfl (Zm (v := Vi (m)) rfl rfl ?_))))))))))))))
 obtain ⟨q, p, hm⟩ := Zg hm
 obtain ⟨a, b⟩ := q
 replace hm := un2_eq hm
 refine Za rfl rfl (Tc rfl rfl rfl (Zi rfl (Zi rfl (Zi rfl args_nil))) (stn_Network_Distance_sim p (((hS).f2).f2).f2 ).r ?_)
 rintro _ aa ⟨n, k, j, rfl⟩
 refine Za rfl rfl (Zm (v := Value.tuple #[Vi (a), errV 60 (b)]) rfl rfl (Za rfl rfl (Exec.extract (v := Vi (a)) rfl rfl rfl (Za rfl rfl (Exec.extract (v := errV 60 (b)) rfl rfl rfl (Za rfl rfl (Zo (v := Vi (a)) rfl rfl (Za rfl rfl (Zo (v := errV 60 (b)) rfl rfl (Zb (Ze (Zc (Zc (Zd (Za rfl rfl (Zm (v := errV 60 (b)) rfl rfl (Za rfl rfl (Exec.err_neq_nil (T := 60) Tryz.underlying31 rfl rfl rfl (Zb (Ze ?_))))))))))))))))))))
 rcases ite_some hm with ⟨c, hm⟩ | ⟨c, hm⟩
 ·refine W_cond_t rfl c (Zc (Zd (Za rfl rfl (Zm (v := errV 60 (b)) rfl rfl (Za rfl rfl (Zo (v := Vi (0)) rfl rfl (Za rfl rfl (Zo (v := errV 60 (b)) rfl rfl (Zb (Ze (W_ret (at_ret ?_))))))))))))
  have x := Zu hm
  subst r
  refine ⟨_, ret2 rfl, ?_⟩
  exact ⟨n, k, (((j).f2).f2).f2, (tup2 rfl rfl)⟩
 refine W_cond_f rfl c ?_
 replace c := Zk c
 refine W_skip (Ze (Zc (Zc (Zd (Za rfl rfl (Zm (v := Vi (a)) rfl rfl (Za rfl rfl (Exec.geq rfl rfl rfl (Zb (Ze ?_))))))))))
 rcases ite_some hm with ⟨f, hm⟩ | ⟨f, hm⟩
 ·refine W_cond_t rfl f (Zc (Zd (Za rfl rfl (Exec.makeInterface C60 rfl rfl (Za rfl rfl (Zo (v := Vi (0)) rfl rfl (Za rfl rfl (Zo (v := errV 60 (some 3)) rfl rfl (Zb (Ze (W_ret (at_ret ?_))))))))))))
  have y := Zu hm
  subst r
  refine ⟨_, ret2 rfl, ?_⟩
  exact ⟨n, k, (((j).f2).f2).f2, (tup2 rfl rfl)⟩
 refine W_cond_f rfl f ?_
 replace f := Zk f
 refine W_skip (Ze (Zc (Zd (Za rfl rfl (Zm (v := Vi (a)) rfl rfl (Za rfl rfl (Zo (v := Vi (a)) rfl rfl (Za rfl rfl (Zo (v := errV 60 (none)) rfl rfl (Zb (Ze (W_ret ?_))))))))))))
 have z := Zu hm
 subst r
 refine ⟨_, ret2 rfl, ?_⟩
 exact ⟨n, k, (((j).f2).f2).f2, (tup2 rfl rfl)⟩
theorem stn_Network_Latest_nil_sim {w0 w : World} {s : PHeap} {H : List Res} {a : Int}  {r : Int × (Option Int)} (hm : stn_Network_Latest_nil_p a = some r) (hS : St w0 s (H) w)  :
  Calls Tryz.prog 34 #[Value.pointer none, Vi (a)] w fun e w' => ∃ v, e = .returned v ∧ ((un2 fun (i : Int) (j : (Option Int)) => ∃ (h : PHeap) , PHeap.le s h ∧ St w0 h (H) w' ∧ v = Value.tuple #[Vi (i), errV 60 (j)]) r) := by
 unfold stn_Network_Latest_nil_p at hm
 refine calls_of_W Tryz.func34 rfl rfl (Zc (Zd (Za rfl rfl (Zo (v := Vi (0)) rfl rfl (Za rfl rfl (Zo (v := errV 60 (none)) rfl rfl (Zb (Ze (Zc (Zd (Za rfl rfl (Zm (v := Value.pointer none) rfl rfl (Za rfl rfl (Zm (v := Vi (a)) rfl rfl (Za rfl rfl (Tc rfl rfl rfl (Zi rfl (Zi rfl (Zi rfl args_nil))) (stn_Network_Distance_nil_sim (stn_Network_Distance_nil_tot 0 a) hS ).r ?_))))))))))))))))
 rintro _ n ⟨g, f, d, rfl⟩
 refine Za rfl rfl (Zm (v := Value.tuple #[Vi ((stn_Network_Distance_nil_t 0 a).1), errV 60 ((stn_Network_Distance_nil_t 0 a).2)]) rfl rfl (Za rfl rfl (Exec.extract (v := Vi ((stn_Network_Distance_nil_t 0 a).1)) rfl rfl rfl (Za rfl rfl (Exec.extract (v := errV 60 ((stn_Network_Distance_nil_t 0 a).2)) rfl rfl rfl (Za rfl rfl (Zo (v := Vi ((stn_Network_Distance_nil_t 0 a).1)) rfl rfl (Za rfl rfl (Zo (v := errV 60 ((stn_Network_Distance_nil_t 0 a).2)) rfl rfl (Zb (Ze (Zc (Zc (Zd (Za rfl rfl (Zm (v := errV 60 ((stn_Network_Distance_nil_t 0 a).2)) rfl rfl (Za rfl rfl (Exec.err_neq_nil (T := 60) Tryz.underlying31 rfl rfl rfl (Zb (Ze ?_))))))))))))))))))))
 rcases ite_some hm with ⟨b, hm⟩ | ⟨b, hm⟩
 ·refine W_cond_t rfl b (Zc (Zd (Za rfl rfl (Zm (v := errV 60 ((stn_Network_Distance_nil_t 0 a).2)) rfl rfl (Za rfl rfl (Zo (v := Vi (0)) rfl rfl (Za rfl rfl (Zo (v := errV 60 ((stn_Network_Distance_nil_t 0 a).2)) rfl rfl (Zb (Ze (W_ret (at_ret ?_))))))))))))
  have k := Zu hm
  subst r
  refine ⟨_, ret2 rfl, ?_⟩
  exact ⟨g, f, d, (tup2 rfl rfl)⟩
 refine W_cond_f rfl b ?_
 replace b := Zk b
 refine W_skip (Ze (Zc (Zc (Zd (Za rfl rfl (Zm (v := Vi ((stn_Network_Distance_nil_t 0 a).1)) rfl rfl (Za rfl rfl (Exec.geq rfl rfl rfl (Zb (Ze ?_))))))))))
 rcases ite_some hm with ⟨c, hm⟩ | ⟨c, hm⟩
 ·refine W_cond_t rfl c (Zc (Zd (Za rfl rfl (Exec.makeInterface C60 rfl rfl (Za rfl rfl (Zo (v := Vi (0)) rfl rfl (Za rfl rfl (Zo (v := errV 60 (some 3)) rfl rfl (Zb (Ze (W_ret (at_ret ?_))))))))))))
  have l := Zu hm
  subst r
  refine ⟨_, ret2 rfl, ?_⟩
  exact ⟨g, f, d, (tup2 rfl rfl)⟩
 refine W_cond_f rfl c ?_
 replace c := Zk c
 refine W_skip (Ze (Zc (Zd (Za rfl rfl (Zm (v := Vi ((stn_Network_Distance_nil_t 0 a).1)) rfl rfl (Za rfl rfl (Zo (v := Vi ((stn_Network_Distance_nil_t 0 a).1)) rfl rfl (Za rfl rfl (Zo (v := errV 60 (none)) rfl rfl (Zb (Ze (W_ret ?_))))))))))))
 have m := Zu hm
 subst r
 refine ⟨_, ret2 rfl, ?_⟩
 exact ⟨g, f, d, (tup2 rfl rfl)⟩
theorem schedule_Slack_sim {w0 w : World} {s : PHeap} {H : List Res} {aH : Temporal} {bQ : (List Launch)} {aj : Value} {ak : Value} {al : Value} {am : Value} {bm : Value} {r : (List Int) × (Option Int)} (hm : schedule_Slack_p aH bQ = some r) (hS : St w0 s (H) w) (c9 : SliceRep (encInt .i64) s aj aH.Vars) (cA : SliceRep (encInt .i64) s ak aH.Init) (cB : SliceRep encFact s al aH.Goal) (aR : SliceRep encJob s am aH.Jobs) (cC : SliceRep encLaunch s bm bQ) :
  Calls Tryz.prog 10 #[Value.agg #[aj, ak, al, am], bm] w fun e w' => ∃ v, e = .returned v ∧ ((un2 fun (fS : (List Int)) (fT : (Option Int)) => ∃ (bf : PHeap) (c6 : Value), PHeap.le s bf ∧ St w0 bf (H) w' ∧ v = Value.tuple #[c6, errV 60 (fT)] ∧ SliceRep (encInt .i64) bf c6 fS) r) := by
 unfold schedule_Slack_p at hm
 refine calls_of_W Tryz.func10 rfl rfl (Zc (Zd (Za rfl rfl (Exec.box (cs := [aj, ak, al, am]) hS rfl rfl rfl ?_))))
 intro aM hD b0
 refine Za rfl rfl (Zo (v := Value.slice none 0 0) rfl rfl (Za rfl rfl (Zo (v := errV 60 (none)) rfl rfl (Zb (Ze (Zc (Zd (Za rfl rfl (Exec.load_box_agg (ds := [aj, ak, al, am]) (b0) A26 rfl rfl rfl (Za rfl rfl (Zm (v := bm) rfl rfl ?_)))))))))))
 obtain ⟨fE, eY, hm⟩ := Zg hm
 obtain ⟨hk, o⟩ := fE
 replace hm := un2_eq hm
 refine Za rfl rfl (Tc rfl rfl rfl (Zi rfl (Zi rfl args_nil)) (schedule_read_sim eY b0 c9 cA cB aR cC).r ?_)
 rintro _ hE dV
 rcases dV with ⟨gh, rfl, fu, h0, h1, h2, h3, an, h4, h5, h6, j, b1, rfl, bb, bc, bd, be⟩ | ⟨rfl, fv, ep, dg, rfl⟩
 ·replace hm := optC_some hm
  refine Za rfl rfl (Zm (v := Value.tuple #[Value.pointer (some ⟨an, 0, none⟩), errV 60 (o)]) rfl rfl (Za rfl rfl (Exec.extract (v := Value.pointer (some ⟨an, 0, none⟩)) rfl rfl rfl (Za rfl rfl (Exec.extract (v := errV 60 (o)) rfl rfl rfl (Za rfl rfl (Zo (v := Value.pointer (some ⟨an, 0, none⟩)) rfl rfl (Za rfl rfl (Zo (v := errV 60 (o)) rfl rfl (Zb (Ze (Zc (Zc (Zd (Za rfl rfl (Zm (v := errV 60 (o)) rfl rfl (Za rfl rfl (Exec.err_neq_nil (T := 60) Tryz.underlying31 rfl rfl rfl (Zb (Ze ?_))))))))))))))))))))
  rcases ite_some hm with ⟨az, hm⟩ | ⟨az, hm⟩
  ·refine W_cond_t rfl az (Zc (Zd (Za rfl rfl (Zm (v := errV 60 (o)) rfl rfl (Za rfl rfl (Zo (v := Value.slice none 0 0) rfl rfl (Za rfl rfl (Zo (v := errV 60 (o)) rfl rfl (Zb (Ze (W_ret (at_ret ?_))))))))))))
   have gi := Zu hm
   subst r
   refine ⟨_, ret2 rfl, ?_⟩
   exact ⟨fu, (Value.slice none 0 0), j, (((((b1).drop).drop).drop).drop).drop, (tup2 rfl rfl), (SliceRep.nil _ _)⟩
  refine W_cond_f rfl az ?_
  replace az := Zk az
  refine W_skip (Ze (Zc (Zd (Za rfl rfl (Zm (v := Value.pointer (some ⟨an, 0, none⟩)) rfl rfl ?_)))))
  obtain ⟨fF, eZ, hm⟩ := Zg hm
  obtain ⟨hl, p⟩ := fF
  replace hm := un2_eq hm
  refine Za rfl rfl (Tc rfl rfl rfl (Zi rfl args_nil) (schedule_plan_network_sim eZ ((((b1).f3).f3).f3).f3 bb bc bd be).r ?_)
  rintro _ hF dW
  rcases dW with ⟨cJ, rfl, fw, b, x, y, q, b2, rfl⟩ | ⟨rfl, fx, t, b3, rfl⟩
  ·replace hm := optC_some hm
   refine Za rfl rfl (Zm (v := Value.tuple #[Value.pointer (some ⟨b, 0, none⟩), errV 60 (p)]) rfl rfl (Za rfl rfl (Exec.extract (v := Value.pointer (some ⟨b, 0, none⟩)) rfl rfl rfl (Za rfl rfl (Exec.extract (v := errV 60 (p)) rfl rfl rfl (Za rfl rfl (Zo (v := Value.pointer (some ⟨b, 0, none⟩)) rfl rfl (Za rfl rfl (Zo (v := errV 60 (p)) rfl rfl (Zb (Ze (Zc (Zc (Zd (Za rfl rfl (Zm (v := errV 60 (p)) rfl rfl (Za rfl rfl (Exec.err_neq_nil (T := 60) Tryz.underlying31 rfl rfl rfl (Zb (Ze ?_))))))))))))))))))))
   rcases ite_some hm with ⟨a0, hm⟩ | ⟨a0, hm⟩
   ·refine W_cond_t rfl a0 (Zc (Zd (Za rfl rfl (Zm (v := errV 60 (p)) rfl rfl (Za rfl rfl (Zo (v := Value.slice none 0 0) rfl rfl (Za rfl rfl (Zo (v := errV 60 (p)) rfl rfl (Zb (Ze (W_ret (at_ret ?_))))))))))))
    have gj := Zu hm
    subst r
    refine ⟨_, ret2 rfl, ?_⟩
    exact ⟨fw, (Value.slice none 0 0), (Zt j q), ((((((((b2).drop).drop).drop).drop).drop).drop).drop).drop, (tup2 rfl rfl), (SliceRep.nil _ _)⟩
   refine W_cond_f rfl a0 ?_
   replace a0 := Zk a0
   refine W_skip (Ze (Zc (Zd (Za rfl rfl (Zm (v := Value.pointer (some ⟨an, 0, none⟩)) rfl rfl (Za rfl rfl (Zm (v := Value.pointer (some ⟨b, 0, none⟩)) rfl rfl ?_)))))))
   obtain ⟨fG, fa, hm⟩ := Zg hm
   obtain ⟨aK, au⟩ := fG
   replace hm := un2_eq hm
   refine Za rfl rfl (Tc rfl rfl rfl (Zi rfl (Zi rfl args_nil)) (schedule_plan_shift_sim fa (((((((b2).f6).f6).f6).f6).f6).f6).f6 (bb.mono q) (bc.mono q) (bd.mono q) (be.mono q)).r ?_)
   rintro _ hG ⟨bg, m, aD, b4, rfl, ad⟩
   refine Za rfl rfl (Zm (v := Value.tuple #[m, errV 60 (au)]) rfl rfl (Za rfl rfl (Exec.extract (v := m) rfl rfl rfl (Za rfl rfl (Exec.extract (v := errV 60 (au)) rfl rfl rfl (Za rfl rfl (Zo (v := m) rfl rfl (Za rfl rfl (Zo (v := errV 60 (au)) rfl rfl (Zb (Ze (Zc (Zc (Zd (Za rfl rfl (Zm (v := errV 60 (au)) rfl rfl (Za rfl rfl (Exec.err_neq_nil (T := 60) Tryz.underlying31 rfl rfl rfl (Zb (Ze ?_))))))))))))))))))))
   rcases ite_some hm with ⟨a1, hm⟩ | ⟨a1, hm⟩
   ·refine W_cond_t rfl a1 (Zc (Zd (Za rfl rfl (Zm (v := errV 60 (au)) rfl rfl (Za rfl rfl (Zo (v := Value.slice none 0 0) rfl rfl (Za rfl rfl (Zo (v := errV 60 (au)) rfl rfl (Zb (Ze (W_ret (at_ret ?_))))))))))))
    have gk := Zu hm
    subst r
    refine ⟨_, ret2 rfl, ?_⟩
    exact ⟨bg, (Value.slice none 0 0), (Zt (Zt j q) aD), ((((((((b4).drop).drop).drop).drop).drop).drop).drop).drop, (tup2 rfl rfl), (SliceRep.nil _ _)⟩
   refine W_cond_f rfl a1 ?_
   replace a1 := Zk a1
   refine W_skip (Ze (Zc (Zd (Za rfl rfl (Zo (v := Vi (0)) rfl rfl (Zb (Ze (Zc (Zc (Zd (Za rfl rfl (Zm (v := m) rfl rfl (Za rfl rfl (Zr S27 rfl rfl ad (Za rfl rfl (Zm (v := Vi (0)) rfl rfl (Zb (Ze ?_))))))))))))))))))
   obtain ⟨u, cK, hm⟩ := Zg hm
   refine W_block (W_forS (fun k' s' f' w' => (fun (u : Int) => ∃ (cr : PHeap) , PHeap.le bg cr ∧ St w0 cr (Res.box aM 26 [aj, ak, al, am] :: Res.box b 101 [x] :: Res.arr encRaw 22 x y :: Res.rows (encInt .i64) 3 y cJ.d :: H) w' ∧ f' 2 = Value.pointer (some ⟨aM, 0, none⟩) ∧ f' 8 = Value.pointer (some ⟨b, 0, none⟩) ∧ f' 9 = m ∧ f' 10 = Vi (u) ∧ f' 46 = m ∧ f' 47 = Vi ((aK.length : Int)) ∧ f' 48 = Vi (k' : Int)) s') cK ?_ ?_ ?_)
   ·have dh := (b4).drop
    exact ⟨bg, (Zv _), (((((((dh).drop).drop).drop).f2).f2).f2).f3, rfl, rfl, rfl, rfl, rfl, rfl, rfl⟩
   ·intro en u fy g7 hH dL cQ a9
    obtain ⟨fz, aU, b5, bT, e0, e1, e2, bU, bV, bn⟩ := cQ
    refine Zc (Zd (Za rfl rfl (Zq rfl bn bV (Zb (Ze (Zc (W_true (Zx (decide_eq_true (by omega))) (W_skip (Ze (Zc (W_block (Zc (Zd ?_)))))))))))))
    obtain ⟨aI, fb, a9⟩ := Zg a9
    refine Za rfl rfl (Exec.index_rep S27 rfl bU bn (ad.mono aU) fb ?_)
    intro fU gQ cD
    refine Za rfl rfl (Zw (E := encLaunch) b5 A56 rfl rfl rfl cD ?_)
    intro h7 fc
    obtain rfl := encLaunch_val.1 fc
    refine Za rfl rfl (Exec.alloc (cs := [Vi (0), Vi (0)]) b5 Z56 rfl rfl ?_)
    intro fV hI di
    refine Za rfl rfl (Exec.store_box (ds := [Vi (aI.At), Vi (aI.Job)]) (es := [Vi (aI.At), Vi (aI.Job)]) di A56 rfl rfl rfl rfl (Zj rfl (Zj rfl one_nil)) (Nat.le_of_ble_eq_true rfl) rfl ?_)
    intro hJ ax
    refine Zb (Ze (W_dl (n0 := 12) (qs 0 12 .done) hmix (by kernel_rfl) (by kernel_rfl) (DL_q rfl rfl (Zm (v := Vi (u)) rfl e2 ⟨rfl, ?_⟩))))
    refine DL_q rfl rfl (Zp F56_0 rfl rfl rfl ⟨rfl, ?_⟩)
    refine DL_q rfl rfl (Zn (ax.drew) A3 rfl rfl rfl ⟨rfl, ?_⟩)
    refine DL_q rfl rfl (Zp F26_3 rfl bT rfl ⟨rfl, ?_⟩)
    refine DL_q rfl rfl (Zn ((ax.drew).f1) A24 rfl rfl rfl ⟨rfl, ?_⟩)
    refine DL_q rfl rfl (Zp F56_1 rfl rfl rfl ⟨rfl, ?_⟩)
    refine DL_q rfl rfl (Zn (ax.drew) A3 rfl rfl rfl ⟨rfl, ?_⟩)
    obtain ⟨fK, fd, a9⟩ := Zg a9
    refine DL_q rfl rfl (Exec.index_repE S24 rfl rfl rfl (aR.mono (Zt (Zt (Zt j q) aD) aU)) fd ?_)
    intro fW gR cE gl
    refine ⟨rfl, ?_⟩
    refine DL_q rfl rfl (Zp F63_1 rfl rfl rfl ⟨rfl, ?_⟩)
    refine DL_q rfl rfl (Zw (E := (encInt .i64)) ax.drew A3 rfl rfl rfl (cE.sub (Sub.iso (Sub.snd (Sub.fst (Sub.refl _)) rfl)) rfl) ?_)
    intro h8 fe
    obtain rfl := encInt_val.1 fe
    refine ⟨rfl, ?_⟩
    refine DL_q rfl rfl (Exec.add rfl rfl rfl ⟨rfl, ?_⟩)
    refine DL_q rfl rfl (Exec.max2 rfl rfl rfl ⟨rfl, ?_⟩)
    refine DL_done (Za rfl rfl (Zo (v := Vi (max u (IntKind.i64.wrap (aI.At + fK.Duration)))) rfl rfl (Zb (ib_normal (Ze (Zd (Za rfl rfl (Exec.add rfl bn rfl (Za rfl rfl (Zm (v := Vi (IntKind.i64.wrap ((en : Int) + 1))) rfl rfl (Zb (Ze ?_))))))))))))
    have gm := Zu a9
    subst fy
    exact ⟨fz, aU, (((((ax.drew).drop).f3).f3).f3).f3, bT, e0, e1, rfl, bU, bV, (Eq.trans rfl (wrap_up dL (SliceRep.le ad)))⟩
   intro g8 hK cR
   obtain ⟨bh, ab, dj, gW, e3, bW, e4, gX, e5, fL⟩ := cR
   refine Zc (Zd (Za rfl rfl (Zq rfl fL e5 (Zb (Ze (Zc (W_false (Zx (decide_eq_false (by omega))) (W_exit (at_exit (at_exit (ib_here (Ze (Zc (Zc (Zd (Za rfl rfl (Zm (v := m) rfl bW (Za rfl rfl (Zr S27 rfl rfl (ad.mono ab) (Za rfl rfl (Zm (v := Vi (0)) rfl rfl (Zb (Ze ?_)))))))))))))))))))))))
   obtain ⟨br, cL, eb, dR, dH⟩ := ctl_some hm
   refine W_mid (M := fun f' w' => ∃ s', (br = .next s' ∨ br = .brk s') ∧ (fun (aN : (List (List Int))) => ∃ (ct : PHeap) , PHeap.le bh ct ∧ St w0 ct (Res.box b 101 [x] :: Res.arr encRaw 22 x y :: Res.rows (encInt .i64) 3 y aN :: H) w' ∧ f' 8 = Value.pointer (some ⟨b, 0, none⟩) ∧ f' 9 = m ∧ f' 10 = Vi (u) ∧ f' 66 = Vi ((aK.length : Int))) s') ?_ ?_
   ·refine W_block (W_forC (fun k' s' f' w' => (fun (aV : (List (List Int))) => ∃ (cu : PHeap) , PHeap.le bh cu ∧ St w0 cu (Res.box b 101 [x] :: Res.arr encRaw 22 x y :: Res.rows (encInt .i64) 3 y aV :: H) w' ∧ f' 8 = Value.pointer (some ⟨b, 0, none⟩) ∧ f' 9 = m ∧ f' 10 = Vi (u) ∧ f' 66 = Vi ((aK.length : Int)) ∧ f' 67 = Vi (k' : Int)) s') cL ?_ ?_ ?_)
    ·have dk := (dj).drop
     exact ⟨bh, (Zv _), (((dk).f2).f2).f2, e3, bW, e4, rfl, rfl⟩
    ·intro ai aV bs g9 hL dM cS z ef
     obtain ⟨hn, bG, dl, bX, e6, bY, bZ, bo⟩ := cS
     refine Zc (Zd (Za rfl rfl (Zq rfl bo bZ (Zb (Ze (Zc (W_true (Zx (decide_eq_true (by omega))) (W_skip (Ze (Zc (W_block (Zc (Zd (Za rfl rfl (Zm (v := Vi ((ai : Int))) rfl bo (Za rfl rfl (Zo (v := Vi ((ai : Int))) rfl rfl (Zb (Ze (Zc (Zd (Za rfl rfl (Zm (v := Value.pointer (some ⟨b, 0, none⟩)) rfl bX (Za rfl rfl (Zm (v := Vi ((ai : Int))) rfl rfl (Za rfl rfl (Tc rfl rfl rfl (Zi rfl args_nil) (schedule_end_sim (schedule_end_tot (ai : Int)) dl ).r ?_)))))))))))))))))))))))))))
     rintro _ hM ⟨ho, bH, dm, rfl⟩
     refine Za rfl rfl (Zm (v := Vi (u)) rfl bY (Za rfl rfl (Exec.build rfl (parts_cons (c := [Vi (0)]) (cells_of rfl rfl) (parts_cons (c := [Vi ((schedule_end_t (ai : Int)))]) (cells_of rfl rfl) (parts_cons (c := [Vi (u)]) (cells_of rfl rfl) parts_nil))) (v := Value.agg #[Vi (0), Vi ((schedule_end_t (ai : Int))), Vi (u)]) (fun _ => by kernel_rfl) ?_)))
     obtain ⟨fH, ff, z⟩ := Zg z
     obtain ⟨aQ, gN⟩ := fH
     replace z := un2_eq z
     refine Za rfl rfl (Tc rfl rfl rfl (Zi rfl (Zi rfl args_nil)) (stn_Network_Add_sim ff (((dm).f2).f2).f2 ).r ?_)
     rintro _ hN ⟨cv, bI, b6, rfl⟩
     refine Za rfl rfl (Zo (v := errV 60 (aQ)) rfl rfl (Zb (Ze (Zc (Zd (Za rfl rfl (Zm (v := errV 60 (aQ)) rfl rfl (Za rfl rfl (Exec.err_neq_nil (T := 60) Tryz.underlying31 rfl rfl rfl (Zb (Ze ?_)))))))))))
     rcases ite_some z with ⟨a2, z⟩ | ⟨a2, z⟩
     ·refine W_cond_t rfl a2 (Zc (Zd (Za rfl rfl (Zm (v := errV 60 (aQ)) rfl rfl (Za rfl rfl (Zo (v := Value.slice none 0 0) rfl rfl (Za rfl rfl (Zo (v := errV 60 (aQ)) rfl rfl (Zb (Ze (W_ret (ib_ret (at_ret (at_ret (ib_ret (at_ret (at_ret ?_)))))))))))))))))
      have gn := Zu z
      subst bs
      have dX := eb _ (ef (by intro _ h; cases h))
      have go := Zu dX
      subst r
      refine ⟨_, ret2 rfl, ?_⟩
      exact ⟨cv, (Value.slice none 0 0), (Zt (Zt (Zt (Zt (Zt (Zt j q) aD) ab) bG) bH) bI), (((b6).drop).drop).drop, (tup2 rfl rfl), (SliceRep.nil _ _)⟩
     refine W_cond_f rfl a2 ?_
     replace a2 := Zk a2
     refine W_skip (ib_normal (Ze (Zd (Za rfl rfl (Exec.add rfl bo rfl (Za rfl rfl (Zm (v := Vi (IntKind.i64.wrap ((ai : Int) + 1))) rfl rfl (Zb (Ze ?_)))))))))
     have gp := Zu z
     subst bs
     refine ⟨_, rfl, ?_⟩; exact ⟨cv, (Zt (Zt bG bH) bI), (((b6).f2).f2).f2, bX, e6, bY, bZ, (Eq.trans rfl (wrap_up dM (SliceRep.le (ad.mono ab))))⟩
    intro aV gA hO cT eg
    obtain ⟨f0, er, dn, e7, e8, e9, ca, fM⟩ := cT
    refine Zc (Zd (Za rfl rfl (Zq rfl fM ca (Zb (Ze (Zc (W_false (Zx (decide_eq_false (by omega))) (W_exit (at_exit (at_exit (ib_here (Ze ?_))))))))))))
    refine ⟨_, .inl eg, ?_⟩; exact ⟨f0, er, (((dn).f2).f2).f2, e7, e8, e9, ca⟩
   rintro gB hP ⟨aN, bC, dc⟩
   have hm := bC.elim (dR _) (dH _)
   clear bC
   obtain ⟨bi, aE, dp, eA, eB, gY, gZ⟩ := dc
   refine (Ze (Zc (Zd (Za rfl rfl (Zo (v := Value.slice none 0 0) rfl rfl (Zb (Ze (Zc (Zc (Zd (Za rfl rfl (Zm (v := m) rfl eB (Za rfl rfl (Zr S27 rfl rfl (ad.mono (Zt ab aE)) (Za rfl rfl (Zm (v := Vi (0)) rfl rfl (Zb (Ze ?_))))))))))))))))))
   obtain ⟨bt, cM, ec, dS, dI⟩ := ctl_some hm
   refine W_mid (M := fun f' w' => ∃ s', (bt = .next s' ∨ bt = .brk s') ∧ (fun (bR : (List Int)) => ∃ (cw : PHeap) (ao : Value), PHeap.le bi cw ∧ St w0 cw (Res.box b 101 [x] :: Res.arr (encInt .i64) 3 ao bR :: Res.arr encRaw 22 x y :: Res.rows (encInt .i64) 3 y aN :: H) w' ∧ f' 8 = Value.pointer (some ⟨b, 0, none⟩) ∧ f' 15 = ao ∧ f' 80 = m ∧ f' 81 = Vi ((aK.length : Int))) s') ?_ ?_
   ·refine W_block (W_forC (fun k' s' f' w' => (fun (aZ : (List Int)) => ∃ (cx : PHeap) (ap : Value), PHeap.le bi cx ∧ St w0 cx (Res.box b 101 [x] :: Res.arr (encInt .i64) 3 ap aZ :: Res.arr encRaw 22 x y :: Res.rows (encInt .i64) 3 y aN :: H) w' ∧ f' 8 = Value.pointer (some ⟨b, 0, none⟩) ∧ f' 15 = ap ∧ f' 80 = m ∧ f' 81 = Vi ((aK.length : Int)) ∧ f' 82 = Vi (k' : Int)) s') cM ?_ ?_ ?_)
    ·have dq := dp.nilArr (encInt .i64) 3
     exact ⟨bi, (Value.slice none 0 0), (Zv _), ((((dq).f3).f3).f2).f3, eA, rfl, rfl, rfl, rfl⟩
    ·intro aC aZ bu gC hQ dN cU i eh
     obtain ⟨hp, ap, aW, b7, cb, eC, cc, cd, aO⟩ := cU
     refine Zc (Zd (Za rfl rfl (Zq rfl aO cd (Zb (Ze (Zc (W_true (Zx (decide_eq_true (by omega))) (W_skip (Ze (Zc (W_block (Zc (Zd (Za rfl rfl (Zm (v := Vi ((aC : Int))) rfl aO ?_)))))))))))))))
     obtain ⟨af, fg, i⟩ := Zg i
     refine Za rfl rfl (Exec.index_rep S27 rfl cc aO (ad.mono (Zt (Zt ab aE) aW)) fg ?_)
     intro fX gS cF
     refine Za rfl rfl (Zw (E := encLaunch) b7 A56 rfl rfl rfl cF ?_)
     intro h9 fh
     obtain rfl := encLaunch_val.1 fh
     refine Za rfl rfl (Exec.alloc (cs := [Vi (0), Vi (0)]) b7 Z56 rfl rfl ?_)
     intro fY hR dr
     refine Za rfl rfl (Zo (v := Vi ((aC : Int))) rfl rfl (Za rfl rfl (Exec.store_box (ds := [Vi (af.At), Vi (af.Job)]) (es := [Vi (af.At), Vi (af.Job)]) dr A56 rfl rfl rfl rfl (Zj rfl (Zj rfl one_nil)) (Nat.le_of_ble_eq_true rfl) rfl ?_)))
     intro hT dt
     refine Zb (Ze (Zc (Zd (Za rfl rfl (Zm (v := Value.pointer (some ⟨b, 0, none⟩)) rfl cb (Za rfl rfl (Zm (v := Vi ((aC : Int))) rfl rfl (Za rfl rfl (Tc rfl rfl rfl (Zi rfl args_nil) (schedule_start_sim (schedule_start_tot (aC : Int)) dt ).r ?_)))))))))
     rintro _ hU ⟨hq, bJ, du, rfl⟩
     obtain ⟨fI, fi, i⟩ := Zg i
     obtain ⟨ah, av⟩ := fI
     replace i := un2_eq i
     refine Za rfl rfl (Tc rfl rfl rfl (Zi rfl (Zi rfl args_nil)) (stn_Network_Latest_sim fi (((du).f4).f4).f3 ).r ?_)
     rintro _ hV ⟨cy, bK, aS, rfl⟩
     refine Za rfl rfl (Zm (v := Value.tuple #[Vi (ah), errV 60 (av)]) rfl rfl (Za rfl rfl (Exec.extract (v := Vi (ah)) rfl rfl rfl (Za rfl rfl (Exec.extract (v := errV 60 (av)) rfl rfl rfl (Za rfl rfl (Zo (v := Vi (ah)) rfl rfl (Za rfl rfl (Zo (v := errV 60 (av)) rfl rfl (Zb (Ze (Zc (Zc (Zd (Za rfl rfl (Zm (v := errV 60 (av)) rfl rfl (Za rfl rfl (Exec.err_neq_nil (T := 60) Tryz.underlying31 rfl rfl rfl (Zb (Ze ?_))))))))))))))))))))
     rcases ite_some i with ⟨a3, i⟩ | ⟨a3, i⟩
     ·refine W_cond_t rfl a3 (Zc (Zd (Za rfl rfl (Zm (v := errV 60 (av)) rfl rfl (Za rfl rfl (Zo (v := Value.slice none 0 0) rfl rfl (Za rfl rfl (Zo (v := errV 60 (av)) rfl rfl (Zb (Ze (W_ret (at_ret (ib_ret (at_ret (at_ret (ib_ret (at_ret (at_ret ?_))))))))))))))))))
      have gq := Zu i
      subst bu
      have dY := ec _ (eh (by intro _ h; cases h))
      have gr := Zu dY
      subst r
      refine ⟨_, ret2 rfl, ?_⟩
      exact ⟨cy, (Value.slice none 0 0), (Zt (Zt (Zt (Zt (Zt (Zt (Zt j q) aD) ab) aE) aW) bJ) bK), (((((aS).drop).drop).drop).drop).drop, (tup2 rfl rfl), (SliceRep.nil _ _)⟩
     refine W_cond_f rfl a3 ?_
     replace a3 := Zk a3
     refine W_skip (Ze (Zd (Za rfl rfl (Zm (v := ap) rfl eC (Za rfl rfl (Zm (v := Vi (ah)) rfl rfl (Za rfl rfl (Zp F56_0 rfl rfl rfl (Za rfl rfl (Zn ((aS).f3) A3 rfl rfl rfl (Za rfl rfl (Exec.sub rfl rfl rfl (Za rfl rfl (Exec.buildSlice (Te := 3) (cs := [Vi (IntKind.i64.wrap (ah - af.At))]) aS rfl (parts_cons (c := [Vi (IntKind.i64.wrap (ah - af.At))]) (cells_of rfl rfl) parts_nil) (fun _ => by kernel_rfl) ?_))))))))))))))
     intro fZ hW dv
     obtain ⟨gO, fj, i⟩ := Zg i
     refine Za rfl rfl (Exec.append_box (E := (encInt .i64)) (ys := [IntKind.i64.wrap (ah - af.At)]) (dv).f5 S22 Z3 rfl (by decide) rfl rfl rfl rfl ⟨[Vi (IntKind.i64.wrap (ah - af.At))], [], rfl, rfl, rfl⟩ rfl fj ?_)
     intro c7 hX dw
     refine Za rfl rfl (Zo (v := c7) rfl rfl (Zb (ib_normal (Ze (Zd (Za rfl rfl (Exec.add rfl aO rfl (Za rfl rfl (Zm (v := Vi (IntKind.i64.wrap ((aC : Int) + 1))) rfl rfl (Zb (Ze ?_)))))))))))
     have gs := Zu i
     subst bu
     refine ⟨_, rfl, ?_⟩; exact ⟨cy, c7, (Zt (Zt aW bJ) bK), ((((((dw).f4).drop).f3).f3).f2).f3, cb, rfl, cc, cd, (Eq.trans rfl (wrap_up dN (SliceRep.le (ad.mono (Zt ab aE)))))⟩
    intro aZ gD hY cV ei
    obtain ⟨f7, ap, et, dx, eD, eE, eF, ce, fN⟩ := cV
    refine Zc (Zd (Za rfl rfl (Zq rfl fN ce (Zb (Ze (Zc (W_false (Zx (decide_eq_false (by omega))) (W_exit (at_exit (at_exit (ib_here (Ze ?_))))))))))))
    refine ⟨_, .inl ei, ?_⟩; exact ⟨f7, ap, et, ((((dx).f3).f3).f3).f3, eD, eE, eF, ce⟩
   rintro gE hZ ⟨bR, bD, dd⟩
   have hm := bD.elim (dS _) (dI _)
   clear bD
   obtain ⟨hr, ao, eu, dy, ha, eG, hb, hc⟩ := dd
   refine (Ze (Zc (Zd (Za rfl rfl (Zm (v := ao) rfl eG (Za rfl rfl (Zo (v := ao) rfl rfl (Za rfl rfl (Zo (v := errV 60 (none)) rfl rfl (Zb (Ze (W_ret ?_))))))))))))
   have gu := Zu hm
   subst r
   refine ⟨_, ret2 rfl, ?_⟩
   obtain ⟨f8, ev, dz, fs⟩ := (dy).f1.freezeArr
   exact ⟨f8, ao, (Zt (Zt (Zt (Zt (Zt (Zt j q) aD) ab) aE) eu) ev), (((dz).drop).drop).drop, (tup2 rfl rfl), fs⟩
  replace hm := optC_none hm
  refine Za rfl rfl (Zm (v := Value.tuple #[Value.pointer none, errV 60 (p)]) rfl rfl (Za rfl rfl (Exec.extract (v := Value.pointer none) rfl rfl rfl (Za rfl rfl (Exec.extract (v := errV 60 (p)) rfl rfl rfl (Za rfl rfl (Zo (v := Value.pointer none) rfl rfl (Za rfl rfl (Zo (v := errV 60 (p)) rfl rfl (Zb (Ze (Zc (Zc (Zd (Za rfl rfl (Zm (v := errV 60 (p)) rfl rfl (Za rfl rfl (Exec.err_neq_nil (T := 60) Tryz.underlying31 rfl rfl rfl (Zb (Ze ?_))))))))))))))))))))
  rcases ite_some hm with ⟨a4, hm⟩ | ⟨a4, hm⟩
  ·refine W_cond_t rfl a4 (Zc (Zd (Za rfl rfl (Zm (v := errV 60 (p)) rfl rfl (Za rfl rfl (Zo (v := Value.slice none 0 0) rfl rfl (Za rfl rfl (Zo (v := errV 60 (p)) rfl rfl (Zb (Ze (W_ret (at_ret ?_))))))))))))
   have gv := Zu hm
   subst r
   refine ⟨_, ret2 rfl, ?_⟩
   exact ⟨fx, (Value.slice none 0 0), (Zt j t), (((((b3).drop).drop).drop).drop).drop, (tup2 rfl rfl), (SliceRep.nil _ _)⟩
  refine W_cond_f rfl a4 ?_
  replace a4 := Zk a4
  refine W_skip (Ze (Zc (Zd (Za rfl rfl (Zm (v := Value.pointer (some ⟨an, 0, none⟩)) rfl rfl (Za rfl rfl (Zm (v := Value.pointer none) rfl rfl ?_)))))))
  obtain ⟨fJ, fk, hm⟩ := Zg hm
  obtain ⟨aL, aw⟩ := fJ
  replace hm := un2_eq hm
  refine Za rfl rfl (Tc rfl rfl rfl (Zi rfl (Zi rfl args_nil)) (schedule_plan_shift_nil_sim fk ((((b3).f3).f3).f3).f3 (bb.mono t) (bc.mono t) (bd.mono t) (be.mono t)).r ?_)
  rintro _ ia ⟨bj, n, aF, b8, rfl, ae⟩
  refine Za rfl rfl (Zm (v := Value.tuple #[n, errV 60 (aw)]) rfl rfl (Za rfl rfl (Exec.extract (v := n) rfl rfl rfl (Za rfl rfl (Exec.extract (v := errV 60 (aw)) rfl rfl rfl (Za rfl rfl (Zo (v := n) rfl rfl (Za rfl rfl (Zo (v := errV 60 (aw)) rfl rfl (Zb (Ze (Zc (Zc (Zd (Za rfl rfl (Zm (v := errV 60 (aw)) rfl rfl (Za rfl rfl (Exec.err_neq_nil (T := 60) Tryz.underlying31 rfl rfl rfl (Zb (Ze ?_))))))))))))))))))))
  rcases ite_some hm with ⟨a5, hm⟩ | ⟨a5, hm⟩
  ·refine W_cond_t rfl a5 (Zc (Zd (Za rfl rfl (Zm (v := errV 60 (aw)) rfl rfl (Za rfl rfl (Zo (v := Value.slice none 0 0) rfl rfl (Za rfl rfl (Zo (v := errV 60 (aw)) rfl rfl (Zb (Ze (W_ret (at_ret ?_))))))))))))
   have gw := Zu hm
   subst r
   refine ⟨_, ret2 rfl, ?_⟩
   exact ⟨bj, (Value.slice none 0 0), (Zt (Zt j t) aF), (((((b8).drop).drop).drop).drop).drop, (tup2 rfl rfl), (SliceRep.nil _ _)⟩
  refine W_cond_f rfl a5 ?_
  replace a5 := Zk a5
  refine W_skip (Ze (Zc (Zd (Za rfl rfl (Zo (v := Vi (0)) rfl rfl (Zb (Ze (Zc (Zc (Zd (Za rfl rfl (Zm (v := n) rfl rfl (Za rfl rfl (Zr S27 rfl rfl ae (Za rfl rfl (Zm (v := Vi (0)) rfl rfl (Zb (Ze ?_))))))))))))))))))
  obtain ⟨g, cN, hm⟩ := Zg hm
  refine W_block (W_forS (fun k' s' f' w' => (fun (g : Int) => ∃ (cz : PHeap) , PHeap.le bj cz ∧ St w0 cz (Res.box aM 26 [aj, ak, al, am] :: H) w' ∧ f' 2 = Value.pointer (some ⟨aM, 0, none⟩) ∧ f' 8 = Value.pointer none ∧ f' 9 = n ∧ f' 10 = Vi (g) ∧ f' 46 = n ∧ f' 47 = Vi ((aL.length : Int)) ∧ f' 48 = Vi (k' : Int)) s') cN ?_ ?_ ?_)
  ·have d0 := (b8).drop
   exact ⟨bj, (Zv _), (((d0).drop).drop).drop, rfl, rfl, rfl, rfl, rfl, rfl, rfl⟩
  ·intro eo g f9 gF ib dO cW aA
   obtain ⟨fA, aX, b9, cf, eH, eI, eJ, cg, ch, bp⟩ := cW
   refine Zc (Zd (Za rfl rfl (Zq rfl bp ch (Zb (Ze (Zc (W_true (Zx (decide_eq_true (by omega))) (W_skip (Ze (Zc (W_block (Zc (Zd ?_)))))))))))))
   obtain ⟨aJ, fl, aA⟩ := Zg aA
   refine Za rfl rfl (Exec.index_rep S27 rfl cg bp (ae.mono aX) fl ?_)
   intro ga gT cG
   refine Za rfl rfl (Zw (E := encLaunch) b9 A56 rfl rfl rfl cG ?_)
   intro hA fm
   obtain rfl := encLaunch_val.1 fm
   refine Za rfl rfl (Exec.alloc (cs := [Vi (0), Vi (0)]) b9 Z56 rfl rfl ?_)
   intro gb ic d1
   refine Za rfl rfl (Exec.store_box (ds := [Vi (aJ.At), Vi (aJ.Job)]) (es := [Vi (aJ.At), Vi (aJ.Job)]) d1 A56 rfl rfl rfl rfl (Zj rfl (Zj rfl one_nil)) (Nat.le_of_ble_eq_true rfl) rfl ?_)
   intro ie ay
   refine Zb (Ze (W_dl (n0 := 12) (qs 0 12 .done) hmix (by kernel_rfl) (by kernel_rfl) (DL_q rfl rfl (Zm (v := Vi (g)) rfl eJ ⟨rfl, ?_⟩))))
   refine DL_q rfl rfl (Zp F56_0 rfl rfl rfl ⟨rfl, ?_⟩)
   refine DL_q rfl rfl (Zn (ay.drew) A3 rfl rfl rfl ⟨rfl, ?_⟩)
   refine DL_q rfl rfl (Zp F26_3 rfl cf rfl ⟨rfl, ?_⟩)
   refine DL_q rfl rfl (Zn ((ay.drew).f1) A24 rfl rfl rfl ⟨rfl, ?_⟩)
   refine DL_q rfl rfl (Zp F56_1 rfl rfl rfl ⟨rfl, ?_⟩)
   refine DL_q rfl rfl (Zn (ay.drew) A3 rfl rfl rfl ⟨rfl, ?_⟩)
   obtain ⟨fO, fn, aA⟩ := Zg aA
   refine DL_q rfl rfl (Exec.index_repE S24 rfl rfl rfl (aR.mono (Zt (Zt (Zt j t) aF) aX)) fn ?_)
   intro gc gU cH gx
   refine ⟨rfl, ?_⟩
   refine DL_q rfl rfl (Zp F63_1 rfl rfl rfl ⟨rfl, ?_⟩)
   refine DL_q rfl rfl (Zw (E := (encInt .i64)) ay.drew A3 rfl rfl rfl (cH.sub (Sub.iso (Sub.snd (Sub.fst (Sub.refl _)) rfl)) rfl) ?_)
   intro hB fo
   obtain rfl := encInt_val.1 fo
   refine ⟨rfl, ?_⟩
   refine DL_q rfl rfl (Exec.add rfl rfl rfl ⟨rfl, ?_⟩)
   refine DL_q rfl rfl (Exec.max2 rfl rfl rfl ⟨rfl, ?_⟩)
   refine DL_done (Za rfl rfl (Zo (v := Vi (max g (IntKind.i64.wrap (aJ.At + fO.Duration)))) rfl rfl (Zb (ib_normal (Ze (Zd (Za rfl rfl (Exec.add rfl bp rfl (Za rfl rfl (Zm (v := Vi (IntKind.i64.wrap ((eo : Int) + 1))) rfl rfl (Zb (Ze ?_))))))))))))
   have gy := Zu aA
   subst f9
   exact ⟨fA, aX, (ay.drew).drop, cf, eH, eI, rfl, cg, ch, (Eq.trans rfl (wrap_up dO (SliceRep.le ae)))⟩
  intro gG ig cX
  obtain ⟨bk, ac, d2, hd, eK, ci, eL, he, eM, fP⟩ := cX
  refine Zc (Zd (Za rfl rfl (Zq rfl fP eM (Zb (Ze (Zc (W_false (Zx (decide_eq_false (by omega))) (W_exit (at_exit (at_exit (ib_here (Ze (Zc (Zc (Zd (Za rfl rfl (Zm (v := n) rfl ci (Za rfl rfl (Zr S27 rfl rfl (ae.mono ac) (Za rfl rfl (Zm (v := Vi (0)) rfl rfl (Zb (Ze ?_)))))))))))))))))))))))
  obtain ⟨bv, cO, ed, dT, dJ⟩ := ctl_some hm
  refine W_mid (M := fun f' w' => ∃ s', (bv = .next s' ∨ bv = .brk s') ∧ (fun (_ : Unit) => ∃ (c0 : PHeap) , PHeap.le bk c0 ∧ St w0 c0 (H) w' ∧ f' 8 = Value.pointer none ∧ f' 9 = n ∧ f' 10 = Vi (g) ∧ f' 66 = Vi ((aL.length : Int))) s') ?_ ?_
  ·refine W_block (W_forC (fun k' s' f' w' => (fun (_ : Unit) => ∃ (c1 : PHeap) , PHeap.le bk c1 ∧ St w0 c1 (H) w' ∧ f' 8 = Value.pointer none ∧ f' 9 = n ∧ f' 10 = Vi (g) ∧ f' 66 = Vi ((aL.length : Int)) ∧ f' 67 = Vi (k' : Int)) s') cO ?_ ?_ ?_)
   ·have d3 := (d2).drop
    exact ⟨bk, (Zv _), d3, eK, ci, eL, rfl, rfl⟩
   ·intro l hx bw gH ih dP cY aB ej
    obtain ⟨hs, bL, d4, cj, eN, ck, cl, bq⟩ := cY
    refine Zc (Zd (Za rfl rfl (Zq rfl bq cl (Zb (Ze (Zc (W_true (Zx (decide_eq_true (by omega))) (W_skip (Ze (Zc (W_block (Zc (Zd (Za rfl rfl (Zm (v := Vi ((l : Int))) rfl bq (Za rfl rfl (Zo (v := Vi ((l : Int))) rfl rfl (Zb (Ze (Zc (Zd (Za rfl rfl (Zm (v := Value.pointer none) rfl cj (Za rfl rfl (Zm (v := Vi ((l : Int))) rfl rfl (Za rfl rfl (Tc rfl rfl rfl (Zi rfl args_nil) (schedule_end_sim (schedule_end_tot (l : Int)) d4 ).r ?_)))))))))))))))))))))))))))
    rintro _ ii ⟨ht, bM, d5, rfl⟩
    refine Za rfl rfl (Zm (v := Vi (g)) rfl ck (Za rfl rfl (Exec.build rfl (parts_cons (c := [Vi (0)]) (cells_of rfl rfl) (parts_cons (c := [Vi ((schedule_end_t (l : Int)))]) (cells_of rfl rfl) (parts_cons (c := [Vi (g)]) (cells_of rfl rfl) parts_nil))) (v := Value.agg #[Vi (0), Vi ((schedule_end_t (l : Int))), Vi (g)]) (fun _ => by kernel_rfl) (Za rfl rfl (Tc rfl rfl rfl (Zi rfl (Zi rfl args_nil)) (stn_Network_Add_nil_sim (stn_Network_Add_nil_tot (⟨0, (schedule_end_t (l : Int)), g⟩ : Bound)) d5 ).r ?_)))))
    rintro _ ij ⟨c2, bN, bA, rfl⟩
    refine Za rfl rfl (Zo (v := errV 60 ((stn_Network_Add_nil_t (⟨0, (schedule_end_t (l : Int)), g⟩ : Bound)))) rfl rfl (Zb (Ze (Zc (Zd (Za rfl rfl (Zm (v := errV 60 ((stn_Network_Add_nil_t (⟨0, (schedule_end_t (l : Int)), g⟩ : Bound)))) rfl rfl (Za rfl rfl (Exec.err_neq_nil (T := 60) Tryz.underlying31 rfl rfl rfl (Zb (Ze ?_)))))))))))
    rcases ite_some aB with ⟨a6, aB⟩ | ⟨a6, aB⟩
    ·refine W_cond_t rfl a6 (Zc (Zd (Za rfl rfl (Zm (v := errV 60 ((stn_Network_Add_nil_t (⟨0, (schedule_end_t (l : Int)), g⟩ : Bound)))) rfl rfl (Za rfl rfl (Zo (v := Value.slice none 0 0) rfl rfl (Za rfl rfl (Zo (v := errV 60 ((stn_Network_Add_nil_t (⟨0, (schedule_end_t (l : Int)), g⟩ : Bound)))) rfl rfl (Zb (Ze (W_ret (ib_ret (at_ret (at_ret (ib_ret (at_ret (at_ret ?_)))))))))))))))))
     have gz := Zu aB
     subst bw
     have dZ := ed _ (ej (by intro _ h; cases h))
     have g0 := Zu dZ
     subst r
     refine ⟨_, ret2 rfl, ?_⟩
     exact ⟨c2, (Value.slice none 0 0), (Zt (Zt (Zt (Zt (Zt (Zt j t) aF) ac) bL) bM) bN), bA, (tup2 rfl rfl), (SliceRep.nil _ _)⟩
    refine W_cond_f rfl a6 ?_
    replace a6 := Zk a6
    refine W_skip (ib_normal (Ze (Zd (Za rfl rfl (Exec.add rfl bq rfl (Za rfl rfl (Zm (v := Vi (IntKind.i64.wrap ((l : Int) + 1))) rfl rfl (Zb (Ze ?_)))))))))
    have g1 := Zu aB
    subst bw
    refine ⟨_, rfl, ?_⟩; exact ⟨c2, (Zt (Zt bL bM) bN), bA, cj, eN, ck, cl, (Eq.trans rfl (wrap_up dP (SliceRep.le (ae.mono ac))))⟩
   intro hy gI ik cZ ek
   obtain ⟨fB, ew, d6, eO, eP, eQ, cm, fQ⟩ := cZ
   refine Zc (Zd (Za rfl rfl (Zq rfl fQ cm (Zb (Ze (Zc (W_false (Zx (decide_eq_false (by omega))) (W_exit (at_exit (at_exit (ib_here (Ze ?_))))))))))))
   refine ⟨_, .inl ek, ?_⟩; exact ⟨fB, ew, d6, eO, eP, eQ, cm⟩
  rintro gJ il ⟨hz, bE, de⟩
  have hm := bE.elim (dT _) (dJ _)
  clear bE
  obtain ⟨bl, aG, d7, eR, eS, hf, hg⟩ := de
  refine (Ze (Zc (Zd (Za rfl rfl (Zo (v := Value.slice none 0 0) rfl rfl (Zb (Ze (Zc (Zc (Zd (Za rfl rfl (Zm (v := n) rfl eS (Za rfl rfl (Zr S27 rfl rfl (ae.mono (Zt ac aG)) (Za rfl rfl (Zm (v := Vi (0)) rfl rfl (Zb (Ze ?_))))))))))))))))))
  obtain ⟨bx, cP, ee, dU, dK⟩ := ctl_some hm
  refine W_mid (M := fun f' w' => ∃ s', (bx = .next s' ∨ bx = .brk s') ∧ (fun (bS : (List Int)) => ∃ (c3 : PHeap) (aq : Value), PHeap.le bl c3 ∧ St w0 c3 (Res.arr (encInt .i64) 3 aq bS :: H) w' ∧ f' 8 = Value.pointer none ∧ f' 15 = aq ∧ f' 80 = n ∧ f' 81 = Vi ((aL.length : Int))) s') ?_ ?_
  ·refine W_block (W_forC (fun k' s' f' w' => (fun (ba : (List Int)) => ∃ (c4 : PHeap) (ar : Value), PHeap.le bl c4 ∧ St w0 c4 (Res.arr (encInt .i64) 3 ar ba :: H) w' ∧ f' 8 = Value.pointer none ∧ f' 15 = ar ∧ f' 80 = n ∧ f' 81 = Vi ((aL.length : Int)) ∧ f' 82 = Vi (k' : Int)) s') cP ?_ ?_ ?_)
   ·have d8 := d7.nilArr (encInt .i64) 3
    exact ⟨bl, (Value.slice none 0 0), (Zv _), d8, eR, rfl, rfl, rfl, rfl⟩
   ·intro a ba bz gK im dQ da aa el
    obtain ⟨hu, ar, aY, bB, cn, eT, co, cp, aP⟩ := da
    refine Zc (Zd (Za rfl rfl (Zq rfl aP cp (Zb (Ze (Zc (W_true (Zx (decide_eq_true (by omega))) (W_skip (Ze (Zc (W_block (Zc (Zd (Za rfl rfl (Zm (v := Vi ((a : Int))) rfl aP ?_)))))))))))))))
    obtain ⟨ag, fp, aa⟩ := Zg aa
    refine Za rfl rfl (Exec.index_rep S27 rfl co aP (ae.mono (Zt (Zt ac aG) aY)) fp ?_)
    intro gd gV cI
    refine Za rfl rfl (Zw (E := encLaunch) bB A56 rfl rfl rfl cI ?_)
    intro hC fq
    obtain rfl := encLaunch_val.1 fq
    refine Za rfl rfl (Exec.alloc (cs := [Vi (0), Vi (0)]) bB Z56 rfl rfl ?_)
    intro gf io d9
    refine Za rfl rfl (Zo (v := Vi ((a : Int))) rfl rfl (Za rfl rfl (Exec.store_box (ds := [Vi (ag.At), Vi (ag.Job)]) (es := [Vi (ag.At), Vi (ag.Job)]) d9 A56 rfl rfl rfl rfl (Zj rfl (Zj rfl one_nil)) (Nat.le_of_ble_eq_true rfl) rfl ?_)))
    intro ip dA
    refine Zb (Ze (Zc (Zd (Za rfl rfl (Zm (v := Value.pointer none) rfl cn (Za rfl rfl (Zm (v := Vi ((a : Int))) rfl rfl (Za rfl rfl (Tc rfl rfl rfl (Zi rfl args_nil) (schedule_start_sim (schedule_start_tot (a : Int)) dA ).r ?_)))))))))
    rintro _ iq ⟨hv, bO, dB, rfl⟩
    refine Za rfl rfl (Tc rfl rfl rfl (Zi rfl (Zi rfl args_nil)) (stn_Network_Latest_nil_sim (stn_Network_Latest_nil_tot (schedule_start_t (a : Int))) dB ).r ?_)
    rintro _ ir ⟨c5, bP, aT, rfl⟩
    refine Za rfl rfl (Zm (v := Value.tuple #[Vi ((stn_Network_Latest_nil_t (schedule_start_t (a : Int))).1), errV 60 ((stn_Network_Latest_nil_t (schedule_start_t (a : Int))).2)]) rfl rfl (Za rfl rfl (Exec.extract (v := Vi ((stn_Network_Latest_nil_t (schedule_start_t (a : Int))).1)) rfl rfl rfl (Za rfl rfl (Exec.extract (v := errV 60 ((stn_Network_Latest_nil_t (schedule_start_t (a : Int))).2)) rfl rfl rfl (Za rfl rfl (Zo (v := Vi ((stn_Network_Latest_nil_t (schedule_start_t (a : Int))).1)) rfl rfl (Za rfl rfl (Zo (v := errV 60 ((stn_Network_Latest_nil_t (schedule_start_t (a : Int))).2)) rfl rfl (Zb (Ze (Zc (Zc (Zd (Za rfl rfl (Zm (v := errV 60 ((stn_Network_Latest_nil_t (schedule_start_t (a : Int))).2)) rfl rfl (Za rfl rfl (Exec.err_neq_nil (T := 60) Tryz.underlying31 rfl rfl rfl (Zb (Ze ?_))))))))))))))))))))
    rcases ite_some aa with ⟨a7, aa⟩ | ⟨a7, aa⟩
    ·refine W_cond_t rfl a7 (Zc (Zd (Za rfl rfl (Zm (v := errV 60 ((stn_Network_Latest_nil_t (schedule_start_t (a : Int))).2)) rfl rfl (Za rfl rfl (Zo (v := Value.slice none 0 0) rfl rfl (Za rfl rfl (Zo (v := errV 60 ((stn_Network_Latest_nil_t (schedule_start_t (a : Int))).2)) rfl rfl (Zb (Ze (W_ret (at_ret (ib_ret (at_ret (at_ret (ib_ret (at_ret (at_ret ?_))))))))))))))))))
     have g2 := Zu aa
     subst bz
     have ea := ee _ (el (by intro _ h; cases h))
     have g3 := Zu ea
     subst r
     refine ⟨_, ret2 rfl, ?_⟩
     exact ⟨c5, (Value.slice none 0 0), (Zt (Zt (Zt (Zt (Zt (Zt (Zt j t) aF) ac) aG) aY) bO) bP), ((aT).drop).drop, (tup2 rfl rfl), (SliceRep.nil _ _)⟩
    refine W_cond_f rfl a7 ?_
    replace a7 := Zk a7
    refine W_skip (Ze (Zd (Za rfl rfl (Zm (v := ar) rfl eT (Za rfl rfl (Zm (v := Vi ((stn_Network_Latest_nil_t (schedule_start_t (a : Int))).1)) rfl rfl (Za rfl rfl (Zp F56_0 rfl rfl rfl (Za rfl rfl (Zn (aT) A3 rfl rfl rfl (Za rfl rfl (Exec.sub rfl rfl rfl (Za rfl rfl (Exec.buildSlice (Te := 3) (cs := [Vi (IntKind.i64.wrap (((stn_Network_Latest_nil_t (schedule_start_t (a : Int))).1) - ag.At))]) aT rfl (parts_cons (c := [Vi (IntKind.i64.wrap (((stn_Network_Latest_nil_t (schedule_start_t (a : Int))).1) - ag.At))]) (cells_of rfl rfl) parts_nil) (fun _ => by kernel_rfl) ?_))))))))))))))
    intro gg it dC
    obtain ⟨gP, fr, aa⟩ := Zg aa
    refine Za rfl rfl (Exec.append_box (E := (encInt .i64)) (ys := [IntKind.i64.wrap (((stn_Network_Latest_nil_t (schedule_start_t (a : Int))).1) - ag.At)]) (dC).f2 S22 Z3 rfl (by decide) rfl rfl rfl rfl ⟨[Vi (IntKind.i64.wrap (((stn_Network_Latest_nil_t (schedule_start_t (a : Int))).1) - ag.At))], [], rfl, rfl, rfl⟩ rfl fr ?_)
    intro c8 iu dD
    refine Za rfl rfl (Zo (v := c8) rfl rfl (Zb (ib_normal (Ze (Zd (Za rfl rfl (Exec.add rfl aP rfl (Za rfl rfl (Zm (v := Vi (IntKind.i64.wrap ((a : Int) + 1))) rfl rfl (Zb (Ze ?_)))))))))))
    have g4 := Zu aa
    subst bz
    refine ⟨_, rfl, ?_⟩; exact ⟨c5, c8, (Zt (Zt aY bO) bP), ((dD).f1).drop, cn, rfl, co, cp, (Eq.trans rfl (wrap_up dQ (SliceRep.le (ae.mono (Zt ac aG)))))⟩
   intro ba gL iv db em
   obtain ⟨fC, ar, ex, dE, eU, eV, eW, cq, fR⟩ := db
   refine Zc (Zd (Za rfl rfl (Zq rfl fR cq (Zb (Ze (Zc (W_false (Zx (decide_eq_false (by omega))) (W_exit (at_exit (at_exit (ib_here (Ze ?_))))))))))))
   refine ⟨_, .inl em, ?_⟩; exact ⟨fC, ar, ex, dE, eU, eV, eW, cq⟩
  rintro gM iw ⟨bS, bF, df⟩
  have hm := bF.elim (dU _) (dK _)
  clear bF
  obtain ⟨hw, aq, ey, dF, hh, eX, hi, hj⟩ := df
  refine (Ze (Zc (Zd (Za rfl rfl (Zm (v := aq) rfl eX (Za rfl rfl (Zo (v := aq) rfl rfl (Za rfl rfl (Zo (v := errV 60 (none)) rfl rfl (Zb (Ze (W_ret ?_))))))))))))
  have g5 := Zu hm
  subst r
  refine ⟨_, ret2 rfl, ?_⟩
  obtain ⟨fD, ez, dG, ft⟩ := dF.freezeArr
  exact ⟨fD, aq, (Zt (Zt (Zt (Zt (Zt (Zt j t) aF) ac) aG) ey) ez), dG, (tup2 rfl rfl), ft⟩
 replace hm := optC_none hm
 refine Za rfl rfl (Zm (v := Value.tuple #[Value.pointer none, errV 60 (o)]) rfl rfl (Za rfl rfl (Exec.extract (v := Value.pointer none) rfl rfl rfl (Za rfl rfl (Exec.extract (v := errV 60 (o)) rfl rfl rfl (Za rfl rfl (Zo (v := Value.pointer none) rfl rfl (Za rfl rfl (Zo (v := errV 60 (o)) rfl rfl (Zb (Ze (Zc (Zc (Zd (Za rfl rfl (Zm (v := errV 60 (o)) rfl rfl (Za rfl rfl (Exec.err_neq_nil (T := 60) Tryz.underlying31 rfl rfl rfl (Zb (Ze ?_))))))))))))))))))))
 rcases ite_some hm with ⟨a8, hm⟩ | ⟨a8, hm⟩
 ·refine W_cond_t rfl a8 (Zc (Zd (Za rfl rfl (Zm (v := errV 60 (o)) rfl rfl (Za rfl rfl (Zo (v := Value.slice none 0 0) rfl rfl (Za rfl rfl (Zo (v := errV 60 (o)) rfl rfl (Zb (Ze (W_ret (at_ret ?_))))))))))))
  have g6 := Zu hm
  subst r
  refine ⟨_, ret2 rfl, ?_⟩
  exact ⟨fv, (Value.slice none 0 0), ep, (dg).drop, (tup2 rfl rfl), (SliceRep.nil _ _)⟩
 refine W_cond_f rfl a8 ?_
 replace a8 := Zk a8
 refine W_skip (Ze (Zc ?_))
 cases hm
theorem IS56 : intStruct Tryz.prog 56 2 = true := by kernel_rfl
theorem law57_equal_sim {w0 w : World} {s : PHeap} {H : List Res} {j : (List Launch)} {q : (List Launch)} {b : Value} {c : Value} {r : Bool} (hm : law57_equal_p j q = some r) (hS : St w0 s (H) w) (l : SliceRep encLaunch s b j) (p : SliceRep encLaunch s c q) :
  Calls Tryz.prog 11 #[b, c] w fun e w' => ∃ v, e = .returned v ∧ ((fun (aA : Bool) => ∃ (ac : PHeap) , PHeap.le s ac ∧ St w0 ac (H) w' ∧ v = Value.bool (aA)) r) := by
 unfold law57_equal_p at hm
 refine calls_of_W Tryz.func11 rfl rfl (Zc (Zd (Za rfl rfl (Zo (v := Value.bool (false)) rfl rfl (Zb (Ze (Zc (Zc (Zd (Za rfl rfl (Zm (v := b) rfl rfl (Za rfl rfl (Zr S27 rfl rfl l (Za rfl rfl (Zm (v := c) rfl rfl (Za rfl rfl (Zr S27 rfl rfl p (Za rfl rfl (Exec.neq rfl rfl rfl (Zb (Ze ?_)))))))))))))))))))))
 rcases ite_some hm with ⟨d, hm⟩ | ⟨d, hm⟩
 ·refine W_cond_t rfl d (Zc (Zd (Za rfl rfl (Zo (v := Value.bool (false)) rfl rfl (Zb (Ze (W_ret (at_ret ?_))))))))
  have aD := Zu hm
  subst r
  refine ⟨_, ret1 rfl, ?_⟩
  exact ⟨s, (Zv _), hS, rfl⟩
 refine W_cond_f rfl d ?_
 replace d := Zk d
 refine W_skip (Ze (Zc (Zc (Zd (Za rfl rfl (Zm (v := b) rfl rfl (Za rfl rfl (Zr S27 rfl rfl l (Za rfl rfl (Zm (v := Vi (0)) rfl rfl (Zb (Ze ?_))))))))))))
 obtain ⟨t, ak, aw, au, aq⟩ := ctl_some hm
 refine W_mid (M := fun f' w' => ∃ s', (t = .next s' ∨ t = .brk s') ∧ (fun (_ : Unit) => ∃ (ad : PHeap) , PHeap.le s ad ∧ St w0 ad (H) w' ∧ f' 0 = b ∧ f' 1 = c ∧ f' 12 = Vi ((j.length : Int))) s') ?_ ?_
 ·refine W_block (W_forC (fun k' s' f' w' => (fun (_ : Unit) => ∃ (ae : PHeap) , PHeap.le s ae ∧ St w0 ae (H) w' ∧ f' 0 = b ∧ f' 1 = c ∧ f' 12 = Vi ((j.length : Int)) ∧ f' 13 = Vi (k' : Int)) s') ak ?_ ?_ ?_)
  ·exact ⟨s, (Zv _), hS, rfl, rfl, rfl, rfl⟩
  ·intro i aS u aK aX ar al a ax
   obtain ⟨af, n, m, y, z, aa, o⟩ := al
   refine Zc (Zd (Za rfl rfl (Zq rfl o aa (Zb (Ze (Zc (W_true (Zx (decide_eq_true (by omega))) (W_skip (Ze (Zc (W_block (Zc (Zd (Za rfl rfl (Zm (v := Vi ((i : Int))) rfl o (Za rfl rfl (Zo (v := Vi ((i : Int))) rfl rfl (Zb (Ze (Zc (W_dl (n0 := 9) (qs 0 9 .done) hmix (by kernel_rfl) (by kernel_rfl) (DL_q rfl rfl (Zm (v := b) rfl y ⟨rfl, ?_⟩)))))))))))))))))))))))
   refine DL_q rfl rfl (Zm (v := Vi ((i : Int))) rfl rfl ⟨rfl, ?_⟩)
   obtain ⟨ag, a3, a⟩ := Zg a
   refine DL_q rfl rfl (Exec.index_repE S27 rfl rfl rfl (l.mono n) a3 ?_)
   intro aB aN ai aE
   refine ⟨rfl, ?_⟩
   refine DL_q rfl rfl (Zw (E := encLaunch) m.drew A56 rfl rfl rfl ai ?_)
   intro aV a4
   obtain rfl := encLaunch_val.1 a4
   refine ⟨rfl, ?_⟩
   refine DL_q rfl rfl (Zm (v := c) rfl z ⟨rfl, ?_⟩)
   refine DL_q rfl rfl (Zm (v := Vi ((i : Int))) rfl rfl ⟨rfl, ?_⟩)
   obtain ⟨ah, a5, a⟩ := Zg a
   refine DL_q rfl rfl (Exec.index_repE S27 rfl rfl rfl (p.mono n) a5 ?_)
   intro aC aO aj aF
   refine ⟨rfl, ?_⟩
   refine DL_q rfl rfl (Zw (E := encLaunch) m.drew A56 rfl rfl rfl aj ?_)
   intro aW a6
   obtain rfl := encLaunch_val.1 a6
   refine ⟨rfl, ?_⟩
   refine DL_q rfl rfl (Exec.ints_neq (xs := [ag.At, ag.Job]) (ys := [ah.At, ah.Job]) IS56 rfl rfl rfl rfl rfl rfl rfl ⟨rfl, ?_⟩)
   refine DL_done (Zb (Ze ?_))
   rcases ite_some a with ⟨g, a⟩ | ⟨g, a⟩
   ·refine W_cond_t rfl g (Zc (Zd (Za rfl rfl (Zo (v := Value.bool (false)) rfl rfl (Zb (Ze (W_ret (ib_ret (at_ret (at_ret (ib_ret (at_ret (at_ret ?_)))))))))))))
    have aG := Zu a
    subst u
    have av := aw _ (ax (by intro _ h; cases h))
    have aH := Zu av
    subst r
    refine ⟨_, ret1 rfl, ?_⟩
    exact ⟨af, n, m.drew, rfl⟩
   refine W_cond_f rfl g ?_
   replace g := Zk g
   refine W_skip (ib_normal (Ze (Zd (Za rfl rfl (Exec.add rfl o rfl (Za rfl rfl (Zm (v := Vi (IntKind.i64.wrap ((i : Int) + 1))) rfl rfl (Zb (Ze ?_)))))))))
   have aI := Zu a
   subst u
   refine ⟨_, rfl, ?_⟩; exact ⟨af, n, m.drew, y, z, aa, (Eq.trans rfl (wrap_up ar (SliceRep.le l)))⟩
  intro aT aL aY am ay
  obtain ⟨a7, az, ao, a1, a2, ab, a9⟩ := am
  refine Zc (Zd (Za rfl rfl (Zq rfl a9 ab (Zb (Ze (Zc (W_false (Zx (decide_eq_false (by omega))) (W_exit (at_exit (at_exit (ib_here (Ze ?_))))))))))))
  refine ⟨_, .inl ay, ?_⟩; exact ⟨a7, az, ao, a1, a2, ab⟩
 rintro aM aZ ⟨aU, x, an⟩
 have hm := x.elim (au _) (aq _)
 clear x
 obtain ⟨a8, a0, ap, aP, aQ, aR⟩ := an
 refine (Ze (Zc (Zd (Za rfl rfl (Zo (v := Value.bool (true)) rfl rfl (Zb (Ze (W_ret ?_))))))))
 have aJ := Zu hm
 subst r
 refine ⟨_, ret1 rfl, ?_⟩
 exact ⟨a8, a0, ap, rfl⟩
theorem base_Ints_sim {w0 w : World} {s : PHeap} {H : List Res} {j : (List Int)} {q : (List Int)} {b : Value} {c : Value} {r : Bool} (hm : base_Ints_p j q = some r) (hS : St w0 s (H) w) (l : SliceRep (encInt .i64) s b j) (p : SliceRep (encInt .i64) s c q) :
  Calls Tryz.prog 13 #[b, c] w fun e w' => ∃ v, e = .returned v ∧ ((fun (a8 : Bool) => ∃ (ac : PHeap) , PHeap.le s ac ∧ St w0 ac (H) w' ∧ v = Value.bool (a8)) r) := by
 unfold base_Ints_p at hm
 refine calls_of_W Tryz.func13 rfl rfl (Zc (Zd (Za rfl rfl (Zo (v := Value.bool (false)) rfl rfl (Zb (Ze (Zc (Zc (Zd (Za rfl rfl (Zm (v := b) rfl rfl (Za rfl rfl (Zr S22 rfl rfl l (Za rfl rfl (Zm (v := c) rfl rfl (Za rfl rfl (Zr S22 rfl rfl p (Za rfl rfl (Exec.neq rfl rfl rfl (Zb (Ze ?_)))))))))))))))))))))
 rcases ite_some hm with ⟨d, hm⟩ | ⟨d, hm⟩
 ·refine W_cond_t rfl d (Zc (Zd (Za rfl rfl (Zo (v := Value.bool (false)) rfl rfl (Zb (Ze (W_ret (at_ret ?_))))))))
  have aB := Zu hm
  subst r
  refine ⟨_, ret1 rfl, ?_⟩
  exact ⟨s, (Zv _), hS, rfl⟩
 refine W_cond_f rfl d ?_
 replace d := Zk d
 refine W_skip (Ze (Zc (Zc (Zd (Za rfl rfl (Zm (v := b) rfl rfl (Za rfl rfl (Zr S22 rfl rfl l (Za rfl rfl (Zm (v := Vi (0)) rfl rfl (Zb (Ze ?_))))))))))))
 obtain ⟨t, ai, au, aq, ao⟩ := ctl_some hm
 refine W_mid (M := fun f' w' => ∃ s', (t = .next s' ∨ t = .brk s') ∧ (fun (_ : Unit) => ∃ (ad : PHeap) , PHeap.le s ad ∧ St w0 ad (H) w' ∧ f' 0 = b ∧ f' 1 = c ∧ f' 12 = Vi ((j.length : Int))) s') ?_ ?_
 ·refine W_block (W_forC (fun k' s' f' w' => (fun (_ : Unit) => ∃ (ae : PHeap) , PHeap.le s ae ∧ St w0 ae (H) w' ∧ f' 0 = b ∧ f' 1 = c ∧ f' 12 = Vi ((j.length : Int)) ∧ f' 13 = Vi (k' : Int)) s') ai ?_ ?_ ?_)
  ·exact ⟨s, (Zv _), hS, rfl, rfl, rfl, rfl⟩
  ·intro i aQ u aI aV ap aj a av
   obtain ⟨af, n, m, y, z, aa, o⟩ := aj
   refine Zc (Zd (Za rfl rfl (Zq rfl o aa (Zb (Ze (Zc (W_true (Zx (decide_eq_true (by omega))) (W_skip (Ze (Zc (W_block (Zc (Zd (Za rfl rfl (Zm (v := Vi ((i : Int))) rfl o (Za rfl rfl (Zo (v := Vi ((i : Int))) rfl rfl (Zb (Ze (Zc (W_dl (n0 := 9) (qs 0 9 .done) hmix (by kernel_rfl) (by kernel_rfl) (DL_q rfl rfl (Zm (v := b) rfl y ⟨rfl, ?_⟩)))))))))))))))))))))))
   refine DL_q rfl rfl (Zm (v := Vi ((i : Int))) rfl rfl ⟨rfl, ?_⟩)
   obtain ⟨aY, a1, a⟩ := Zg a
   refine DL_q rfl rfl (Exec.index_repE S22 rfl rfl rfl (l.mono n) a1 ?_)
   intro a9 aL ag aC
   refine ⟨rfl, ?_⟩
   refine DL_q rfl rfl (Zw (E := (encInt .i64)) m.drew A3 rfl rfl rfl ag ?_)
   intro aT a2
   obtain rfl := encInt_val.1 a2
   refine ⟨rfl, ?_⟩
   refine DL_q rfl rfl (Zm (v := c) rfl z ⟨rfl, ?_⟩)
   refine DL_q rfl rfl (Zm (v := Vi ((i : Int))) rfl rfl ⟨rfl, ?_⟩)
   obtain ⟨aZ, a3, a⟩ := Zg a
   refine DL_q rfl rfl (Exec.index_repE S22 rfl rfl rfl (p.mono n) a3 ?_)
   intro aA aM ah aD
   refine ⟨rfl, ?_⟩
   refine DL_q rfl rfl (Zw (E := (encInt .i64)) m.drew A3 rfl rfl rfl ah ?_)
   intro aU a4
   obtain rfl := encInt_val.1 a4
   refine ⟨rfl, ?_⟩
   refine DL_q rfl rfl (Exec.neq rfl rfl rfl ⟨rfl, ?_⟩)
   refine DL_done (Zb (Ze ?_))
   rcases ite_some a with ⟨g, a⟩ | ⟨g, a⟩
   ·refine W_cond_t rfl g (Zc (Zd (Za rfl rfl (Zo (v := Value.bool (false)) rfl rfl (Zb (Ze (W_ret (ib_ret (at_ret (at_ret (ib_ret (at_ret (at_ret ?_)))))))))))))
    have aE := Zu a
    subst u
    have ar := au _ (av (by intro _ h; cases h))
    have aF := Zu ar
    subst r
    refine ⟨_, ret1 rfl, ?_⟩
    exact ⟨af, n, m.drew, rfl⟩
   refine W_cond_f rfl g ?_
   replace g := Zk g
   refine W_skip (ib_normal (Ze (Zd (Za rfl rfl (Exec.add rfl o rfl (Za rfl rfl (Zm (v := Vi (IntKind.i64.wrap ((i : Int) + 1))) rfl rfl (Zb (Ze ?_)))))))))
   have aG := Zu a
   subst u
   refine ⟨_, rfl, ?_⟩; exact ⟨af, n, m.drew, y, z, aa, (Eq.trans rfl (wrap_up ap (SliceRep.le l)))⟩
  intro aR aJ aW ak aw
  obtain ⟨a5, ax, am, az, a0, ab, a7⟩ := ak
  refine Zc (Zd (Za rfl rfl (Zq rfl a7 ab (Zb (Ze (Zc (W_false (Zx (decide_eq_false (by omega))) (W_exit (at_exit (at_exit (ib_here (Ze ?_))))))))))))
  refine ⟨_, .inl aw, ?_⟩; exact ⟨a5, ax, am, az, a0, ab⟩
 rintro aK aX ⟨aS, x, al⟩
 have hm := x.elim (aq _) (ao _)
 clear x
 obtain ⟨a6, ay, an, aN, aO, aP⟩ := al
 refine (Ze (Zc (Zd (Za rfl rfl (Zo (v := Value.bool (true)) rfl rfl (Zb (Ze (W_ret ?_))))))))
 have aH := Zu hm
 subst r
 refine ⟨_, ret1 rfl, ?_⟩
 exact ⟨a6, ay, an, rfl⟩
theorem law57_awake_sim {w0 w : World} {s : PHeap} {H : List Res}   {r : Bool} (hm : law57_awake_p  = some r) (hS : St w0 s (H) w)  :
  Calls Tryz.prog 6 #[] w fun e w' => ∃ v, e = .returned v ∧ ((fun (y22 : Bool) => ∃ (ac : PHeap) , PHeap.le s ac ∧ St w0 ac (H) w' ∧ v = Value.bool (y22)) r) := by
 unfold law57_awake_p at hm
 refine calls_of_W Tryz.func6 rfl rfl (Zc (Zd (Za rfl rfl (Zo (v := Value.bool (false)) rfl rfl (Zb (Ze (Zc (Zd (Za rfl rfl (Exec.build rfl (parts_cons (c := [Vi (4)]) (cells_of rfl rfl) (parts_cons (c := [Vi (0)]) (cells_of rfl rfl) parts_nil)) (v := Value.agg #[Vi (4), Vi (0)]) (fun _ => by kernel_rfl) (Za rfl rfl (Exec.build rfl (parts_cons (c := [Vi (5)]) (cells_of rfl rfl) (parts_cons (c := [Vi (2)]) (cells_of rfl rfl) parts_nil)) (v := Value.agg #[Vi (5), Vi (2)]) (fun _ => by kernel_rfl) (Za rfl rfl (Exec.build rfl (parts_cons (c := [Vi (10)]) (cells_of rfl rfl) (parts_cons (c := [Vi (1)]) (cells_of rfl rfl) parts_nil)) (v := Value.agg #[Vi (10), Vi (1)]) (fun _ => by kernel_rfl) (Za rfl rfl (Exec.buildSlice (Te := 56) (cs := [Vi (4), Vi (0), Vi (5), Vi (2), Vi (10), Vi (1)]) hS rfl (parts_cons (c := [Vi (4), Vi (0)]) (cells_of rfl rfl) (parts_cons (c := [Vi (5), Vi (2)]) (cells_of rfl rfl) (parts_cons (c := [Vi (10), Vi (1)]) (cells_of rfl rfl) parts_nil))) (fun _ => by kernel_rfl) ?_))))))))))))))))
 intro o bg af
 refine Za rfl rfl (Zo (v := Value.slice (some ⟨o, 0, none⟩) 3 3) rfl rfl (Zb (Ze (Zc (Zd (Za rfl rfl (Tc rfl rfl rfl args_nil (law57_delivery_sim law57_delivery_tot af ).r ?_)))))))
 rintro _ bh ⟨aS, aY, aZ, ba, bb, av, ag, rfl, a3, a4, a5, a6⟩
 refine Za rfl rfl (Zm (v := Value.slice (some ⟨o, 0, none⟩) 3 3) rfl rfl ?_)
 have ah := St.boxArr (E := encLaunch) (xs := [(⟨4, 0⟩ : Launch), (⟨5, 2⟩ : Launch), (⟨10, 1⟩ : Launch)]) ag ⟨[Vi (4), Vi (0)], [Vi (5), Vi (2), Vi (10), Vi (1)], rfl, ⟨[Vi (4)], [Vi (0)], rfl, rfl, rfl⟩, ⟨[Vi (5), Vi (2)], [Vi (10), Vi (1)], rfl, ⟨[Vi (5)], [Vi (2)], rfl, rfl, rfl⟩, ⟨[Vi (10), Vi (1)], [], rfl, ⟨[Vi (10)], [Vi (1)], rfl, rfl, rfl⟩, rfl⟩⟩⟩ (by simp [maxLen])
 obtain ⟨aT, i, ai, ab⟩ := ah.freezeArr
 obtain ⟨aI, az, hm⟩ := Zg hm
 obtain ⟨bq, j⟩ := aI
 replace hm := un2_eq hm
 refine Za rfl rfl (Tc rfl rfl rfl (Zi rfl (Zi rfl args_nil)) (schedule_Shift_sim az ai (a3.mono i) (a4.mono i) (a5.mono i) (a6.mono i) ab).r ?_)
 rintro _ bi ⟨aU, l, y, aj, rfl, a7⟩
 refine Za rfl rfl (Zm (v := Value.tuple #[l, errV 60 (j)]) rfl rfl (Za rfl rfl (Exec.extract (v := l) rfl rfl rfl (Za rfl rfl (Exec.extract (v := errV 60 (j)) rfl rfl rfl (Za rfl rfl (Zo (v := l) rfl rfl (Za rfl rfl (Zo (v := errV 60 (j)) rfl rfl (Zb (Ze (Zc (Zd (Za rfl rfl (Tc rfl rfl rfl args_nil (law57_delivery_sim law57_delivery_tot aj ).r ?_)))))))))))))))
 rintro _ bj ⟨aV, bc, bd, be, bf, q, ak, rfl, a8, a9, aA, aB⟩
 refine Za rfl rfl (Zm (v := Value.slice (some ⟨o, 0, none⟩) 3 3) rfl rfl ?_)
 obtain ⟨aJ, a0, hm⟩ := Zg hm
 obtain ⟨br, n⟩ := aJ
 replace hm := un2_eq hm
 refine Za rfl rfl (Tc rfl rfl rfl (Zi rfl (Zi rfl args_nil)) (schedule_Slack_sim a0 ak a8 a9 aA aB (ab.mono (Zt y q))).r ?_)
 rintro _ bk ⟨u, m, z, p, rfl, aC⟩
 refine Za rfl rfl (Zm (v := Value.tuple #[m, errV 60 (n)]) rfl rfl (Za rfl rfl (Exec.extract (v := m) rfl rfl rfl (Za rfl rfl (Exec.extract (v := errV 60 (n)) rfl rfl rfl (Za rfl rfl (Zo (v := m) rfl rfl (Za rfl rfl (Zo (v := errV 60 (n)) rfl rfl (Zb (Ze (Zc ?_))))))))))))
 obtain ⟨h, a, hm⟩ := Zg hm
 refine W_mid (M := fun f' w' => (fun (h : Bool) => ∃ (ad : PHeap) , PHeap.le u ad ∧ St w0 ad (H) w' ∧ f' 0 = Value.bool (h)) h) ?_ ?_
 ·refine Zd (Za rfl rfl (Zm (v := errV 60 (j)) rfl rfl (Za rfl rfl (Exec.err_eql_nil (T := 60) Tryz.underlying31 rfl rfl rfl (Za rfl rfl (Zm (v := Value.bool (j.isNone)) rfl rfl ?_))))))
  rcases ite_some a with ⟨g, a⟩ | ⟨g, a⟩
  ·refine WL_run rfl (Zf rfl (Zx g)) rfl (Zm (v := errV 60 (n)) rfl rfl (WL_run rfl (Zf rfl (Zx g)) rfl (Exec.err_eql_nil (T := 60) Tryz.underlying31 rfl rfl rfl ?_)))
   refine WL_passes 2 (by rw [g]; rfl) ?_
   rcases ite_some a with ⟨b, a⟩ | ⟨b, a⟩
   ·refine WL_run rfl (Zf rfl (Zx b)) rfl (Zm (v := l) rfl rfl (WL_run rfl (Zf rfl (Zx b)) rfl (Exec.build rfl (parts_cons (c := [Vi (0)]) (cells_of rfl rfl) (parts_cons (c := [Vi (0)]) (cells_of rfl rfl) parts_nil)) (v := Value.agg #[Vi (0), Vi (0)]) (fun _ => by kernel_rfl) (WL_run rfl (Zf rfl (Zx b)) rfl (Exec.build rfl (parts_cons (c := [Vi (0)]) (cells_of rfl rfl) (parts_cons (c := [Vi (2)]) (cells_of rfl rfl) parts_nil)) (v := Value.agg #[Vi (0), Vi (2)]) (fun _ => by kernel_rfl) (WL_run rfl (Zf rfl (Zx b)) rfl (Exec.build rfl (parts_cons (c := [Vi (3)]) (cells_of rfl rfl) (parts_cons (c := [Vi (1)]) (cells_of rfl rfl) parts_nil)) (v := Value.agg #[Vi (3), Vi (1)]) (fun _ => by kernel_rfl) (WL_run rfl (Zf rfl (Zx b)) rfl (Exec.buildSlice (Te := 56) (cs := [Vi (0), Vi (0), Vi (0), Vi (2), Vi (3), Vi (1)]) p rfl (parts_cons (c := [Vi (0), Vi (0)]) (cells_of rfl rfl) (parts_cons (c := [Vi (0), Vi (2)]) (cells_of rfl rfl) (parts_cons (c := [Vi (3), Vi (1)]) (cells_of rfl rfl) parts_nil))) (fun _ => by kernel_rfl) ?_)))))))))
    intro aK bl al
    have am := St.boxArr (E := encLaunch) (xs := [(⟨0, 0⟩ : Launch), (⟨0, 2⟩ : Launch), (⟨3, 1⟩ : Launch)]) al ⟨[Vi (0), Vi (0)], [Vi (0), Vi (2), Vi (3), Vi (1)], rfl, ⟨[Vi (0)], [Vi (0)], rfl, rfl, rfl⟩, ⟨[Vi (0), Vi (2)], [Vi (3), Vi (1)], rfl, ⟨[Vi (0)], [Vi (2)], rfl, rfl, rfl⟩, ⟨[Vi (3), Vi (1)], [], rfl, ⟨[Vi (3)], [Vi (1)], rfl, rfl, rfl⟩, rfl⟩⟩⟩ (by simp [maxLen])
    obtain ⟨aW, k, an, aD⟩ := am.freezeArr
    obtain ⟨bs, a1, a⟩ := Zg a
    refine WL_run rfl (Zf rfl (Zx b)) rfl (Tc rfl rfl rfl (Zi rfl (Zi rfl args_nil)) (law57_equal_sim a1 an (a7.mono (Zt (Zt q z) k)) aD).r ?_)
    rintro _ bm ⟨aF, t, x, rfl⟩
    refine WL_passes 2 (by rw [b]; rfl) ?_
    rcases ite_some a with ⟨d, a⟩ | ⟨d, a⟩
    ·refine WL_run rfl (Zf rfl (Zx d)) rfl (Zm (v := m) rfl rfl (WL_run rfl (Zf rfl (Zx d)) rfl (Exec.buildSlice (Te := 3) (cs := [Vi (0), Vi (5), Vi (0)]) x rfl (parts_cons (c := [Vi (0)]) (cells_of rfl rfl) (parts_cons (c := [Vi (5)]) (cells_of rfl rfl) (parts_cons (c := [Vi (0)]) (cells_of rfl rfl) parts_nil))) (fun _ => by kernel_rfl) ?_)))
     intro aL bn ao
     have ap := St.boxArr (E := (encInt .i64)) (xs := [0, 5, 0]) ao ⟨[Vi (0)], [Vi (5), Vi (0)], rfl, rfl, ⟨[Vi (5)], [Vi (0)], rfl, rfl, ⟨[Vi (0)], [], rfl, rfl, rfl⟩⟩⟩ (by simp [maxLen])
     obtain ⟨aX, aa, aq, aE⟩ := ap.freezeArr
     obtain ⟨bt, a2, a⟩ := Zg a
     refine WL_run rfl (Zf rfl (Zx d)) rfl (Tc rfl rfl rfl (Zi rfl (Zi rfl args_nil)) (base_Ints_sim a2 aq (aC.mono (Zt (Zt k t) aa)) aE).r ?_)
     rintro _ bo ⟨aG, aw, ar, rfl⟩
     refine WL_passes 2 (by rw [d]; rfl) ?_
     refine Zb (Ze ?_)
     have aM := Zu a
     subst h
     exact ⟨aG, (Zt (Zt (Zt k t) aa) aw), ar, rfl⟩
    replace d := Zk d
    refine WL_passes 5 (by rw [d]; rfl) ?_
    refine Zb (Ze ?_)
    have aN := Zu a
    subst h
    exact ⟨aF, (Zt k t), x, rfl⟩
   replace b := Zk b
   refine WL_passes 13 (by rw [b]; rfl) ?_
   refine Zb (Ze ?_)
   have aO := Zu a
   subst h
   exact ⟨u, (Zv _), p, rfl⟩
  replace g := Zk g
  refine WL_passes 17 (by rw [g]; rfl) ?_
  refine Zb (Ze ?_)
  have aP := Zu a
  subst h
  exact ⟨u, (Zv _), p, rfl⟩
 intro aR bp ae
 obtain ⟨aH, ax, au, ay⟩ := ae
 refine (Ze (W_ret ?_))
 have aQ := Zu hm
 subst r
 refine ⟨_, ret1 rfl, ?_⟩
 exact ⟨aH, (Zt (Zt (Zt (Zt (Zt av i) y) q) z) ax), au, ay⟩
theorem law57_few_sim {w0 w : World} {s : PHeap} {H : List Res} {b : Temporal} {u : (List Launch)} {y : Value} {z : Value} {aa : Value} {n : Value} {ah : Value} {r : Bool} (hm : law57_few_p b u = some r) (hS : St w0 s (H) w) (aB : SliceRep (encInt .i64) s y b.Vars) (bj : SliceRep (encInt .i64) s z b.Init) (aC : SliceRep encFact s aa b.Goal) (t : SliceRep encJob s n b.Jobs) (aD : SliceRep encLaunch s ah u) :
  Calls Tryz.prog 7 #[Value.agg #[y, z, aa, n], ah] w fun e w' => ∃ v, e = .returned v ∧ ((fun (bi : Bool) => ∃ (a0 : PHeap) , PHeap.le s a0 ∧ St w0 a0 (H) w' ∧ v = Value.bool (bi)) r) := by
 unfold law57_few_p at hm
 refine calls_of_W Tryz.func7 rfl rfl (Zc (Zd (Za rfl rfl (Exec.box (cs := [y, z, aa, n]) hS rfl rfl rfl ?_))))
 intro ai b4 l
 refine Za rfl rfl (Zo (v := Value.bool (false)) rfl rfl (Zb (Ze (Zc (Zc (W_mid (M := fun f' w' => ∃ (a1 : PHeap) , PHeap.le s a1 ∧ St w0 a1 (Res.box ai 26 [y, z, aa, n] :: H) w' ∧ f' 2 = Value.pointer (some ⟨ai, 0, none⟩) ∧ f' 27 = Value.bool (((decide (70 < (b.Vars.length : Int))) || ((decide (30 < (b.Jobs.length : Int))) || ((decide (12 < (u.length : Int))) || decide (80 < (b.Goal.length : Int))))))) ?_ ?_))))))
 ·refine Zd (Za rfl rfl (Zp F26_0 rfl rfl rfl (Za rfl rfl (Zn (l) A22 rfl rfl rfl (Za rfl rfl (Zr S22 rfl rfl aB (Za rfl rfl (Exec.gtr rfl rfl rfl (Za rfl rfl (Zm (v := Value.bool (decide (70 < (b.Vars.length : Int)))) rfl rfl ?_))))))))))
  by_cases c : (decide (70 < (b.Vars.length : Int))) = true
  ·refine WL_passes 16 (by rw [c]; rfl) ?_
   refine Zb (Ze ?_)
   exact ⟨s, (Zv _), l, rfl, (Zx (or_t c)).symm⟩
  replace c := Zk c
  refine WL_run rfl (Zf rfl (Zx c)) rfl (Zp F26_3 rfl rfl rfl (WL_run rfl (Zf rfl (Zx c)) rfl (Zn (l) A24 rfl rfl rfl (WL_run rfl (Zf rfl (Zx c)) rfl (Zr S24 rfl rfl t (WL_run rfl (Zf rfl (Zx c)) rfl (Exec.gtr rfl rfl rfl ?_)))))))
  refine WL_passes 2 (by rw [c]; rfl) ?_
  by_cases d : (decide (30 < (b.Jobs.length : Int))) = true
  ·refine WL_passes 10 (by rw [d]; rfl) ?_
   refine Zb (Ze ?_)
   exact ⟨s, (Zv _), l, rfl, (Zx (Eq.trans (or_f c) (or_t d))).symm⟩
  replace d := Zk d
  refine WL_run rfl (Zf rfl (Zx d)) rfl (Zm (v := ah) rfl rfl (WL_run rfl (Zf rfl (Zx d)) rfl (Zr S27 rfl rfl aD (WL_run rfl (Zf rfl (Zx d)) rfl (Exec.gtr rfl rfl rfl ?_)))))
  refine WL_passes 2 (by rw [d]; rfl) ?_
  by_cases g : (decide (12 < (u.length : Int))) = true
  ·refine WL_passes 5 (by rw [g]; rfl) ?_
   refine Zb (Ze ?_)
   exact ⟨s, (Zv _), l, rfl, (Zx (Eq.trans (or_f c) (Eq.trans (or_f d) (or_t g)))).symm⟩
  replace g := Zk g
  refine WL_run rfl (Zf rfl (Zx g)) rfl (Zp F26_2 rfl rfl rfl (WL_run rfl (Zf rfl (Zx g)) rfl (Zn (l) A23 rfl rfl rfl (WL_run rfl (Zf rfl (Zx g)) rfl (Zr S23 rfl rfl aC (WL_run rfl (Zf rfl (Zx g)) rfl (Exec.gtr rfl rfl rfl (Za rfl rfl (Exec.pick_f (v := Value.bool (decide (80 < (b.Goal.length : Int)))) rfl (Zx g) rfl (Zb (Ze ?_)))))))))))
  exact ⟨s, (Zv _), l, rfl, (Zx (Eq.trans (or_f c) (Eq.trans (or_f d) (or_f g)))).symm⟩
 intro br b5 aI
 obtain ⟨x, o, ac, aY, aq⟩ := aI
 refine (Ze ?_)
 rcases ite_some hm with ⟨p, hm⟩ | ⟨p, hm⟩
 ·refine W_cond_t aq p (Zc (Zd (Za rfl rfl (Zo (v := Value.bool (false)) rfl rfl (Zb (Ze (W_ret (at_ret ?_))))))))
  have bm := Zu hm
  subst r
  refine ⟨_, ret1 rfl, ?_⟩
  exact ⟨x, o, (ac).drop, rfl⟩
 refine W_cond_f aq p ?_
 replace p := Zk p
 refine W_skip (Ze (Zc (Zc (Zd (Za rfl rfl (Zp F26_3 rfl aY rfl (Za rfl rfl (Zn (ac) A24 rfl rfl rfl (Za rfl rfl (Zr S24 rfl rfl (t.mono o) (Za rfl rfl (Zm (v := Vi (0)) rfl rfl (Zb (Ze ?_))))))))))))))
 obtain ⟨aj, aF, aT, aR, aP⟩ := ctl_some hm
 refine W_mid (M := fun f' w' => ∃ s', (aj = .next s' ∨ aj = .brk s') ∧ (fun (_ : Unit) => ∃ (a2 : PHeap) , PHeap.le x a2 ∧ St w0 a2 (H) w' ∧ f' 29 = n ∧ f' 30 = Vi ((b.Jobs.length : Int))) s') ?_ ?_
 ·refine W_block (W_forC (fun k' s' f' w' => (fun (_ : Unit) => ∃ (a3 : PHeap) , PHeap.le x a3 ∧ St w0 a3 (H) w' ∧ f' 29 = n ∧ f' 30 = Vi ((b.Jobs.length : Int)) ∧ f' 31 = Vi (k' : Int)) s') aF ?_ ?_ ?_)
  ·have aL := (ac).drop
   exact ⟨x, (Zv _), aL, rfl, rfl, rfl⟩
  ·intro ao b0 ak bs b6 aQ aG m aU
   obtain ⟨ag, ad, al, ae, af, ab⟩ := aG
   refine Zc (Zd (Za rfl rfl (Zq rfl ab af (Zb (Ze (Zc (W_true (Zx (decide_eq_true (by omega))) (W_skip (Ze (Zc (W_block (Zc (Zd ?_)))))))))))))
   obtain ⟨a, bd, m⟩ := Zg m
   refine Za rfl rfl (Exec.index_rep S24 rfl ae ab (t.mono (Zt o ad)) bd ?_)
   intro bk bw aE
   refine Za rfl rfl (Zw (E := encJob) al A63 rfl rfl rfl aE ?_)
   intro b3 be
   obtain ⟨a6, a7, a8, a9, aA, rfl, av, aw, ax, ay, az⟩ := encJob_val.1 be
   refine Za rfl rfl (Exec.alloc (cs := [Value.string (⟨#[]⟩), Vi (0), Value.slice none 0 0, Value.slice none 0 0, Value.slice none 0 0, Value.slice none 0 0, Value.slice none 0 0]) al Z63 rfl rfl ?_)
   intro bl b7 aM
   refine Za rfl rfl (Exec.store_box (ds := [Value.string (a.Name), Vi (a.Duration), a6, a7, a8, a9, aA]) (es := [Value.string (a.Name), Vi (a.Duration), a6, a7, a8, a9, aA]) aM A63 rfl rfl rfl rfl (Zj rfl (Zj rfl (Zj (av).one (Zj (aw).one (Zj (ax).one (Zj (ay).one (Zj (az).one one_nil))))))) (Nat.le_of_ble_eq_true rfl) rfl ?_)
   intro b8 j
   refine Zb (Ze (Zc (W_mid (M := fun f' w' => ∃ (a4 : PHeap) , PHeap.le ag a4 ∧ St w0 a4 (H) w' ∧ f' 29 = n ∧ f' 30 = Vi ((b.Jobs.length : Int)) ∧ f' 31 = Vi ((ao : Int)) ∧ f' 60 = Value.bool (((decide (100 < (IntKind.i64.wrap ((IntKind.i64.wrap ((IntKind.i64.wrap ((IntKind.i64.wrap ((a.Start.length : Int) + (a.Over.length : Int))) + (a.End.length : Int))) + (a.AtStart.length : Int))) + (a.AtEnd.length : Int))))) || decide (300 < (a.Name.size : Int))))) ?_ ?_)))
   ·refine Zd (Za rfl rfl (Zp F63_2 rfl rfl rfl (Za rfl rfl (Zn (j) A23 rfl rfl rfl (Za rfl rfl (Zr S23 rfl rfl av (Za rfl rfl (Zp F63_3 rfl rfl rfl (Za rfl rfl (Zn (j) A23 rfl rfl rfl (Za rfl rfl (Zr S23 rfl rfl aw (Za rfl rfl (Exec.add rfl rfl rfl (Za rfl rfl (Zp F63_4 rfl rfl rfl (Za rfl rfl (Zn (j) A23 rfl rfl rfl (Za rfl rfl (Zr S23 rfl rfl ax (Za rfl rfl (Exec.add rfl rfl rfl (Za rfl rfl (Zp F63_5 rfl rfl rfl (Za rfl rfl (Zn (j) A23 rfl rfl rfl (Za rfl rfl (Zr S23 rfl rfl ay (Za rfl rfl (Exec.add rfl rfl rfl (Za rfl rfl (Zp F63_6 rfl rfl rfl (Za rfl rfl (Zn (j) A23 rfl rfl rfl (Za rfl rfl (Zr S23 rfl rfl az (Za rfl rfl (Exec.add rfl rfl rfl (Za rfl rfl (Exec.gtr rfl rfl rfl (Za rfl rfl (Zm (v := Value.bool (decide (100 < (IntKind.i64.wrap ((IntKind.i64.wrap ((IntKind.i64.wrap ((IntKind.i64.wrap ((a.Start.length : Int) + (a.Over.length : Int))) + (a.End.length : Int))) + (a.AtStart.length : Int))) + (a.AtEnd.length : Int)))))) rfl rfl ?_))))))))))))))))))))))))))))))))))))))))))
    by_cases i : (decide (100 < (IntKind.i64.wrap ((IntKind.i64.wrap ((IntKind.i64.wrap ((IntKind.i64.wrap ((a.Start.length : Int) + (a.Over.length : Int))) + (a.End.length : Int))) + (a.AtStart.length : Int))) + (a.AtEnd.length : Int))))) = true
    ·refine WL_passes 5 (by rw [i]; rfl) ?_
     refine Zb (Ze ?_)
     exact ⟨ag, (Zv _), (j).drop, ae, af, ab, (Zx (or_t i)).symm⟩
    replace i := Zk i
    refine WL_run rfl (Zf rfl (Zx i)) rfl (Zp F63_0 rfl rfl rfl (WL_run rfl (Zf rfl (Zx i)) rfl (Zn (j) A9 rfl rfl rfl (WL_run rfl (Zf rfl (Zx i)) rfl (Exec.len_str Tryz.underlying9 rfl rfl (WL_run rfl (Zf rfl (Zx i)) rfl (Exec.gtr rfl rfl rfl (Za rfl rfl (Exec.pick_f (v := Value.bool (decide (300 < (a.Name.size : Int)))) rfl (Zx i) rfl (Zb (Ze ?_)))))))))))
    exact ⟨ag, (Zv _), (j).drop, ae, af, ab, (Zx (or_f i)).symm⟩
   intro bt b9 aJ
   obtain ⟨a5, ap, am, aZ, ba, bb, ar⟩ := aJ
   refine (Ze ?_)
   rcases ite_some m with ⟨q, m⟩ | ⟨q, m⟩
   ·refine W_cond_t ar q (Zc (Zd (Za rfl rfl (Zo (v := Value.bool (false)) rfl rfl (Zb (Ze (W_ret (ib_ret (at_ret (at_ret (ib_ret (at_ret (at_ret ?_)))))))))))))
    have bn := Zu m
    subst ak
    have aS := aT _ (aU (by intro _ h; cases h))
    have bo := Zu aS
    subst r
    refine ⟨_, ret1 rfl, ?_⟩
    exact ⟨a5, (Zt (Zt o ad) ap), am, rfl⟩
   refine W_cond_f ar q ?_
   replace q := Zk q
   refine W_skip (ib_normal (Ze (Zd (Za rfl rfl (Exec.add rfl bb rfl (Za rfl rfl (Zm (v := Vi (IntKind.i64.wrap ((ao : Int) + 1))) rfl rfl (Zb (Ze ?_)))))))))
   have bp := Zu m
   subst ak
   refine ⟨_, rfl, ?_⟩; exact ⟨a5, (Zt ad ap), am, aZ, ba, (Eq.trans rfl (wrap_up aQ (SliceRep.le (t.mono o))))⟩
  intro b1 bu bA aH aV
  obtain ⟨bf, aW, aN, bc, au, bh⟩ := aH
  refine Zc (Zd (Za rfl rfl (Zq rfl bh au (Zb (Ze (Zc (W_false (Zx (decide_eq_false (by omega))) (W_exit (at_exit (at_exit (ib_here (Ze ?_))))))))))))
  refine ⟨_, .inl aV, ?_⟩; exact ⟨bf, aW, aN, bc, au⟩
 rintro bv bB ⟨b2, an, aK⟩
 have hm := an.elim (aR _) (aP _)
 clear an
 obtain ⟨bg, aX, aO, bx, bz⟩ := aK
 refine (Ze (Zc (Zd (Za rfl rfl (Zo (v := Value.bool (true)) rfl rfl (Zb (Ze (W_ret ?_))))))))
 have bq := Zu hm
 subst r
 refine ⟨_, ret1 rfl, ?_⟩
 exact ⟨bg, (Zt o aX), aO, rfl⟩
end Go.Pw
