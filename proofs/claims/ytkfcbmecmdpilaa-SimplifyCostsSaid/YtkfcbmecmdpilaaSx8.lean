/-
  The walks (printed by my generator).
-/
import Derived.Test.YtkfcbmecmdpilaaL29
import Derived.Test.YtkfcbmecmdpilaaL27
import Derived.Test.YtkfcbmecmdpilaaSx7
import Derived.Test.YtkfcbmecmdpilaaL39
set_option maxRecDepth 100000
set_option maxHeartbeats 4000000
set_option linter.unusedVariables false
namespace Go.Pw
open Go.Proofs
theorem ref14_Combine_sim {w0 w : World} {s : PHeap} {H : List Res} {p : ByteArray} {a : Int} {b : Int}  {r : Int × Bool} (hm : ref14_Combine_p p a b = some r) (hS : St w0 s (H) w)  :
  Calls Try.prog 118 #[Value.string (p), Vi (a), Vi (b)] w fun e w' => ∃ v, e = .returned v ∧ ((un2 fun (a2 : Int) (a3 : Bool) => ∃ (ai : PHeap) , PHeap.le s ai ∧ St w0 ai (H) w' ∧ v = Value.tuple #[Vi (a2), Value.bool (a3)]) r) := by
 unfold ref14_Combine_p at hm
 refine calls_of_W Try.func118 rfl rfl (Zc (Zd (Za rfl rfl (Zo (v := Vi (0)) rfl rfl (Za rfl rfl (Zo (v := Value.bool (false)) rfl rfl (Zb (Ze (Zc (Zd (Za rfl rfl (Zm (v := Vi (a)) rfl rfl (Za rfl rfl (Zm (v := Vi (b)) rfl rfl (Za rfl rfl (Exec.add rfl rfl rfl (Za rfl rfl (Zo (v := Vi (IntKind.i64.wrap (a + b))) rfl rfl (Zb (Ze (Zc (Zc (Zd (Za rfl rfl (Zm (v := Value.string (p)) rfl rfl (Zb (Ze (W_block (Zc (Zd (Za rfl rfl (Exec.str_eql rfl rfl rfl (Za rfl rfl (Zo (v := Value.bool (decide (p = (⟨#[45]⟩)))) rfl rfl (Zb (Ze ?_))))))))))))))))))))))))))))))))))))
 rcases ite_some hm with ⟨j, hm⟩ | ⟨j, hm⟩
 ·refine W_cond_t rfl j (Zd (Za rfl rfl (Zm (v := Vi (a)) rfl rfl (Za rfl rfl (Zm (v := Vi (b)) rfl rfl (Za rfl rfl (Exec.sub rfl rfl rfl (Za rfl rfl (Zo (v := Vi (IntKind.i64.wrap (a - b))) rfl rfl (Zb (ib_normal (Ze (Zc (Zc (W_mid (M := fun f' w' => ∃ (aj : PHeap) , PHeap.le s aj ∧ St w0 aj (H) w' ∧ f' 8 = Vi (IntKind.i64.wrap (a - b)) ∧ f' 44 = Value.bool (((decide ((IntKind.i64.wrap (a - b)) < (-1099511627776))) || decide (1099511627776 < (IntKind.i64.wrap (a - b)))))) ?_ ?_)))))))))))))))
  ·refine Zd (Za rfl rfl (Zm (v := Vi (IntKind.i64.wrap (a - b))) rfl rfl (Za rfl rfl (Zq rfl rfl rfl (Za rfl rfl (Zm (v := Value.bool (decide ((IntKind.i64.wrap (a - b)) < (-1099511627776)))) rfl rfl ?_))))))
   by_cases d : (decide ((IntKind.i64.wrap (a - b)) < (-1099511627776))) = true
   ·refine WL_passes 3 (by rw [d]; rfl) ?_
    refine Zb (Ze ?_)
    exact ⟨s, (Zv _), hS, rfl, (Zx (or_t d)).symm⟩
   replace d := Zk d
   refine WL_run rfl (Zf rfl (Zx d)) rfl (Zm (v := Vi (IntKind.i64.wrap (a - b))) rfl rfl (WL_run rfl (Zf rfl (Zx d)) rfl (Exec.gtr rfl rfl rfl (Za rfl rfl (Exec.pick_f (v := Value.bool (decide (1099511627776 < (IntKind.i64.wrap (a - b))))) rfl (Zx d) rfl (Zb (Ze ?_)))))))
   exact ⟨s, (Zv _), hS, rfl, (Zx (or_f d)).symm⟩
  intro aD aI aq
  obtain ⟨ak, ab, y, aw, ae⟩ := aq
  refine (Ze ?_)
  rcases ite_some hm with ⟨k, hm⟩ | ⟨k, hm⟩
  ·refine W_cond_t ae k (Zc (Zd (Za rfl rfl (Zo (v := Vi (0)) rfl rfl (Za rfl rfl (Zo (v := Value.bool (false)) rfl rfl (Zb (Ze (W_ret (at_ret ?_))))))))))
   have a4 := Zu hm
   subst r
   refine ⟨_, ret2 rfl, ?_⟩
   exact ⟨ak, ab, y, (tup2 rfl rfl)⟩
  refine W_cond_f ae k ?_
  replace k := Zk k
  refine W_skip (Ze (Zc (Zd (Za rfl rfl (Zm (v := Vi (IntKind.i64.wrap (a - b))) rfl aw (Za rfl rfl (Zo (v := Vi (IntKind.i64.wrap (a - b))) rfl rfl (Za rfl rfl (Zo (v := Value.bool (true)) rfl rfl (Zb (Ze (W_ret ?_))))))))))))
  have a5 := Zu hm
  subst r
  refine ⟨_, ret2 rfl, ?_⟩
  exact ⟨ak, ab, y, (tup2 rfl rfl)⟩
 refine W_cond_f rfl j ?_
 replace j := Zk j
 refine Zc (Zd (Za rfl rfl (Exec.str_eql rfl rfl rfl (Za rfl rfl (Zo (v := Value.bool (decide (p = (⟨#[42]⟩)))) rfl rfl (Zb (Ze ?_)))))))
 rcases ite_some hm with ⟨l, hm⟩ | ⟨l, hm⟩
 ·refine W_cond_t rfl l (Zc (Zc (Zd (Za rfl rfl (Zm (v := Vi (a)) rfl rfl (Za rfl rfl (Zm (v := Vi (a)) rfl rfl (Za rfl rfl (Exec.neg rfl rfl (Za rfl rfl (Exec.max2 rfl rfl rfl (Za rfl rfl (Zo (v := Vi (max a (IntKind.i64.wrap (0 - a)))) rfl rfl (Zb (Ze (Zc ?_))))))))))))))))
  obtain ⟨q, i, hm⟩ := Zg hm
  refine W_mid (M := fun f' w' => (fun (q : Bool) => ∃ (al : PHeap) , PHeap.le s al ∧ St w0 al (H) w' ∧ f' 1 = Vi (a) ∧ f' 2 = Vi (b) ∧ f' 35 = Value.bool (q)) q) ?_ ?_
  ·refine Zd (Za rfl rfl (Zm (v := Vi (max a (IntKind.i64.wrap (0 - a)))) rfl rfl (Za rfl rfl (Exec.neq rfl rfl rfl (Za rfl rfl (Zm (v := Value.bool (!decide ((max a (IntKind.i64.wrap (0 - a))) = 0))) rfl rfl ?_))))))
   rcases ite_some i with ⟨c, i⟩ | ⟨c, i⟩
   ·refine WL_run rfl (Zf rfl (Zx c)) rfl (Zm (v := Vi (b)) rfl rfl (WL_run rfl (Zf rfl (Zx c)) rfl (Zm (v := Vi (b)) rfl rfl (WL_run rfl (Zf rfl (Zx c)) rfl (Exec.neg rfl rfl (WL_run rfl (Zf rfl (Zx c)) rfl (Exec.max2 rfl rfl rfl (WL_run rfl (Zf rfl (Zx c)) rfl (Zm (v := Vi (max a (IntKind.i64.wrap (0 - a)))) rfl rfl ?_)))))))))
    obtain ⟨aH, a1, i⟩ := Zg i
    refine WL_run rfl (Zf rfl (Zx c)) rfl (Exec.quo rfl rfl rfl (by simpa using must_some a1) (WL_run rfl (Zf rfl (Zx c)) rfl (Exec.gtr rfl rfl rfl (Za rfl rfl (Zs (v := Value.bool (decide ((IntKind.i64.wrap ((1099511627776 : Int).tdiv (max a (IntKind.i64.wrap (0 - a))))) < (max b (IntKind.i64.wrap (0 - b)))))) rfl (Zx c) rfl (Zb (Ze ?_)))))))
    have a6 := Zu i
    subst q
    exact ⟨s, (Zv _), hS, rfl, rfl, rfl⟩
   replace c := Zk c
   refine WL_passes 8 (by rw [c]; rfl) ?_
   refine Zb (Ze ?_)
   have a7 := Zu i
   subst q
   exact ⟨s, (Zv _), hS, rfl, rfl, rfl⟩
  intro aE aJ ar
  obtain ⟨t, x, u, ax, ay, af⟩ := ar
  refine (Ze ?_)
  rcases ite_some hm with ⟨m, hm⟩ | ⟨m, hm⟩
  ·refine W_cond_t af m (Zc (Zd (Za rfl rfl (Zo (v := Vi (0)) rfl rfl (Za rfl rfl (Zo (v := Value.bool (false)) rfl rfl (Zb (Ze (W_ret (at_ret (ib_ret (at_ret ?_))))))))))))
   have a8 := Zu hm
   subst r
   refine ⟨_, ret2 rfl, ?_⟩
   exact ⟨t, x, u, (tup2 rfl rfl)⟩
  refine W_cond_f af m ?_
  replace m := Zk m
  refine W_skip (Ze (Zd (Za rfl rfl (Zm (v := Vi (a)) rfl ax (Za rfl rfl (Zm (v := Vi (b)) rfl ay (Za rfl rfl (Exec.mul rfl rfl rfl (Za rfl rfl (Zo (v := Vi (IntKind.i64.wrap (a * b))) rfl rfl (Zb (ib_normal (Ze (Zc (Zc (W_mid (M := fun f' w' => ∃ (am : PHeap) , PHeap.le t am ∧ St w0 am (H) w' ∧ f' 8 = Vi (IntKind.i64.wrap (a * b)) ∧ f' 44 = Value.bool (((decide ((IntKind.i64.wrap (a * b)) < (-1099511627776))) || decide (1099511627776 < (IntKind.i64.wrap (a * b)))))) ?_ ?_))))))))))))))))
  ·refine Zd (Za rfl rfl (Zm (v := Vi (IntKind.i64.wrap (a * b))) rfl rfl (Za rfl rfl (Zq rfl rfl rfl (Za rfl rfl (Zm (v := Value.bool (decide ((IntKind.i64.wrap (a * b)) < (-1099511627776)))) rfl rfl ?_))))))
   by_cases g : (decide ((IntKind.i64.wrap (a * b)) < (-1099511627776))) = true
   ·refine WL_passes 3 (by rw [g]; rfl) ?_
    refine Zb (Ze ?_)
    exact ⟨t, (Zv _), u, rfl, (Zx (or_t g)).symm⟩
   replace g := Zk g
   refine WL_run rfl (Zf rfl (Zx g)) rfl (Zm (v := Vi (IntKind.i64.wrap (a * b))) rfl rfl (WL_run rfl (Zf rfl (Zx g)) rfl (Exec.gtr rfl rfl rfl (Za rfl rfl (Exec.pick_f (v := Value.bool (decide (1099511627776 < (IntKind.i64.wrap (a * b))))) rfl (Zx g) rfl (Zb (Ze ?_)))))))
   exact ⟨t, (Zv _), u, rfl, (Zx (or_f g)).symm⟩
  intro aF aK au
  obtain ⟨an, ac, z, az, ag⟩ := au
  refine (Ze ?_)
  rcases ite_some hm with ⟨n, hm⟩ | ⟨n, hm⟩
  ·refine W_cond_t ag n (Zc (Zd (Za rfl rfl (Zo (v := Vi (0)) rfl rfl (Za rfl rfl (Zo (v := Value.bool (false)) rfl rfl (Zb (Ze (W_ret (at_ret ?_))))))))))
   have a9 := Zu hm
   subst r
   refine ⟨_, ret2 rfl, ?_⟩
   exact ⟨an, (Zt x ac), z, (tup2 rfl rfl)⟩
  refine W_cond_f ag n ?_
  replace n := Zk n
  refine W_skip (Ze (Zc (Zd (Za rfl rfl (Zm (v := Vi (IntKind.i64.wrap (a * b))) rfl az (Za rfl rfl (Zo (v := Vi (IntKind.i64.wrap (a * b))) rfl rfl (Za rfl rfl (Zo (v := Value.bool (true)) rfl rfl (Zb (Ze (W_ret ?_))))))))))))
  have aA := Zu hm
  subst r
  refine ⟨_, ret2 rfl, ?_⟩
  exact ⟨an, (Zt x ac), z, (tup2 rfl rfl)⟩
 refine W_cond_f rfl l ?_
 replace l := Zk l
 refine W_skip (ib_normal (Ze (Zc (Zc (W_mid (M := fun f' w' => ∃ (ao : PHeap) , PHeap.le s ao ∧ St w0 ao (H) w' ∧ f' 8 = Vi (IntKind.i64.wrap (a + b)) ∧ f' 44 = Value.bool (((decide ((IntKind.i64.wrap (a + b)) < (-1099511627776))) || decide (1099511627776 < (IntKind.i64.wrap (a + b)))))) ?_ ?_)))))
 ·refine Zd (Za rfl rfl (Zm (v := Vi (IntKind.i64.wrap (a + b))) rfl rfl (Za rfl rfl (Zq rfl rfl rfl (Za rfl rfl (Zm (v := Value.bool (decide ((IntKind.i64.wrap (a + b)) < (-1099511627776)))) rfl rfl ?_))))))
  by_cases h : (decide ((IntKind.i64.wrap (a + b)) < (-1099511627776))) = true
  ·refine WL_passes 3 (by rw [h]; rfl) ?_
   refine Zb (Ze ?_)
   exact ⟨s, (Zv _), hS, rfl, (Zx (or_t h)).symm⟩
  replace h := Zk h
  refine WL_run rfl (Zf rfl (Zx h)) rfl (Zm (v := Vi (IntKind.i64.wrap (a + b))) rfl rfl (WL_run rfl (Zf rfl (Zx h)) rfl (Exec.gtr rfl rfl rfl (Za rfl rfl (Exec.pick_f (v := Value.bool (decide (1099511627776 < (IntKind.i64.wrap (a + b))))) rfl (Zx h) rfl (Zb (Ze ?_)))))))
  exact ⟨s, (Zv _), hS, rfl, (Zx (or_f h)).symm⟩
 intro aG aL av
 obtain ⟨ap, ad, aa, a0, ah⟩ := av
 refine (Ze ?_)
 rcases ite_some hm with ⟨o, hm⟩ | ⟨o, hm⟩
 ·refine W_cond_t ah o (Zc (Zd (Za rfl rfl (Zo (v := Vi (0)) rfl rfl (Za rfl rfl (Zo (v := Value.bool (false)) rfl rfl (Zb (Ze (W_ret (at_ret ?_))))))))))
  have aB := Zu hm
  subst r
  refine ⟨_, ret2 rfl, ?_⟩
  exact ⟨ap, ad, aa, (tup2 rfl rfl)⟩
 refine W_cond_f ah o ?_
 replace o := Zk o
 refine W_skip (Ze (Zc (Zd (Za rfl rfl (Zm (v := Vi (IntKind.i64.wrap (a + b))) rfl a0 (Za rfl rfl (Zo (v := Vi (IntKind.i64.wrap (a + b))) rfl rfl (Za rfl rfl (Zo (v := Value.bool (true)) rfl rfl (Zb (Ze (W_ret ?_))))))))))))
 have aC := Zu hm
 subst r
 refine ⟨_, ret2 rfl, ?_⟩
 exact ⟨ap, ad, aa, (tup2 rfl rfl)⟩
theorem ref18_Value_step {fu : Nat} (ih : ∀ {w0 w : World} {s : PHeap} {H : List Res} {h : GState} {a : GExpr} {d : Value} {g : Value} {i : Value} {r : Int × Bool} (hm : ref18_Value_p fu h a = some r) (hS : St w0 s (H) w) (y : SliceRep (encInt .i64) s d h.True) (u : SliceRep (encInt .i64) s g h.Values) (z : SliceRep encGExpr s i a.Kids), Calls Try.prog 93 #[Value.agg #[d, g], Value.agg #[Value.string (a.Op), Vi (a.N), i]] w fun e w' => ∃ v, e = .returned v ∧ ((un2 fun (ac : Int) (ad : Bool) => ∃ (p : PHeap) , PHeap.le s p ∧ St w0 p (H) w' ∧ v = Value.tuple #[Vi (ac), Value.bool (ad)]) r)) {w0 w : World} {s : PHeap} {H : List Res} {h : GState} {a : GExpr} {d : Value} {g : Value} {i : Value} {r : Int × Bool} (hm : ref18_Value_p (fu + 1) h a = some r) (hS : St w0 s (H) w) (y : SliceRep (encInt .i64) s d h.True) (u : SliceRep (encInt .i64) s g h.Values) (z : SliceRep encGExpr s i a.Kids) :
  Calls Try.prog 93 #[Value.agg #[d, g], Value.agg #[Value.string (a.Op), Vi (a.N), i]] w fun e w' => ∃ v, e = .returned v ∧ ((un2 fun (ac : Int) (ad : Bool) => ∃ (p : PHeap) , PHeap.le s p ∧ St w0 p (H) w' ∧ v = Value.tuple #[Vi (ac), Value.bool (ad)]) r) := by
 rw [ref18_Value_p] at hm
 refine calls_of_W Try.func93 rfl rfl (Zc (Zd (Za rfl rfl (Exec.box (cs := [d, g]) hS rfl rfl rfl ?_))))
 intro aF aZ aq
 refine Za rfl rfl (Exec.box (cs := [Value.string (a.Op), Vi (a.N), i]) aq rfl rfl rfl ?_)
 intro ae ba b
 refine Za rfl rfl (Zo (v := Vi (0)) rfl rfl (Za rfl rfl (Zo (v := Value.bool (false)) rfl rfl (Zb (Ze (Zc (Zc (Zd (Za rfl rfl (Zp F82_0 rfl rfl rfl (Za rfl rfl (Zn (b) A9 rfl rfl rfl (Zb (Ze (W_block (Zc (Zd (Za rfl rfl (Exec.str_eql rfl rfl rfl (Za rfl rfl (Zo (v := Value.bool (decide (a.Op = (⟨#[110, 117, 109, 98, 101, 114]⟩)))) rfl rfl (Zb (Ze ?_)))))))))))))))))))))))
 rcases ite_some hm with ⟨l, hm⟩ | ⟨l, hm⟩
 ·refine W_cond_t rfl l (Zc (Zd (Za rfl rfl (Zp F82_1 rfl rfl rfl (Za rfl rfl (Zn (b) A3 rfl rfl rfl (Za rfl rfl (Zo (v := Vi (a.N)) rfl rfl (Za rfl rfl (Zo (v := Value.bool (true)) rfl rfl (Zb (Ze (W_ret (ib_ret (at_ret ?_)))))))))))))))
  have aJ := Zu hm
  subst r
  refine ⟨_, ret2 rfl, ?_⟩
  exact ⟨s, (Zv _), ((b).drop).drop, (tup2 rfl rfl)⟩
 refine W_cond_f rfl l ?_
 replace l := Zk l
 refine Zc (Zd (Za rfl rfl (Exec.str_eql rfl rfl rfl (Za rfl rfl (Zo (v := Value.bool (decide (a.Op = (⟨#[102, 108, 117, 101, 110, 116]⟩)))) rfl rfl (Zb (Ze ?_)))))))
 rcases ite_some hm with ⟨m, hm⟩ | ⟨m, hm⟩
 ·refine W_cond_t rfl m (Zc (Zd (Za rfl rfl (Zp F69_1 rfl rfl rfl (Za rfl rfl (Zn ((b).f1) A24 rfl rfl rfl (Za rfl rfl (Zp F82_1 rfl rfl rfl (Za rfl rfl (Zn (b) A3 rfl rfl rfl ?_))))))))))
  obtain ⟨aE, ay, hm⟩ := Zg hm
  refine Za rfl rfl (Exec.index_rep S24 rfl rfl rfl u ay ?_)
  intro aG aQ am
  refine Za rfl rfl (Zw (E := (encInt .i64)) b A3 rfl rfl rfl am ?_)
  intro aW az
  obtain rfl := encInt_val.1 az
  refine Za rfl rfl (Zo (v := Vi (aE)) rfl rfl (Za rfl rfl (Zo (v := Value.bool (true)) rfl rfl (Zb (Ze (W_ret (ib_ret (at_ret ?_))))))))
  have aK := Zu hm
  subst r
  refine ⟨_, ret2 rfl, ?_⟩
  exact ⟨s, (Zv _), ((b).drop).drop, (tup2 rfl rfl)⟩
 refine W_cond_f rfl m ?_
 replace m := Zk m
 refine W_skip (ib_normal (Ze (Zc (W_dl (n0 := 10) (qs 0 5 (.e 5 [] (qs 6 4 .done))) hmix (by kernel_rfl) (by kernel_rfl) (DL_q rfl rfl (Exec.load_box_agg (ds := [d, g]) ((b.drew).f1) A69 rfl rfl rfl ⟨rfl, ?_⟩))))))
 refine DL_q rfl rfl (Zp F82_2 rfl rfl rfl ⟨rfl, ?_⟩)
 refine DL_q rfl rfl (Zn (b.drew) A80 rfl rfl rfl ⟨rfl, ?_⟩)
 obtain ⟨bf, a0, hm⟩ := Zg hm
 refine DL_q rfl rfl (Exec.index_repE S80 rfl rfl rfl z a0 ?_)
 intro aH aR an aL
 refine ⟨rfl, ?_⟩
 refine DL_q rfl rfl (Zw (E := encGExpr) b.drew A82 rfl rfl rfl an ?_)
 intro aX a1
 obtain ⟨aU, rfl, a7⟩ := encGExpr_val.1 a1
 refine ⟨rfl, ?_⟩
 obtain ⟨aB, a2, hm⟩ := Zg hm
 obtain ⟨q, j⟩ := aB
 replace hm := un2_eq hm
 refine DL_e rfl rfl (Tc rfl rfl rfl (Zi rfl (Zi rfl args_nil)) (ih a2 b.drew y u a7).r ?_)
 rintro _ bb ⟨aT, o, x, rfl⟩
 refine ⟨ag_nil, ?_⟩
 refine DL_q rfl rfl (Zm (v := Value.tuple #[Vi (q), Value.bool (j)]) rfl rfl ⟨rfl, ?_⟩)
 refine DL_q rfl rfl (Exec.extract (v := Vi (q)) rfl rfl rfl ⟨rfl, ?_⟩)
 refine DL_q rfl rfl (Exec.extract (v := Value.bool (j)) rfl rfl rfl ⟨rfl, ?_⟩)
 refine DL_q rfl rfl (Zo (v := Vi (q)) rfl rfl ⟨rfl, ?_⟩)
 refine DL_done (Za rfl rfl (Zo (v := Value.bool (j)) rfl rfl (Zb (Ze (Zc (W_dl (n0 := 10) (qs 0 5 (.e 5 [] (qs 6 4 .done))) hmix (by kernel_rfl) (by kernel_rfl) (DL_q rfl rfl (Exec.load_box_agg (ds := [d, g]) ((x.drew).f1) A69 rfl rfl rfl ⟨rfl, ?_⟩))))))))
 refine DL_q rfl rfl (Zp F82_2 rfl rfl rfl ⟨rfl, ?_⟩)
 refine DL_q rfl rfl (Zn (x.drew) A80 rfl rfl rfl ⟨rfl, ?_⟩)
 obtain ⟨bg, a3, hm⟩ := Zg hm
 refine DL_q rfl rfl (Exec.index_repE S80 rfl rfl rfl (z.mono o) a3 ?_)
 intro aI aS ao aM
 refine ⟨rfl, ?_⟩
 refine DL_q rfl rfl (Zw (E := encGExpr) x.drew A82 rfl rfl rfl ao ?_)
 intro aY a4
 obtain ⟨aV, rfl, a8⟩ := encGExpr_val.1 a4
 refine ⟨rfl, ?_⟩
 obtain ⟨aC, a5, hm⟩ := Zg hm
 obtain ⟨t, k⟩ := aC
 replace hm := un2_eq hm
 refine DL_e rfl rfl (Tc rfl rfl rfl (Zi rfl (Zi rfl args_nil)) (ih a5 x.drew (y.mono o) (u.mono o) a8).r ?_)
 rintro _ bc ⟨ab, ag, af, rfl⟩
 refine ⟨ag_nil, ?_⟩
 refine DL_q rfl rfl (Zm (v := Value.tuple #[Vi (t), Value.bool (k)]) rfl rfl ⟨rfl, ?_⟩)
 refine DL_q rfl rfl (Exec.extract (v := Vi (t)) rfl rfl rfl ⟨rfl, ?_⟩)
 refine DL_q rfl rfl (Exec.extract (v := Value.bool (k)) rfl rfl rfl ⟨rfl, ?_⟩)
 refine DL_q rfl rfl (Zo (v := Vi (t)) rfl rfl ⟨rfl, ?_⟩)
 refine DL_done (Za rfl rfl (Zo (v := Value.bool (k)) rfl rfl (Zb (Ze (Zc (Zc (W_mid (M := fun f' w' => ∃ (aj : PHeap) , PHeap.le ab aj ∧ St w0 aj (Res.box ae 82 [Value.string (a.Op), Vi (a.N), i] :: H) w' ∧ f' 3 = Value.pointer (some ⟨ae, 0, none⟩) ∧ f' 6 = Vi (q) ∧ f' 8 = Vi (t) ∧ f' 47 = Value.bool (((!j) || !k))) ?_ ?_)))))))
 ·refine Zd (Za rfl rfl (Zm (v := Value.bool (j)) rfl rfl (Za rfl rfl (Exec.not rfl rfl (Za rfl rfl (Zm (v := Value.bool (!j)) rfl rfl ?_))))))
  by_cases c : (!j) = true
  ·refine WL_passes 3 (by rw [c]; rfl) ?_
   refine Zb (Ze ?_)
   exact ⟨ab, (Zv _), ((af).f1).drop, rfl, rfl, rfl, (Zx (or_t c)).symm⟩
  replace c := Zk c
  refine WL_run rfl (Zf rfl (Zx c)) rfl (Zm (v := Value.bool (k)) rfl rfl (WL_run rfl (Zf rfl (Zx c)) rfl (Exec.not rfl rfl (Za rfl rfl (Exec.pick_f (v := Value.bool (!k)) rfl (Zx c) rfl (Zb (Ze ?_)))))))
  exact ⟨ab, (Zv _), ((af).f1).drop, rfl, rfl, rfl, (Zx (or_f c)).symm⟩
 intro aP bd ap
 obtain ⟨a9, ah, aa, av, aw, ax, ai⟩ := ap
 refine (Ze ?_)
 rcases ite_some hm with ⟨n, hm⟩ | ⟨n, hm⟩
 ·refine W_cond_t ai n (Zc (Zd (Za rfl rfl (Zo (v := Vi (0)) rfl rfl (Za rfl rfl (Zo (v := Value.bool (false)) rfl rfl (Zb (Ze (W_ret (at_ret ?_))))))))))
  have aN := Zu hm
  subst r
  refine ⟨_, ret2 rfl, ?_⟩
  exact ⟨a9, (Zt (Zt o ag) ah), (aa).drop, (tup2 rfl rfl)⟩
 refine W_cond_f ai n ?_
 replace n := Zk n
 refine W_skip (Ze (Zc (Zd (Za rfl rfl (Zp F82_0 rfl av rfl (Za rfl rfl (Zn (aa) A9 rfl rfl rfl (Za rfl rfl (Zm (v := Vi (q)) rfl aw (Za rfl rfl (Zm (v := Vi (t)) rfl ax ?_)))))))))))
 obtain ⟨aD, a6, hm⟩ := Zg hm
 obtain ⟨ak, al⟩ := aD
 replace hm := un2_eq hm
 refine Za rfl rfl (Tc rfl rfl rfl (Zi rfl (Zi rfl (Zi rfl args_nil))) (ref14_Combine_sim a6 aa ).r ?_)
 rintro _ be ⟨aA, au, ar, rfl⟩
 refine Za rfl rfl (Exec.extract (v := Vi (ak)) rfl rfl rfl (Za rfl rfl (Exec.extract (v := Value.bool (al)) rfl rfl rfl (Za rfl rfl (Zo (v := Vi (ak)) rfl rfl (Za rfl rfl (Zo (v := Value.bool (al)) rfl rfl (Zb (Ze (W_ret ?_))))))))))
 have aO := Zu hm
 subst r
 refine ⟨_, ret2 rfl, ?_⟩
 exact ⟨aA, (Zt (Zt (Zt o ag) ah) au), (ar).drop, (tup2 rfl rfl)⟩
theorem ref18_Value_sim {fu : Nat} : ∀ {w0 w : World} {s : PHeap} {H : List Res} {b : GState} {a : GExpr} {d : Value} {f : Value} {g : Value} {r : Int × Bool} (hm : ref18_Value_p fu b a = some r) (hS : St w0 s (H) w) (j : SliceRep (encInt .i64) s d b.True) (k : SliceRep (encInt .i64) s f b.Values) (l : SliceRep encGExpr s g a.Kids), Calls Try.prog 93 #[Value.agg #[d, f], Value.agg #[Value.string (a.Op), Vi (a.N), g]] w fun e w' => ∃ v, e = .returned v ∧ ((un2 fun (h : Int) (i : Bool) => ∃ (c : PHeap) , PHeap.le s c ∧ St w0 c (H) w' ∧ v = Value.tuple #[Vi (h), Value.bool (i)]) r) := by
 induction fu with
 | zero => intros; rename_i hm _ _ _ _; rw [ref18_Value_p] at hm; cases hm
 | succ fu ih => exact ref18_Value_step ih
theorem ref18_Test_sim {w0 w : World} {s : PHeap} {H : List Res} {fu : Nat} {ag : GState} {b : GTest} {y : Value} {z : Value} {ac : Value} {ad : Value} {r : Bool} (hm : ref18_Test_p fu ag b = some r) (hS : St w0 s (H) w) (ah : SliceRep (encInt .i64) s y ag.True) (ai : SliceRep (encInt .i64) s z ag.Values) (al : SliceRep encGExpr s ac b.A.Kids) (am : SliceRep encGExpr s ad b.B.Kids) :
  Calls Try.prog 117 #[Value.agg #[y, z], Value.agg #[Value.string (b.Op), Value.string (b.A.Op), Vi (b.A.N), ac, Value.string (b.B.Op), Vi (b.B.N), ad]] w fun e w' => ∃ v, e = .returned v ∧ ((fun (a0 : Bool) => ∃ (aj : PHeap) , PHeap.le s aj ∧ St w0 aj (H) w' ∧ v = Value.bool (a0)) r) := by
 unfold ref18_Test_p at hm
 refine calls_of_W Try.func117 rfl rfl (Zc (Zd (Za rfl rfl (Exec.box (cs := [y, z]) hS rfl rfl rfl ?_))))
 intro a1 a6 ao
 refine Za rfl rfl (Exec.box (cs := [Value.string (b.Op), Value.string (b.A.Op), Vi (b.A.N), ac, Value.string (b.B.Op), Vi (b.B.N), ad]) ao rfl rfl rfl ?_)
 intro a2 a7 ae
 refine Za rfl rfl (Zo (v := Value.bool (false)) rfl rfl (Zb (Ze (Zc (Zd (Za rfl rfl (Exec.load_box_agg (ds := [y, z]) ((ae).f1) A69 rfl rfl rfl (Za rfl rfl (Zp F129_1 rfl rfl rfl (Za rfl rfl (Exec.load_box_agg (ds := [Value.string (b.A.Op), Vi (b.A.N), ac]) (ae) A82 rfl rfl rfl ?_)))))))))))
 obtain ⟨ay, av, hm⟩ := Zg hm
 obtain ⟨c, aa⟩ := ay
 replace hm := un2_eq hm
 refine Za rfl rfl (Tc rfl rfl rfl (Zi rfl (Zi rfl args_nil)) (ref18_Value_sim av ae ah ai al).r ?_)
 rintro _ a8 ⟨a5, ab, af, rfl⟩
 refine Za rfl rfl (Zm (v := Value.tuple #[Vi (c), Value.bool (aa)]) rfl rfl (Za rfl rfl (Exec.extract (v := Vi (c)) rfl rfl rfl (Za rfl rfl (Exec.extract (v := Value.bool (aa)) rfl rfl rfl (Za rfl rfl (Zo (v := Vi (c)) rfl rfl (Za rfl rfl (Zo (v := Value.bool (aa)) rfl rfl (Zb (Ze (Zc (Zd (Za rfl rfl (Exec.load_box_agg (ds := [y, z]) ((af).f1) A69 rfl rfl rfl (Za rfl rfl (Zp F129_2 rfl rfl rfl (Za rfl rfl (Exec.load_box_agg (ds := [Value.string (b.B.Op), Vi (b.B.N), ad]) (af) A82 rfl rfl rfl ?_)))))))))))))))))))
 obtain ⟨az, aw, hm⟩ := Zg hm
 obtain ⟨d, x⟩ := az
 replace hm := un2_eq hm
 refine Za rfl rfl (Tc rfl rfl rfl (Zi rfl (Zi rfl args_nil)) (ref18_Value_sim aw af (ah.mono ab) (ai.mono ab) (am.mono ab)).r ?_)
 rintro _ a9 ⟨m, aq, g, rfl⟩
 refine Za rfl rfl (Zm (v := Value.tuple #[Vi (d), Value.bool (x)]) rfl rfl (Za rfl rfl (Exec.extract (v := Vi (d)) rfl rfl rfl (Za rfl rfl (Exec.extract (v := Value.bool (x)) rfl rfl rfl (Za rfl rfl (Zo (v := Vi (d)) rfl rfl (Za rfl rfl (Zo (v := Value.bool (x)) rfl rfl (Zb (Ze (Zc (W_mid (M := fun f' w' => ∃ (ak : PHeap) , PHeap.le m ak ∧ St w0 ak (H) w' ∧ f' 4 = Value.bool ((aa && (x && (bif (decide (b.Op = (⟨#[60]⟩))) then ((decide (c < d)) || (bif (decide (b.Op = (⟨#[60, 61]⟩))) then ((decide (c ≤ d)) || ((decide (b.Op = (⟨#[61]⟩))) && decide (c = d))) else ((decide (b.Op = (⟨#[61]⟩))) && decide (c = d)))) else (bif (decide (b.Op = (⟨#[60, 61]⟩))) then ((decide (c ≤ d)) || ((decide (b.Op = (⟨#[61]⟩))) && decide (c = d))) else ((decide (b.Op = (⟨#[61]⟩))) && decide (c = d)))))))) ?_ ?_)))))))))))))
 ·refine Zd (WL_passes 2 rfl ?_)
  by_cases h : aa = true
  ·refine WL_run rfl (Zf rfl (Zx h)) rfl (Zm (v := Value.bool (x)) rfl rfl ?_)
   refine WL_passes 2 (by rw [h]; rfl) ?_
   by_cases a : x = true
   ·refine WL_run rfl (Zf rfl (Zx a)) rfl (Zp F129_0 rfl rfl rfl (WL_run rfl (Zf rfl (Zx a)) rfl (Zn (g) A9 rfl rfl rfl (WL_run rfl (Zf rfl (Zx a)) rfl (Exec.str_eql rfl rfl rfl (WL_run rfl (Zf rfl (Zx a)) rfl (Zm (v := Value.bool (decide (b.Op = (⟨#[60]⟩)))) rfl rfl ?_)))))))
    by_cases i : (decide (b.Op = (⟨#[60]⟩))) = true
    ·refine WL_run rfl (Zf rfl (Zx i)) rfl (Zm (v := Vi (c)) rfl rfl (WL_run rfl (Zf rfl (Zx i)) rfl (Zm (v := Vi (d)) rfl rfl (WL_run rfl (Zf rfl (Zx i)) rfl (Zq rfl rfl rfl (WL_run rfl (Zf rfl (Zx a)) rfl (Zs (v := Value.bool (decide (c < d))) rfl (Zx i) rfl (WL_run rfl (Zf rfl (Zx a)) rfl (Zm (v := Value.bool (decide (c < d))) rfl rfl ?_)))))))))
     by_cases j : (decide (c < d)) = true
     ·refine WL_passes 8 (by rw [j]; rfl) ?_
      refine WL_run rfl (Zf rfl (Zx a)) rfl (Zs (v := Value.bool (true)) rfl rfl rfl (WL_run rfl (Zf rfl (Zx a)) rfl (Zm (v := Value.bool (true)) rfl rfl (WL_passes 8 rfl (WL_run rfl (Zf rfl (Zx a)) rfl (Zs (v := Value.bool (true)) rfl rfl rfl ?_))))))
      refine WL_passes 2 (by rw [a]; rfl) ?_
      refine Zb (Ze ?_)
      exact ⟨m, (Zv _), ((g).drop).drop, (Zx (Eq.trans (and_t h) (Eq.trans (and_t a) (Eq.trans (cnd_t i) (or_t j))))).symm⟩
     replace j := Zk j
     refine WL_run rfl (Zf rfl (Zx j)) rfl (Zp F129_0 rfl rfl rfl (WL_run rfl (Zf rfl (Zx j)) rfl (Zn (g) A9 rfl rfl rfl (WL_run rfl (Zf rfl (Zx j)) rfl (Exec.str_eql rfl rfl rfl (WL_run rfl (Zf rfl (Zx j)) rfl (Zm (v := Value.bool (decide (b.Op = (⟨#[60, 61]⟩)))) rfl rfl ?_)))))))
     by_cases n : (decide (b.Op = (⟨#[60, 61]⟩))) = true
     ·refine WL_run rfl (Zf rfl (Zx n)) rfl (Zm (v := Vi (c)) rfl rfl (WL_run rfl (Zf rfl (Zx n)) rfl (Zm (v := Vi (d)) rfl rfl (WL_run rfl (Zf rfl (Zx n)) rfl (Exec.leq rfl rfl rfl (WL_run rfl (Zf rfl (Zx j)) rfl (Zs (v := Value.bool (decide (c ≤ d))) rfl (Zx n) rfl (WL_run rfl (Zf rfl (Zx a)) rfl (Exec.pick_f (v := Value.bool (decide (c ≤ d))) rfl (Zx j) rfl (WL_run rfl (Zf rfl (Zx a)) rfl (Zm (v := Value.bool (decide (c ≤ d))) rfl rfl ?_)))))))))))
      by_cases k : (decide (c ≤ d)) = true
      ·refine WL_passes 8 (by rw [k]; rfl) ?_
       refine WL_run rfl (Zf rfl (Zx a)) rfl (Zs (v := Value.bool (true)) rfl rfl rfl ?_)
       refine WL_passes 2 (by rw [a]; rfl) ?_
       refine Zb (Ze ?_)
       exact ⟨m, (Zv _), ((g).drop).drop, (Zx (Eq.trans (and_t h) (Eq.trans (and_t a) (Eq.trans (cnd_t i) (Eq.trans (or_f j) (Eq.trans (cnd_t n) (or_t k))))))).symm⟩
      replace k := Zk k
      refine WL_run rfl (Zf rfl (Zx k)) rfl (Zp F129_0 rfl rfl rfl (WL_run rfl (Zf rfl (Zx k)) rfl (Zn (g) A9 rfl rfl rfl (WL_run rfl (Zf rfl (Zx k)) rfl (Exec.str_eql rfl rfl rfl (WL_run rfl (Zf rfl (Zx k)) rfl (Zm (v := Value.bool (decide (b.Op = (⟨#[61]⟩)))) rfl rfl ?_)))))))
      by_cases p : (decide (b.Op = (⟨#[61]⟩))) = true
      ·refine WL_run rfl (Zf rfl (Zx p)) rfl (Zm (v := Vi (c)) rfl rfl (WL_run rfl (Zf rfl (Zx p)) rfl (Zm (v := Vi (d)) rfl rfl (WL_run rfl (Zf rfl (Zx p)) rfl (Exec.eql rfl rfl rfl (WL_run rfl (Zf rfl (Zx k)) rfl (Zs (v := Value.bool (decide (c = d))) rfl (Zx p) rfl (WL_run rfl (Zf rfl (Zx a)) rfl (Exec.pick_f (v := Value.bool (decide (c = d))) rfl (Zx k) rfl ?_)))))))))
       refine WL_passes 2 (by rw [a]; rfl) ?_
       refine Zb (Ze ?_)
       exact ⟨m, (Zv _), ((g).drop).drop, (Zx (Eq.trans (and_t h) (Eq.trans (and_t a) (Eq.trans (cnd_t i) (Eq.trans (or_f j) (Eq.trans (cnd_t n) (Eq.trans (or_f k) (and_t p)))))))).symm⟩
      replace p := Zk p
      refine WL_passes 3 (by rw [p]; rfl) ?_
      refine WL_run rfl (Zf rfl (Zx k)) rfl (Exec.pick_f (v := Value.bool (false)) rfl rfl rfl (WL_run rfl (Zf rfl (Zx a)) rfl (Exec.pick_f (v := Value.bool (false)) rfl (Zx k) rfl ?_)))
      refine WL_passes 2 (by rw [a]; rfl) ?_
      refine Zb (Ze ?_)
      exact ⟨m, (Zv _), ((g).drop).drop, (Zx (Eq.trans (and_t h) (Eq.trans (and_t a) (Eq.trans (cnd_t i) (Eq.trans (or_f j) (Eq.trans (cnd_t n) (Eq.trans (or_f k) (and_f p)))))))).symm⟩
     replace n := Zk n
     refine WL_passes 3 (by rw [n]; rfl) ?_
     refine WL_run rfl (Zf rfl (Zx j)) rfl (Exec.pick_f (v := Value.bool (false)) rfl rfl rfl (WL_run rfl (Zf rfl (Zx a)) rfl (Exec.pick_f (v := Value.bool (false)) rfl (Zx j) rfl (WL_run rfl (Zf rfl (Zx a)) rfl (Zm (v := Value.bool (false)) rfl rfl (WL_run rfl (Zf rfl rfl) rfl (Zp F129_0 rfl rfl rfl (WL_run rfl (Zf rfl rfl) rfl (Zn (g) A9 rfl rfl rfl (WL_run rfl (Zf rfl rfl) rfl (Exec.str_eql rfl rfl rfl (WL_run rfl (Zf rfl rfl) rfl (Zm (v := Value.bool (decide (b.Op = (⟨#[61]⟩)))) rfl rfl ?_)))))))))))))
     by_cases q : (decide (b.Op = (⟨#[61]⟩))) = true
     ·refine WL_run rfl (Zf rfl (Zx q)) rfl (Zm (v := Vi (c)) rfl rfl (WL_run rfl (Zf rfl (Zx q)) rfl (Zm (v := Vi (d)) rfl rfl (WL_run rfl (Zf rfl (Zx q)) rfl (Exec.eql rfl rfl rfl (WL_run rfl (Zf rfl rfl) rfl (Zs (v := Value.bool (decide (c = d))) rfl (Zx q) rfl (WL_run rfl (Zf rfl (Zx a)) rfl (Exec.pick_f (v := Value.bool (decide (c = d))) rfl rfl rfl ?_)))))))))
      refine WL_passes 2 (by rw [a]; rfl) ?_
      refine Zb (Ze ?_)
      exact ⟨m, (Zv _), ((g).drop).drop, (Zx (Eq.trans (and_t h) (Eq.trans (and_t a) (Eq.trans (cnd_t i) (Eq.trans (or_f j) (Eq.trans (cnd_f n) (and_t q))))))).symm⟩
     replace q := Zk q
     refine WL_passes 3 (by rw [q]; rfl) ?_
     refine WL_run rfl (Zf rfl rfl) rfl (Exec.pick_f (v := Value.bool (false)) rfl rfl rfl (WL_run rfl (Zf rfl (Zx a)) rfl (Exec.pick_f (v := Value.bool (false)) rfl rfl rfl ?_)))
     refine WL_passes 2 (by rw [a]; rfl) ?_
     refine Zb (Ze ?_)
     exact ⟨m, (Zv _), ((g).drop).drop, (Zx (Eq.trans (and_t h) (Eq.trans (and_t a) (Eq.trans (cnd_t i) (Eq.trans (or_f j) (Eq.trans (cnd_f n) (and_f q))))))).symm⟩
    replace i := Zk i
    refine WL_passes 3 (by rw [i]; rfl) ?_
    refine WL_run rfl (Zf rfl (Zx a)) rfl (Exec.pick_f (v := Value.bool (false)) rfl rfl rfl (WL_run rfl (Zf rfl (Zx a)) rfl (Zm (v := Value.bool (false)) rfl rfl (WL_run rfl (Zf rfl rfl) rfl (Zp F129_0 rfl rfl rfl (WL_run rfl (Zf rfl rfl) rfl (Zn (g) A9 rfl rfl rfl (WL_run rfl (Zf rfl rfl) rfl (Exec.str_eql rfl rfl rfl (WL_run rfl (Zf rfl rfl) rfl (Zm (v := Value.bool (decide (b.Op = (⟨#[60, 61]⟩)))) rfl rfl ?_)))))))))))
    by_cases o : (decide (b.Op = (⟨#[60, 61]⟩))) = true
    ·refine WL_run rfl (Zf rfl (Zx o)) rfl (Zm (v := Vi (c)) rfl rfl (WL_run rfl (Zf rfl (Zx o)) rfl (Zm (v := Vi (d)) rfl rfl (WL_run rfl (Zf rfl (Zx o)) rfl (Exec.leq rfl rfl rfl (WL_run rfl (Zf rfl rfl) rfl (Zs (v := Value.bool (decide (c ≤ d))) rfl (Zx o) rfl (WL_run rfl (Zf rfl (Zx a)) rfl (Exec.pick_f (v := Value.bool (decide (c ≤ d))) rfl rfl rfl (WL_run rfl (Zf rfl (Zx a)) rfl (Zm (v := Value.bool (decide (c ≤ d))) rfl rfl ?_)))))))))))
     by_cases l : (decide (c ≤ d)) = true
     ·refine WL_passes 8 (by rw [l]; rfl) ?_
      refine WL_run rfl (Zf rfl (Zx a)) rfl (Zs (v := Value.bool (true)) rfl rfl rfl ?_)
      refine WL_passes 2 (by rw [a]; rfl) ?_
      refine Zb (Ze ?_)
      exact ⟨m, (Zv _), ((g).drop).drop, (Zx (Eq.trans (and_t h) (Eq.trans (and_t a) (Eq.trans (cnd_f i) (Eq.trans (cnd_t o) (or_t l)))))).symm⟩
     replace l := Zk l
     refine WL_run rfl (Zf rfl (Zx l)) rfl (Zp F129_0 rfl rfl rfl (WL_run rfl (Zf rfl (Zx l)) rfl (Zn (g) A9 rfl rfl rfl (WL_run rfl (Zf rfl (Zx l)) rfl (Exec.str_eql rfl rfl rfl (WL_run rfl (Zf rfl (Zx l)) rfl (Zm (v := Value.bool (decide (b.Op = (⟨#[61]⟩)))) rfl rfl ?_)))))))
     by_cases t : (decide (b.Op = (⟨#[61]⟩))) = true
     ·refine WL_run rfl (Zf rfl (Zx t)) rfl (Zm (v := Vi (c)) rfl rfl (WL_run rfl (Zf rfl (Zx t)) rfl (Zm (v := Vi (d)) rfl rfl (WL_run rfl (Zf rfl (Zx t)) rfl (Exec.eql rfl rfl rfl (WL_run rfl (Zf rfl (Zx l)) rfl (Zs (v := Value.bool (decide (c = d))) rfl (Zx t) rfl (WL_run rfl (Zf rfl (Zx a)) rfl (Exec.pick_f (v := Value.bool (decide (c = d))) rfl (Zx l) rfl ?_)))))))))
      refine WL_passes 2 (by rw [a]; rfl) ?_
      refine Zb (Ze ?_)
      exact ⟨m, (Zv _), ((g).drop).drop, (Zx (Eq.trans (and_t h) (Eq.trans (and_t a) (Eq.trans (cnd_f i) (Eq.trans (cnd_t o) (Eq.trans (or_f l) (and_t t))))))).symm⟩
     replace t := Zk t
     refine WL_passes 3 (by rw [t]; rfl) ?_
     refine WL_run rfl (Zf rfl (Zx l)) rfl (Exec.pick_f (v := Value.bool (false)) rfl rfl rfl (WL_run rfl (Zf rfl (Zx a)) rfl (Exec.pick_f (v := Value.bool (false)) rfl (Zx l) rfl ?_)))
     refine WL_passes 2 (by rw [a]; rfl) ?_
     refine Zb (Ze ?_)
     exact ⟨m, (Zv _), ((g).drop).drop, (Zx (Eq.trans (and_t h) (Eq.trans (and_t a) (Eq.trans (cnd_f i) (Eq.trans (cnd_t o) (Eq.trans (or_f l) (and_f t))))))).symm⟩
    replace o := Zk o
    refine WL_passes 3 (by rw [o]; rfl) ?_
    refine WL_run rfl (Zf rfl rfl) rfl (Exec.pick_f (v := Value.bool (false)) rfl rfl rfl (WL_run rfl (Zf rfl (Zx a)) rfl (Exec.pick_f (v := Value.bool (false)) rfl rfl rfl (WL_run rfl (Zf rfl (Zx a)) rfl (Zm (v := Value.bool (false)) rfl rfl (WL_run rfl (Zf rfl rfl) rfl (Zp F129_0 rfl rfl rfl (WL_run rfl (Zf rfl rfl) rfl (Zn (g) A9 rfl rfl rfl (WL_run rfl (Zf rfl rfl) rfl (Exec.str_eql rfl rfl rfl (WL_run rfl (Zf rfl rfl) rfl (Zm (v := Value.bool (decide (b.Op = (⟨#[61]⟩)))) rfl rfl ?_)))))))))))))
    by_cases u : (decide (b.Op = (⟨#[61]⟩))) = true
    ·refine WL_run rfl (Zf rfl (Zx u)) rfl (Zm (v := Vi (c)) rfl rfl (WL_run rfl (Zf rfl (Zx u)) rfl (Zm (v := Vi (d)) rfl rfl (WL_run rfl (Zf rfl (Zx u)) rfl (Exec.eql rfl rfl rfl (WL_run rfl (Zf rfl rfl) rfl (Zs (v := Value.bool (decide (c = d))) rfl (Zx u) rfl (WL_run rfl (Zf rfl (Zx a)) rfl (Exec.pick_f (v := Value.bool (decide (c = d))) rfl rfl rfl ?_)))))))))
     refine WL_passes 2 (by rw [a]; rfl) ?_
     refine Zb (Ze ?_)
     exact ⟨m, (Zv _), ((g).drop).drop, (Zx (Eq.trans (and_t h) (Eq.trans (and_t a) (Eq.trans (cnd_f i) (Eq.trans (cnd_f o) (and_t u)))))).symm⟩
    replace u := Zk u
    refine WL_passes 3 (by rw [u]; rfl) ?_
    refine WL_run rfl (Zf rfl rfl) rfl (Exec.pick_f (v := Value.bool (false)) rfl rfl rfl (WL_run rfl (Zf rfl (Zx a)) rfl (Exec.pick_f (v := Value.bool (false)) rfl rfl rfl ?_)))
    refine WL_passes 2 (by rw [a]; rfl) ?_
    refine Zb (Ze ?_)
    exact ⟨m, (Zv _), ((g).drop).drop, (Zx (Eq.trans (and_t h) (Eq.trans (and_t a) (Eq.trans (cnd_f i) (Eq.trans (cnd_f o) (and_f u)))))).symm⟩
   replace a := Zk a
   refine WL_passes 30 (by rw [a]; rfl) ?_
   refine Zb (Ze ?_)
   exact ⟨m, (Zv _), ((g).drop).drop, (Zx (Eq.trans (and_t h) (and_f a))).symm⟩
  replace h := Zk h
  refine WL_passes 33 (by rw [h]; rfl) ?_
  refine Zb (Ze ?_)
  exact ⟨m, (Zv _), ((g).drop).drop, (Zx (and_f h)).symm⟩
 intro a4 aA an
 obtain ⟨ax, ar, ap, au⟩ := an
 refine (Ze (W_ret ?_))
 have a3 := Zu hm
 subst r
 refine ⟨_, ret1 rfl, ?_⟩
 exact ⟨ax, (Zt (Zt ab aq) ar), ap, au⟩
theorem ref18_Holds_sim {w0 w : World} {s : PHeap} {H : List Res} {fu : Nat} {a1 : GState} {aj : Cond} {j : Value} {k : Value} {l : Value} {m : Value} {n : Value} {r : Bool} (hm : ref18_Holds_p fu a1 aj = some r) (hS : St w0 s (H) w) (aq : SliceRep (encInt .i64) s j a1.True) (aX : SliceRep (encInt .i64) s k a1.Values) (a2 : SliceRep (encInt .i64) s l aj.Pos) (a3 : SliceRep (encInt .i64) s m aj.Neg) (a4 : SliceRep encGTest s n aj.Tests) :
  Calls Try.prog 92 #[Value.agg #[j, k], Value.agg #[l, m, n]] w fun e w' => ∃ v, e = .returned v ∧ ((fun (bP : Bool) => ∃ (aN : PHeap) , PHeap.le s aN ∧ St w0 aN (H) w' ∧ v = Value.bool (bP)) r) := by
 unfold ref18_Holds_p at hm
 refine calls_of_W Try.func92 rfl rfl (Zc (Zd (Za rfl rfl (Exec.box (cs := [j, k]) hS rfl rfl rfl ?_))))
 intro d c3 bk
 refine Za rfl rfl (Exec.box (cs := [l, m, n]) bk rfl rfl rfl ?_)
 intro g c4 bl
 refine Za rfl rfl (Zo (v := Value.bool (false)) rfl rfl (Zb (Ze (Zc (Zc (Zd (Za rfl rfl (Zo (v := Vi (0)) rfl rfl (Zb (Ze ?_))))))))))
 obtain ⟨a5, bb, b2, bv, bs⟩ := ctl_some hm
 refine W_mid (M := fun f' w' => ∃ s', (a5 = .next s' ∨ a5 = .brk s') ∧ (fun (aH : Int) => ∃ (aO : PHeap) , PHeap.le s aO ∧ St w0 aO (Res.box d 69 [j, k] :: Res.box g 47 [l, m, n] :: H) w' ∧ f' 2 = Value.pointer (some ⟨d, 0, none⟩) ∧ f' 3 = Value.pointer (some ⟨g, 0, none⟩) ∧ f' 5 = Vi (aH)) s') ?_ ?_
 ·refine W_block (W_while (fun s' f' w' => (fun (x : Int) => ∃ (aP : PHeap) , PHeap.le s aP ∧ St w0 aP (Res.box d 69 [j, k] :: Res.box g 47 [l, m, n] :: H) w' ∧ f' 2 = Value.pointer (some ⟨d, 0, none⟩) ∧ f' 3 = Value.pointer (some ⟨g, 0, none⟩) ∧ f' 5 = Vi (x)) s') bb ?_ ?_)
  ·have bm := (bl).f1
   exact ⟨s, (Zv _), bm, rfl, rfl, rfl⟩
  intro x ar cj c5 be a aE
  obtain ⟨bL, aa, p, aw, ak, al⟩ := be
  refine Zc (Zc (Zd (Za rfl rfl (Zm (v := Vi (x)) rfl al (Za rfl rfl (Zp F47_0 rfl ak rfl (Za rfl rfl (Zn ((p).f1) A24 rfl rfl rfl (Za rfl rfl (Zr S24 rfl rfl (a2.mono aa) (Za rfl rfl (Zq rfl rfl rfl (Zb (Ze ?_))))))))))))))
  rcases ite_some a with ⟨ad, a⟩ | ⟨ad, a⟩
  ·refine W_cond_t rfl ad (W_skip (Ze (Zc (W_block (Zc (W_dl (n0 := 9) (qs 0 7 (.e 7 [] (.q 8 .done))) hmix (by kernel_rfl) (by kernel_rfl) (DL_q rfl rfl (Zp F69_0 rfl aw rfl ⟨rfl, ?_⟩))))))))
   refine DL_q rfl rfl (Zn (p.drew) A24 rfl rfl rfl ⟨rfl, ?_⟩)
   refine DL_q rfl rfl (Zp F47_0 rfl ak rfl ⟨rfl, ?_⟩)
   refine DL_q rfl rfl (Zn ((p.drew).f1) A24 rfl rfl rfl ⟨rfl, ?_⟩)
   refine DL_q rfl rfl (Zm (v := Vi (x)) rfl al ⟨rfl, ?_⟩)
   obtain ⟨cE, bA, a⟩ := Zg a
   refine DL_q rfl rfl (Exec.index_repE S24 rfl rfl rfl (a2.mono aa) bA ?_)
   intro bQ cp aY bT
   refine ⟨rfl, ?_⟩
   refine DL_q rfl rfl (Zw (E := (encInt .i64)) p.drew A3 rfl rfl rfl aY ?_)
   intro c0 bB
   obtain rfl := encInt_val.1 bB
   refine ⟨rfl, ?_⟩
   obtain ⟨cH, bC, a⟩ := Zg a
   refine DL_e rfl rfl (Tc rfl rfl rfl (Zi rfl (Zi rfl args_nil)) (ref18_In_sim bC p.drew (aq.mono aa)).r ?_)
   rintro _ c6 ⟨aQ, aK, a8, rfl⟩
   refine ⟨ag_nil, ?_⟩
   refine DL_q rfl rfl (Exec.not rfl rfl ⟨rfl, ?_⟩)
   refine DL_done (Zb (Ze ?_))
   rcases ite_some a with ⟨ae, a⟩ | ⟨ae, a⟩
   ·refine W_cond_t rfl ae (Zc (Zd (Za rfl rfl (Zo (v := Value.bool (false)) rfl rfl (Zb (Ze (W_ret (ib_ret (at_ret (at_ret (ib_ret (at_ret (at_ret ?_)))))))))))))
    have bU := Zu a
    subst ar
    have bz := b2 _ (aE (by intro _ h; cases h))
    have bV := Zu bz
    subst r
    refine ⟨_, ret1 rfl, ?_⟩
    exact ⟨aQ, (Zt aa aK), ((a8).drop).drop, rfl⟩
   refine W_cond_f rfl ae ?_
   replace ae := Zk ae
   refine W_skip (ib_normal (Ze (Zd (Za rfl rfl (Zm (v := Vi (x)) rfl al (Za rfl rfl (Exec.add rfl rfl rfl (Za rfl rfl (Zo (v := Vi (IntKind.i64.wrap (x + 1))) rfl rfl (Zb (Ze ?_)))))))))))
   have bW := Zu a
   subst ar
   refine ⟨_, rfl, ?_⟩; exact ⟨aQ, (Zt aa aK), ((a8).f1).f1, aw, ak, rfl⟩
  refine W_cond_f rfl ad ?_
  replace ad := Zk ad
  refine W_exit (at_exit (at_exit (ib_here (Ze ?_))))
  have bX := Zu a
  subst ar
  refine ⟨_, .inr (aE (by intro _ h; cases h)), ?_⟩; exact ⟨bL, aa, ((p).f1).f1, aw, ak, al⟩
 rintro ck c7 ⟨aH, aB, bh⟩
 have hm := aB.elim (bv _) (bs _)
 clear aB
 obtain ⟨az, i, bn, b6, b7, ct⟩ := bh
 refine (Ze (Zc (Zc (Zd (Za rfl rfl (Zo (v := Vi (0)) rfl rfl (Zb (Ze ?_))))))))
 obtain ⟨a6, bc, b3, bw, bt⟩ := ctl_some hm
 refine W_mid (M := fun f' w' => ∃ s', (a6 = .next s' ∨ a6 = .brk s') ∧ (fun (aI : Int) => ∃ (aR : PHeap) , PHeap.le az aR ∧ St w0 aR (Res.box d 69 [j, k] :: Res.box g 47 [l, m, n] :: H) w' ∧ f' 2 = Value.pointer (some ⟨d, 0, none⟩) ∧ f' 3 = Value.pointer (some ⟨g, 0, none⟩) ∧ f' 6 = Vi (aI)) s') ?_ ?_
 ·refine W_block (W_while (fun s' f' w' => (fun (y : Int) => ∃ (aS : PHeap) , PHeap.le az aS ∧ St w0 aS (Res.box d 69 [j, k] :: Res.box g 47 [l, m, n] :: H) w' ∧ f' 2 = Value.pointer (some ⟨d, 0, none⟩) ∧ f' 3 = Value.pointer (some ⟨g, 0, none⟩) ∧ f' 6 = Vi (y)) s') bc ?_ ?_)
  ·have bo := (bn).f1
   exact ⟨az, (Zv _), (bo).f1, b6, b7, rfl⟩
  intro y au cl c8 bf b aF
  obtain ⟨bM, ab, t, ax, am, an⟩ := bf
  refine Zc (Zc (Zd (Za rfl rfl (Zm (v := Vi (y)) rfl an (Za rfl rfl (Zp F47_1 rfl am rfl (Za rfl rfl (Zn ((t).f1) A24 rfl rfl rfl (Za rfl rfl (Zr S24 rfl rfl (a3.mono (Zt i ab)) (Za rfl rfl (Zq rfl rfl rfl (Zb (Ze ?_))))))))))))))
  rcases ite_some b with ⟨af, b⟩ | ⟨af, b⟩
  ·refine W_cond_t rfl af (W_skip (Ze (Zc (W_block (Zc (W_dl (n0 := 8) (qs 0 7 (.e 7 [] .done)) hmix (by kernel_rfl) (by kernel_rfl) (DL_q rfl rfl (Zp F69_0 rfl ax rfl ⟨rfl, ?_⟩))))))))
   refine DL_q rfl rfl (Zn (t.drew) A24 rfl rfl rfl ⟨rfl, ?_⟩)
   refine DL_q rfl rfl (Zp F47_1 rfl am rfl ⟨rfl, ?_⟩)
   refine DL_q rfl rfl (Zn ((t.drew).f1) A24 rfl rfl rfl ⟨rfl, ?_⟩)
   refine DL_q rfl rfl (Zm (v := Vi (y)) rfl an ⟨rfl, ?_⟩)
   obtain ⟨cF, bD, b⟩ := Zg b
   refine DL_q rfl rfl (Exec.index_repE S24 rfl rfl rfl (a3.mono (Zt i ab)) bD ?_)
   intro bR cq aZ bY
   refine ⟨rfl, ?_⟩
   refine DL_q rfl rfl (Zw (E := (encInt .i64)) t.drew A3 rfl rfl rfl aZ ?_)
   intro c1 bE
   obtain rfl := encInt_val.1 bE
   refine ⟨rfl, ?_⟩
   obtain ⟨cI, bF, b⟩ := Zg b
   refine DL_e rfl rfl (Tc rfl rfl rfl (Zi rfl (Zi rfl args_nil)) (ref18_In_sim bF t.drew (aq.mono (Zt i ab))).r ?_)
   rintro _ c9 ⟨aT, aL, a9, rfl⟩
   refine ⟨ag_nil, ?_⟩
   refine DL_done (Zb (Ze ?_))
   rcases ite_some b with ⟨ag, b⟩ | ⟨ag, b⟩
   ·refine W_cond_t rfl ag (Zc (Zd (Za rfl rfl (Zo (v := Value.bool (false)) rfl rfl (Zb (Ze (W_ret (ib_ret (at_ret (at_ret (ib_ret (at_ret (at_ret ?_)))))))))))))
    have bZ := Zu b
    subst au
    have b0 := b3 _ (aF (by intro _ h; cases h))
    have ca := Zu b0
    subst r
    refine ⟨_, ret1 rfl, ?_⟩
    exact ⟨aT, (Zt (Zt i ab) aL), ((a9).drop).drop, rfl⟩
   refine W_cond_f rfl ag ?_
   replace ag := Zk ag
   refine W_skip (ib_normal (Ze (Zd (Za rfl rfl (Zm (v := Vi (y)) rfl an (Za rfl rfl (Exec.add rfl rfl rfl (Za rfl rfl (Zo (v := Vi (IntKind.i64.wrap (y + 1))) rfl rfl (Zb (Ze ?_)))))))))))
   have cb := Zu b
   subst au
   refine ⟨_, rfl, ?_⟩; exact ⟨aT, (Zt ab aL), ((a9).f1).f1, ax, am, rfl⟩
  refine W_cond_f rfl af ?_
  replace af := Zk af
  refine W_exit (at_exit (at_exit (ib_here (Ze ?_))))
  have cc := Zu b
  subst au
  refine ⟨_, .inr (aF (by intro _ h; cases h)), ?_⟩; exact ⟨bM, ab, ((t).f1).f1, ax, am, an⟩
 rintro cm cA ⟨aI, aC, bi⟩
 have hm := aC.elim (bw _) (bt _)
 clear aC
 obtain ⟨a0, ac, bp, b8, b9, cu⟩ := bi
 refine (Ze (Zc (Zc (Zd (Za rfl rfl (Zo (v := Vi (0)) rfl rfl (Zb (Ze ?_))))))))
 obtain ⟨a7, bd, b4, bx, bu⟩ := ctl_some hm
 refine W_mid (M := fun f' w' => ∃ s', (a7 = .next s' ∨ a7 = .brk s') ∧ (fun (aJ : Int) => ∃ (aU : PHeap) , PHeap.le a0 aU ∧ St w0 aU (Res.box d 69 [j, k] :: Res.box g 47 [l, m, n] :: H) w' ∧ f' 2 = Value.pointer (some ⟨d, 0, none⟩) ∧ f' 3 = Value.pointer (some ⟨g, 0, none⟩) ∧ f' 7 = Vi (aJ)) s') ?_ ?_
 ·refine W_block (W_while (fun s' f' w' => (fun (z : Int) => ∃ (aV : PHeap) , PHeap.le a0 aV ∧ St w0 aV (Res.box d 69 [j, k] :: Res.box g 47 [l, m, n] :: H) w' ∧ f' 2 = Value.pointer (some ⟨d, 0, none⟩) ∧ f' 3 = Value.pointer (some ⟨g, 0, none⟩) ∧ f' 7 = Vi (z)) s') bd ?_ ?_)
  ·have bq := (bp).f1
   exact ⟨a0, (Zv _), (bq).f1, b8, b9, rfl⟩
  intro z av cn cB bg c aG
  obtain ⟨bN, o, u, ay, ao, ap⟩ := bg
  refine Zc (Zc (Zd (Za rfl rfl (Zm (v := Vi (z)) rfl ap (Za rfl rfl (Zp F47_2 rfl ao rfl (Za rfl rfl (Zn ((u).f1) A45 rfl rfl rfl (Za rfl rfl (Zr S45 rfl rfl (a4.mono (Zt (Zt i ac) o)) (Za rfl rfl (Zq rfl rfl rfl (Zb (Ze ?_))))))))))))))
  rcases ite_some c with ⟨ah, c⟩ | ⟨ah, c⟩
  ·refine W_cond_t rfl ah (W_skip (Ze (Zc (W_block (Zc (W_dl (n0 := 8) (qs 0 6 (.e 6 [] (.q 7 .done))) hmix (by kernel_rfl) (by kernel_rfl) (DL_q rfl rfl (Exec.load_box_agg (ds := [j, k]) (u.drew) A69 rfl ay rfl ⟨rfl, ?_⟩))))))))
   refine DL_q rfl rfl (Zp F47_2 rfl ao rfl ⟨rfl, ?_⟩)
   refine DL_q rfl rfl (Zn ((u.drew).f1) A45 rfl rfl rfl ⟨rfl, ?_⟩)
   refine DL_q rfl rfl (Zm (v := Vi (z)) rfl ap ⟨rfl, ?_⟩)
   obtain ⟨cG, bG, c⟩ := Zg c
   refine DL_q rfl rfl (Exec.index_repE S45 rfl rfl rfl (a4.mono (Zt (Zt i ac) o)) bG ?_)
   intro bS cr ba cd
   refine ⟨rfl, ?_⟩
   refine DL_q rfl rfl (Zw (E := encGTest) u.drew A129 rfl rfl rfl ba ?_)
   intro c2 bH
   obtain ⟨cy, cz, rfl, bJ, bK⟩ := encGTest_val.1 bH
   refine ⟨rfl, ?_⟩
   obtain ⟨cJ, bI, c⟩ := Zg c
   refine DL_e rfl rfl (Tc rfl rfl rfl (Zi rfl (Zi rfl args_nil)) (ref18_Test_sim bI u.drew (aq.mono (Zt (Zt i ac) o)) (aX.mono (Zt (Zt i ac) o)) bJ bK).r ?_)
   rintro _ cC ⟨aW, aM, aA, rfl⟩
   refine ⟨ag_nil, ?_⟩
   refine DL_q rfl rfl (Exec.not rfl rfl ⟨rfl, ?_⟩)
   refine DL_done (Zb (Ze ?_))
   rcases ite_some c with ⟨ai, c⟩ | ⟨ai, c⟩
   ·refine W_cond_t rfl ai (Zc (Zd (Za rfl rfl (Zo (v := Value.bool (false)) rfl rfl (Zb (Ze (W_ret (ib_ret (at_ret (at_ret (ib_ret (at_ret (at_ret ?_)))))))))))))
    have ce := Zu c
    subst av
    have b1 := b4 _ (aG (by intro _ h; cases h))
    have cf := Zu b1
    subst r
    refine ⟨_, ret1 rfl, ?_⟩
    exact ⟨aW, (Zt (Zt (Zt i ac) o) aM), ((aA).drop).drop, rfl⟩
   refine W_cond_f rfl ai ?_
   replace ai := Zk ai
   refine W_skip (ib_normal (Ze (Zd (Za rfl rfl (Zm (v := Vi (z)) rfl ap (Za rfl rfl (Exec.add rfl rfl rfl (Za rfl rfl (Zo (v := Vi (IntKind.i64.wrap (z + 1))) rfl rfl (Zb (Ze ?_)))))))))))
   have cg := Zu c
   subst av
   refine ⟨_, rfl, ?_⟩; exact ⟨aW, (Zt o aM), ((aA).f1).f1, ay, ao, rfl⟩
  refine W_cond_f rfl ah ?_
  replace ah := Zk ah
  refine W_exit (at_exit (at_exit (ib_here (Ze ?_))))
  have ch := Zu c
  subst av
  refine ⟨_, .inr (aG (by intro _ h; cases h)), ?_⟩; exact ⟨bN, o, ((u).f1).f1, ay, ao, ap⟩
 rintro co cD ⟨aJ, aD, bj⟩
 have hm := aD.elim (bx _) (bu _)
 clear aD
 obtain ⟨bO, b5, br, cv, cw, cx⟩ := bj
 refine (Ze (Zc (Zd (Za rfl rfl (Zo (v := Value.bool (true)) rfl rfl (Zb (Ze (W_ret ?_))))))))
 have ci := Zu hm
 subst r
 refine ⟨_, ret1 rfl, ?_⟩
 exact ⟨bO, (Zt (Zt i ac) b5), ((br).drop).drop, rfl⟩
theorem law19_Can_sim {w0 w : World} {s : PHeap} {H : List Res} {fu : Nat} {y : Ground} {ax : GState} {k : Int} {ab : Value} {ac : Value} {ad : Value} {ae : Value} {af : Value} {m : Value} {n : Value} {r : Bool} (hm : law19_Can_p fu y ax k = some r) (hS : St w0 s (H) w) (b1 : SliceRep encAtom s ab y.Atoms) (a0 : SliceRep encGFluent s ac y.Fluents) (b2 : SliceRep (encInt .i64) s ad y.Init) (b3 : SliceRep encCond s ae y.Goal) (ar : SliceRep encGOp s af y.Ops) (a1 : SliceRep (encInt .i64) s m ax.True) (a2 : SliceRep (encInt .i64) s n ax.Values) :
  Calls Try.prog 62 #[Value.agg #[ab, ac, ad, ae, af], Value.agg #[m, n], Vi (k)] w fun e w' => ∃ v, e = .returned v ∧ ((fun (b0 : Bool) => ∃ (aD : PHeap) , PHeap.le s aD ∧ St w0 aD (H) w' ∧ v = Value.bool (b0)) r) := by
 unfold law19_Can_p at hm
 refine calls_of_W Try.func62 rfl rfl (Zc (Zd (Za rfl rfl (Exec.box (cs := [ab, ac, ad, ae, af]) hS rfl rfl rfl ?_))))
 intro u cf aT
 refine Za rfl rfl (Exec.box (cs := [m, n]) aT rfl rfl rfl ?_)
 intro x cg an
 refine Za rfl rfl (Zo (v := Value.bool (false)) rfl rfl (Zb (Ze (Zc (Zc (W_dl (n0 := 9) (qs 0 7 (.e 7 [] (.q 8 .done))) hmix (by kernel_rfl) (by kernel_rfl) (DL_q rfl rfl (Exec.load_box_agg (ds := [m, n]) (an.drew) A69 rfl rfl rfl ⟨rfl, ?_⟩))))))))
 refine DL_q rfl rfl (Zp F28_4 rfl rfl rfl ⟨rfl, ?_⟩)
 refine DL_q rfl rfl (Zn ((an.drew).f1) A26 rfl rfl rfl ⟨rfl, ?_⟩)
 refine DL_q rfl rfl (Zm (v := Vi (k)) rfl rfl ⟨rfl, ?_⟩)
 obtain ⟨aI, aw, hm⟩ := Zg hm
 refine DL_q rfl rfl (Exec.index_repE S26 rfl rfl rfl ar aw ?_)
 intro b4 bO aJ bB
 refine ⟨rfl, ?_⟩
 refine DL_q rfl rfl (Zp F51_2 rfl rfl rfl ⟨rfl, ?_⟩)
 refine DL_q rfl rfl (Zw (E := encCond) an.drew A47 rfl rfl rfl (aJ.sub (Sub.iso (Sub.snd (Sub.snd (Sub.fst (Sub.refl _)) rfl) rfl)) rfl) ?_)
 intro cb bg
 obtain ⟨bY, bZ, ca, rfl, bp, bq, br⟩ := encCond_val.1 bg
 refine ⟨rfl, ?_⟩
 obtain ⟨co, bh, hm⟩ := Zg hm
 refine DL_e rfl rfl (Tc rfl rfl rfl (Zi rfl (Zi rfl args_nil)) (ref18_Holds_sim bh an.drew a1 a2 bp bq br).r ?_)
 rintro _ ch ⟨ap, i, a4, rfl⟩
 refine ⟨ag_nil, ?_⟩
 refine DL_q rfl rfl (Exec.not rfl rfl ⟨rfl, ?_⟩)
 refine DL_done (Zb (Ze ?_))
 rcases ite_some hm with ⟨ai, hm⟩ | ⟨ai, hm⟩
 ·refine W_cond_t rfl ai (Zc (Zd (Za rfl rfl (Zo (v := Value.bool (false)) rfl rfl (Zb (Ze (W_ret (at_ret ?_))))))))
  have bC := Zu hm
  subst r
  refine ⟨_, ret1 rfl, ?_⟩
  exact ⟨ap, i, ((a4).drop).drop, rfl⟩
 refine W_cond_f rfl ai ?_
 replace ai := Zk ai
 refine W_skip (Ze (Zc (Zc (Zd (Za rfl rfl (Zo (v := Vi (0)) rfl rfl (Zb (Ze ?_))))))))
 obtain ⟨a3, aP, ba, aY, aX⟩ := ctl_some hm
 refine W_mid (M := fun f' w' => ∃ s', (a3 = .next s' ∨ a3 = .brk s') ∧ (fun (a8 : Int) => ∃ (aE : PHeap) , PHeap.le ap aE ∧ St w0 aE (Res.box u 28 [ab, ac, ad, ae, af] :: Res.box x 69 [m, n] :: H) w' ∧ f' 2 = Vi (k) ∧ f' 3 = Value.pointer (some ⟨u, 0, none⟩) ∧ f' 4 = Value.pointer (some ⟨x, 0, none⟩) ∧ f' 7 = Vi (a8)) s') ?_ ?_
 ·refine W_block (W_while (fun s' f' w' => (fun (t : Int) => ∃ (aF : PHeap) , PHeap.le ap aF ∧ St w0 aF (Res.box u 28 [ab, ac, ad, ae, af] :: Res.box x 69 [m, n] :: H) w' ∧ f' 2 = Vi (k) ∧ f' 3 = Value.pointer (some ⟨u, 0, none⟩) ∧ f' 4 = Value.pointer (some ⟨x, 0, none⟩) ∧ f' 7 = Vi (t)) s') aP ?_ ?_)
  ·have aU := (a4).f1
   exact ⟨ap, (Zv _), aU, rfl, rfl, rfl, rfl⟩
  intro t au bL ci aQ a a7
  obtain ⟨bu, j, p, z, l, al, aa⟩ := aQ
  refine Zc (Zc (Zd (Za rfl rfl (Zm (v := Vi (t)) rfl aa (Za rfl rfl (Zp F28_4 rfl l rfl (Za rfl rfl (Zn (p) A26 rfl rfl rfl (Za rfl rfl (Zm (v := Vi (k)) rfl z (Za rfl rfl (Exec.index_rep S26 rfl rfl rfl (ar.mono (Zt i j)) aw ?_))))))))))))
  intro b5 bP aK
  refine Za rfl rfl (Zp F51_4 rfl rfl rfl (Za rfl rfl (Zw (E := (encSlice encGAssign)) p A49 rfl rfl rfl (aK.sub (Sub.iso (Sub.snd (Sub.snd (Sub.snd (Sub.snd (Sub.refl _) rfl) rfl) rfl) rfl)) rfl) ?_)))
  intro cc bi
  have bs : SliceRep _ _ _ (aI.Assigns) := encSlice_val.1 bi
  refine Za rfl rfl (Zr S49 rfl rfl bs (Za rfl rfl (Zq rfl rfl rfl (Zb (Ze ?_)))))
  rcases ite_some a with ⟨aj, a⟩ | ⟨aj, a⟩
  ·refine W_cond_t rfl aj (W_skip (Ze (Zc (W_block (Zc (Zd (Za rfl rfl (Zp F28_4 rfl l rfl (Za rfl rfl (Zn (p) A26 rfl rfl rfl (Za rfl rfl (Zm (v := Vi (k)) rfl z (Za rfl rfl (Exec.index_rep S26 rfl rfl rfl (ar.mono (Zt i j)) aw ?_))))))))))))))
   intro b6 bQ aL
   refine Za rfl rfl (Zp F51_4 rfl rfl rfl (Za rfl rfl (Zw (E := (encSlice encGAssign)) p A49 rfl rfl rfl (aL.sub (Sub.iso (Sub.snd (Sub.snd (Sub.snd (Sub.snd (Sub.refl _) rfl) rfl) rfl) rfl)) rfl) ?_)))
   intro cd bj
   have bt : SliceRep _ _ _ (aI.Assigns) := encSlice_val.1 bj
   refine Za rfl rfl (Zm (v := Vi (t)) rfl aa ?_)
   obtain ⟨o, bk, a⟩ := Zg a
   refine Za rfl rfl (Exec.index_rep S49 rfl rfl rfl bt bk ?_)
   intro b7 bR aM
   refine Za rfl rfl (Zw (E := encGAssign) p A84 rfl rfl rfl aM ?_)
   intro ce bl
   obtain ⟨ay, rfl, aC⟩ := encGAssign_val.1 bl
   refine Za rfl rfl (Exec.alloc (cs := [Vi (0), Value.string (⟨#[]⟩), Vi (0), Value.slice none 0 0]) p Z84 rfl rfl ?_)
   intro b8 cj aV
   refine Za rfl rfl (Exec.store_box (ds := [Vi (o.Fluent), Value.string (o.Value.Op), Vi (o.Value.N), ay]) (es := [Vi (o.Fluent), Value.string (o.Value.Op), Vi (o.Value.N), ay]) aV A84 rfl rfl rfl rfl (Zj rfl (Zj rfl (Zj rfl (Zj (aC).one one_nil)))) (Nat.le_of_ble_eq_true rfl) rfl ?_)
   intro ck av
   refine Zb (Ze (Zc (Zd (Za rfl rfl (Exec.load_box_agg (ds := [m, n]) ((av).f2) A69 rfl al rfl (Za rfl rfl (Zp F84_1 rfl rfl rfl (Za rfl rfl (Exec.load_box_agg (ds := [Value.string (o.Value.Op), Vi (o.Value.N), ay]) (av) A82 rfl rfl rfl ?_)))))))))
   obtain ⟨bw, bm, a⟩ := Zg a
   obtain ⟨ag, am⟩ := bw
   replace a := un2_eq a
   refine Za rfl rfl (Tc rfl rfl rfl (Zi rfl (Zi rfl args_nil)) (ref18_Value_sim bm av (a1.mono (Zt i j)) (a2.mono (Zt i j)) aC).r ?_)
   rintro _ cl ⟨aq, ao, g, rfl⟩
   refine Za rfl rfl (Zm (v := Value.tuple #[Vi (ag), Value.bool (am)]) rfl rfl (Za rfl rfl (Exec.extract (v := Vi (ag)) rfl rfl rfl (Za rfl rfl (Exec.extract (v := Value.bool (am)) rfl rfl rfl (Za rfl rfl (Zo (v := Vi (ag)) rfl rfl (Za rfl rfl (Zo (v := Value.bool (am)) rfl rfl (Zb (Ze (Zc ?_))))))))))))
   obtain ⟨ah, d, a⟩ := Zg a
   refine W_mid (M := fun f' w' => (fun (ah : Bool) => ∃ (aG : PHeap) , PHeap.le aq aG ∧ St w0 aG (Res.box u 28 [ab, ac, ad, ae, af] :: Res.box x 69 [m, n] :: H) w' ∧ f' 2 = Vi (k) ∧ f' 3 = Value.pointer (some ⟨u, 0, none⟩) ∧ f' 4 = Value.pointer (some ⟨x, 0, none⟩) ∧ f' 7 = Vi (t) ∧ f' 70 = Value.bool (ah)) ah) ?_ ?_
   ·refine Zd (Za rfl rfl (Zm (v := Value.bool (am)) rfl rfl (Za rfl rfl (Exec.not rfl rfl (Za rfl rfl (Zm (v := Value.bool (!am)) rfl rfl ?_))))))
    rcases ite_some d with ⟨b, d⟩ | ⟨b, d⟩
    ·refine WL_passes 21 (by rw [b]; rfl) ?_
     refine Zb (Ze ?_)
     have bD := Zu d
     subst ah
     exact ⟨aq, (Zv _), (((g).drop).f1).f1, z, l, al, aa, rfl⟩
    replace b := Zk b
    refine WL_run rfl (Zf rfl (Zx b)) rfl (Zm (v := Vi (ag)) rfl rfl (WL_run rfl (Zf rfl (Zx b)) rfl (Zp F28_1 rfl l rfl (WL_run rfl (Zf rfl (Zx b)) rfl (Zn ((g).f1) A23 rfl rfl rfl (WL_run rfl (Zf rfl (Zx b)) rfl (Zp F84_0 rfl rfl rfl (WL_run rfl (Zf rfl (Zx b)) rfl (Zn (g) A3 rfl rfl rfl ?_)))))))))
    obtain ⟨az, aB, d⟩ := Zg d
    refine WL_run rfl (Zf rfl (Zx b)) rfl (Exec.index_rep S23 rfl rfl rfl (a0.mono (Zt (Zt i j) ao)) aB ?_)
    intro b9 bS aN
    refine WL_run rfl (Zf rfl (Zx b)) rfl (Zp F93_1 rfl rfl rfl (WL_run rfl (Zf rfl (Zx b)) rfl (Zw (E := (encInt .i64)) g A3 rfl rfl rfl (aN.sub (Sub.iso (Sub.snd (Sub.fst (Sub.refl _)) rfl)) rfl) ?_)))
    intro bx bn
    obtain rfl : bx = Vi (az.Lo) := encInt_val.1 bn
    refine WL_run rfl (Zf rfl (Zx b)) rfl (Zq rfl rfl rfl ?_)
    refine WL_passes 2 (by rw [b]; rfl) ?_
    rcases ite_some d with ⟨c, d⟩ | ⟨c, d⟩
    ·refine WL_passes 10 (by rw [c]; rfl) ?_
     refine Zb (Ze ?_)
     have bE := Zu d
     subst ah
     exact ⟨aq, (Zv _), (((g).drop).f1).f1, z, l, al, aa, rfl⟩
    replace c := Zk c
    refine WL_run rfl (Zf rfl (Zx c)) rfl (Zm (v := Vi (ag)) rfl rfl (WL_run rfl (Zf rfl (Zx c)) rfl (Zp F28_1 rfl l rfl (WL_run rfl (Zf rfl (Zx c)) rfl (Zn ((g).f1) A23 rfl rfl rfl (WL_run rfl (Zf rfl (Zx c)) rfl (Zp F84_0 rfl rfl rfl (WL_run rfl (Zf rfl (Zx c)) rfl (Zn (g) A3 rfl rfl rfl (WL_run rfl (Zf rfl (Zx c)) rfl (Exec.index_rep S23 rfl rfl rfl (a0.mono (Zt (Zt i j) ao)) aB ?_)))))))))))
    intro bA bT aO
    refine WL_run rfl (Zf rfl (Zx c)) rfl (Zp F93_2 rfl rfl rfl (WL_run rfl (Zf rfl (Zx c)) rfl (Zw (E := (encInt .i64)) g A3 rfl rfl rfl (aO.sub (Sub.iso (Sub.snd (Sub.snd (Sub.fst (Sub.refl _)) rfl) rfl)) rfl) ?_)))
    intro bz bo
    obtain rfl : bz = Vi (az.Hi) := encInt_val.1 bo
    refine WL_run rfl (Zf rfl (Zx c)) rfl (Exec.gtr rfl rfl rfl (Za rfl rfl (Exec.pick_f (v := Value.bool (decide (az.Hi < ag))) rfl (Zx c) rfl (Zb (Ze ?_)))))
    have bF := Zu d
    subst ah
    exact ⟨aq, (Zv _), (((g).drop).f1).f1, z, l, al, aa, rfl⟩
   intro bM cm aR
   obtain ⟨aH, a9, a5, bc, bd, be, bf, aA⟩ := aR
   refine (Ze ?_)
   rcases ite_some a with ⟨ak, a⟩ | ⟨ak, a⟩
   ·refine W_cond_t aA ak (Zc (Zd (Za rfl rfl (Zo (v := Value.bool (false)) rfl rfl (Zb (Ze (W_ret (ib_ret (at_ret (at_ret (ib_ret (at_ret (at_ret ?_)))))))))))))
    have bG := Zu a
    subst au
    have aZ := ba _ (a7 (by intro _ h; cases h))
    have bH := Zu aZ
    subst r
    refine ⟨_, ret1 rfl, ?_⟩
    exact ⟨aH, (Zt (Zt (Zt i j) ao) a9), ((a5).drop).drop, rfl⟩
   refine W_cond_f aA ak ?_
   replace ak := Zk ak
   refine W_skip (ib_normal (Ze (Zd (Za rfl rfl (Zm (v := Vi (t)) rfl bf (Za rfl rfl (Exec.add rfl rfl rfl (Za rfl rfl (Zo (v := Vi (IntKind.i64.wrap (t + 1))) rfl rfl (Zb (Ze ?_)))))))))))
   have bI := Zu a
   subst au
   refine ⟨_, rfl, ?_⟩; exact ⟨aH, (Zt (Zt j ao) a9), ((a5).f1).f1, bc, bd, be, rfl⟩
  refine W_cond_f rfl aj ?_
  replace aj := Zk aj
  refine W_exit (at_exit (at_exit (ib_here (Ze ?_))))
  have bJ := Zu a
  subst au
  refine ⟨_, .inr (a7 (by intro _ h; cases h)), ?_⟩; exact ⟨bu, j, ((p).f1).f1, z, l, al, aa⟩
 rintro bN cn ⟨a8, a6, aS⟩
 have hm := a6.elim (aY _) (aX _)
 clear a6
 obtain ⟨bv, bb, aW, bU, bV, bW, bX⟩ := aS
 refine (Ze (Zc (Zd (Za rfl rfl (Zo (v := Value.bool (true)) rfl rfl (Zb (Ze (W_ret ?_))))))))
 have bK := Zu hm
 subst r
 refine ⟨_, ret1 rfl, ?_⟩
 exact ⟨bv, (Zt i bb), ((aW).drop).drop, rfl⟩
theorem F114_1 : tyField Try.prog 114 1 = some 2 := by kernel_rfl
theorem ref18_Next_sim {w0 w : World} {s : PHeap} {H : List Res} {fu : Nat} {az : Ground} {aZ : GState} {bp : Int} {ab : Value} {ac : Value} {ad : Value} {ae : Value} {af : Value} {n : Value} {o : Value} {r : GState} (hm : ref18_Next_p fu az aZ bp = some r) (hS : St w0 s (H) w) (cH : SliceRep encAtom s ab az.Atoms) (eT : SliceRep encGFluent s ac az.Fluents) (eU : SliceRep (encInt .i64) s ad az.Init) (eV : SliceRep encCond s ae az.Goal) (cI : SliceRep encGOp s af az.Ops) (bf : SliceRep (encInt .i64) s n aZ.True) (bg : SliceRep (encInt .i64) s o aZ.Values) :
  Calls Try.prog 63 #[Value.agg #[ab, ac, ad, ae, af], Value.agg #[n, o], Vi (bp)] w fun e w' => ∃ v, e = .returned v ∧ ((fun (cF : GState) => ∃ (aW : PHeap) (cD : Value) (cE : Value), PHeap.le s aW ∧ St w0 aW (H) w' ∧ v = Value.agg #[cD, cE] ∧ SliceRep (encInt .i64) aW cD cF.True ∧ SliceRep (encInt .i64) aW cE cF.Values) r) := by
 unfold ref18_Next_p at hm
 refine calls_of_W Try.func63 rfl rfl (Zc (Zd (Za rfl rfl (Exec.box (cs := [ab, ac, ad, ae, af]) hS rfl rfl rfl ?_))))
 intro k gb dc
 refine Za rfl rfl (Exec.box (cs := [n, o]) dc rfl rfl rfl ?_)
 intro b gc dd
 refine Za rfl rfl (Exec.alloc (cs := [Value.slice none 0 0, Value.slice none 0 0]) dd Z69 rfl rfl ?_)
 intro d gd bh
 refine Zb (Ze (Zc (Zd (Za rfl rfl (Zp F28_4 rfl rfl rfl (Za rfl rfl (Zn ((bh).f2) A26 rfl rfl rfl (Za rfl rfl (Zm (v := Vi (bp)) rfl rfl ?_)))))))))
 obtain ⟨a, eo, hm⟩ := Zg hm
 refine Za rfl rfl (Exec.index_rep S26 rfl rfl rfl cI eo ?_)
 intro eW fK cJ
 refine Za rfl rfl (Zw (E := encGOp) bh A51 rfl rfl rfl cJ ?_)
 intro fY ep
 obtain ⟨u, x, y, z, aa, rfl, e2, e3, e4, bw, aV⟩ := encGOp_val.1 ep
 refine Za rfl rfl (Exec.alloc (cs := [Value.string (⟨#[]⟩), Vi (0), Value.slice none 0 0, Value.slice none 0 0, Value.slice none 0 0, Value.slice none 0 0, Value.slice none 0 0]) bh Z51 rfl rfl ?_)
 intro g gf de
 refine Za rfl rfl (Exec.store_box (ds := [Value.string (a.Name), Vi (a.Cost), u, x, y, z, aa]) (es := [Value.string (a.Name), Vi (a.Cost), u, x, y, z, aa]) de A51 rfl rfl rfl rfl (Zj rfl (Zj rfl (Zj (e2).one (Zj (e3).one (Zj (e4).one (Zj (bw).one (Zj (aV).one one_nil))))))) (Nat.le_of_ble_eq_true rfl) rfl ?_)
 intro gg df
 refine Zb (Ze (Zc (Zd (Za rfl rfl (Exec.alloc (cs := [Value.slice none 0 0, Value.slice none 0 0]) df Z69 rfl rfl ?_)))))
 intro i gh dg
 refine Zb (Ze (Zc (Zc (Zd (Za rfl rfl (Zo (v := Vi (0)) rfl rfl (Zb (Ze ?_))))))))
 obtain ⟨b7, cN, fD, d5, d1⟩ := ctl_some hm
 refine W_mid (M := fun f' w' => ∃ s', (b7 = .next s' ∨ b7 = .brk s') ∧ (un2 fun (bN : Int) (be : (List Int)) => ∃ (c2 : PHeap) (ag : Value), PHeap.le s c2 ∧ St w0 c2 (Res.box k 28 [ab, ac, ad, ae, af] :: Res.box b 69 [n, o] :: Res.box d 69 [Value.slice none 0 0, Value.slice none 0 0] :: Res.box g 51 [Value.string (a.Name), Vi (a.Cost), u, x, y, z, aa] :: Res.box i 69 [ag, Value.slice none 0 0] :: Res.arr (encInt .i64) 3 ag be :: H) w' ∧ f' 3 = Value.pointer (some ⟨k, 0, none⟩) ∧ f' 4 = Value.pointer (some ⟨b, 0, none⟩) ∧ f' 6 = Value.pointer (some ⟨d, 0, none⟩) ∧ f' 7 = Value.pointer (some ⟨g, 0, none⟩) ∧ f' 8 = Value.pointer (some ⟨i, 0, none⟩) ∧ f' 9 = Vi (bN)) s') ?_ ?_
 ·refine W_block (W_while (fun s' f' w' => (un2 fun (j : Int) (ar : (List Int)) => ∃ (c3 : PHeap) (m : Value), PHeap.le s c3 ∧ St w0 c3 (Res.box k 28 [ab, ac, ad, ae, af] :: Res.box b 69 [n, o] :: Res.box d 69 [Value.slice none 0 0, Value.slice none 0 0] :: Res.box g 51 [Value.string (a.Name), Vi (a.Cost), u, x, y, z, aa] :: Res.box i 69 [m, Value.slice none 0 0] :: Res.arr (encInt .i64) 3 m ar :: H) w' ∧ f' 3 = Value.pointer (some ⟨k, 0, none⟩) ∧ f' 4 = Value.pointer (some ⟨b, 0, none⟩) ∧ f' 6 = Value.pointer (some ⟨d, 0, none⟩) ∧ f' 7 = Value.pointer (some ⟨g, 0, none⟩) ∧ f' 8 = Value.pointer (some ⟨i, 0, none⟩) ∧ f' 9 = Vi (j)) s') cN ?_ ?_)
  ·have dh := dg.nilArr (encInt .i64) 3
   exact ⟨s, (Value.slice none 0 0), (Zv _), (((((dh).f1).f2).f3).f4).f5, rfl, rfl, rfl, rfl, rfl, rfl⟩
  intro eG b8 fv gi cR p d9
  obtain ⟨j, ar⟩ := eG
  replace p := un2_eq p
  obtain ⟨e8, m, ap, aM, bq, br, bW, bX, bY, aO⟩ := cR
  refine Zc (Zc (Zd (Za rfl rfl (Zm (v := Vi (j)) rfl aO (Za rfl rfl (Zp F28_0 rfl bq rfl (Za rfl rfl (Zn (aM) A22 rfl rfl rfl (Za rfl rfl (Zr S22 rfl rfl (cH.mono ap) (Za rfl rfl (Zq rfl rfl rfl (Zb (Ze ?_))))))))))))))
  rcases ite_some p with ⟨a9, p⟩ | ⟨a9, p⟩
  ·refine W_cond_t rfl a9 (W_skip (Ze (Zc (W_block (Zc (Zd (Za rfl rfl (Zp F69_0 rfl br rfl (Za rfl rfl (Zn ((aM).f1) A24 rfl rfl rfl (Za rfl rfl (Zm (v := Vi (j)) rfl aO ?_))))))))))))
   obtain ⟨eR, er, p⟩ := Zg p
   refine Za rfl rfl (Tc rfl rfl rfl (Zi rfl (Zi rfl args_nil)) (ref18_In_sim er aM (bf.mono ap)).r ?_)
   rintro _ gj ⟨bx, aH, di, rfl⟩
   refine Za rfl rfl (Zo (v := Value.bool (eR)) rfl rfl (Zb (Ze (Zc (Zc (Zd (Za rfl rfl (Zo (v := Vi (0)) rfl rfl (Zb (Ze ?_))))))))))
   obtain ⟨b9, cO, fE, d6, d2⟩ := ctl_some p
   refine W_mid (M := fun f' w' => ∃ s', (b9 = .next s' ∨ b9 = .brk s') ∧ (un2 fun (bn : Bool) (b5 : Int) => ∃ (c4 : PHeap) , PHeap.le bx c4 ∧ St w0 c4 (Res.box k 28 [ab, ac, ad, ae, af] :: Res.box b 69 [n, o] :: Res.box d 69 [Value.slice none 0 0, Value.slice none 0 0] :: Res.box g 51 [Value.string (a.Name), Vi (a.Cost), u, x, y, z, aa] :: Res.box i 69 [m, Value.slice none 0 0] :: Res.arr (encInt .i64) 3 m ar :: H) w' ∧ f' 3 = Value.pointer (some ⟨k, 0, none⟩) ∧ f' 4 = Value.pointer (some ⟨b, 0, none⟩) ∧ f' 6 = Value.pointer (some ⟨d, 0, none⟩) ∧ f' 7 = Value.pointer (some ⟨g, 0, none⟩) ∧ f' 8 = Value.pointer (some ⟨i, 0, none⟩) ∧ f' 9 = Vi (j) ∧ f' 10 = Value.bool (bn) ∧ f' 11 = Vi (b5)) s') ?_ ?_
   ·refine W_block (W_while (fun s' f' w' => (un2 fun (bP : Bool) (aj : Int) => ∃ (c5 : PHeap) , PHeap.le bx c5 ∧ St w0 c5 (Res.box k 28 [ab, ac, ad, ae, af] :: Res.box b 69 [n, o] :: Res.box d 69 [Value.slice none 0 0, Value.slice none 0 0] :: Res.box g 51 [Value.string (a.Name), Vi (a.Cost), u, x, y, z, aa] :: Res.box i 69 [m, Value.slice none 0 0] :: Res.arr (encInt .i64) 3 m ar :: H) w' ∧ f' 3 = Value.pointer (some ⟨k, 0, none⟩) ∧ f' 4 = Value.pointer (some ⟨b, 0, none⟩) ∧ f' 6 = Value.pointer (some ⟨d, 0, none⟩) ∧ f' 7 = Value.pointer (some ⟨g, 0, none⟩) ∧ f' 8 = Value.pointer (some ⟨i, 0, none⟩) ∧ f' 9 = Vi (j) ∧ f' 10 = Value.bool (bP) ∧ f' 11 = Vi (aj)) s') cO ?_ ?_)
    ·have dj := (di).f5
     exact ⟨bx, (Zv _), (((((dj).f5).f5).f5).f5).f5, bq, br, bW, bX, bY, aO, rfl, rfl⟩
    intro eH bA fw gk cS ah dA
    obtain ⟨bP, aj⟩ := eH
    replace ah := un2_eq ah
    obtain ⟨aX, a0, bG, bZ, ca, cb, cc, cd, ce, cf, bs⟩ := cS
    refine Zc (Zc (Zd (Za rfl rfl (Zm (v := Vi (aj)) rfl bs (Za rfl rfl (Zq rfl rfl rfl (Zb (Ze ?_))))))))
    rcases ite_some ah with ⟨aA, ah⟩ | ⟨aA, ah⟩
    ·refine W_cond_t rfl aA (W_skip (Ze (Zc (W_block (Zc (Zd (Za rfl rfl (Zo (v := Vi (0)) rfl rfl (Zb (Ze ?_))))))))))
     obtain ⟨bB, cP, fF, d7, d3⟩ := ctl_some ah
     refine W_mid (M := fun f' w' => ∃ s', (bB = .next s' ∨ bB = .brk s') ∧ (un2 fun (bQ : Bool) (bR : Int) => ∃ (c6 : PHeap) , PHeap.le aX c6 ∧ St w0 c6 (Res.box k 28 [ab, ac, ad, ae, af] :: Res.box b 69 [n, o] :: Res.box d 69 [Value.slice none 0 0, Value.slice none 0 0] :: Res.box g 51 [Value.string (a.Name), Vi (a.Cost), u, x, y, z, aa] :: Res.box i 69 [m, Value.slice none 0 0] :: Res.arr (encInt .i64) 3 m ar :: H) w' ∧ f' 3 = Value.pointer (some ⟨k, 0, none⟩) ∧ f' 4 = Value.pointer (some ⟨b, 0, none⟩) ∧ f' 6 = Value.pointer (some ⟨d, 0, none⟩) ∧ f' 7 = Value.pointer (some ⟨g, 0, none⟩) ∧ f' 8 = Value.pointer (some ⟨i, 0, none⟩) ∧ f' 9 = Vi (j) ∧ f' 10 = Value.bool (bQ) ∧ f' 11 = Vi (aj) ∧ f' 12 = Vi (bR)) s') ?_ ?_
     ·refine W_block (W_while (fun s' f' w' => (un2 fun (bo : Bool) (ao : Int) => ∃ (c7 : PHeap) , PHeap.le aX c7 ∧ St w0 c7 (Res.box k 28 [ab, ac, ad, ae, af] :: Res.box b 69 [n, o] :: Res.box d 69 [Value.slice none 0 0, Value.slice none 0 0] :: Res.box g 51 [Value.string (a.Name), Vi (a.Cost), u, x, y, z, aa] :: Res.box i 69 [m, Value.slice none 0 0] :: Res.arr (encInt .i64) 3 m ar :: H) w' ∧ f' 3 = Value.pointer (some ⟨k, 0, none⟩) ∧ f' 4 = Value.pointer (some ⟨b, 0, none⟩) ∧ f' 6 = Value.pointer (some ⟨d, 0, none⟩) ∧ f' 7 = Value.pointer (some ⟨g, 0, none⟩) ∧ f' 8 = Value.pointer (some ⟨i, 0, none⟩) ∧ f' 9 = Vi (j) ∧ f' 10 = Value.bool (bo) ∧ f' 11 = Vi (aj) ∧ f' 12 = Vi (ao)) s') cP ?_ ?_)
      ·have dk := (bG).f5
       exact ⟨aX, (Zv _), (((((dk).f5).f5).f5).f5).f5, bZ, ca, cb, cc, cd, ce, cf, bs, rfl⟩
      intro eI bC fx gl cT t dB
      obtain ⟨bo, ao⟩ := eI
      replace t := un2_eq t
      obtain ⟨aY, a1, a7, aP, aJ, aQ, a2, aR, aK, aS, aL, a3⟩ := cT
      refine Zc (Zc (Zd (Za rfl rfl (Zm (v := Vi (ao)) rfl a3 (Za rfl rfl (Zp F51_3 rfl a2 rfl (Za rfl rfl (Zn ((a7).f3) A48 rfl rfl rfl (Za rfl rfl (Zr S48 rfl rfl (bw.mono (Zt (Zt (Zt ap aH) a0) a1)) (Za rfl rfl (Zq rfl rfl rfl (Zb (Ze ?_))))))))))))))
      rcases ite_some t with ⟨aB, t⟩ | ⟨aB, t⟩
      ·refine W_cond_t rfl aB (W_skip (Ze (Zc (W_block (Zc (Zd (Za rfl rfl (Zp F51_3 rfl a2 rfl (Za rfl rfl (Zn ((a7).f3) A48 rfl rfl rfl (Za rfl rfl (Zm (v := Vi (ao)) rfl a3 ?_))))))))))))
       obtain ⟨aq, et, t⟩ := Zg t
       refine Za rfl rfl (Exec.index_rep S48 rfl rfl rfl (bw.mono (Zt (Zt (Zt ap aH) a0) a1)) et ?_)
       intro eX fL cK
       refine Za rfl rfl (Zw (E := encGChange) a7 A58 rfl rfl rfl cK ?_)
       intro fZ eu
       obtain ⟨ba, bb, bc, rfl, cz, c0, c1⟩ := encGChange_val.1 eu
       refine Za rfl rfl (Exec.alloc (cs := [Value.slice none 0 0, Value.slice none 0 0, Value.slice none 0 0, Vi (0), Value.bool (false)]) a7 Z58 rfl rfl ?_)
       intro b6 gm dl
       refine Za rfl rfl (Exec.store_box (ds := [ba, bb, bc, Vi (aq.Atom), Value.bool (aq.Add)]) (es := [ba, bb, bc, Vi (aq.Atom), Value.bool (aq.Add)]) dl A58 rfl rfl rfl rfl (Zj (cz).one (Zj (c0).one (Zj (c1).one (Zj rfl (Zj rfl one_nil))))) (Nat.le_of_ble_eq_true rfl) rfl ?_)
       intro gn au
       refine Zb (Ze (Zc ?_))
       obtain ⟨a6, ai, t⟩ := Zg t
       refine W_mid (M := fun f' w' => (fun (a6 : Bool) => ∃ (c8 : PHeap) , PHeap.le aY c8 ∧ St w0 c8 (Res.box k 28 [ab, ac, ad, ae, af] :: Res.box b 69 [n, o] :: Res.box d 69 [Value.slice none 0 0, Value.slice none 0 0] :: Res.box g 51 [Value.string (a.Name), Vi (a.Cost), u, x, y, z, aa] :: Res.box i 69 [m, Value.slice none 0 0] :: Res.box b6 58 [ba, bb, bc, Vi (aq.Atom), Value.bool (aq.Add)] :: Res.arr (encInt .i64) 3 m ar :: H) w' ∧ f' 3 = Value.pointer (some ⟨k, 0, none⟩) ∧ f' 4 = Value.pointer (some ⟨b, 0, none⟩) ∧ f' 6 = Value.pointer (some ⟨d, 0, none⟩) ∧ f' 7 = Value.pointer (some ⟨g, 0, none⟩) ∧ f' 8 = Value.pointer (some ⟨i, 0, none⟩) ∧ f' 9 = Vi (j) ∧ f' 10 = Value.bool (bo) ∧ f' 11 = Vi (aj) ∧ f' 12 = Vi (ao) ∧ f' 13 = Value.pointer (some ⟨b6, 0, none⟩) ∧ f' 63 = Value.bool (a6)) a6) ?_ ?_
       ·refine Zd (Za rfl rfl (Zp F58_1 rfl rfl rfl (Za rfl rfl (Zn (au) A3 rfl rfl rfl (Za rfl rfl (Zm (v := Vi (j)) rfl aK (Za rfl rfl (Exec.eql rfl rfl rfl (Za rfl rfl (Zm (v := Value.bool (decide (aq.Atom = j))) rfl rfl ?_))))))))))
        rcases ite_some ai with ⟨ak, ai⟩ | ⟨ak, ai⟩
        ·refine WL_run rfl (Zf rfl (Zx ak)) rfl (Zp F58_2 rfl rfl rfl (WL_run rfl (Zf rfl (Zx ak)) rfl (Zn (au) A4 rfl rfl rfl (WL_run rfl (Zf rfl (Zx ak)) rfl (Zm (v := Vi (aj)) rfl aL (WL_run rfl (Zf rfl (Zx ak)) rfl (Exec.eql rfl rfl rfl (WL_run rfl (Zf rfl (Zx ak)) rfl (Exec.bool_eql Try.underlying4 rfl rfl rfl ?_)))))))))
         refine WL_passes 2 (by rw [ak]; rfl) ?_
         rcases ite_some ai with ⟨am, ai⟩ | ⟨am, ai⟩
         ·refine WL_run rfl (Zf rfl (Zx am)) rfl (Exec.load_box_agg (ds := [n, o]) ((au).f2) A69 rfl aJ rfl (WL_run rfl (Zf rfl (Zx am)) rfl (Zp F58_0 rfl rfl rfl (WL_run rfl (Zf rfl (Zx am)) rfl (Exec.load_box_agg (ds := [ba, bb, bc]) (au) A47 rfl rfl rfl ?_)))))
          obtain ⟨eS, ev, ai⟩ := Zg ai
          refine WL_run rfl (Zf rfl (Zx am)) rfl (Tc rfl rfl rfl (Zi rfl (Zi rfl args_nil)) (ref18_Holds_sim ev au (bf.mono (Zt (Zt (Zt ap aH) a0) a1)) (bg.mono (Zt (Zt (Zt ap aH) a0) a1)) cz c0 c1).r ?_)
          rintro _ go ⟨e9, dD, dm, rfl⟩
          refine Za rfl rfl (Zs (v := Value.bool (eS)) rfl (Zx am) rfl (Zb (Ze ?_)))
          have fd := Zu ai
          subst a6
          exact ⟨e9, dD, (((((((dm).f6).f1).f6).f6).f6).f6).f6, aP, aJ, aQ, a2, aR, aK, aS, aL, a3, rfl, rfl⟩
         replace am := Zk am
         refine WL_passes 5 (by rw [am]; rfl) ?_
         refine Zb (Ze ?_)
         have fe := Zu ai
         subst a6
         exact ⟨aY, (Zv _), (((((((au).f6).f1).f6).f6).f6).f6).f6, aP, aJ, aQ, a2, aR, aK, aS, aL, a3, rfl, rfl⟩
        replace ak := Zk ak
        refine WL_passes 12 (by rw [ak]; rfl) ?_
        refine Zb (Ze ?_)
        have ff := Zu ai
        subst a6
        exact ⟨aY, (Zv _), (((((((au).f6).f1).f6).f6).f6).f6).f6, aP, aJ, aQ, a2, aR, aK, aS, aL, a3, rfl, rfl⟩
       intro fy gp cV
       obtain ⟨bz, dE, bi, cg, ch, ci, cj, ck, cl, dL, cm, cn, dM, co⟩ := cV
       refine (Ze ?_)
       obtain ⟨aG, aF, t⟩ := Zg t
       refine W_mid (M := fun f' w' => (fun (aG : Bool) => ∃ (c9 : PHeap) , PHeap.le bz c9 ∧ St w0 c9 (Res.box k 28 [ab, ac, ad, ae, af] :: Res.box b 69 [n, o] :: Res.box d 69 [Value.slice none 0 0, Value.slice none 0 0] :: Res.box g 51 [Value.string (a.Name), Vi (a.Cost), u, x, y, z, aa] :: Res.box i 69 [m, Value.slice none 0 0] :: Res.arr (encInt .i64) 3 m ar :: H) w' ∧ f' 3 = Value.pointer (some ⟨k, 0, none⟩) ∧ f' 4 = Value.pointer (some ⟨b, 0, none⟩) ∧ f' 6 = Value.pointer (some ⟨d, 0, none⟩) ∧ f' 7 = Value.pointer (some ⟨g, 0, none⟩) ∧ f' 8 = Value.pointer (some ⟨i, 0, none⟩) ∧ f' 9 = Vi (j) ∧ f' 10 = Value.bool (aG) ∧ f' 11 = Vi (aj) ∧ f' 12 = Vi (ao)) aG) ?_ ?_
       ·rcases ite_some aF with ⟨aC, aF⟩ | ⟨aC, aF⟩
        ·refine W_cond_t co aC (Zd (Za rfl rfl (Zp F58_2 rfl dM rfl (Za rfl rfl (Zn ((bi).f5) A4 rfl rfl rfl (Za rfl rfl (Zo (v := Value.bool (aq.Add)) rfl rfl (Zb (Ze ?_)))))))))
         have fg := Zu aF
         subst aG
         exact ⟨bz, (Zv _), ((((((((bi).f5).drop).f5).f5).f5).f5).f5).f5, cg, ch, ci, cj, ck, cl, rfl, cm, cn⟩
        refine W_cond_f co aC ?_
        replace aC := Zk aC
        refine W_skip (Ze ?_)
        have fh := Zu aF
        subst aG
        exact ⟨bz, (Zv _), ((((((((bi).f5).drop).f5).f5).f5).f5).f5).f5, cg, ch, ci, cj, ck, cl, dL, cm, cn⟩
       intro fz gq cW
       obtain ⟨eA, dF, dn, dN, dO, dP, dQ, dR, dS, dT, dU, dV⟩ := cW
       refine (ib_normal (Ze (Zd (Za rfl rfl (Zm (v := Vi (ao)) rfl dV (Za rfl rfl (Exec.add rfl rfl rfl (Za rfl rfl (Zo (v := Vi (IntKind.i64.wrap (ao + 1))) rfl rfl (Zb (Ze ?_)))))))))))
       have fi := Zu t
       subst bC
       refine ⟨_, rfl, ?_⟩; exact ⟨eA, (Zt (Zt a1 dE) dF), ((((((dn).f5).f5).f5).f5).f5).f5, dN, dO, dP, dQ, dR, dS, dT, dU, rfl⟩
      refine W_cond_f rfl aB ?_
      replace aB := Zk aB
      refine W_exit (at_exit (at_exit (ib_here (Ze ?_))))
      have fj := Zu t
      subst bC
      refine ⟨_, .inr (dB (by intro _ h; cases h)), ?_⟩; exact ⟨aY, a1, ((((((a7).f5).f5).f5).f5).f5).f5, aP, aJ, aQ, a2, aR, aK, aS, aL, a3⟩
     rintro f0 gr ⟨eJ, bJ, cX⟩
     have ah := bJ.elim (d7 _) (d3 _)
     clear bJ
     obtain ⟨bQ, bR⟩ := eJ
     replace ah := un2_eq ah
     obtain ⟨eB, dG, dp, dW, dX, dY, dZ, ea, eb, ec, ed, fO⟩ := cX
     refine (ib_normal (Ze (Zd (Za rfl rfl (Zm (v := Vi (aj)) rfl ed (Za rfl rfl (Exec.add rfl rfl rfl (Za rfl rfl (Zo (v := Vi (IntKind.i64.wrap (aj + 1))) rfl rfl (Zb (Ze ?_)))))))))))
     have fk := Zu ah
     subst bA
     refine ⟨_, rfl, ?_⟩; exact ⟨eB, (Zt a0 dG), ((((((dp).f5).f5).f5).f5).f5).f5, dW, dX, dY, dZ, ea, eb, ec, rfl⟩
    refine W_cond_f rfl aA ?_
    replace aA := Zk aA
    refine W_exit (at_exit (at_exit (ib_here (Ze ?_))))
    have fl := Zu ah
    subst bA
    refine ⟨_, .inr (dA (by intro _ h; cases h)), ?_⟩; exact ⟨aX, a0, ((((((bG).f5).f5).f5).f5).f5).f5, bZ, ca, cb, cc, cd, ce, cf, bs⟩
   rintro f7 gs ⟨eK, bK, cY⟩
   have p := bK.elim (d6 _) (d2 _)
   clear bK
   obtain ⟨bn, b5⟩ := eK
   replace p := un2_eq p
   obtain ⟨b0, dH, bj, cp, cq, cr, ct, aT, bt, ee, fP⟩ := cY
   refine (Ze (Zc (Zd (Za rfl rfl (Zm (v := Value.bool (bn)) rfl ee (Zb (Ze ?_)))))))
   obtain ⟨aI, aw, p⟩ := Zg p
   refine W_mid (M := fun f' w' => (fun (aI : (List Int)) => ∃ (cA : PHeap) (bd : Value), PHeap.le b0 cA ∧ St w0 cA (Res.box k 28 [ab, ac, ad, ae, af] :: Res.box b 69 [n, o] :: Res.box d 69 [Value.slice none 0 0, Value.slice none 0 0] :: Res.box g 51 [Value.string (a.Name), Vi (a.Cost), u, x, y, z, aa] :: Res.box i 69 [bd, Value.slice none 0 0] :: Res.arr (encInt .i64) 3 bd aI :: H) w' ∧ f' 3 = Value.pointer (some ⟨k, 0, none⟩) ∧ f' 4 = Value.pointer (some ⟨b, 0, none⟩) ∧ f' 6 = Value.pointer (some ⟨d, 0, none⟩) ∧ f' 7 = Value.pointer (some ⟨g, 0, none⟩) ∧ f' 8 = Value.pointer (some ⟨i, 0, none⟩) ∧ f' 9 = Vi (j)) aI) ?_ ?_
   ·rcases ite_some aw with ⟨aD, aw⟩ | ⟨aD, aw⟩
    ·refine W_cond_t rfl aD (Zd (Za rfl rfl (Zp F69_0 rfl aT rfl (Za rfl rfl (Zn ((bj).f4) A24 rfl rfl rfl (Za rfl rfl (Zm (v := Vi (j)) rfl bt (Za rfl rfl (Exec.buildSlice (Te := 3) (cs := [Vi (j)]) bj rfl (parts_cons (c := [Vi (j)]) (cells_of rfl rfl) parts_nil) (fun _ => by kernel_rfl) ?_)))))))))
     intro eY gu dq
     obtain ⟨fH, ew, aw⟩ := Zg aw
     refine Za rfl rfl (Exec.append_box (E := (encInt .i64)) (ys := [j]) (dq).f6 S24 Z3 rfl (by decide) rfl rfl rfl rfl ⟨[Vi (j)], [], rfl, rfl, rfl⟩ rfl ew ?_)
     intro b2 gv bk
     refine Za rfl rfl (Zp F69_0 rfl aT rfl (Za rfl rfl (Exec.store_box (ds := [b2]) (es := [b2, Value.slice none 0 0]) (bk).f5 A24 rfl rfl rfl (cells_one (((bk).f5).f1).arr_one) (Zj (((bk).f5).f1).arr_one one_nil) (Nat.le_of_ble_eq_true rfl) rfl ?_)))
     intro gw dr
     refine Zb (Ze ?_)
     have fm := Zu aw
     subst aI
     exact ⟨b0, b2, (Zv _), ((((((dr).f1).f1).f5).f5).f5).f5, cp, cq, cr, ct, aT, bt⟩
    refine W_cond_f rfl aD ?_
    replace aD := Zk aD
    refine W_skip (Ze ?_)
    have fn := Zu aw
    subst aI
    exact ⟨b0, m, (Zv _), ((((((bj).f5).f5).f5).f5).f5).f5, cp, cq, cr, ct, aT, bt⟩
   intro f8 gx cZ
   obtain ⟨eC, bd, dI, dt, ef, eg, eh, ei, ej, ek⟩ := cZ
   refine (ib_normal (Ze (Zd (Za rfl rfl (Zm (v := Vi (j)) rfl ek (Za rfl rfl (Exec.add rfl rfl rfl (Za rfl rfl (Zo (v := Vi (IntKind.i64.wrap (j + 1))) rfl rfl (Zb (Ze ?_)))))))))))
   have fo := Zu p
   subst b8
   refine ⟨_, rfl, ?_⟩; exact ⟨eC, bd, (Zt (Zt (Zt ap aH) dH) dI), ((((((dt).f5).f5).f5).f5).f5).f5, ef, eg, eh, ei, ej, rfl⟩
  refine W_cond_f rfl a9 ?_
  replace a9 := Zk a9
  refine W_exit (at_exit (at_exit (ib_here (Ze ?_))))
  have fp := Zu p
  subst b8
  refine ⟨_, .inr (d9 (by intro _ h; cases h)), ?_⟩; exact ⟨e8, m, ap, ((((((aM).f5).f5).f5).f5).f5).f5, bq, br, bW, bX, bY, aO⟩
 rintro f9 gy ⟨eL, bL, da⟩
 have hm := bL.elim (d5 _) (d1 _)
 clear bL
 obtain ⟨bN, be⟩ := eL
 replace hm := un2_eq hm
 obtain ⟨b1, ag, ax, du, fQ, cu, el, em, cv, fR⟩ := da
 refine (Ze (Zc (Zd (Za rfl rfl (Exec.buildSlice (Te := 3) (cs := []) du rfl parts_nil (fun _ => by kernel_rfl) ?_)))))
 intro eZ gz bH
 refine Za rfl rfl (Zp F69_1 rfl cu rfl (Za rfl rfl (Zn ((bH).f2) A24 rfl rfl rfl ?_)))
 have dv := St.boxArr (E := (encInt .i64)) (xs := []) bH rfl (by simp [maxLen])
 obtain ⟨fI, ex, hm⟩ := Zg hm
 refine Za rfl rfl (Exec.append_rep (E := (encInt .i64)) (ys := aZ.Values) dv S24 Z3 rfl (by decide) rfl rfl rfl (bg.mono ax) ex ?_)
 intro al g0 bl
 refine Za rfl rfl (Zp F69_1 rfl cv rfl (Za rfl rfl (Exec.store_box (ds := [al]) (es := [ag, al]) (bl).f5 A24 rfl rfl rfl (cells_one (((bl).f5).f1).arr_one) (Zj (((bl).f5).f1).arr_one one_nil) (Nat.le_of_ble_eq_true rfl) rfl ?_)))
 intro g1 dw
 refine Zb (Ze (Zc (Zc (Zd (Za rfl rfl (Zo (v := Vi (0)) rfl rfl (Zb (Ze ?_))))))))
 obtain ⟨bD, cQ, fG, d8, d4⟩ := ctl_some hm
 refine W_mid (M := fun f' w' => ∃ s', (bD = .next s' ∨ bD = .brk s') ∧ (un2 fun (bO : Int) (bS : (List Int)) => ∃ (cB : PHeap) , PHeap.le b1 cB ∧ St w0 cB (Res.box b 69 [n, o] :: Res.box d 69 [Value.slice none 0 0, Value.slice none 0 0] :: Res.box g 51 [Value.string (a.Name), Vi (a.Cost), u, x, y, z, aa] :: Res.box i 69 [ag, al] :: Res.arr (encInt .i64) 3 ag be :: Res.arr (encInt .i64) 3 al bS :: H) w' ∧ f' 4 = Value.pointer (some ⟨b, 0, none⟩) ∧ f' 6 = Value.pointer (some ⟨d, 0, none⟩) ∧ f' 7 = Value.pointer (some ⟨g, 0, none⟩) ∧ f' 8 = Value.pointer (some ⟨i, 0, none⟩) ∧ f' 14 = Vi (bO)) s') ?_ ?_
 ·refine W_block (W_while (fun s' f' w' => (un2 fun (an : Int) (bT : (List Int)) => ∃ (cC : PHeap) , PHeap.le b1 cC ∧ St w0 cC (Res.box b 69 [n, o] :: Res.box d 69 [Value.slice none 0 0, Value.slice none 0 0] :: Res.box g 51 [Value.string (a.Name), Vi (a.Cost), u, x, y, z, aa] :: Res.box i 69 [ag, al] :: Res.arr (encInt .i64) 3 ag be :: Res.arr (encInt .i64) 3 al bT :: H) w' ∧ f' 4 = Value.pointer (some ⟨b, 0, none⟩) ∧ f' 6 = Value.pointer (some ⟨d, 0, none⟩) ∧ f' 7 = Value.pointer (some ⟨g, 0, none⟩) ∧ f' 8 = Value.pointer (some ⟨i, 0, none⟩) ∧ f' 14 = Vi (an)) s') cQ ?_ ?_)
  ·have dx := ((dw).f2).drop
   exact ⟨b1, (Zv _), ((((((dx).f1).f5).f2).f5).f5).f5, cu, el, em, cv, rfl⟩
  intro eM bE fA g2 cU l dC
  obtain ⟨an, bT⟩ := eM
  replace l := un2_eq l
  obtain ⟨eD, ay, bm, bu, cw, a4, aU, a5⟩ := cU
  refine Zc (Zc (Zd (Za rfl rfl (Zm (v := Vi (an)) rfl a5 (Za rfl rfl (Zp F51_4 rfl a4 rfl (Za rfl rfl (Zn ((bm).f2) A49 rfl rfl rfl (Za rfl rfl (Zr S49 rfl rfl (aV.mono (Zt ax ay)) (Za rfl rfl (Zq rfl rfl rfl (Zb (Ze ?_))))))))))))))
  rcases ite_some l with ⟨aE, l⟩ | ⟨aE, l⟩
  ·refine W_cond_t rfl aE (W_skip (Ze (Zc (W_block (W_dl (n0 := 21) (qs 0 15 (.e 15 [0, 1, 2, 3, 4, 5, 6, 7] (qs 16 4 (.e 20 [18] .done)))) hmix (by kernel_rfl) (by kernel_rfl) ?_)))))
   have av := bm.drew
   refine DL_q rfl rfl (Zp F69_1 rfl aU rfl ⟨rfl, ?_⟩)
   refine DL_q rfl rfl (Zn ((av).f3) A24 rfl rfl rfl ⟨rfl, ?_⟩)
   refine DL_q rfl rfl (Zp F51_4 rfl a4 rfl ⟨rfl, ?_⟩)
   refine DL_q rfl rfl (Zn ((av).f2) A49 rfl rfl rfl ⟨rfl, ?_⟩)
   refine DL_q rfl rfl (Zm (v := Vi (an)) rfl a5 ⟨rfl, ?_⟩)
   obtain ⟨eQ, cy, l⟩ := Zg l
   refine DL_q rfl rfl (Exec.index_repE S49 rfl rfl rfl (aV.mono (Zt ax ay)) cy ?_)
   intro fa fM b4 cM
   refine ⟨rfl, ?_⟩
   refine DL_q rfl rfl (Zp F84_0 rfl rfl rfl ⟨rfl, ?_⟩)
   refine DL_q rfl rfl (Zw (E := (encInt .i64)) av A3 rfl rfl rfl (b4.sub (Sub.iso (Sub.fst (Sub.refl _))) rfl) ?_)
   intro eP ey
   obtain rfl : eP = Vi (eQ.Fluent) := encInt_val.1 ey
   refine ⟨rfl, ?_⟩
   refine DL_q rfl rfl (Exec.load_box_agg (ds := [n, o]) (av) A69 rfl bu rfl ⟨rfl, ?_⟩)
   refine DL_q rfl rfl (Zp F51_4 rfl a4 rfl ⟨rfl, ?_⟩)
   refine DL_q rfl rfl (Zn ((av).f2) A49 rfl rfl rfl ⟨rfl, ?_⟩)
   refine DL_q rfl rfl (Zm (v := Vi (an)) rfl a5 ⟨rfl, ?_⟩)
   refine DL_q rfl rfl (Exec.index_repE S49 rfl rfl rfl (aV.mono (Zt ax ay)) cy ?_)
   intro fb fN cL fq
   refine ⟨rfl, ?_⟩
   refine DL_q rfl rfl (Zp F84_1 rfl rfl rfl ⟨rfl, ?_⟩)
   refine DL_q rfl rfl (Zw (E := encGExpr) av A82 rfl rfl rfl (cL.sub (Sub.iso (Sub.snd (Sub.refl _) rfl)) rfl) ?_)
   intro ga ez
   obtain ⟨fX, rfl, e5⟩ := encGExpr_val.1 ez
   refine ⟨rfl, ?_⟩
   obtain ⟨eN, e0, l⟩ := Zg l
   obtain ⟨cG, b3⟩ := eN
   replace l := un2_eq l
   refine DL_e rfl rfl (Tc rfl rfl rfl (Zi rfl (Zi rfl args_nil)) (ref18_Value_sim e0 av (bf.mono (Zt ax ay)) (bg.mono (Zt ax ay)) e5).r ?_)
   rintro _ g3 ⟨eE, bU, a8, rfl⟩
   refine ⟨(ag_cons (ag_r rfl rfl (Zp F69_1 rfl aU rfl ⟨rfl, rfl⟩)) (ag_cons (ag_r rfl rfl (Zn ((a8).f3) A24 rfl rfl rfl ⟨rfl, rfl⟩)) (ag_cons (ag_r rfl rfl (Zp F51_4 rfl a4 rfl ⟨rfl, rfl⟩)) (ag_cons (ag_r rfl rfl (Zn ((a8).f2) A49 rfl rfl rfl ⟨rfl, rfl⟩)) (ag_cons (ag_r rfl rfl (Zm (v := Vi (an)) rfl a5 ⟨rfl, rfl⟩)) (ag_cons (ag_r rfl rfl (Exec.index_run rfl rfl rfl cM ⟨rfl, rfl⟩)) (ag_cons (ag_r rfl rfl (Zp F84_0 rfl rfl rfl ⟨rfl, rfl⟩)) (ag_cons (ag_r rfl rfl (Zw (E := (encInt .i64)) a8 A3 rfl rfl rfl ((b4.sub (Sub.iso (Sub.fst (Sub.refl _))) rfl).mono bU) (fun _ q => ⟨rfl, encInt_val.1 q⟩))) ag_nil)))))))), ?_⟩
   refine DL_q rfl rfl (Zm (v := Value.tuple #[Vi (cG), Value.bool (b3)]) rfl rfl ⟨rfl, ?_⟩)
   refine DL_q rfl rfl (Exec.extract (v := Vi (cG)) rfl rfl rfl ⟨rfl, ?_⟩)
   refine DL_q rfl rfl (Exec.extract (v := Value.bool (b3)) rfl rfl rfl ⟨rfl, ?_⟩)
   obtain ⟨g7, bv, l⟩ := Zg l
   obtain ⟨fC, fc, bF⟩ := ((a8).f5).arr_at bv
   refine DL_q rfl rfl (Exec.index_slice S24 rfl bF rfl (idx_some bv).1 (idx_some bv).2.1 ⟨rfl, ?_⟩)
   obtain ⟨fJ, e1, l⟩ := Zg l
   refine DL_e rfl rfl (Exec.store_arr (a8).f5 bF A3 rfl rfl rfl rfl (encInt_val.2 rfl) e1 ?_)
   intro g4 dy
   refine ⟨(ag_cons (ag_r rfl rfl (Exec.extract (v := Value.bool (b3)) rfl rfl rfl ⟨rfl, rfl⟩)) ag_nil), ?_⟩
   refine DL_done (Zb (ib_normal (Ze (Zd (Za rfl rfl (Zm (v := Vi (an)) rfl a5 (Za rfl rfl (Exec.add rfl rfl rfl (Za rfl rfl (Zo (v := Vi (IntKind.i64.wrap (an + 1))) rfl rfl (Zb (Ze ?_))))))))))))
   have fr := Zu l
   subst bE
   refine ⟨_, rfl, ?_⟩; exact ⟨eE, (Zt ay bU), (((((dy).f5).f5).f5).f5).f5, bu, cw, a4, aU, rfl⟩
  refine W_cond_f rfl aE ?_
  replace aE := Zk aE
  refine W_exit (at_exit (at_exit (ib_here (Ze ?_))))
  have fs := Zu l
  subst bE
  refine ⟨_, .inr (dC (by intro _ h; cases h)), ?_⟩; exact ⟨eD, ay, ((((((bm).f5).f5).f5).f5).f5).f5, bu, cw, a4, aU, a5⟩
 rintro fB g5 ⟨eO, bM, db⟩
 have hm := bM.elim (d8 _) (d4 _)
 clear bM
 obtain ⟨bO, bS⟩ := eO
 replace hm := un2_eq hm
 obtain ⟨fV, dJ, aN, fS, cx, fT, en, fU⟩ := db
 refine (Ze (Zc (Zd (Za rfl rfl (Exec.load_box_agg (ds := [ag, al]) ((aN).f3) A69 rfl en rfl (Za rfl rfl (Exec.store_box (ds := [ag, al]) (es := [ag, al]) (aN).f1 A69 rfl cx rfl rfl (Zj (((aN).f1).f4).arr_one (Zj (((aN).f1).f5).arr_one one_nil)) (Nat.le_of_ble_eq_true rfl) rfl ?_)))))))
 intro g6 bI
 refine Zb (Ze (W_ret ?_))
 have ft := Zu hm
 subst r
 refine ⟨_, retG1 rfl ⟨_, _, cx, cellRes (bI) A69⟩, ?_⟩
 obtain ⟨fW, dK, dz, e6⟩ := (bI).f4.freezeArr
 obtain ⟨eF, bV, d0, e7⟩ := (dz).f4.freezeArr
 exact ⟨eF, ag, al, (Zt (Zt (Zt ax dJ) dK) bV), ((((d0).drop).drop).drop).drop, rfl, (e6.mono bV), e7⟩
theorem ref18_SameState_sim {w0 w : World} {s : PHeap} {H : List Res} {h : GState} {i : GState} {k : Value} {l : Value} {m : Value} {n : Value} {r : Bool} (hm : ref18_SameState_p h i = some r) (hS : St w0 s (H) w) (q : SliceRep (encInt .i64) s k h.True) (t : SliceRep (encInt .i64) s l h.Values) (u : SliceRep (encInt .i64) s m i.True) (x : SliceRep (encInt .i64) s n i.Values) :
  Calls Try.prog 26 #[Value.agg #[k, l], Value.agg #[m, n]] w fun e w' => ∃ v, e = .returned v ∧ ((fun (ak : Bool) => ∃ (o : PHeap) , PHeap.le s o ∧ St w0 o (H) w' ∧ v = Value.bool (ak)) r) := by
 unfold ref18_SameState_p at hm
 refine calls_of_W Try.func26 rfl rfl (Zc (Zd (Za rfl rfl (Exec.box (cs := [k, l]) hS rfl rfl rfl ?_))))
 intro am au z
 refine Za rfl rfl (Exec.box (cs := [m, n]) z rfl rfl rfl ?_)
 intro an av j
 refine Za rfl rfl (Zo (v := Value.bool (false)) rfl rfl (Zb (Ze (Zc ?_))))
 obtain ⟨c, b, hm⟩ := Zg hm
 refine W_mid (M := fun f' w' => (fun (c : Bool) => ∃ (p : PHeap) , PHeap.le s p ∧ St w0 p (H) w' ∧ f' 4 = Value.bool (c)) c) ?_ ?_
 ·refine Zd (Za rfl rfl (Zp F69_0 rfl rfl rfl (Za rfl rfl (Zn ((j).f1) A24 rfl rfl rfl (Za rfl rfl (Zp F69_0 rfl rfl rfl (Za rfl rfl (Zn (j) A24 rfl rfl rfl ?_))))))))
  obtain ⟨al, af, b⟩ := Zg b
  refine Za rfl rfl (Tc rfl rfl rfl (Zi rfl (Zi rfl args_nil)) (ref18_ints_sim af j q u).r ?_)
  rintro _ aw ⟨ah, g, d, rfl⟩
  refine Za rfl rfl (Zm (v := Value.bool (al)) rfl rfl ?_)
  rcases ite_some b with ⟨a, b⟩ | ⟨a, b⟩
  ·refine WL_run rfl (Zf rfl (Zx a)) rfl (Zp F69_1 rfl rfl rfl (WL_run rfl (Zf rfl (Zx a)) rfl (Zn ((d).f1) A24 rfl rfl rfl (WL_run rfl (Zf rfl (Zx a)) rfl (Zp F69_1 rfl rfl rfl (WL_run rfl (Zf rfl (Zx a)) rfl (Zn (d) A24 rfl rfl rfl ?_)))))))
   obtain ⟨az, ag, b⟩ := Zg b
   refine WL_run rfl (Zf rfl (Zx a)) rfl (Tc rfl rfl rfl (Zi rfl (Zi rfl args_nil)) (ref18_ints_sim ag d (t.mono g) (x.mono g)).r ?_)
   rintro _ ax ⟨ai, ac, aa, rfl⟩
   refine WL_passes 2 (by rw [a]; rfl) ?_
   refine Zb (Ze ?_)
   have ao := Zu b
   subst c
   exact ⟨ai, (Zt g ac), ((aa).drop).drop, rfl⟩
  replace a := Zk a
  refine WL_passes 7 (by rw [a]; rfl) ?_
  refine Zb (Ze ?_)
  have ap := Zu b
  subst c
  exact ⟨ah, g, ((d).drop).drop, rfl⟩
 intro ar ay y
 obtain ⟨aj, ad, ab, ae⟩ := y
 refine (Ze (W_ret ?_))
 have aq := Zu hm
 subst r
 refine ⟨_, ret1 rfl, ?_⟩
 exact ⟨aj, ad, ab, ae⟩
theorem Z114 : tyZero Try.prog 114 = some (Value.agg #[Value.slice none 0 0, Value.slice none 0 0, Vi (0)]) := by kernel_rfl
theorem ref18_Goal_sim {w0 w : World} {s : PHeap} {H : List Res} {fu : Nat} {c : Ground} {ab : GState} {m : Value} {n : Value} {o : Value} {p : Value} {q : Value} {i : Value} {j : Value} {r : Bool} (hm : ref18_Goal_p fu c ab = some r) (hS : St w0 s (H) w) (aD : SliceRep encAtom s m c.Atoms) (aE : SliceRep encGFluent s n c.Fluents) (aF : SliceRep (encInt .i64) s o c.Init) (ac : SliceRep encCond s p c.Goal) (aG : SliceRep encGOp s q c.Ops) (an : SliceRep (encInt .i64) s i ab.True) (ao : SliceRep (encInt .i64) s j ab.Values) :
  Calls Try.prog 64 #[Value.agg #[m, n, o, p, q], Value.agg #[i, j]] w fun e w' => ∃ v, e = .returned v ∧ ((fun (aC : Bool) => ∃ (aj : PHeap) , PHeap.le s aj ∧ St w0 aj (H) w' ∧ v = Value.bool (aC)) r) := by
 unfold ref18_Goal_p at hm
 refine calls_of_W Try.func64 rfl rfl (Zc (Zd (Za rfl rfl (Exec.box (cs := [m, n, o, p, q]) hS rfl rfl rfl ?_))))
 intro t aY av
 refine Za rfl rfl (Exec.box (cs := [i, j]) av rfl rfl rfl ?_)
 intro u aZ aw
 refine Za rfl rfl (Zo (v := Value.bool (false)) rfl rfl (Zb (Ze (Zc (Zc (Zd (Za rfl rfl (Zo (v := Vi (0)) rfl rfl (Zb (Ze ?_))))))))))
 obtain ⟨ad, aq, a2, a0, az⟩ := ctl_some hm
 refine W_mid (M := fun f' w' => ∃ s', (ad = .next s' ∨ ad = .brk s') ∧ (fun (ah : Int) => ∃ (ak : PHeap) , PHeap.le s ak ∧ St w0 ak (Res.box t 28 [m, n, o, p, q] :: Res.box u 69 [i, j] :: H) w' ∧ f' 2 = Value.pointer (some ⟨t, 0, none⟩) ∧ f' 3 = Value.pointer (some ⟨u, 0, none⟩) ∧ f' 5 = Vi (ah)) s') ?_ ?_
 ·refine W_block (W_while (fun s' f' w' => (fun (g : Int) => ∃ (al : PHeap) , PHeap.le s al ∧ St w0 al (Res.box t 28 [m, n, o, p, q] :: Res.box u 69 [i, j] :: H) w' ∧ f' 2 = Value.pointer (some ⟨t, 0, none⟩) ∧ f' 3 = Value.pointer (some ⟨u, 0, none⟩) ∧ f' 5 = Vi (g)) s') aq ?_ ?_)
  ·have ax := (aw).f1
   exact ⟨s, (Zv _), ax, rfl, rfl, rfl⟩
  intro g z aO ba ar a ag
  obtain ⟨aA, b, d, x, aa, y⟩ := ar
  refine Zc (Zc (Zd (Za rfl rfl (Zm (v := Vi (g)) rfl y (Za rfl rfl (Zp F28_3 rfl x rfl (Za rfl rfl (Zn (d) A25 rfl rfl rfl (Za rfl rfl (Zr S25 rfl rfl (ac.mono b) (Za rfl rfl (Zq rfl rfl rfl (Zb (Ze ?_))))))))))))))
  rcases ite_some a with ⟨k, a⟩ | ⟨k, a⟩
  ·refine W_cond_t rfl k (W_skip (Ze (Zc (W_block (Zc (W_dl (n0 := 7) (qs 0 6 (.e 6 [] .done)) hmix (by kernel_rfl) (by kernel_rfl) (DL_q rfl rfl (Exec.load_box_agg (ds := [i, j]) ((d.drew).f1) A69 rfl aa rfl ⟨rfl, ?_⟩))))))))
   refine DL_q rfl rfl (Zp F28_3 rfl x rfl ⟨rfl, ?_⟩)
   refine DL_q rfl rfl (Zn (d.drew) A25 rfl rfl rfl ⟨rfl, ?_⟩)
   refine DL_q rfl rfl (Zm (v := Vi (g)) rfl y ⟨rfl, ?_⟩)
   obtain ⟨bd, a4, a⟩ := Zg a
   refine DL_q rfl rfl (Exec.index_repE S25 rfl rfl rfl (ac.mono b) a4 ?_)
   intro aH aQ ap aI
   refine ⟨rfl, ?_⟩
   refine DL_q rfl rfl (Zw (E := encCond) d.drew A47 rfl rfl rfl ap ?_)
   intro aX a5
   obtain ⟨aU, aV, aW, rfl, a7, a8, a9⟩ := encCond_val.1 a5
   refine ⟨rfl, ?_⟩
   obtain ⟨be, a6, a⟩ := Zg a
   refine DL_e rfl rfl (Tc rfl rfl rfl (Zi rfl (Zi rfl args_nil)) (ref18_Holds_sim a6 d.drew (an.mono b) (ao.mono b) a7 a8 a9).r ?_)
   rintro _ bb ⟨am, ai, ae, rfl⟩
   refine ⟨ag_nil, ?_⟩
   refine DL_done (Zb (Ze ?_))
   rcases ite_some a with ⟨l, a⟩ | ⟨l, a⟩
   ·refine W_cond_t rfl l (Zc (Zd (Za rfl rfl (Zo (v := Value.bool (true)) rfl rfl (Zb (Ze (W_ret (ib_ret (at_ret (at_ret (ib_ret (at_ret (at_ret ?_)))))))))))))
    have aJ := Zu a
    subst z
    have a1 := a2 _ (ag (by intro _ h; cases h))
    have aK := Zu a1
    subst r
    refine ⟨_, ret1 rfl, ?_⟩
    exact ⟨am, (Zt b ai), ((ae).drop).drop, rfl⟩
   refine W_cond_f rfl l ?_
   replace l := Zk l
   refine W_skip (ib_normal (Ze (Zd (Za rfl rfl (Zm (v := Vi (g)) rfl y (Za rfl rfl (Exec.add rfl rfl rfl (Za rfl rfl (Zo (v := Vi (IntKind.i64.wrap (g + 1))) rfl rfl (Zb (Ze ?_)))))))))))
   have aL := Zu a
   subst z
   refine ⟨_, rfl, ?_⟩; exact ⟨am, (Zt b ai), ((ae).f1).f1, x, aa, rfl⟩
  refine W_cond_f rfl k ?_
  replace k := Zk k
  refine W_exit (at_exit (at_exit (ib_here (Ze ?_))))
  have aM := Zu a
  subst z
  refine ⟨_, .inr (ag (by intro _ h; cases h)), ?_⟩; exact ⟨aA, b, ((d).f1).f1, x, aa, y⟩
 rintro aP bc ⟨ah, af, au⟩
 have hm := af.elim (a0 _) (az _)
 clear af
 obtain ⟨aB, a3, ay, aR, aS, aT⟩ := au
 refine (Ze (Zc (Zd (Za rfl rfl (Zo (v := Value.bool (false)) rfl rfl (Zb (Ze (W_ret ?_))))))))
 have aN := Zu hm
 subst r
 refine ⟨_, ret1 rfl, ?_⟩
 exact ⟨aB, a3, ((ay).drop).drop, rfl⟩
theorem law19_Best_sim {w0 w : World} {s : PHeap} {H : List Res} {fu : Nat} {aE : Ground} {m : Value} {n : Value} {o : Value} {p : Value} {t : Value} {r : Int} (hm : law19_Best_p fu aE = some r) (hS : St w0 s (H) w) (a9 : SliceRep encAtom s m aE.Atoms) (aA : SliceRep encGFluent s n aE.Fluents) (aB : SliceRep (encInt .i64) s o aE.Init) (aC : SliceRep encCond s p aE.Goal) (az : SliceRep encGOp s t aE.Ops) :
  Calls Try.prog 19 #[Value.agg #[m, n, o, p, t]] w fun e w' => ∃ v, e = .returned v ∧ ((fun (gm : Int) => ∃ (df : PHeap) , PHeap.le s df ∧ St w0 df (H) w' ∧ v = Vi (gm)) r) := by
 unfold law19_Best_p at hm
 refine calls_of_W Try.func19 rfl rfl (Zc (Zd (Za rfl rfl (Exec.box (cs := [m, n, o, p, t]) hS rfl rfl rfl ?_))))
 intro i hB cz
 refine Za rfl rfl (Zo (v := Vi (0)) rfl rfl (Zb (Ze (Zc (Zd (Za rfl rfl (Exec.load_box_agg (ds := [m, n, o, p, t]) (cz) A28 rfl rfl rfl ?_)))))))
 obtain ⟨gn, fp, hm⟩ := Zg hm
 refine Za rfl rfl (Tc rfl rfl rfl (Zi rfl args_nil) (ref18_Initial_sim fp cz a9 aA aB aC az).r ?_)
 rintro _ hC ⟨bP, a7, a8, l, dM, rfl, f9, fA⟩
 refine Za rfl rfl (Exec.build rfl (parts_cons (c := [a7, a8]) (cells_of rfl rfl) (parts_cons (c := [Vi (0)]) (cells_of rfl rfl) parts_nil)) (v := Value.agg #[a7, a8, Vi (0)]) (fun _ => by kernel_rfl) (Za rfl rfl (Exec.buildSlice (Te := 114) (cs := [a7, a8, Vi (0)]) dM rfl (parts_cons (c := [a7, a8, Vi (0)]) (cells_of rfl rfl) parts_nil) (fun _ => by kernel_rfl) ?_)))
 intro cc hD dN
 have dO := St.boxArr (E := enclaw19_found) (xs := [(⟨gn, 0⟩ : law19_found)]) dN ⟨[a7, a8, Vi (0)], [], rfl, ⟨[a7, a8], [Vi (0)], rfl, ⟨[a7], [a8], rfl, ⟨_, rfl, f9⟩, ⟨_, rfl, fA⟩⟩, rfl⟩, rfl⟩ (by simp [maxLen])
 refine Za rfl rfl (Zo (v := Value.slice (some ⟨cc, 0, none⟩) 1 1) rfl rfl (Zb (Ze (Zc (Zc (Zd (Za rfl rfl (Zo (v := Value.bool (true)) rfl rfl (Zb (Ze ?_))))))))))
 obtain ⟨cd, d2, hg, ek, ef⟩ := ctl_some hm
 refine W_mid (M := fun f' w' => ∃ s', (cd = .next s' ∨ cd = .brk s') ∧ (un2 fun (cm : Bool) (aZ : (List law19_found)) => ∃ (dg : PHeap) (aq : Value), PHeap.le bP dg ∧ St w0 dg (Res.box i 28 [m, n, o, p, t] :: Res.arr enclaw19_found 114 aq aZ :: H) w' ∧ f' 1 = Value.pointer (some ⟨i, 0, none⟩) ∧ f' 3 = aq ∧ f' 4 = Value.bool (cm)) s') ?_ ?_
 ·refine W_block (W_while (fun s' f' w' => (un2 fun (b7 : Bool) (cE : (List law19_found)) => ∃ (dh : PHeap) (bf : Value), PHeap.le bP dh ∧ St w0 dh (Res.box i 28 [m, n, o, p, t] :: Res.arr enclaw19_found 114 bf cE :: H) w' ∧ f' 1 = Value.pointer (some ⟨i, 0, none⟩) ∧ f' 3 = bf ∧ f' 4 = Value.bool (b7)) s') d2 ?_ ?_)
  ·have dP := (dO).f1
   exact ⟨bP, (Value.slice (some ⟨cc, 0, none⟩) 1 1), (Zv _), dP, rfl, rfl, rfl⟩
  intro fW ce gI hE d7 av ep
  obtain ⟨b7, cE⟩ := fW
  replace av := un2_eq av
  obtain ⟨bz, bf, z, c0, cL, cM, cN⟩ := d7
  refine Zc (Zc (Zd (Za rfl rfl (Zm (v := Value.bool (b7)) rfl cN (Zb (Ze ?_))))))
  rcases ite_some av with ⟨aP, av⟩ | ⟨aP, av⟩
  ·refine W_cond_t rfl aP (W_skip (Ze (W_block (Zc (Zd (Za rfl rfl (Zo (v := Value.bool (false)) rfl rfl (Zb (Ze (Zc (Zd (Za rfl rfl (Zo (v := Vi (0)) rfl rfl (Zb (Ze ?_)))))))))))))))
   obtain ⟨cf, d3, hh, el, eg⟩ := ctl_some av
   refine W_mid (M := fun f' w' => ∃ s', (cf = .next s' ∨ cf = .brk s') ∧ (un3 fun (cn : Bool) (c9 : Int) (cF : (List law19_found)) => ∃ (di : PHeap) (b3 : Value), PHeap.le bz di ∧ St w0 di (Res.box i 28 [m, n, o, p, t] :: Res.arr enclaw19_found 114 b3 cF :: H) w' ∧ f' 1 = Value.pointer (some ⟨i, 0, none⟩) ∧ f' 3 = b3 ∧ f' 4 = Value.bool (cn) ∧ f' 5 = Vi (c9)) s') ?_ ?_
   ·refine W_block (W_while (fun s' f' w' => (un3 fun (co : Bool) (j : Int) (cG : (List law19_found)) => ∃ (dj : PHeap) (aL : Value), PHeap.le bz dj ∧ St w0 dj (Res.box i 28 [m, n, o, p, t] :: Res.arr enclaw19_found 114 aL cG :: H) w' ∧ f' 1 = Value.pointer (some ⟨i, 0, none⟩) ∧ f' 3 = aL ∧ f' 4 = Value.bool (co) ∧ f' 5 = Vi (j)) s') d3 ?_ ?_)
    ·have dQ := (c0).f1
     exact ⟨bz, bf, (Zv _), (dQ).f1, cL, cM, rfl, rfl⟩
    intro fX cg gJ hF d8 aw er
    obtain ⟨co, j, cG⟩ := fX
    replace aw := un3_eq aw
    obtain ⟨b0, aL, aa, bA, cO, bI, cP, bJ⟩ := d8
    refine Zc (Zc (Zd (Za rfl rfl (Zm (v := Vi (j)) rfl bJ (Za rfl rfl (Zm (v := aL) rfl bI (Za rfl rfl (Exec.len_arr ((bA).f1) S115 rfl rfl (Za rfl rfl (Zq rfl rfl rfl (Zb (Ze ?_))))))))))))
    rcases ite_some aw with ⟨aQ, aw⟩ | ⟨aQ, aw⟩
    ·refine W_cond_t rfl aQ (W_skip (Ze (Zc (W_block (Zc (Zd (Za rfl rfl (Zo (v := Vi (0)) rfl rfl (Zb (Ze ?_))))))))))
     obtain ⟨ch, d4, hi, em, eh⟩ := ctl_some aw
     refine W_mid (M := fun f' w' => ∃ s', (ch = .next s' ∨ ch = .brk s') ∧ (un3 fun (cp : Bool) (cK : Int) (cH : (List law19_found)) => ∃ (dk : PHeap) (b4 : Value), PHeap.le b0 dk ∧ St w0 dk (Res.box i 28 [m, n, o, p, t] :: Res.arr enclaw19_found 114 b4 cH :: H) w' ∧ f' 1 = Value.pointer (some ⟨i, 0, none⟩) ∧ f' 3 = b4 ∧ f' 4 = Value.bool (cp) ∧ f' 5 = Vi (j) ∧ f' 6 = Vi (cK)) s') ?_ ?_
     ·refine W_block (W_while (fun s' f' w' => (un3 fun (b8 : Bool) (g : Int) (bD : (List law19_found)) => ∃ (dl : PHeap) (d : Value), PHeap.le b0 dl ∧ St w0 dl (Res.box i 28 [m, n, o, p, t] :: Res.arr enclaw19_found 114 d bD :: H) w' ∧ f' 1 = Value.pointer (some ⟨i, 0, none⟩) ∧ f' 3 = d ∧ f' 4 = Value.bool (b8) ∧ f' 5 = Vi (j) ∧ f' 6 = Vi (g)) s') d4 ?_ ?_)
      ·have dR := (bA).f1
       exact ⟨b0, aL, (Zv _), (dR).f1, cO, bI, cP, bJ, rfl⟩
      intro fY b6 gK hG d9 u et
      obtain ⟨b8, g, bD⟩ := fY
      replace u := un3_eq u
      obtain ⟨fJ, d, x, aF, ab, ad, bb, ae, ac⟩ := d9
      refine Zc (Zc (Zd (Za rfl rfl (Zm (v := Vi (g)) rfl ac (Za rfl rfl (Zp F28_4 rfl ab rfl (Za rfl rfl (Zn (aF) A26 rfl rfl rfl (Za rfl rfl (Zr S26 rfl rfl (az.mono (Zt (Zt (Zt l z) aa) x)) (Za rfl rfl (Zq rfl rfl rfl (Zb (Ze ?_))))))))))))))
      rcases ite_some u with ⟨aR, u⟩ | ⟨aR, u⟩
      ·refine W_cond_t rfl aR (W_skip (Ze (Zc (W_block (Zc (Zc (W_dl (n0 := 9) (qs 0 7 (.e 7 [] (.q 8 .done))) hmix (by kernel_rfl) (by kernel_rfl) (DL_q rfl rfl (Exec.load_box_agg (ds := [m, n, o, p, t]) (aF.drew) A28 rfl ab rfl ⟨rfl, ?_⟩)))))))))
       refine DL_q rfl rfl (Zm (v := d) rfl ad ⟨rfl, ?_⟩)
       refine DL_q rfl rfl (Zm (v := Vi (j)) rfl ae ⟨rfl, ?_⟩)
       obtain ⟨af, a, u⟩ := Zg u
       obtain ⟨gX, gq, cr⟩ := ((aF.drew).f1).arr_at a
       refine DL_q rfl rfl (Exec.index_slice S115 rfl cr rfl (idx_some a).1 (idx_some a).2.1 ⟨rfl, ?_⟩)
       refine DL_q rfl rfl (Zp F114_0 rfl rfl rfl ⟨rfl, ?_⟩)
       refine DL_q rfl rfl (Exec.load_arr (F := encGState) ((aF.drew).f1) cr A69 rfl rfl rfl a (Sub.iso (Sub.fst (Sub.refl _))) ?_)
       intro h6 fq
       obtain ⟨hw, hx, rfl, fB, fC⟩ := encGState_val.1 fq
       refine ⟨rfl, ?_⟩
       refine DL_q rfl rfl (Zm (v := Vi (g)) rfl ac ⟨rfl, ?_⟩)
       obtain ⟨il, fr, u⟩ := Zg u
       refine DL_e rfl rfl (Tc rfl rfl rfl (Zi rfl (Zi rfl (Zi rfl args_nil))) (law19_Can_sim fr aF.drew (a9.mono (Zt (Zt (Zt l z) aa) x)) (aA.mono (Zt (Zt (Zt l z) aa) x)) (aB.mono (Zt (Zt (Zt l z) aa) x)) (aC.mono (Zt (Zt (Zt l z) aa) x)) (az.mono (Zt (Zt (Zt l z) aa) x)) fB fC).r ?_)
       rintro _ hH ⟨dm, ah, c1, rfl⟩
       refine ⟨ag_nil, ?_⟩
       refine DL_q rfl rfl (Exec.not rfl rfl ⟨rfl, ?_⟩)
       refine DL_done (Zb (Ze ?_))
       rcases ite_some u with ⟨aS, u⟩ | ⟨aS, u⟩
       ·refine W_cond_t rfl aS (W_exit (at_exit (ib_here (Ze (Zd (Za rfl rfl (Zm (v := Vi (g)) rfl ac (Za rfl rfl (Exec.add rfl rfl rfl (Za rfl rfl (Zo (v := Vi (IntKind.i64.wrap (g + 1))) rfl rfl (Zb (Ze ?_)))))))))))))
        have g0 := Zu u
        subst b6
        refine ⟨_, rfl, ?_⟩; exact ⟨dm, d, (Zt x ah), ((c1).f1).f1, ab, ad, bb, ae, rfl⟩
       refine W_cond_f rfl aS ?_
       replace aS := Zk aS
       refine W_skip (Ze (Zc ?_))
       obtain ⟨ag, fs, u⟩ := Zg u
       obtain ⟨cb, bO, u⟩ := Zg u
       refine W_mid (M := fun f' w' => ∃ (b1 : PHeap) (aj : Value) (ak : Value) (ar : Nat), PHeap.le dm b1 ∧ St w0 b1 (Res.box i 28 [m, n, o, p, t] :: Res.arr enclaw19_found 114 d bD :: Res.box ar 69 [aj, ak] :: H) w' ∧ f' 1 = Value.pointer (some ⟨i, 0, none⟩) ∧ f' 3 = d ∧ f' 4 = Value.bool (b8) ∧ f' 5 = Vi (j) ∧ f' 6 = Vi (g) ∧ f' 7 = Value.pointer (some ⟨ar, 0, none⟩) ∧ f' 8 = Vi (IntKind.i64.wrap (af.cost + ag.Cost)) ∧ f' 9 = Value.bool (false) ∧ SliceRep (encInt .i64) b1 aj cb.True ∧ SliceRep (encInt .i64) b1 ak cb.Values) ?_ ?_
       ·refine W_dlZ (Z := [5]) (n0 := 22) (qs 0 5 (.q 6 (qs 8 12 (.alt (.e 5 [0, 6, 8, 9, 10, 11, 12, 13, 14, 15, 16, 17, 18, 19] (.alt (.e 7 [8, 9, 10, 11, 12, 13, 14, 15, 16, 17, 18, 19] (.e 20 [8, 9, 10, 11, 12, 13, 14, 15, 16, 17, 18, 19] (.e 21 [8, 9, 10, 11, 12, 13, 14, 15, 16, 17, 18, 19] .done))) (.e 20 [0, 6, 8, 9, 10, 11, 12, 13, 14, 15, 16, 17, 18, 19] (.e 7 [8, 9, 10, 11, 12, 13, 14, 15, 16, 17, 18, 19] (.e 21 [8, 9, 10, 11, 12, 13, 14, 15, 16, 17, 18, 19] .done))))) (.e 20 [0, 1, 2, 3, 4, 6, 8, 9, 10, 11, 12, 13, 14, 15, 16, 17, 18, 19] (.e 5 [0, 6, 8, 9, 10, 11, 12, 13, 14, 15, 16, 17, 18, 19] (.e 7 [8, 9, 10, 11, 12, 13, 14, 15, 16, 17, 18, 19] (.e 21 [8, 9, 10, 11, 12, 13, 14, 15, 16, 17, 18, 19] .done)))))))) hmix (by kernel_rfl) (by kernel_rfl) ?_
        have am := c1.drew
        refine DL_q rfl rfl (Exec.load_box_agg (ds := [m, n, o, p, t]) (am) A28 rfl ab rfl ⟨rfl, ?_⟩)
        refine DL_q rfl rfl (Zm (v := d) rfl ad ⟨rfl, ?_⟩)
        refine DL_q rfl rfl (Zm (v := Vi (j)) rfl ae ⟨rfl, ?_⟩)
        obtain ⟨gY, gr, bi⟩ := ((am).f1).arr_at a
        refine DL_q rfl rfl (Exec.index_slice S115 rfl bi rfl (idx_some a).1 (idx_some a).2.1 ⟨rfl, ?_⟩)
        refine DL_q rfl rfl (Zp F114_0 rfl rfl rfl ⟨rfl, ?_⟩)
        refine DL_q rfl rfl (Zm (v := Vi (g)) rfl ac ⟨rfl, ?_⟩)
        refine DL_q rfl rfl (Zm (v := d) rfl ad ⟨rfl, ?_⟩)
        refine DL_q rfl rfl (Zm (v := Vi (j)) rfl ae ⟨rfl, ?_⟩)
        obtain ⟨gZ, gs, y⟩ := ((am).f1).arr_at a
        refine DL_q rfl rfl (Exec.index_slice S115 rfl y rfl (idx_some a).1 (idx_some a).2.1 ⟨rfl, ?_⟩)
        refine DL_q rfl rfl (Zp F114_1 rfl rfl rfl ⟨rfl, ?_⟩)
        refine DL_q rfl rfl (Exec.load_arr (F := (encInt .i64)) ((am).f1) y A3 rfl rfl rfl a (Sub.iso (Sub.snd (Sub.refl _) rfl)) ?_)
        intro gh ft
        obtain rfl : gh = Vi (af.cost) := encInt_val.1 ft
        refine ⟨rfl, ?_⟩
        refine DL_q rfl rfl (Zp F28_4 rfl ab rfl ⟨rfl, ?_⟩)
        refine DL_q rfl rfl (Zn (am) A26 rfl rfl rfl ⟨rfl, ?_⟩)
        refine DL_q rfl rfl (Zm (v := Vi (g)) rfl ac ⟨rfl, ?_⟩)
        refine DL_q rfl rfl (Exec.index_repE S26 rfl rfl rfl (az.mono (Zt (Zt (Zt (Zt l z) aa) x) ah)) fs ?_)
        intro go ho ap au
        refine ⟨rfl, ?_⟩
        refine DL_q rfl rfl (Zp F51_1 rfl rfl rfl ⟨rfl, ?_⟩)
        refine DL_q rfl rfl (Zw (E := (encInt .i64)) am A3 rfl rfl rfl (ap.sub (Sub.iso (Sub.snd (Sub.fst (Sub.refl _)) rfl)) rfl) ?_)
        intro gi fv
        obtain rfl : gi = Vi (ag.Cost) := encInt_val.1 fv
        refine ⟨rfl, ?_⟩
        refine DL_q rfl rfl (Exec.add rfl rfl rfl ⟨rfl, ?_⟩)
        refine DL_alt ?_ ?_
        ·refine DL_e rfl rfl (Exec.load_arr (F := encGState) ((am).f1) bi A69 rfl rfl rfl a (Sub.iso (Sub.fst (Sub.refl _))) ?_)
         intro h7 fw
         obtain ⟨hy, hz, rfl, cX, cY⟩ := encGState_val.1 fw
         refine ⟨(ag_cons (ag_r rfl rfl (Exec.load_box_agg (ds := [m, n, o, p, t]) (am) A28 rfl ab rfl ⟨rfl, rfl⟩)) (ag_cons (ag_r rfl rfl (Zm (v := Vi (g)) rfl ac ⟨rfl, rfl⟩)) (ag_cons (ag_r rfl rfl (Zm (v := d) rfl ad ⟨rfl, rfl⟩)) (ag_cons (ag_r rfl rfl (Zm (v := Vi (j)) rfl ae ⟨rfl, rfl⟩)) (ag_cons (ag_r rfl rfl (Exec.index_slice S115 rfl y rfl (idx_some a).1 (idx_some a).2.1 ⟨rfl, rfl⟩)) (ag_cons (ag_r rfl rfl (Zp F114_1 rfl rfl rfl ⟨rfl, rfl⟩)) (ag_cons (ag_r rfl rfl (Exec.load_arr (F := (encInt .i64)) ((am).f1) y A3 rfl rfl rfl a (Sub.iso (Sub.snd (Sub.refl _) rfl)) (fun _ q => ⟨rfl, encInt_val.1 q⟩))) (ag_cons (ag_r rfl rfl (Zp F28_4 rfl ab rfl ⟨rfl, rfl⟩)) (ag_cons (ag_r rfl rfl (Zn (am) A26 rfl rfl rfl ⟨rfl, rfl⟩)) (ag_cons (ag_r rfl rfl (Zm (v := Vi (g)) rfl ac ⟨rfl, rfl⟩)) (ag_cons (ag_r rfl rfl (Exec.index_run rfl rfl rfl au ⟨rfl, rfl⟩)) (ag_cons (ag_r rfl rfl (Zp F51_1 rfl rfl rfl ⟨rfl, rfl⟩)) (ag_cons (ag_r rfl rfl (Zw (E := (encInt .i64)) am A3 rfl rfl rfl (ap.sub (Sub.iso (Sub.snd (Sub.fst (Sub.refl _)) rfl)) rfl) (fun _ q => ⟨rfl, encInt_val.1 q⟩))) (ag_cons (ag_r rfl rfl (Exec.add rfl rfl rfl ⟨rfl, rfl⟩)) ag_nil)))))))))))))), ?_⟩
         refine DL_alt ?_ ?_
         ·refine DL_e rfl rfl (Tc rfl rfl rfl (Zi rfl (Zi rfl (Zi rfl args_nil))) (ref18_Next_sim bO am (a9.mono (Zt (Zt (Zt (Zt l z) aa) x) ah)) (aA.mono (Zt (Zt (Zt (Zt l z) aa) x) ah)) (aB.mono (Zt (Zt (Zt (Zt l z) aa) x) ah)) (aC.mono (Zt (Zt (Zt (Zt l z) aa) x) ah)) (az.mono (Zt (Zt (Zt (Zt l z) aa) x) ah)) cX cY).r ?_)
          rintro _ hI ⟨fK, bU, bV, bs, bj, rfl, cZ, da⟩
          refine ⟨(ag_cons (ag_r rfl rfl (Zm (v := d) rfl ad ⟨rfl, rfl⟩)) (ag_cons (ag_r rfl rfl (Zm (v := Vi (j)) rfl ae ⟨rfl, rfl⟩)) (ag_cons (ag_r rfl rfl (Exec.index_slice S115 rfl y rfl (idx_some a).1 (idx_some a).2.1 ⟨rfl, rfl⟩)) (ag_cons (ag_r rfl rfl (Zp F114_1 rfl rfl rfl ⟨rfl, rfl⟩)) (ag_cons (ag_r rfl rfl (Exec.load_arr (F := (encInt .i64)) ((bj).f1) y A3 rfl rfl rfl a (Sub.iso (Sub.snd (Sub.refl _) rfl)) (fun _ q => ⟨rfl, encInt_val.1 q⟩))) (ag_cons (ag_r rfl rfl (Zp F28_4 rfl ab rfl ⟨rfl, rfl⟩)) (ag_cons (ag_r rfl rfl (Zn (bj) A26 rfl rfl rfl ⟨rfl, rfl⟩)) (ag_cons (ag_r rfl rfl (Zm (v := Vi (g)) rfl ac ⟨rfl, rfl⟩)) (ag_cons (ag_r rfl rfl (Exec.index_run rfl rfl rfl au ⟨rfl, rfl⟩)) (ag_cons (ag_r rfl rfl (Zp F51_1 rfl rfl rfl ⟨rfl, rfl⟩)) (ag_cons (ag_r rfl rfl (Zw (E := (encInt .i64)) bj A3 rfl rfl rfl ((ap.sub (Sub.iso (Sub.snd (Sub.fst (Sub.refl _)) rfl)) rfl).mono bs) (fun _ q => ⟨rfl, encInt_val.1 q⟩))) (ag_cons (ag_r rfl rfl (Exec.add rfl rfl rfl ⟨rfl, rfl⟩)) ag_nil)))))))))))), ?_⟩
          refine DL_e rfl rfl (Exec.alloc (cs := [Value.slice none 0 0, Value.slice none 0 0]) bj Z69 rfl rfl ?_)
          intro dz hJ bk
          refine ⟨(ag_cons (ag_r rfl rfl (Zm (v := d) rfl ad ⟨rfl, rfl⟩)) (ag_cons (ag_r rfl rfl (Zm (v := Vi (j)) rfl ae ⟨rfl, rfl⟩)) (ag_cons (ag_r rfl rfl (Exec.index_slice S115 rfl y rfl (idx_some a).1 (idx_some a).2.1 ⟨rfl, rfl⟩)) (ag_cons (ag_r rfl rfl (Zp F114_1 rfl rfl rfl ⟨rfl, rfl⟩)) (ag_cons (ag_r rfl rfl (Exec.load_arr (F := (encInt .i64)) ((bk).f2) y A3 rfl rfl rfl a (Sub.iso (Sub.snd (Sub.refl _) rfl)) (fun _ q => ⟨rfl, encInt_val.1 q⟩))) (ag_cons (ag_r rfl rfl (Zp F28_4 rfl ab rfl ⟨rfl, rfl⟩)) (ag_cons (ag_r rfl rfl (Zn ((bk).f1) A26 rfl rfl rfl ⟨rfl, rfl⟩)) (ag_cons (ag_r rfl rfl (Zm (v := Vi (g)) rfl ac ⟨rfl, rfl⟩)) (ag_cons (ag_r rfl rfl (Exec.index_run rfl rfl rfl au ⟨rfl, rfl⟩)) (ag_cons (ag_r rfl rfl (Zp F51_1 rfl rfl rfl ⟨rfl, rfl⟩)) (ag_cons (ag_r rfl rfl (Zw (E := (encInt .i64)) bk A3 rfl rfl rfl ((ap.sub (Sub.iso (Sub.snd (Sub.fst (Sub.refl _)) rfl)) rfl).mono bs) (fun _ q => ⟨rfl, encInt_val.1 q⟩))) (ag_cons (ag_r rfl rfl (Exec.add rfl rfl rfl ⟨rfl, rfl⟩)) ag_nil)))))))))))), ?_⟩
          refine DL_e rfl rfl (Exec.store_box (ds := [bU, bV]) (es := [bU, bV]) bk A69 rfl rfl rfl rfl (Zj (cZ).one (Zj (da).one one_nil)) (Nat.le_of_ble_eq_true rfl) rfl ?_)
          intro hK bl
          refine ⟨(ag_cons (ag_r rfl rfl (Zm (v := d) rfl ad ⟨rfl, rfl⟩)) (ag_cons (ag_r rfl rfl (Zm (v := Vi (j)) rfl ae ⟨rfl, rfl⟩)) (ag_cons (ag_r rfl rfl (Exec.index_slice S115 rfl y rfl (idx_some a).1 (idx_some a).2.1 ⟨rfl, rfl⟩)) (ag_cons (ag_r rfl rfl (Zp F114_1 rfl rfl rfl ⟨rfl, rfl⟩)) (ag_cons (ag_r rfl rfl (Exec.load_arr (F := (encInt .i64)) ((bl).f2) y A3 rfl rfl rfl a (Sub.iso (Sub.snd (Sub.refl _) rfl)) (fun _ q => ⟨rfl, encInt_val.1 q⟩))) (ag_cons (ag_r rfl rfl (Zp F28_4 rfl ab rfl ⟨rfl, rfl⟩)) (ag_cons (ag_r rfl rfl (Zn ((bl).f1) A26 rfl rfl rfl ⟨rfl, rfl⟩)) (ag_cons (ag_r rfl rfl (Zm (v := Vi (g)) rfl ac ⟨rfl, rfl⟩)) (ag_cons (ag_r rfl rfl (Exec.index_run rfl rfl rfl au ⟨rfl, rfl⟩)) (ag_cons (ag_r rfl rfl (Zp F51_1 rfl rfl rfl ⟨rfl, rfl⟩)) (ag_cons (ag_r rfl rfl (Zw (E := (encInt .i64)) bl A3 rfl rfl rfl ((ap.sub (Sub.iso (Sub.snd (Sub.fst (Sub.refl _)) rfl)) rfl).mono bs) (fun _ q => ⟨rfl, encInt_val.1 q⟩))) (ag_cons (ag_r rfl rfl (Exec.add rfl rfl rfl ⟨rfl, rfl⟩)) ag_nil)))))))))))), ?_⟩
          refine DL_done (Za rfl rfl (Zo (v := Vi (IntKind.i64.wrap (af.cost + ag.Cost))) rfl rfl (Za rfl rfl (Zo (v := Value.bool (false)) rfl rfl (Zb (Ze ?_))))))
          exact ⟨fK, bU, bV, dz, bs, ((bl).f2).f2, ab, ad, bb, ae, ac, rfl, rfl, rfl, cZ, da⟩
         refine DL_e rfl rfl (Exec.alloc (cs := [Value.slice none 0 0, Value.slice none 0 0]) am Z69 rfl rfl ?_)
         intro d0 hL aN
         refine ⟨(ag_cons (ag_r rfl rfl (Exec.load_box_agg (ds := [m, n, o, p, t]) ((aN).f1) A28 rfl ab rfl ⟨rfl, rfl⟩)) (ag_cons (ag_r rfl rfl (Zm (v := Vi (g)) rfl ac ⟨rfl, rfl⟩)) (ag_cons (ag_r rfl rfl (Zm (v := d) rfl ad ⟨rfl, rfl⟩)) (ag_cons (ag_r rfl rfl (Zm (v := Vi (j)) rfl ae ⟨rfl, rfl⟩)) (ag_cons (ag_r rfl rfl (Exec.index_slice S115 rfl y rfl (idx_some a).1 (idx_some a).2.1 ⟨rfl, rfl⟩)) (ag_cons (ag_r rfl rfl (Zp F114_1 rfl rfl rfl ⟨rfl, rfl⟩)) (ag_cons (ag_r rfl rfl (Exec.load_arr (F := (encInt .i64)) ((aN).f2) y A3 rfl rfl rfl a (Sub.iso (Sub.snd (Sub.refl _) rfl)) (fun _ q => ⟨rfl, encInt_val.1 q⟩))) (ag_cons (ag_r rfl rfl (Zp F28_4 rfl ab rfl ⟨rfl, rfl⟩)) (ag_cons (ag_r rfl rfl (Zn ((aN).f1) A26 rfl rfl rfl ⟨rfl, rfl⟩)) (ag_cons (ag_r rfl rfl (Zm (v := Vi (g)) rfl ac ⟨rfl, rfl⟩)) (ag_cons (ag_r rfl rfl (Exec.index_run rfl rfl rfl au ⟨rfl, rfl⟩)) (ag_cons (ag_r rfl rfl (Zp F51_1 rfl rfl rfl ⟨rfl, rfl⟩)) (ag_cons (ag_r rfl rfl (Zw (E := (encInt .i64)) aN A3 rfl rfl rfl (ap.sub (Sub.iso (Sub.snd (Sub.fst (Sub.refl _)) rfl)) rfl) (fun _ q => ⟨rfl, encInt_val.1 q⟩))) (ag_cons (ag_r rfl rfl (Exec.add rfl rfl rfl ⟨rfl, rfl⟩)) ag_nil)))))))))))))), ?_⟩
         refine DL_e rfl rfl (Tc rfl rfl rfl (Zi rfl (Zi rfl (Zi rfl args_nil))) (ref18_Next_sim bO aN (a9.mono (Zt (Zt (Zt (Zt l z) aa) x) ah)) (aA.mono (Zt (Zt (Zt (Zt l z) aa) x) ah)) (aB.mono (Zt (Zt (Zt (Zt l z) aa) x) ah)) (aC.mono (Zt (Zt (Zt (Zt l z) aa) x) ah)) (az.mono (Zt (Zt (Zt (Zt l z) aa) x) ah)) cX cY).r ?_)
         rintro _ hM ⟨fL, bW, bX, bE, bm, rfl, db, dc⟩
         refine ⟨(ag_cons (ag_r rfl rfl (Zm (v := d) rfl ad ⟨rfl, rfl⟩)) (ag_cons (ag_r rfl rfl (Zm (v := Vi (j)) rfl ae ⟨rfl, rfl⟩)) (ag_cons (ag_r rfl rfl (Exec.index_slice S115 rfl y rfl (idx_some a).1 (idx_some a).2.1 ⟨rfl, rfl⟩)) (ag_cons (ag_r rfl rfl (Zp F114_1 rfl rfl rfl ⟨rfl, rfl⟩)) (ag_cons (ag_r rfl rfl (Exec.load_arr (F := (encInt .i64)) ((bm).f2) y A3 rfl rfl rfl a (Sub.iso (Sub.snd (Sub.refl _) rfl)) (fun _ q => ⟨rfl, encInt_val.1 q⟩))) (ag_cons (ag_r rfl rfl (Zp F28_4 rfl ab rfl ⟨rfl, rfl⟩)) (ag_cons (ag_r rfl rfl (Zn ((bm).f1) A26 rfl rfl rfl ⟨rfl, rfl⟩)) (ag_cons (ag_r rfl rfl (Zm (v := Vi (g)) rfl ac ⟨rfl, rfl⟩)) (ag_cons (ag_r rfl rfl (Exec.index_run rfl rfl rfl au ⟨rfl, rfl⟩)) (ag_cons (ag_r rfl rfl (Zp F51_1 rfl rfl rfl ⟨rfl, rfl⟩)) (ag_cons (ag_r rfl rfl (Zw (E := (encInt .i64)) bm A3 rfl rfl rfl ((ap.sub (Sub.iso (Sub.snd (Sub.fst (Sub.refl _)) rfl)) rfl).mono bE) (fun _ q => ⟨rfl, encInt_val.1 q⟩))) (ag_cons (ag_r rfl rfl (Exec.add rfl rfl rfl ⟨rfl, rfl⟩)) ag_nil)))))))))))), ?_⟩
         refine DL_e rfl rfl (Exec.store_box (ds := [bW, bX]) (es := [bW, bX]) bm A69 rfl rfl rfl rfl (Zj (db).one (Zj (dc).one one_nil)) (Nat.le_of_ble_eq_true rfl) rfl ?_)
         intro hN bn
         refine ⟨(ag_cons (ag_r rfl rfl (Zm (v := d) rfl ad ⟨rfl, rfl⟩)) (ag_cons (ag_r rfl rfl (Zm (v := Vi (j)) rfl ae ⟨rfl, rfl⟩)) (ag_cons (ag_r rfl rfl (Exec.index_slice S115 rfl y rfl (idx_some a).1 (idx_some a).2.1 ⟨rfl, rfl⟩)) (ag_cons (ag_r rfl rfl (Zp F114_1 rfl rfl rfl ⟨rfl, rfl⟩)) (ag_cons (ag_r rfl rfl (Exec.load_arr (F := (encInt .i64)) ((bn).f2) y A3 rfl rfl rfl a (Sub.iso (Sub.snd (Sub.refl _) rfl)) (fun _ q => ⟨rfl, encInt_val.1 q⟩))) (ag_cons (ag_r rfl rfl (Zp F28_4 rfl ab rfl ⟨rfl, rfl⟩)) (ag_cons (ag_r rfl rfl (Zn ((bn).f1) A26 rfl rfl rfl ⟨rfl, rfl⟩)) (ag_cons (ag_r rfl rfl (Zm (v := Vi (g)) rfl ac ⟨rfl, rfl⟩)) (ag_cons (ag_r rfl rfl (Exec.index_run rfl rfl rfl au ⟨rfl, rfl⟩)) (ag_cons (ag_r rfl rfl (Zp F51_1 rfl rfl rfl ⟨rfl, rfl⟩)) (ag_cons (ag_r rfl rfl (Zw (E := (encInt .i64)) bn A3 rfl rfl rfl ((ap.sub (Sub.iso (Sub.snd (Sub.fst (Sub.refl _)) rfl)) rfl).mono bE) (fun _ q => ⟨rfl, encInt_val.1 q⟩))) (ag_cons (ag_r rfl rfl (Exec.add rfl rfl rfl ⟨rfl, rfl⟩)) ag_nil)))))))))))), ?_⟩
         refine DL_done (Za rfl rfl (Zo (v := Vi (IntKind.i64.wrap (af.cost + ag.Cost))) rfl rfl (Za rfl rfl (Zo (v := Value.bool (false)) rfl rfl (Zb (Ze ?_))))))
         exact ⟨fL, bW, bX, d0, bE, ((bn).f2).f2, ab, ad, bb, ae, ac, rfl, rfl, rfl, db, dc⟩
        refine DL_e rfl rfl (Exec.alloc (cs := [Value.slice none 0 0, Value.slice none 0 0]) am Z69 rfl rfl ?_)
        intro d1 hO ay
        refine ⟨(ag_cons (ag_r rfl rfl (Exec.load_box_agg (ds := [m, n, o, p, t]) ((ay).f1) A28 rfl ab rfl ⟨rfl, rfl⟩)) (ag_cons (ag_r rfl rfl (Zm (v := d) rfl ad ⟨rfl, rfl⟩)) (ag_cons (ag_r rfl rfl (Zm (v := Vi (j)) rfl ae ⟨rfl, rfl⟩)) (ag_cons (ag_r rfl rfl (Exec.index_slice S115 rfl bi rfl (idx_some a).1 (idx_some a).2.1 ⟨rfl, rfl⟩)) (ag_cons (ag_r rfl rfl (Zp F114_0 rfl rfl rfl ⟨rfl, rfl⟩)) (ag_cons (ag_r rfl rfl (Zm (v := Vi (g)) rfl ac ⟨rfl, rfl⟩)) (ag_cons (ag_r rfl rfl (Zm (v := d) rfl ad ⟨rfl, rfl⟩)) (ag_cons (ag_r rfl rfl (Zm (v := Vi (j)) rfl ae ⟨rfl, rfl⟩)) (ag_cons (ag_r rfl rfl (Exec.index_slice S115 rfl y rfl (idx_some a).1 (idx_some a).2.1 ⟨rfl, rfl⟩)) (ag_cons (ag_r rfl rfl (Zp F114_1 rfl rfl rfl ⟨rfl, rfl⟩)) (ag_cons (ag_r rfl rfl (Exec.load_arr (F := (encInt .i64)) ((ay).f2) y A3 rfl rfl rfl a (Sub.iso (Sub.snd (Sub.refl _) rfl)) (fun _ q => ⟨rfl, encInt_val.1 q⟩))) (ag_cons (ag_r rfl rfl (Zp F28_4 rfl ab rfl ⟨rfl, rfl⟩)) (ag_cons (ag_r rfl rfl (Zn ((ay).f1) A26 rfl rfl rfl ⟨rfl, rfl⟩)) (ag_cons (ag_r rfl rfl (Zm (v := Vi (g)) rfl ac ⟨rfl, rfl⟩)) (ag_cons (ag_r rfl rfl (Exec.index_run rfl rfl rfl au ⟨rfl, rfl⟩)) (ag_cons (ag_r rfl rfl (Zp F51_1 rfl rfl rfl ⟨rfl, rfl⟩)) (ag_cons (ag_r rfl rfl (Zw (E := (encInt .i64)) ay A3 rfl rfl rfl (ap.sub (Sub.iso (Sub.snd (Sub.fst (Sub.refl _)) rfl)) rfl) (fun _ q => ⟨rfl, encInt_val.1 q⟩))) (ag_cons (ag_r rfl rfl (Exec.add rfl rfl rfl ⟨rfl, rfl⟩)) ag_nil)))))))))))))))))), ?_⟩
        refine DL_e rfl rfl (Exec.load_arr (F := encGState) ((ay).f2) bi A69 rfl rfl rfl a (Sub.iso (Sub.fst (Sub.refl _))) ?_)
        intro h8 fx
        obtain ⟨h0, h1, rfl, fD, fE⟩ := encGState_val.1 fx
        refine ⟨(ag_cons (ag_r rfl rfl (Exec.load_box_agg (ds := [m, n, o, p, t]) ((ay).f1) A28 rfl ab rfl ⟨rfl, rfl⟩)) (ag_cons (ag_r rfl rfl (Zm (v := Vi (g)) rfl ac ⟨rfl, rfl⟩)) (ag_cons (ag_r rfl rfl (Zm (v := d) rfl ad ⟨rfl, rfl⟩)) (ag_cons (ag_r rfl rfl (Zm (v := Vi (j)) rfl ae ⟨rfl, rfl⟩)) (ag_cons (ag_r rfl rfl (Exec.index_slice S115 rfl y rfl (idx_some a).1 (idx_some a).2.1 ⟨rfl, rfl⟩)) (ag_cons (ag_r rfl rfl (Zp F114_1 rfl rfl rfl ⟨rfl, rfl⟩)) (ag_cons (ag_r rfl rfl (Exec.load_arr (F := (encInt .i64)) ((ay).f2) y A3 rfl rfl rfl a (Sub.iso (Sub.snd (Sub.refl _) rfl)) (fun _ q => ⟨rfl, encInt_val.1 q⟩))) (ag_cons (ag_r rfl rfl (Zp F28_4 rfl ab rfl ⟨rfl, rfl⟩)) (ag_cons (ag_r rfl rfl (Zn ((ay).f1) A26 rfl rfl rfl ⟨rfl, rfl⟩)) (ag_cons (ag_r rfl rfl (Zm (v := Vi (g)) rfl ac ⟨rfl, rfl⟩)) (ag_cons (ag_r rfl rfl (Exec.index_run rfl rfl rfl au ⟨rfl, rfl⟩)) (ag_cons (ag_r rfl rfl (Zp F51_1 rfl rfl rfl ⟨rfl, rfl⟩)) (ag_cons (ag_r rfl rfl (Zw (E := (encInt .i64)) ay A3 rfl rfl rfl (ap.sub (Sub.iso (Sub.snd (Sub.fst (Sub.refl _)) rfl)) rfl) (fun _ q => ⟨rfl, encInt_val.1 q⟩))) (ag_cons (ag_r rfl rfl (Exec.add rfl rfl rfl ⟨rfl, rfl⟩)) ag_nil)))))))))))))), ?_⟩
        refine DL_e rfl rfl (Tc rfl rfl rfl (Zi rfl (Zi rfl (Zi rfl args_nil))) (ref18_Next_sim bO ay (a9.mono (Zt (Zt (Zt (Zt l z) aa) x) ah)) (aA.mono (Zt (Zt (Zt (Zt l z) aa) x) ah)) (aB.mono (Zt (Zt (Zt (Zt l z) aa) x) ah)) (aC.mono (Zt (Zt (Zt (Zt l z) aa) x) ah)) (az.mono (Zt (Zt (Zt (Zt l z) aa) x) ah)) fD fE).r ?_)
        rintro _ hP ⟨fM, bY, bZ, bF, bo, rfl, dd, de⟩
        refine ⟨(ag_cons (ag_r rfl rfl (Zm (v := d) rfl ad ⟨rfl, rfl⟩)) (ag_cons (ag_r rfl rfl (Zm (v := Vi (j)) rfl ae ⟨rfl, rfl⟩)) (ag_cons (ag_r rfl rfl (Exec.index_slice S115 rfl y rfl (idx_some a).1 (idx_some a).2.1 ⟨rfl, rfl⟩)) (ag_cons (ag_r rfl rfl (Zp F114_1 rfl rfl rfl ⟨rfl, rfl⟩)) (ag_cons (ag_r rfl rfl (Exec.load_arr (F := (encInt .i64)) ((bo).f2) y A3 rfl rfl rfl a (Sub.iso (Sub.snd (Sub.refl _) rfl)) (fun _ q => ⟨rfl, encInt_val.1 q⟩))) (ag_cons (ag_r rfl rfl (Zp F28_4 rfl ab rfl ⟨rfl, rfl⟩)) (ag_cons (ag_r rfl rfl (Zn ((bo).f1) A26 rfl rfl rfl ⟨rfl, rfl⟩)) (ag_cons (ag_r rfl rfl (Zm (v := Vi (g)) rfl ac ⟨rfl, rfl⟩)) (ag_cons (ag_r rfl rfl (Exec.index_run rfl rfl rfl au ⟨rfl, rfl⟩)) (ag_cons (ag_r rfl rfl (Zp F51_1 rfl rfl rfl ⟨rfl, rfl⟩)) (ag_cons (ag_r rfl rfl (Zw (E := (encInt .i64)) bo A3 rfl rfl rfl ((ap.sub (Sub.iso (Sub.snd (Sub.fst (Sub.refl _)) rfl)) rfl).mono bF) (fun _ q => ⟨rfl, encInt_val.1 q⟩))) (ag_cons (ag_r rfl rfl (Exec.add rfl rfl rfl ⟨rfl, rfl⟩)) ag_nil)))))))))))), ?_⟩
        refine DL_e rfl rfl (Exec.store_box (ds := [bY, bZ]) (es := [bY, bZ]) bo A69 rfl rfl rfl rfl (Zj (dd).one (Zj (de).one one_nil)) (Nat.le_of_ble_eq_true rfl) rfl ?_)
        intro hQ bp
        refine ⟨(ag_cons (ag_r rfl rfl (Zm (v := d) rfl ad ⟨rfl, rfl⟩)) (ag_cons (ag_r rfl rfl (Zm (v := Vi (j)) rfl ae ⟨rfl, rfl⟩)) (ag_cons (ag_r rfl rfl (Exec.index_slice S115 rfl y rfl (idx_some a).1 (idx_some a).2.1 ⟨rfl, rfl⟩)) (ag_cons (ag_r rfl rfl (Zp F114_1 rfl rfl rfl ⟨rfl, rfl⟩)) (ag_cons (ag_r rfl rfl (Exec.load_arr (F := (encInt .i64)) ((bp).f2) y A3 rfl rfl rfl a (Sub.iso (Sub.snd (Sub.refl _) rfl)) (fun _ q => ⟨rfl, encInt_val.1 q⟩))) (ag_cons (ag_r rfl rfl (Zp F28_4 rfl ab rfl ⟨rfl, rfl⟩)) (ag_cons (ag_r rfl rfl (Zn ((bp).f1) A26 rfl rfl rfl ⟨rfl, rfl⟩)) (ag_cons (ag_r rfl rfl (Zm (v := Vi (g)) rfl ac ⟨rfl, rfl⟩)) (ag_cons (ag_r rfl rfl (Exec.index_run rfl rfl rfl au ⟨rfl, rfl⟩)) (ag_cons (ag_r rfl rfl (Zp F51_1 rfl rfl rfl ⟨rfl, rfl⟩)) (ag_cons (ag_r rfl rfl (Zw (E := (encInt .i64)) bp A3 rfl rfl rfl ((ap.sub (Sub.iso (Sub.snd (Sub.fst (Sub.refl _)) rfl)) rfl).mono bF) (fun _ q => ⟨rfl, encInt_val.1 q⟩))) (ag_cons (ag_r rfl rfl (Exec.add rfl rfl rfl ⟨rfl, rfl⟩)) ag_nil)))))))))))), ?_⟩
        refine DL_done (Za rfl rfl (Zo (v := Vi (IntKind.i64.wrap (af.cost + ag.Cost))) rfl rfl (Za rfl rfl (Zo (v := Value.bool (false)) rfl rfl (Zb (Ze ?_))))))
        exact ⟨fM, bY, bZ, d1, bF, ((bp).f2).f2, ab, ad, bb, ae, ac, rfl, rfl, rfl, dd, de⟩
       intro gL hR dC
       obtain ⟨bQ, aj, ak, ar, ew, dS, e6, e7, e8, e9, eA, eB, eC, eD, c7, c8⟩ := dC
       refine (Ze (Zc (Zc (Zd (Za rfl rfl (Zo (v := Vi (0)) rfl rfl (Zb (Ze ?_))))))))
       obtain ⟨ci, d5, hj, en, ei⟩ := ctl_some u
       refine W_mid (M := fun f' w' => ∃ s', (ci = .next s' ∨ ci = .brk s') ∧ (un4 fun (b9 : Bool) (bC : Bool) (cB : Int) (cI : (List law19_found)) => ∃ (dn : PHeap) , PHeap.le bQ dn ∧ St w0 dn (Res.box i 28 [m, n, o, p, t] :: Res.arr enclaw19_found 114 d cI :: Res.box ar 69 [aj, ak] :: H) w' ∧ f' 1 = Value.pointer (some ⟨i, 0, none⟩) ∧ f' 3 = d ∧ f' 4 = Value.bool (b9) ∧ f' 5 = Vi (j) ∧ f' 6 = Vi (g) ∧ f' 7 = Value.pointer (some ⟨ar, 0, none⟩) ∧ f' 8 = Vi (IntKind.i64.wrap (af.cost + ag.Cost)) ∧ f' 9 = Value.bool (bC) ∧ f' 10 = Vi (cB)) s') ?_ ?_
       ·refine W_block (W_while (fun s' f' w' => (un4 fun (aD : Bool) (cC : Bool) (ax : Int) (bG : (List law19_found)) => ∃ (dp : PHeap) , PHeap.le bQ dp ∧ St w0 dp (Res.box i 28 [m, n, o, p, t] :: Res.arr enclaw19_found 114 d bG :: Res.box ar 69 [aj, ak] :: H) w' ∧ f' 1 = Value.pointer (some ⟨i, 0, none⟩) ∧ f' 3 = d ∧ f' 4 = Value.bool (aD) ∧ f' 5 = Vi (j) ∧ f' 6 = Vi (g) ∧ f' 7 = Value.pointer (some ⟨ar, 0, none⟩) ∧ f' 8 = Vi (IntKind.i64.wrap (af.cost + ag.Cost)) ∧ f' 9 = Value.bool (cC) ∧ f' 10 = Vi (ax)) s') d5 ?_ ?_)
        ·have dT := (dS).f2
         exact ⟨bQ, (Zv _), ((dT).f2).f2, e6, e7, e8, e9, eA, eB, eC, eD, rfl⟩
        intro fZ cj gM hT dA al eu
        obtain ⟨aD, cC, ax, bG⟩ := fZ
        replace al := un4_eq al
        obtain ⟨fN, bt, aG, bu, a5, bK, bv, bw, bc, bd, cQ, a6⟩ := dA
        refine Zc (Zc (Zd (Za rfl rfl (Zm (v := Vi (ax)) rfl a6 (Za rfl rfl (Zm (v := d) rfl a5 (Za rfl rfl (Exec.len_arr ((aG).f1) S115 rfl rfl (Za rfl rfl (Zq rfl rfl rfl (Zb (Ze ?_))))))))))))
        rcases ite_some al with ⟨aT, al⟩ | ⟨aT, al⟩
        ·refine W_cond_t rfl aT (W_skip (Ze (Zc (W_block (Zc (W_dl (n0 := 7) (qs 0 6 (.e 6 [] .done)) hmix (by kernel_rfl) (by kernel_rfl) (DL_q rfl rfl (Zm (v := d) rfl a5 ⟨rfl, ?_⟩))))))))
         refine DL_q rfl rfl (Zm (v := Vi (ax)) rfl a6 ⟨rfl, ?_⟩)
         obtain ⟨ca, ai, al⟩ := Zg al
         obtain ⟨ha, gu, ct⟩ := ((aG.drew).f1).arr_at ai
         refine DL_q rfl rfl (Exec.index_slice S115 rfl ct rfl (idx_some ai).1 (idx_some ai).2.1 ⟨rfl, ?_⟩)
         refine DL_q rfl rfl (Zp F114_0 rfl rfl rfl ⟨rfl, ?_⟩)
         refine DL_q rfl rfl (Exec.load_arr (F := encGState) ((aG.drew).f1) ct A69 rfl rfl rfl ai (Sub.iso (Sub.fst (Sub.refl _))) ?_)
         intro h9 fy
         obtain ⟨h2, h3, rfl, fF, fG⟩ := encGState_val.1 fy
         refine ⟨rfl, ?_⟩
         refine DL_q rfl rfl (Exec.load_box_agg (ds := [aj, ak]) ((aG.drew).f2) A69 rfl bc rfl ⟨rfl, ?_⟩)
         obtain ⟨im, fz, al⟩ := Zg al
         refine DL_e rfl rfl (Tc rfl rfl rfl (Zi rfl (Zi rfl args_nil)) (ref18_SameState_sim fz aG.drew fF fG (c7.mono bt) (c8.mono bt)).r ?_)
         rintro _ hU ⟨be, ex, aO, rfl⟩
         refine ⟨ag_nil, ?_⟩
         refine DL_done (Zb (Ze ?_))
         obtain ⟨b2, a2, al⟩ := Zg al
         refine W_mid (M := fun f' w' => (un3 fun (cq : Bool) (cD : Bool) (cJ : (List law19_found)) => ∃ (dq : PHeap) , PHeap.le be dq ∧ St w0 dq (Res.box i 28 [m, n, o, p, t] :: Res.arr enclaw19_found 114 d cJ :: Res.box ar 69 [aj, ak] :: H) w' ∧ f' 1 = Value.pointer (some ⟨i, 0, none⟩) ∧ f' 3 = d ∧ f' 4 = Value.bool (cq) ∧ f' 5 = Vi (j) ∧ f' 6 = Vi (g) ∧ f' 7 = Value.pointer (some ⟨ar, 0, none⟩) ∧ f' 8 = Vi (IntKind.i64.wrap (af.cost + ag.Cost)) ∧ f' 9 = Value.bool (cD) ∧ f' 10 = Vi (ax)) b2) ?_ ?_
         ·rcases ite_some a2 with ⟨aU, a2⟩ | ⟨aU, a2⟩
          ·refine W_cond_t rfl aU (Zc (Zd (Za rfl rfl (Zo (v := Value.bool (true)) rfl rfl (Zb (Ze (Zc (W_mid (M := fun f' w' => ∃ (dr : PHeap) , PHeap.le be dr ∧ St w0 dr (Res.box i 28 [m, n, o, p, t] :: Res.arr enclaw19_found 114 d bG :: Res.box ar 69 [aj, ak] :: H) w' ∧ f' 1 = Value.pointer (some ⟨i, 0, none⟩) ∧ f' 3 = d ∧ f' 4 = Value.bool ((aD || decide ((IntKind.i64.wrap (af.cost + ag.Cost)) < ca.cost))) ∧ f' 5 = Vi (j) ∧ f' 6 = Vi (g) ∧ f' 7 = Value.pointer (some ⟨ar, 0, none⟩) ∧ f' 8 = Vi (IntKind.i64.wrap (af.cost + ag.Cost)) ∧ f' 9 = Value.bool (true) ∧ f' 10 = Vi (ax)) ?_ ?_))))))))
           ·refine Zd (Za rfl rfl (Zm (v := Value.bool (aD)) rfl bK (Za rfl rfl (Zm (v := Value.bool (aD)) rfl rfl ?_))))
            by_cases an : aD = true
            ·refine WL_passes 9 (by rw [an]; rfl) ?_
             refine Zb (Ze ?_)
             exact ⟨be, (Zv _), (((aO).f2).f2).f2, bu, a5, (Zx (or_t an)).symm, bv, bw, bc, bd, rfl, a6⟩
            replace an := Zk an
            refine WL_run rfl (Zf rfl (Zx an)) rfl (Zm (v := Vi (IntKind.i64.wrap (af.cost + ag.Cost))) rfl bd (WL_run rfl (Zf rfl (Zx an)) rfl (Zm (v := d) rfl a5 (WL_run rfl (Zf rfl (Zx an)) rfl (Zm (v := Vi (ax)) rfl a6 ?_)))))
            obtain ⟨hb, gv, cu⟩ := ((aO).f1).arr_at ai
            refine WL_run rfl (Zf rfl (Zx an)) rfl (Exec.index_slice S115 rfl cu rfl (idx_some ai).1 (idx_some ai).2.1 (WL_run rfl (Zf rfl (Zx an)) rfl (Zp F114_1 rfl rfl rfl (WL_run rfl (Zf rfl (Zx an)) rfl (Exec.load_arr (F := (encInt .i64)) ((aO).f1) cu A3 rfl rfl rfl ai (Sub.iso (Sub.snd (Sub.refl _) rfl)) ?_)))))
            intro gj f0
            obtain rfl : gj = Vi (ca.cost) := encInt_val.1 f0
            refine WL_run rfl (Zf rfl (Zx an)) rfl (Zq rfl rfl rfl ?_)
            refine WL_passes 2 (by rw [an]; rfl) ?_
            refine Zb (Ze ?_)
            exact ⟨be, (Zv _), (((aO).f2).f2).f2, bu, a5, (Zx (or_f an)).symm, bv, bw, bc, bd, rfl, a6⟩
           intro gN hV dD
           obtain ⟨fO, ey, bq, eE, bL, eF, eG, eH, eI, cR, eJ, bM⟩ := dD
           refine (Ze (Zd (Za rfl rfl (Zm (v := d) rfl bL (Za rfl rfl (Zm (v := Vi (ax)) rfl bM (Za rfl rfl (Zm (v := d) rfl bL (Za rfl rfl (Zm (v := Vi (ax)) rfl bM ?_))))))))))
           obtain ⟨hc, gw, cv⟩ := ((bq).f1).arr_at ai
           refine Za rfl rfl (Exec.index_slice S115 rfl cv rfl (idx_some ai).1 (idx_some ai).2.1 (Za rfl rfl (Zp F114_1 rfl rfl rfl (Za rfl rfl (Exec.load_arr (F := (encInt .i64)) ((bq).f1) cv A3 rfl rfl rfl ai (Sub.iso (Sub.snd (Sub.refl _) rfl)) ?_)))))
           intro gk f3
           obtain rfl : gk = Vi (ca.cost) := encInt_val.1 f3
           refine Za rfl rfl (Zm (v := Vi (IntKind.i64.wrap (af.cost + ag.Cost))) rfl cR (Za rfl rfl (Exec.min2 rfl rfl rfl ?_)))
           obtain ⟨hd, gx, cw⟩ := ((bq).f1).arr_at ai
           refine Za rfl rfl (Exec.index_slice S115 rfl cw rfl (idx_some ai).1 (idx_some ai).2.1 (Za rfl rfl (Zp F114_1 rfl rfl rfl ?_)))
           obtain ⟨hl, f4, a2⟩ := Zg a2
           refine Za rfl rfl (Exec.store_arr_fld (set := (fun (c : law19_found) b => { c with cost := b })) (bq).f1 cw A3 rfl rfl rfl rfl (encInt_val.2 rfl) (Upd.iso (k := (fun (c : law19_found) b => { c with cost := b })) (Upd.snd (Upd.refl _) rfl) (fun _ _ => rfl)) ai f4 ?_)
           intro hW dU
           refine Zb (Ze ?_)
           have g1 := Zu a2
           subst b2
           exact ⟨fO, ey, (((dU).f2).f1).f2, eE, bL, eF, eG, eH, eI, cR, eJ, bM⟩
          refine W_cond_f rfl aU ?_
          replace aU := Zk aU
          refine W_skip (Ze ?_)
          have g2 := Zu a2
          subst b2
          exact ⟨be, (Zv _), (((aO).f2).f2).f2, bu, a5, bK, bv, bw, bc, bd, cQ, a6⟩
         intro gO hX dE
         obtain ⟨cq, cD, cJ⟩ := b2
         replace al := un3_eq al
         obtain ⟨fP, ez, dV, eK, eL, eM, eN, eO, eP, eQ, eR, eS⟩ := dE
         refine (ib_normal (Ze (Zd (Za rfl rfl (Zm (v := Vi (ax)) rfl eS (Za rfl rfl (Exec.add rfl rfl rfl (Za rfl rfl (Zo (v := Vi (IntKind.i64.wrap (ax + 1))) rfl rfl (Zb (Ze ?_)))))))))))
         have g3 := Zu al
         subst cj
         refine ⟨_, rfl, ?_⟩; exact ⟨fP, (Zt (Zt bt ex) ez), (((dV).f2).f2).f2, eK, eL, eM, eN, eO, eP, eQ, eR, rfl⟩
        refine W_cond_f rfl aT ?_
        replace aT := Zk aT
        refine W_exit (at_exit (at_exit (ib_here (Ze ?_))))
        have g4 := Zu al
        subst cj
        refine ⟨_, .inr (eu (by intro _ h; cases h)), ?_⟩; exact ⟨fN, bt, (((aG).f2).f2).f2, bu, a5, bK, bv, bw, bc, bd, cQ, a6⟩
       rintro gP hY ⟨ga, c2, dF⟩
       have u := c2.elim (en _) (ei _)
       clear c2
       obtain ⟨b9, bC, cB, cI⟩ := ga
       replace u := un4_eq u
       obtain ⟨bR, bH, bB, cS, cT, cU, cV, cW, eT, eU, eV, hp⟩ := dF
       refine (Ze (Zc (Zd (Za rfl rfl (Zm (v := Value.bool (bC)) rfl eV (Za rfl rfl (Exec.not rfl rfl (Zb (Ze ?_)))))))))
       obtain ⟨ba, a3, u⟩ := Zg u
       refine W_mid (M := fun f' w' => (fun (ba : (List law19_found)) => ∃ (dt : PHeap) (b5 : Value), PHeap.le bR dt ∧ St w0 dt (Res.box i 28 [m, n, o, p, t] :: Res.arr enclaw19_found 114 b5 ba :: H) w' ∧ f' 1 = Value.pointer (some ⟨i, 0, none⟩) ∧ f' 3 = b5 ∧ f' 4 = Value.bool (b9) ∧ f' 5 = Vi (j) ∧ f' 6 = Vi (g)) ba) ?_ ?_
       ·rcases ite_some a3 with ⟨aV, a3⟩ | ⟨aV, a3⟩
        ·refine W_cond_t rfl aV (Zd (Za rfl rfl (Zm (v := d) rfl cT (Za rfl rfl (Exec.load_box_agg (ds := [aj, ak]) ((bB).f2) A69 rfl eT rfl (Za rfl rfl (Zm (v := Vi (IntKind.i64.wrap (af.cost + ag.Cost))) rfl eU (Za rfl rfl (Exec.build rfl (parts_cons (c := [aj, ak]) (cells_of rfl rfl) (parts_cons (c := [Vi (IntKind.i64.wrap (af.cost + ag.Cost))]) (cells_of rfl rfl) parts_nil)) (v := Value.agg #[aj, ak, Vi (IntKind.i64.wrap (af.cost + ag.Cost))]) (fun _ => by kernel_rfl) (Za rfl rfl (Exec.buildSlice (Te := 114) (cs := [aj, ak, Vi (IntKind.i64.wrap (af.cost + ag.Cost))]) bB rfl (parts_cons (c := [aj, ak, Vi (IntKind.i64.wrap (af.cost + ag.Cost))]) (cells_of rfl rfl) parts_nil) (fun _ => by kernel_rfl) ?_)))))))))))
         intro gp hZ dW
         obtain ⟨hn, f5, a3⟩ := Zg a3
         refine Za rfl rfl (Exec.append_box (E := enclaw19_found) (ys := [(⟨cb, IntKind.i64.wrap (af.cost + ag.Cost)⟩ : law19_found)]) (dW).f2 S115 Z114 rfl (by decide) rfl rfl rfl rfl ⟨[aj, ak, Vi (IntKind.i64.wrap (af.cost + ag.Cost))], [], rfl, ⟨[aj, ak], [Vi (IntKind.i64.wrap (af.cost + ag.Cost))], rfl, ⟨[aj], [ak], rfl, ⟨_, rfl, (c7.mono bH)⟩, ⟨_, rfl, (c8.mono bH)⟩⟩, rfl⟩, rfl⟩ rfl f5 ?_)
         intro dx ia dX
         refine Za rfl rfl (Zo (v := dx) rfl rfl (Zb (Ze ?_)))
         have g5 := Zu a3
         subst ba
         exact ⟨bR, dx, (Zv _), (((dX).f2).drop).f1, cS, rfl, cU, cV, cW⟩
        refine W_cond_f rfl aV ?_
        replace aV := Zk aV
        refine W_skip (Ze ?_)
        have g6 := Zu a3
        subst ba
        exact ⟨bR, d, (Zv _), ((((bB).f2).drop).f1).f1, cS, cT, cU, cV, cW⟩
       intro gQ ib dG
       obtain ⟨fQ, b5, e0, dY, eW, eX, eY, eZ, fa⟩ := dG
       refine (ib_normal (Ze (Zd (Za rfl rfl (Zm (v := Vi (g)) rfl fa (Za rfl rfl (Exec.add rfl rfl rfl (Za rfl rfl (Zo (v := Vi (IntKind.i64.wrap (g + 1))) rfl rfl (Zb (Ze ?_)))))))))))
       have g7 := Zu u
       subst b6
       refine ⟨_, rfl, ?_⟩; exact ⟨fQ, b5, (Zt (Zt (Zt (Zt x ah) ew) bH) e0), ((dY).f1).f1, eW, eX, eY, eZ, rfl⟩
      refine W_cond_f rfl aR ?_
      replace aR := Zk aR
      refine W_exit (at_exit (at_exit (ib_here (Ze ?_))))
      have g8 := Zu u
      subst b6
      refine ⟨_, .inr (et (by intro _ h; cases h)), ?_⟩; exact ⟨fJ, d, x, ((aF).f1).f1, ab, ad, bb, ae, ac⟩
     rintro gR ic ⟨gb, c3, dH⟩
     have aw := c3.elim (em _) (eh _)
     clear c3
     obtain ⟨cp, cK, cH⟩ := gb
     replace aw := un3_eq aw
     obtain ⟨fR, b4, e1, dZ, fb, fc, fd, fe, hq⟩ := dH
     refine (ib_normal (Ze (Zd (Za rfl rfl (Zm (v := Vi (j)) rfl fe (Za rfl rfl (Exec.add rfl rfl rfl (Za rfl rfl (Zo (v := Vi (IntKind.i64.wrap (j + 1))) rfl rfl (Zb (Ze ?_)))))))))))
     have g9 := Zu aw
     subst cg
     refine ⟨_, rfl, ?_⟩; exact ⟨fR, b4, (Zt aa e1), ((dZ).f1).f1, fb, fc, fd, rfl⟩
    refine W_cond_f rfl aQ ?_
    replace aQ := Zk aQ
    refine W_exit (at_exit (at_exit (ib_here (Ze ?_))))
    have gA := Zu aw
    subst cg
    refine ⟨_, .inr (er (by intro _ h; cases h)), ?_⟩; exact ⟨b0, aL, aa, ((bA).f1).f1, cO, bI, cP, bJ⟩
   rintro gS ie ⟨gc, c4, dI⟩
   have av := c4.elim (el _) (eg _)
   clear c4
   obtain ⟨cn, c9, cF⟩ := gc
   replace av := un3_eq av
   obtain ⟨fS, b3, e2, ea, ff, fg, fh, hr⟩ := dI
   refine (ib_normal (Ze ?_))
   have gB := Zu av
   subst ce
   refine ⟨_, rfl, ?_⟩; exact ⟨fS, b3, (Zt z e2), ((ea).f1).f1, ff, fg, fh⟩
  refine W_cond_f rfl aP ?_
  replace aP := Zk aP
  refine W_exit (at_exit (at_exit (ib_here (Ze ?_))))
  have gC := Zu av
  subst ce
  refine ⟨_, .inr (ep (by intro _ h; cases h)), ?_⟩; exact ⟨bz, bf, z, ((c0).f1).f1, cL, cM, cN⟩
 rintro gT ig ⟨gd, c5, dJ⟩
 have hm := c5.elim (ek _) (ef _)
 clear c5
 obtain ⟨cm, aZ⟩ := gd
 replace hm := un2_eq hm
 obtain ⟨bS, aq, aI, eb, fi, fj, hs⟩ := dJ
 refine (Ze (Zc (Zd (Za rfl rfl (Zo (v := Vi (1125899906842624)) rfl rfl (Zb (Ze (Zc (Zc (Zd (Za rfl rfl (Zo (v := Vi (0)) rfl rfl (Zb (Ze ?_))))))))))))))
 obtain ⟨ck, d6, hk, eo, ej⟩ := ctl_some hm
 refine W_mid (M := fun f' w' => ∃ s', (ck = .next s' ∨ ck = .brk s') ∧ (un2 fun (bg : Int) (cA : Int) => ∃ (du : PHeap) , PHeap.le bS du ∧ St w0 du (Res.box i 28 [m, n, o, p, t] :: Res.arr enclaw19_found 114 aq aZ :: H) w' ∧ f' 1 = Value.pointer (some ⟨i, 0, none⟩) ∧ f' 3 = aq ∧ f' 11 = Vi (bg) ∧ f' 12 = Vi (cA)) s') ?_ ?_
 ·refine W_block (W_while (fun s' f' w' => (un2 fun (bh : Int) (a0 : Int) => ∃ (dv : PHeap) , PHeap.le bS dv ∧ St w0 dv (Res.box i 28 [m, n, o, p, t] :: Res.arr enclaw19_found 114 aq aZ :: H) w' ∧ f' 1 = Value.pointer (some ⟨i, 0, none⟩) ∧ f' 3 = aq ∧ f' 11 = Vi (bh) ∧ f' 12 = Vi (a0)) s') d6 ?_ ?_)
  ·have ec := (eb).f1
   exact ⟨bS, (Zv _), (ec).f1, fi, fj, rfl, rfl⟩
  intro gf cl gU ih dB ao ev
  obtain ⟨bh, a0⟩ := gf
  replace ao := un2_eq ao
  obtain ⟨fT, a4, aH, bx, aJ, bN, aK⟩ := dB
  refine Zc (Zc (Zd (Za rfl rfl (Zm (v := Vi (a0)) rfl aK (Za rfl rfl (Zm (v := aq) rfl aJ (Za rfl rfl (Exec.len_arr ((aH).f1) S115 rfl rfl (Za rfl rfl (Zq rfl rfl rfl (Zb (Ze ?_))))))))))))
  rcases ite_some ao with ⟨aW, ao⟩ | ⟨aW, ao⟩
  ·refine W_cond_t rfl aW (W_skip (Ze (Zc (W_block (Zc (W_dl (n0 := 7) (qs 0 6 (.e 6 [] .done)) hmix (by kernel_rfl) (by kernel_rfl) (DL_q rfl rfl (Exec.load_box_agg (ds := [m, n, o, p, t]) (aH.drew) A28 rfl bx rfl ⟨rfl, ?_⟩))))))))
   refine DL_q rfl rfl (Zm (v := aq) rfl aJ ⟨rfl, ?_⟩)
   refine DL_q rfl rfl (Zm (v := Vi (a0)) rfl aK ⟨rfl, ?_⟩)
   obtain ⟨dy, a1, ao⟩ := Zg ao
   obtain ⟨he, gy, cx⟩ := ((aH.drew).f1).arr_at a1
   refine DL_q rfl rfl (Exec.index_slice S115 rfl cx rfl (idx_some a1).1 (idx_some a1).2.1 ⟨rfl, ?_⟩)
   refine DL_q rfl rfl (Zp F114_0 rfl rfl rfl ⟨rfl, ?_⟩)
   refine DL_q rfl rfl (Exec.load_arr (F := encGState) ((aH.drew).f1) cx A69 rfl rfl rfl a1 (Sub.iso (Sub.fst (Sub.refl _))) ?_)
   intro hA f6
   obtain ⟨h4, h5, rfl, fH, fI⟩ := encGState_val.1 f6
   refine ⟨rfl, ?_⟩
   obtain ⟨io, f7, ao⟩ := Zg ao
   refine DL_e rfl rfl (Tc rfl rfl rfl (Zi rfl (Zi rfl args_nil)) (ref18_Goal_sim f7 aH.drew (a9.mono (Zt (Zt l aI) a4)) (aA.mono (Zt (Zt l aI) a4)) (aB.mono (Zt (Zt l aI) a4)) (aC.mono (Zt (Zt l aI) a4)) (az.mono (Zt (Zt l aI) a4)) fH fI).r ?_)
   rintro _ ii ⟨bT, e3, br, rfl⟩
   refine ⟨ag_nil, ?_⟩
   refine DL_done (Zb (Ze ?_))
   obtain ⟨aM, aY, ao⟩ := Zg ao
   refine W_mid (M := fun f' w' => (fun (aM : Int) => ∃ (dw : PHeap) , PHeap.le bT dw ∧ St w0 dw (Res.box i 28 [m, n, o, p, t] :: Res.arr enclaw19_found 114 aq aZ :: H) w' ∧ f' 1 = Value.pointer (some ⟨i, 0, none⟩) ∧ f' 3 = aq ∧ f' 11 = Vi (aM) ∧ f' 12 = Vi (a0)) aM) ?_ ?_
   ·rcases ite_some aY with ⟨aX, aY⟩ | ⟨aX, aY⟩
    ·refine W_cond_t rfl aX (Zd (Za rfl rfl (Zm (v := Vi (bh)) rfl bN (Za rfl rfl (Zm (v := aq) rfl aJ (Za rfl rfl (Zm (v := Vi (a0)) rfl aK ?_)))))))
     obtain ⟨hf, gz, cy⟩ := ((br).f1).arr_at a1
     refine Za rfl rfl (Exec.index_slice S115 rfl cy rfl (idx_some a1).1 (idx_some a1).2.1 (Za rfl rfl (Zp F114_1 rfl rfl rfl (Za rfl rfl (Exec.load_arr (F := (encInt .i64)) ((br).f1) cy A3 rfl rfl rfl a1 (Sub.iso (Sub.snd (Sub.refl _) rfl)) ?_)))))
     intro gl f8
     obtain rfl : gl = Vi (dy.cost) := encInt_val.1 f8
     refine Za rfl rfl (Exec.min2 rfl rfl rfl (Za rfl rfl (Zo (v := Vi (min bh dy.cost)) rfl rfl (Zb (Ze ?_)))))
     have gD := Zu aY
     subst aM
     exact ⟨bT, (Zv _), ((br).f1).f1, bx, aJ, rfl, aK⟩
    refine W_cond_f rfl aX ?_
    replace aX := Zk aX
    refine W_skip (Ze ?_)
    have gE := Zu aY
    subst aM
    exact ⟨bT, (Zv _), ((br).f1).f1, bx, aJ, bN, aK⟩
   intro gV ij dK
   obtain ⟨fU, e4, ed, fk, fl, fm, fn⟩ := dK
   refine (ib_normal (Ze (Zd (Za rfl rfl (Zm (v := Vi (a0)) rfl fn (Za rfl rfl (Exec.add rfl rfl rfl (Za rfl rfl (Zo (v := Vi (IntKind.i64.wrap (a0 + 1))) rfl rfl (Zb (Ze ?_)))))))))))
   have gF := Zu ao
   subst cl
   refine ⟨_, rfl, ?_⟩; exact ⟨fU, (Zt (Zt a4 e3) e4), ((ed).f1).f1, fk, fl, fm, rfl⟩
  refine W_cond_f rfl aW ?_
  replace aW := Zk aW
  refine W_exit (at_exit (at_exit (ib_here (Ze ?_))))
  have gG := Zu ao
  subst cl
  refine ⟨_, .inr (ev (by intro _ h; cases h)), ?_⟩; exact ⟨fT, a4, ((aH).f1).f1, bx, aJ, bN, aK⟩
 rintro gW ik ⟨gg, c6, dL⟩
 have hm := c6.elim (eo _) (ej _)
 clear c6
 obtain ⟨bg, cA⟩ := gg
 replace hm := un2_eq hm
 obtain ⟨fV, e5, ee, ht, hu, fo, hv⟩ := dL
 refine (Ze (Zc (Zd (Za rfl rfl (Zm (v := Vi (bg)) rfl fo (Za rfl rfl (Zo (v := Vi (bg)) rfl rfl (Zb (Ze (W_ret ?_))))))))))
 have gH := Zu hm
 subst r
 refine ⟨_, ret1 rfl, ?_⟩
 exact ⟨fV, (Zt (Zt l aI) e5), ((ee).drop).drop, rfl⟩
end Go.Pw
