/-
  The walks (printed by my generator).
-/
import Derived.Test.YtjmapcjjkaffoaaGreatEq1
import Derived.Test.YtjmapcjjkaffoaaGreatEqSo
set_option maxRecDepth 100000
set_option maxHeartbeats 4000000
set_option linter.unusedVariables false
namespace Go.Pw
open Go.Proofs
theorem encode_sorted_sim {w0 w : World} {s : PHeap} {H : List Res} {i : BMap} {g : Nat} {r : (List Int)} (hm : encode_sorted_p i = some r) (hS : St w0 s (Res.bmap Tryz.prog 3 4 g i :: H) w)  :
  Calls Tryz.prog 73 #[Value.map (some g)] w fun e w' => ∃ v, e = .returned v ∧ ((fun (ax : (List Int)) => ∃ (m : PHeap) (x : Value), PHeap.le s m ∧ St w0 m (Res.bmap Tryz.prog 3 4 g i :: H) w' ∧ v = x ∧ SliceRep (encInt .i64) m x ax) r) := by
 unfold encode_sorted_p at hm
 refine calls_of_W Tryz.func73 rfl rfl (Zc (Zd (Za rfl rfl (Zo (v := Value.slice none 0 0) rfl rfl (Zb (Ze (Zc (Zd (Za rfl rfl (Zo (v := Value.slice none 0 0) rfl rfl (Zb (Ze (Zc (Zc (Zd (Za rfl rfl (Zm (v := Value.map (some g)) rfl rfl (Za rfl rfl (Exec.bmap_range hS ⟨Tryz.underlying107, Tryz.underlying3, Tryz.underlying4⟩ rfl rfl ?_)))))))))))))))))))
 intro t a8 aa
 refine Zb (Ze (W_block (W_rangeC (fun d' s' f' w' => (fun (q : (List Int)) => ∃ (u : PHeap) (b : Value), PHeap.le s u ∧ St w0 u (Res.brange Tryz.prog 3 4 g t i d' :: Res.arr (encInt .i64) 3 b q :: H) w' ∧ f' 3 = b ∧ f' 6 = Value.pointer (some ⟨t, 0, none⟩)) s') hm ?_ ?_)))
 ·have ab := aa.nilArr (encInt .i64) 3
  exact ⟨s, (Value.slice none 0 0), (Zv _), (ab).f1, rfl, rfl⟩
 intro az q a2 a9 z ak am
 obtain ⟨au, b, p, ac, k, l⟩ := z
 refine Zc (Zd (Za rfl rfl (Exec.brange_next ac ⟨Tryz.underlying107, Tryz.underlying3, Tryz.underlying4⟩ rfl l ?_ ?_)))
 ·intro aj ad
  have j := ak aj
  refine Za rfl rfl (Exec.extract (v := Value.bool (false)) rfl rfl rfl (Zb (Ze (Zc (W_false rfl (W_exit (at_exit (at_exit (ib_here (Ze (Zc (Zd (Za rfl rfl (Zm (v := b) rfl k ?_))))))))))))))
  obtain ⟨a4, ap, j⟩ := Zg j
  refine Za rfl rfl (Tc rfl rfl rfl (Zi rfl args_nil) (sortInts_sim ap (ad).f1 ).r ?_)
  rintro _ aA ⟨a6, an, ae, rfl⟩
  refine Zb (Ze (Zc (Zd (Za rfl rfl (Zm (v := b) rfl k (Za rfl rfl (Zo (v := b) rfl rfl (Zb (Ze (W_ret ?_))))))))))
  have a0 := Zu j
  subst r
  refine ⟨_, ret1 rfl, ?_⟩
  obtain ⟨av, ao, af, ar⟩ := ae.freezeArr
  exact ⟨av, b, (Zt (Zt p an) ao), af, rfl, ar⟩
 intro a a7 aB n o ag al
 obtain ⟨aw, h, a3⟩ := am a n o
 have hm28226k := h
 refine Za rfl rfl (Exec.extract (v := Value.bool (true)) rfl rfl rfl (Zb (Ze (Zc (W_true rfl (W_skip (Ze (W_block (Zc (Zd (Za rfl rfl (Exec.entry rfl l al (Za rfl rfl (Exec.extract (v := Vi (a)) rfl rfl rfl (Za rfl rfl (Zo (v := Vi (a)) rfl rfl (Zb (Ze (Zd (Za rfl rfl (Zm (v := b) rfl k (Za rfl rfl (Zm (v := Vi (a)) rfl rfl (Za rfl rfl (Exec.buildSlice (Te := 3) (cs := [Vi (a)]) ag rfl (parts_cons (c := [Vi (a)]) (cells_of rfl rfl) parts_nil) (fun _ => by kernel_rfl) ?_)))))))))))))))))))))))))
 intro ay aC ah
 obtain ⟨a5, aq, h⟩ := Zg h
 refine Za rfl rfl (Exec.append_box (E := (encInt .i64)) (ys := [a]) (ah).f2 S24 Z3 rfl (by decide) rfl rfl rfl rfl ⟨[Vi (a)], [], rfl, rfl, rfl⟩ rfl aq ?_)
 intro y aD ai
 refine Za rfl rfl (Zo (v := y) rfl rfl (Zb (ib_normal (Ze ?_))))
 have a1 := Zu h
 subst aw
 exact ⟨a, _, n, o, hm28226k, ⟨au, y, p, (ai).f1, rfl, l⟩⟩
theorem encode_tested_sim {w0 w : World} {s : PHeap} {H : List Res} {i : (List GTest)} {m : (List Int)} {d : Value} {c : Value} {r : (List Int)} (hm : encode_tested_p i m = some r) (hS : St w0 s (H) w) (n : SliceRep encGTest s d i) (o : SliceRep (encInt .i64) s c m) :
  Calls Tryz.prog 49 #[d, c] w fun e w' => ∃ v, e = .returned v ∧ ((fun (aI : (List Int)) => ∃ (l : PHeap) (z : Value), PHeap.le s l ∧ St w0 l (H) w' ∧ v = z ∧ SliceRep (encInt .i64) l z aI) r) := by
 unfold encode_tested_p at hm
 refine calls_of_W Tryz.func49 rfl rfl (Zc (Zd (Za rfl rfl (Zo (v := Value.slice none 0 0) rfl rfl (Zb (Ze (Zc (Zd (Za rfl rfl (Exec.make_bmap (k := 3) (e := 4) hS rfl ?_))))))))))
 intro b bo al
 refine Za rfl rfl (Zo (v := Value.map (some b)) rfl rfl (Zb (Ze (Zc (Zc (Zd (Za rfl rfl (Zm (v := d) rfl rfl (Za rfl rfl (Zr S82 rfl rfl n (Za rfl rfl (Zm (v := Vi (0)) rfl rfl (Zb (Ze ?_))))))))))))))
 obtain ⟨bi, af, hm⟩ := Zg hm
 refine W_block (W_forS (fun k' s' f' w' => (fun (_ : Unit) => ∃ (q : PHeap) , PHeap.le s q ∧ St w0 q (Res.bmap Tryz.prog 3 4 b ([] : BMap) :: H) w' ∧ f' 1 = c ∧ f' 5 = Value.map (some b) ∧ f' 11 = d ∧ f' 12 = Vi ((i.length : Int)) ∧ f' 13 = Vi (k' : Int)) s') af ?_ ?_ ?_)
 ·exact ⟨s, (Zv _), al, rfl, rfl, rfl, rfl, rfl⟩
 ·intro aU bj bd aN bp aS ah g
  obtain ⟨be, ar, p, aY, aZ, ax, ay, ab⟩ := ah
  refine Zc (Zd (Za rfl rfl (Zq rfl ab ay (Zb (Ze (Zc (W_true (Zx (decide_eq_true (by omega))) (W_skip (Ze (Zc (W_block (Zc (Zd ?_)))))))))))))
  obtain ⟨a, a6, g⟩ := Zg g
  refine Za rfl rfl (Exec.index_rep S82 rfl ax ab (n.mono ar) a6 ?_)
  intro aJ aW ad
  refine Za rfl rfl (Zw (E := encGTest) p A127 rfl rfl rfl ad ?_)
  intro bm a7
  obtain ⟨x, y, rfl, aB, aC⟩ := encGTest_val.1 a7
  refine Za rfl rfl (Exec.alloc (cs := [Value.string (⟨#[]⟩), Value.string (⟨#[]⟩), Vi (0), Value.slice none 0 0, Value.string (⟨#[]⟩), Vi (0), Value.slice none 0 0]) p Z127 rfl rfl ?_)
  intro aK bq am
  refine Za rfl rfl (Exec.store_box (ds := [Value.string (a.Op), Value.string (a.A.Op), Vi (a.A.N), x, Value.string (a.B.Op), Vi (a.B.N), y]) (es := [Value.string (a.Op), Value.string (a.A.Op), Vi (a.A.N), x, Value.string (a.B.Op), Vi (a.B.N), y]) am A127 rfl rfl rfl rfl (Zj rfl (Zj rfl (Zj rfl (Zj (aB).one (Zj rfl (Zj rfl (Zj (aC).one one_nil))))))) (Nat.le_of_ble_eq_true rfl) rfl ?_)
  intro br aR
  refine Zb (Ze (Zc ?_))
  cases g
 intro aO bs ai
 obtain ⟨t, j, an, az, a0, ba, a1, aF⟩ := ai
 refine Zc (Zd (Za rfl rfl (Zq rfl aF a1 (Zb (Ze (Zc (W_false (Zx (decide_eq_false (by omega))) (W_exit (at_exit (at_exit (ib_here (Ze (Zc (Zc (Zd (Za rfl rfl (Zm (v := c) rfl az (Za rfl rfl (Zr S24 rfl rfl (o.mono j) (Za rfl rfl (Zm (v := Vi (0)) rfl rfl (Zb (Ze ?_)))))))))))))))))))))))
 obtain ⟨bk, ag, hm⟩ := Zg hm
 refine W_block (W_forS (fun k' s' f' w' => (fun (_ : Unit) => ∃ (u : PHeap) , PHeap.le t u ∧ St w0 u (Res.bmap Tryz.prog 3 4 b ([] : BMap) :: H) w' ∧ f' 5 = Value.map (some b) ∧ f' 26 = c ∧ f' 27 = Vi ((m.length : Int)) ∧ f' 28 = Vi (k' : Int)) s') ag ?_ ?_ ?_)
 ·exact ⟨t, (Zv _), an, a0, rfl, rfl, rfl⟩
 ·intro aV bl bf aP bt aT aj h
  obtain ⟨bg, au, ao, bb, a2, a3, ac⟩ := aj
  refine Zc (Zd (Za rfl rfl (Zq rfl ac a3 (Zb (Ze (Zc (W_true (Zx (decide_eq_true (by omega))) (W_skip (Ze (Zc (W_block (Zc (Zd ?_)))))))))))))
  obtain ⟨aG, a8, h⟩ := Zg h
  refine Za rfl rfl (Exec.index_rep S24 rfl a2 ac (o.mono (Zt j au)) a8 ?_)
  intro aL aX ae
  refine Za rfl rfl (Zw (E := (encInt .i64)) ao A3 rfl rfl rfl ae ?_)
  intro bn a9
  obtain rfl := encInt_val.1 a9
  refine Za rfl rfl (Zo (v := Vi (aG)) rfl rfl (Zb (Ze ?_)))
  cases h
 intro aQ bu ak
 obtain ⟨bh, av, ap, a4, bc, a5, aH⟩ := ak
 refine Zc (Zd (Za rfl rfl (Zq rfl aH a5 (Zb (Ze (Zc (W_false (Zx (decide_eq_false (by omega))) (W_exit (at_exit (at_exit (ib_here (Ze (Zc (Zd (Za rfl rfl (Zm (v := Value.map (some b)) rfl a4 ?_))))))))))))))))
 obtain ⟨bw, aA, hm⟩ := Zg hm
 refine Za rfl rfl (Tc rfl rfl rfl (Zi rfl args_nil) (encode_sorted_sim aA ap ).r ?_)
 rintro aa bv ⟨aE, _, aw, aq, rfl, aD⟩
 refine Za rfl rfl (Zo (v := aa) rfl rfl (Zb (Ze (W_ret ?_))))
 have aM := Zu hm
 subst r
 refine ⟨_, ret1 rfl, ?_⟩
 exact ⟨aE, aa, (Zt (Zt j av) aw), (aq).drop, rfl, aD⟩
theorem encode_encoder_many_sim {w0 w : World} {s : PHeap} {H : List Res} {a : encode_encoder} {q : (List Int)} {i : Nat} {j : Value} {l : Value} {m : Value} {n : Value} {o : Value} {b : Value} {c : Value} {d : Value} {h : Value} {p : Value} {r : Int} (hm : encode_encoder_many_p a q = some r) (hS : St w0 s (Res.box i 66 [j, l, m, n, o, b, c, d, h] :: Res.arr (encInt .i64) 3 b a.vars :: Res.arr encFact 46 c a.atoms :: Res.arr encBool 4 d a.grouped :: Res.arr (encInt .i64) 3 h a.fluents :: H) w) (av : SliceRep encAtom s j a.g.Atoms) (aw : SliceRep encGFluent s l a.g.Fluents) (ax : SliceRep (encInt .i64) s m a.g.Init) (ay : SliceRep encCond s n a.g.Goal) (az : SliceRep encGOp s o a.g.Ops) (u : SliceRep (encInt .i64) s p q) :
  Calls Tryz.prog 48 #[Value.pointer (some ⟨i, 0, none⟩), p] w fun e w' => ∃ v, e = .returned v ∧ ((fun (au : Int) => ∃ (x : PHeap) , PHeap.le s x ∧ St w0 x (Res.box i 66 [j, l, m, n, o, b, c, d, h] :: Res.arr (encInt .i64) 3 b a.vars :: Res.arr encFact 46 c a.atoms :: Res.arr encBool 4 d a.grouped :: Res.arr (encInt .i64) 3 h a.fluents :: H) w' ∧ v = Vi (au)) r) := by
 unfold encode_encoder_many_p at hm
 refine calls_of_W Tryz.func48 rfl rfl (Zc (Zd (Za rfl rfl (Zo (v := Vi (0)) rfl rfl (Zb (Ze (Zc (Zd (Za rfl rfl (Zo (v := Vi (1)) rfl rfl (Zb (Ze (Zc (Zc (Zd (Za rfl rfl (Zm (v := p) rfl rfl (Za rfl rfl (Zr S24 rfl rfl u (Za rfl rfl (Zm (v := Vi (0)) rfl rfl (Zb (Ze ?_)))))))))))))))))))))))
 obtain ⟨aD, ab, hm⟩ := Zg hm
 refine W_block (W_forS (fun k' s' f' w' => (fun (_ : Unit) => ∃ (y : PHeap) , PHeap.le s y ∧ St w0 y (Res.box i 66 [j, l, m, n, o, b, c, d, h] :: Res.arr (encInt .i64) 3 b a.vars :: Res.arr encFact 46 c a.atoms :: Res.arr encBool 4 d a.grouped :: Res.arr (encInt .i64) 3 h a.fluents :: H) w' ∧ f' 0 = Value.pointer (some ⟨i, 0, none⟩) ∧ f' 5 = Vi (1) ∧ f' 8 = p ∧ f' 9 = Vi ((q.length : Int)) ∧ f' 10 = Vi (k' : Int)) s') ab ?_ ?_ ?_)
 ·have ae := (hS).f4
  exact ⟨s, (Zv _), ((((ae).f4).f4).f4).f4, rfl, rfl, rfl, rfl, rfl⟩
 ·intro a5 aE aB a2 aG a4 ac t
  obtain ⟨aC, ah, af, a7, a8, aj, ak, z⟩ := ac
  refine Zc (Zd (Za rfl rfl (Zq rfl z ak (Zb (Ze (Zc (W_true (Zx (decide_eq_true (by omega))) (W_skip (Ze (Zc (W_block (Zc (Zd ?_)))))))))))))
  obtain ⟨aq, an, t⟩ := Zg t
  refine Za rfl rfl (Exec.index_rep S24 rfl aj z (u.mono ah) an ?_)
  intro a0 a6 aa
  refine Za rfl rfl (Zw (E := (encInt .i64)) af A3 rfl rfl rfl aa ?_)
  intro aF ao
  obtain rfl := encInt_val.1 ao
  refine Za rfl rfl (Zo (v := Vi (aq)) rfl rfl (Zb (Ze ?_)))
  cases t
 intro a3 aH ad
 obtain ⟨ap, ai, ag, a9, al, aA, am, ar⟩ := ad
 refine Zc (Zd (Za rfl rfl (Zq rfl ar am (Zb (Ze (Zc (W_false (Zx (decide_eq_false (by omega))) (W_exit (at_exit (at_exit (ib_here (Ze (Zc (Zd (Za rfl rfl (Zm (v := Vi (1)) rfl al (Za rfl rfl (Zo (v := Vi (1)) rfl rfl (Zb (Ze (W_ret ?_)))))))))))))))))))))
 have a1 := Zu hm
 subst r
 refine ⟨_, ret1 rfl, ?_⟩
 exact ⟨ap, ai, (((((ag).f4).f4).f4).f4).f4, rfl⟩
theorem encode_given_sim {w0 w : World} {s : PHeap} {H : List Res} {a : GOp} {i : Value} {j : Value} {g : Value} {l : Value} {h : Value} {r : (List Int)} (hm : encode_given_p a = some r) (hS : St w0 s (H) w) (aS : SliceRep (encInt .i64) s i a.Pre.Pos) (aT : SliceRep (encInt .i64) s j a.Pre.Neg) (q : SliceRep encGTest s g a.Pre.Tests) (aU : SliceRep encGChange s l a.Changes) (t : SliceRep encGAssign s h a.Assigns) :
  Calls Tryz.prog 50 #[Value.agg #[Value.string (a.Name), Vi (a.Cost), i, j, g, l, h]] w fun e w' => ∃ v, e = .returned v ∧ ((fun (aR : (List Int)) => ∃ (p : PHeap) (ah : Value), PHeap.le s p ∧ St w0 p (H) w' ∧ v = ah ∧ SliceRep (encInt .i64) p ah aR) r) := by
 unfold encode_given_p at hm
 refine calls_of_W Tryz.func50 rfl rfl (Zc (Zd (Za rfl rfl (Exec.box (cs := [Value.string (a.Name), Vi (a.Cost), i, j, g, l, h]) hS rfl rfl rfl ?_))))
 intro u b3 av
 refine Za rfl rfl (Zo (v := Value.slice none 0 0) rfl rfl (Zb (Ze (Zc (Zd (Za rfl rfl (Exec.make_bmap (k := 3) (e := 4) av rfl ?_)))))))
 intro c b4 x
 refine Za rfl rfl (Zo (v := Value.map (some c)) rfl rfl (Zb (Ze (Zc (Zc (Zd (Za rfl rfl (Zp F91_2 rfl rfl rfl (Za rfl rfl (Zp F84_2 rfl rfl rfl (Za rfl rfl (Zn ((x).f1) A82 rfl rfl rfl (Za rfl rfl (Zr S82 rfl rfl q (Za rfl rfl (Zm (v := Vi (0)) rfl rfl (Zb (Ze ?_))))))))))))))))))
 obtain ⟨bw, an, hm⟩ := Zg hm
 refine W_block (W_forS (fun k' s' f' w' => (fun (_ : Unit) => ∃ (ab : PHeap) , PHeap.le s ab ∧ St w0 ab (Res.box u 91 [Value.string (a.Name), Vi (a.Cost), i, j, g, l, h] :: Res.bmap Tryz.prog 3 4 c ([] : BMap) :: H) w' ∧ f' 1 = Value.pointer (some ⟨u, 0, none⟩) ∧ f' 3 = Value.map (some c) ∧ f' 11 = g ∧ f' 12 = Vi ((a.Pre.Tests.length : Int)) ∧ f' 13 = Vi (k' : Int)) s') an ?_ ?_ ?_)
 ·have aw := (x).f1
  exact ⟨s, (Zv _), aw, rfl, rfl, rfl, rfl, rfl⟩
 ·intro bi bx br ba b5 bg ap m
  obtain ⟨bs, a2, y, bm, bn, a6, a7, aj⟩ := ap
  refine Zc (Zd (Za rfl rfl (Zq rfl aj a7 (Zb (Ze (Zc (W_true (Zx (decide_eq_true (by omega))) (W_skip (Ze (Zc (W_block (Zc (Zd ?_)))))))))))))
  obtain ⟨b, aF, m⟩ := Zg m
  refine Za rfl rfl (Exec.index_rep S82 rfl a6 aj (q.mono a2) aF ?_)
  intro aV bk al
  refine Za rfl rfl (Zw (E := encGTest) y A127 rfl rfl rfl al ?_)
  intro b1 aG
  obtain ⟨ae, af, rfl, aK, aL⟩ := encGTest_val.1 aG
  refine Za rfl rfl (Exec.alloc (cs := [Value.string (⟨#[]⟩), Value.string (⟨#[]⟩), Vi (0), Value.slice none 0 0, Value.string (⟨#[]⟩), Vi (0), Value.slice none 0 0]) y Z127 rfl rfl ?_)
  intro aW b6 ax
  refine Za rfl rfl (Exec.store_box (ds := [Value.string (b.Op), Value.string (b.A.Op), Vi (b.A.N), ae, Value.string (b.B.Op), Vi (b.B.N), af]) (es := [Value.string (b.Op), Value.string (b.A.Op), Vi (b.A.N), ae, Value.string (b.B.Op), Vi (b.B.N), af]) ax A127 rfl rfl rfl rfl (Zj rfl (Zj rfl (Zj rfl (Zj (aK).one (Zj rfl (Zj rfl (Zj (aL).one one_nil))))))) (Nat.le_of_ble_eq_true rfl) rfl ?_)
  intro b7 be
  refine Zb (Ze (Zc ?_))
  cases m
 intro bb b8 aq
 obtain ⟨ac, o, z, a8, a9, bo, aA, aP⟩ := aq
 refine Zc (Zd (Za rfl rfl (Zq rfl aP aA (Zb (Ze (Zc (W_false (Zx (decide_eq_false (by omega))) (W_exit (at_exit (at_exit (ib_here (Ze (Zc (Zc (Zd (Za rfl rfl (Zp F91_4 rfl a8 rfl (Za rfl rfl (Zn (z) A89 rfl rfl rfl (Za rfl rfl (Zr S89 rfl rfl (t.mono o) (Za rfl rfl (Zm (v := Vi (0)) rfl rfl (Zb (Ze ?_)))))))))))))))))))))))))
 obtain ⟨bz, ao, hm⟩ := Zg hm
 refine W_block (W_forS (fun k' s' f' w' => (fun (_ : Unit) => ∃ (ad : PHeap) , PHeap.le ac ad ∧ St w0 ad (Res.bmap Tryz.prog 3 4 c ([] : BMap) :: H) w' ∧ f' 3 = Value.map (some c) ∧ f' 27 = h ∧ f' 28 = Vi ((a.Assigns.length : Int)) ∧ f' 29 = Vi (k' : Int)) s') ao ?_ ?_ ?_)
 ·have ay := (z).drop
  exact ⟨ac, (Zv _), ay, a9, rfl, rfl, rfl⟩
 ·intro bj b0 bt bc b9 bh ar n
  obtain ⟨bu, a3, aa, bp, aB, aC, ak⟩ := ar
  refine Zc (Zd (Za rfl rfl (Zq rfl ak aC (Zb (Ze (Zc (W_true (Zx (decide_eq_true (by omega))) (W_skip (Ze (Zc (W_block (Zc (Zd ?_)))))))))))))
  obtain ⟨d, aH, n⟩ := Zg n
  refine Za rfl rfl (Exec.index_rep S89 rfl aB ak (t.mono (Zt o a3)) aH ?_)
  intro aX bl am
  refine Za rfl rfl (Zw (E := encGAssign) aa A104 rfl rfl rfl am ?_)
  intro b2 aI
  obtain ⟨ag, rfl, aM⟩ := encGAssign_val.1 aI
  refine Za rfl rfl (Exec.alloc (cs := [Vi (0), Value.string (⟨#[]⟩), Vi (0), Value.slice none 0 0]) aa Z104 rfl rfl ?_)
  intro aY bA az
  refine Za rfl rfl (Exec.store_box (ds := [Vi (d.Fluent), Value.string (d.Value.Op), Vi (d.Value.N), ag]) (es := [Vi (d.Fluent), Value.string (d.Value.Op), Vi (d.Value.N), ag]) az A104 rfl rfl rfl rfl (Zj rfl (Zj rfl (Zj rfl (Zj (aM).one one_nil)))) (Nat.le_of_ble_eq_true rfl) rfl ?_)
  intro bB bf
  refine Zb (Ze ?_)
  cases n
 intro bd bC au
 obtain ⟨bv, a4, a0, aD, bq, aE, aQ⟩ := au
 refine Zc (Zd (Za rfl rfl (Zq rfl aQ aE (Zb (Ze (Zc (W_false (Zx (decide_eq_false (by omega))) (W_exit (at_exit (at_exit (ib_here (Ze (Zc (Zd (Za rfl rfl (Zm (v := Value.map (some c)) rfl aD ?_))))))))))))))))
 obtain ⟨bE, aJ, hm⟩ := Zg hm
 refine Za rfl rfl (Tc rfl rfl rfl (Zi rfl args_nil) (encode_sorted_sim aJ a0 ).r ?_)
 rintro ai bD ⟨aO, _, a5, a1, rfl, aN⟩
 refine Za rfl rfl (Zo (v := ai) rfl rfl (Zb (Ze (W_ret ?_))))
 have aZ := Zu hm
 subst r
 refine ⟨_, ret1 rfl, ?_⟩
 exact ⟨aO, ai, (Zt (Zt o a4) a5), (a1).drop, rfl, aN⟩
theorem encode_encoder_large_sim {w0 w : World} {s : PHeap} {H : List Res} {a : encode_encoder} {b : Nat} {x : Value} {y : Value} {z : Value} {t : Value} {n : Value} {c : Value} {d : Value} {h : Value} {i : Value} {r : Bool} (hm : encode_encoder_large_p a = some r) (hS : St w0 s (Res.box b 66 [x, y, z, t, n, c, d, h, i] :: Res.arr (encInt .i64) 3 c a.vars :: Res.arr encFact 46 d a.atoms :: Res.arr encBool 4 h a.grouped :: Res.arr (encInt .i64) 3 i a.fluents :: H) w) (ao : SliceRep encAtom s x a.g.Atoms) (ap : SliceRep encGFluent s y a.g.Fluents) (aq : SliceRep (encInt .i64) s z a.g.Init) (ad : SliceRep encCond s t a.g.Goal) (ae : SliceRep encGOp s n a.g.Ops) :
  Calls Tryz.prog 22 #[Value.pointer (some ⟨b, 0, none⟩)] w fun e w' => ∃ v, e = .returned v ∧ ((fun (cT : Bool) => ∃ (bc : PHeap) , PHeap.le s bc ∧ St w0 bc (Res.box b 66 [x, y, z, t, n, c, d, h, i] :: Res.arr (encInt .i64) 3 c a.vars :: Res.arr encFact 46 d a.atoms :: Res.arr encBool 4 h a.grouped :: Res.arr (encInt .i64) 3 i a.fluents :: H) w' ∧ v = Value.bool (cT)) r) := by
 unfold encode_encoder_large_p at hm
 refine calls_of_W Tryz.func22 rfl rfl (Zc (Zd (Za rfl rfl (Zo (v := Value.bool (false)) rfl rfl (Zb (Ze (Zc (Zc (Zd (Za rfl rfl (Zm (v := Value.pointer (some ⟨b, 0, none⟩)) rfl rfl (Za rfl rfl (Exec.nilCheck_ptr rfl rfl (Za rfl rfl (Zp F66_0 rfl rfl rfl (Za rfl rfl (Zp F28_3 rfl rfl rfl (Za rfl rfl (Zn (hS) A25 rfl rfl rfl (Za rfl rfl (Zr S25 rfl rfl ad (Za rfl rfl (Zm (v := Vi (0)) rfl rfl (Zb (Ze ?_)))))))))))))))))))))))))
 obtain ⟨a3, bv, dn, bU, bO⟩ := ctl_some hm
 refine W_mid (M := fun f' w' => ∃ s', (a3 = .next s' ∨ a3 = .brk s') ∧ (fun (_ : Unit) => ∃ (bd : PHeap) , PHeap.le s bd ∧ St w0 bd (Res.box b 66 [x, y, z, t, n, c, d, h, i] :: Res.arr (encInt .i64) 3 c a.vars :: Res.arr encFact 46 d a.atoms :: Res.arr encBool 4 h a.grouped :: Res.arr (encInt .i64) 3 i a.fluents :: H) w' ∧ f' 0 = Value.pointer (some ⟨b, 0, none⟩) ∧ f' 14 = t ∧ f' 15 = Vi ((a.g.Goal.length : Int))) s') ?_ ?_
 ·refine W_block (W_forC (fun k' s' f' w' => (fun (_ : Unit) => ∃ (be : PHeap) , PHeap.le s be ∧ St w0 be (Res.box b 66 [x, y, z, t, n, c, d, h, i] :: Res.arr (encInt .i64) 3 c a.vars :: Res.arr encFact 46 d a.atoms :: Res.arr encBool 4 h a.grouped :: Res.arr (encInt .i64) 3 i a.fluents :: H) w' ∧ f' 0 = Value.pointer (some ⟨b, 0, none⟩) ∧ f' 14 = t ∧ f' 15 = Vi ((a.g.Goal.length : Int)) ∧ f' 16 = Vi (k' : Int)) s') bv ?_ ?_ ?_)
  ·have b8 := (hS).f4
   exact ⟨s, (Zv _), ((((b8).f4).f4).f4).f4, rfl, rfl, rfl, rfl⟩
  ·intro ca dC bs de dQ bR bz p dr
   obtain ⟨d6, ac, a6, aH, aI, aJ, a0⟩ := bz
   refine Zc (Zd (Za rfl rfl (Zq rfl a0 aJ (Zb (Ze (Zc (W_true (Zx (decide_eq_true (by omega))) (W_skip (Ze (Zc (W_block (Zc (Zd ?_)))))))))))))
   obtain ⟨el, c1, p⟩ := Zg p
   refine Za rfl rfl (Exec.index_rep S25 rfl aI a0 (ad.mono ac) c1 ?_)
   intro cU dv bp
   refine Za rfl rfl (Zw (E := encCond) a6 A84 rfl rfl rfl bp ?_)
   intro dL c2
   obtain ⟨bj, bk, bl, rfl, cD, cE, aV⟩ := encCond_val.1 c2
   refine Za rfl rfl (Exec.alloc (cs := [Value.slice none 0 0, Value.slice none 0 0, Value.slice none 0 0]) a6 Z84 rfl rfl ?_)
   intro cV dR b9
   refine Za rfl rfl (Exec.store_box (ds := [bj, bk, bl]) (es := [bj, bk, bl]) b9 A84 rfl rfl rfl rfl (Zj (cD).one (Zj (cE).one (Zj (aV).one one_nil))) (Nat.le_of_ble_eq_true rfl) rfl ?_)
   intro dS a7
   refine Zb (Ze (Zc (Zd (Za rfl rfl (Zm (v := Value.pointer (some ⟨b, 0, none⟩)) rfl aH (Za rfl rfl (Zp F84_2 rfl rfl rfl (Za rfl rfl (Zn (a7) A82 rfl rfl rfl ?_)))))))))
   obtain ⟨em, c3, p⟩ := Zg p
   refine Za rfl rfl (Tc rfl rfl rfl (Zi rfl (Zi rfl args_nil)) (encode_tested_sim c3 a7 aV (SliceRep.nil _ _)).r ?_)
   rintro dM dT ⟨d7, _, af, bA, rfl, cF⟩
   obtain ⟨en, c4, p⟩ := Zg p
   refine Za rfl rfl (Tc rfl rfl rfl (Zi rfl (Zi rfl args_nil)) (encode_encoder_many_sim c4 (((((bA).f5).f5).f5).f5).f5 (ao.mono (Zt ac af)) (ap.mono (Zt ac af)) (aq.mono (Zt ac af)) (ad.mono (Zt ac af)) (ae.mono (Zt ac af)) cF).r ?_)
   rintro _ dU ⟨cJ, cc, bB, rfl⟩
   refine Za rfl rfl (Exec.gtr rfl rfl rfl (Zb (Ze ?_)))
   rcases ite_some p with ⟨ah, p⟩ | ⟨ah, p⟩
   ·refine W_cond_t rfl ah (Zc ?_)
    cases p
   refine W_cond_f rfl ah ?_
   replace ah := Zk ah
   refine W_skip (ib_normal (Ze (Zd (Za rfl rfl (Exec.add rfl a0 rfl (Za rfl rfl (Zm (v := Vi (IntKind.i64.wrap ((ca : Int) + 1))) rfl rfl (Zb (Ze ?_)))))))))
   have da := Zu p
   subst bs
   refine ⟨_, rfl, ?_⟩; exact ⟨cJ, (Zt (Zt ac af) cc), (((((((bB).f5).drop).f4).f4).f4).f4).f4, aH, aI, aJ, (Eq.trans rfl (wrap_up bR (SliceRep.le ad)))⟩
  intro dD df dV b0 bX
  obtain ⟨cK, cd, bC, cj, ck, aK, cQ⟩ := b0
  refine Zc (Zd (Za rfl rfl (Zq rfl cQ aK (Zb (Ze (Zc (W_false (Zx (decide_eq_false (by omega))) (W_exit (at_exit (at_exit (ib_here (Ze ?_))))))))))))
  refine ⟨_, .inl bX, ?_⟩; exact ⟨cK, cd, (((((bC).f4).f4).f4).f4).f4, cj, ck, aK⟩
 rintro dg dW ⟨dE, aE, b5⟩
 have hm := aE.elim (bU _) (bO _)
 clear aE
 obtain ⟨au, j, a8, aL, dy, dz⟩ := b5
 refine (Ze (Zc (Zc (Zd (Za rfl rfl (Zm (v := Value.pointer (some ⟨b, 0, none⟩)) rfl aL (Za rfl rfl (Exec.nilCheck_ptr rfl rfl (Za rfl rfl (Zp F66_0 rfl rfl rfl (Za rfl rfl (Zp F28_4 rfl rfl rfl (Za rfl rfl (Zn (a8) A26 rfl rfl rfl (Za rfl rfl (Zr S26 rfl rfl (ae.mono j) (Za rfl rfl (Zm (v := Vi (0)) rfl rfl (Zb (Ze ?_))))))))))))))))))))
 obtain ⟨a4, bw, dp, bV, bP⟩ := ctl_some hm
 refine W_mid (M := fun f' w' => ∃ s', (a4 = .next s' ∨ a4 = .brk s') ∧ (fun (_ : Unit) => ∃ (bf : PHeap) , PHeap.le au bf ∧ St w0 bf (Res.box b 66 [x, y, z, t, n, c, d, h, i] :: Res.arr (encInt .i64) 3 c a.vars :: Res.arr encFact 46 d a.atoms :: Res.arr encBool 4 h a.grouped :: Res.arr (encInt .i64) 3 i a.fluents :: H) w' ∧ f' 0 = Value.pointer (some ⟨b, 0, none⟩) ∧ f' 31 = n ∧ f' 32 = Vi ((a.g.Ops.length : Int))) s') ?_ ?_
 ·refine W_block (W_forC (fun k' s' f' w' => (fun (_ : Unit) => ∃ (bg : PHeap) , PHeap.le au bg ∧ St w0 bg (Res.box b 66 [x, y, z, t, n, c, d, h, i] :: Res.arr (encInt .i64) 3 c a.vars :: Res.arr encFact 46 d a.atoms :: Res.arr encBool 4 h a.grouped :: Res.arr (encInt .i64) 3 i a.fluents :: H) w' ∧ f' 0 = Value.pointer (some ⟨b, 0, none⟩) ∧ f' 31 = n ∧ f' 32 = Vi ((a.g.Ops.length : Int)) ∧ f' 33 = Vi (k' : Int)) s') bw ?_ ?_ ?_)
  ·have bD := (a8).f4
   exact ⟨au, (Zv _), ((((bD).f4).f4).f4).f4, aL, rfl, rfl, rfl⟩
  ·intro ar dF bt dh dX bS b1 m dt
   obtain ⟨d8, o, a9, aM, aN, aO, a1⟩ := b1
   refine Zc (Zd (Za rfl rfl (Zq rfl a1 aO (Zb (Ze (Zc (W_true (Zx (decide_eq_true (by omega))) (W_skip (Ze (Zc (W_block (Zc (Zd ?_)))))))))))))
   obtain ⟨ab, c5, m⟩ := Zg m
   refine Za rfl rfl (Exec.index_rep S26 rfl aN a1 (ae.mono (Zt j o)) c5 ?_)
   intro cW dw bq
   refine Za rfl rfl (Zw (E := encGOp) a9 A91 rfl rfl rfl bq ?_)
   intro dN c6
   obtain ⟨aw, ax, ay, al, az, rfl, aW, aX, aY, ak, aZ⟩ := encGOp_val.1 c6
   refine Za rfl rfl (Exec.alloc (cs := [Value.string (⟨#[]⟩), Vi (0), Value.slice none 0 0, Value.slice none 0 0, Value.slice none 0 0, Value.slice none 0 0, Value.slice none 0 0]) a9 Z91 rfl rfl ?_)
   intro cX dY bE
   refine Za rfl rfl (Exec.store_box (ds := [Value.string (ab.Name), Vi (ab.Cost), aw, ax, ay, al, az]) (es := [Value.string (ab.Name), Vi (ab.Cost), aw, ax, ay, al, az]) bE A91 rfl rfl rfl rfl (Zj rfl (Zj rfl (Zj (aW).one (Zj (aX).one (Zj (aY).one (Zj (ak).one (Zj (aZ).one one_nil))))))) (Nat.le_of_ble_eq_true rfl) rfl ?_)
   intro dZ aA
   refine Zb (Ze (Zc (Zd (Za rfl rfl (Exec.load_box_agg (ds := [Value.string (ab.Name), Vi (ab.Cost), aw, ax, ay, al, az]) (aA) A91 rfl rfl rfl ?_)))))
   obtain ⟨eo, c7, m⟩ := Zg m
   refine Za rfl rfl (Tc rfl rfl rfl (Zi rfl args_nil) (encode_given_sim c7 aA aW aX aY ak aZ).r ?_)
   rintro am ea ⟨d9, _, l, bF, rfl, ba⟩
   refine Za rfl rfl (Zo (v := am) rfl rfl (Zb (Ze (Zc (Zc (Zd (Za rfl rfl (Zm (v := Value.pointer (some ⟨b, 0, none⟩)) rfl aM (Za rfl rfl (Zm (v := am) rfl rfl ?_))))))))))
   obtain ⟨ep, c8, m⟩ := Zg m
   refine Za rfl rfl (Tc rfl rfl rfl (Zi rfl (Zi rfl args_nil)) (encode_encoder_many_sim c8 (((((bF).f5).f5).f5).f5).f5 (ao.mono (Zt (Zt j o) l)) (ap.mono (Zt (Zt j o) l)) (aq.mono (Zt (Zt j o) l)) (ad.mono (Zt (Zt j o) l)) (ae.mono (Zt (Zt j o) l)) ba).r ?_)
   rintro _ eb ⟨av, u, aB, rfl⟩
   refine Za rfl rfl (Exec.gtr rfl rfl rfl (Zb (Ze ?_)))
   rcases ite_some m with ⟨ai, m⟩ | ⟨ai, m⟩
   ·refine W_cond_t rfl ai (Zc ?_)
    cases m
   refine W_cond_f rfl ai ?_
   replace ai := Zk ai
   refine W_skip (Ze (Zc (Zd (Za rfl rfl (Zp F91_3 rfl rfl rfl (Za rfl rfl (Zn ((aB).f5) A88 rfl rfl rfl (Za rfl rfl (Zr S88 rfl rfl (ak.mono (Zt l u)) (Za rfl rfl (Zm (v := Vi (0)) rfl rfl (Zb (Ze ?_)))))))))))))
   obtain ⟨a5, bx, dq, bW, bQ⟩ := ctl_some m
   refine W_mid (M := fun f' w' => ∃ s', (a5 = .next s' ∨ a5 = .brk s') ∧ (fun (_ : Unit) => ∃ (bh : PHeap) , PHeap.le av bh ∧ St w0 bh (Res.box b 66 [x, y, z, t, n, c, d, h, i] :: Res.arr (encInt .i64) 3 c a.vars :: Res.arr encFact 46 d a.atoms :: Res.arr encBool 4 h a.grouped :: Res.arr (encInt .i64) 3 i a.fluents :: H) w' ∧ f' 0 = Value.pointer (some ⟨b, 0, none⟩) ∧ f' 7 = am ∧ f' 31 = n ∧ f' 32 = Vi ((a.g.Ops.length : Int)) ∧ f' 33 = Vi ((ar : Int)) ∧ f' 44 = al ∧ f' 45 = Vi ((ab.Changes.length : Int))) s') ?_ ?_
   ·refine W_block (W_forC (fun k' s' f' w' => (fun (_ : Unit) => ∃ (bi : PHeap) , PHeap.le av bi ∧ St w0 bi (Res.box b 66 [x, y, z, t, n, c, d, h, i] :: Res.arr (encInt .i64) 3 c a.vars :: Res.arr encFact 46 d a.atoms :: Res.arr encBool 4 h a.grouped :: Res.arr (encInt .i64) 3 i a.fluents :: H) w' ∧ f' 0 = Value.pointer (some ⟨b, 0, none⟩) ∧ f' 7 = am ∧ f' 31 = n ∧ f' 32 = Vi ((a.g.Ops.length : Int)) ∧ f' 33 = Vi ((ar : Int)) ∧ f' 44 = al ∧ f' 45 = Vi ((ab.Changes.length : Int)) ∧ f' 46 = Vi (k' : Int)) s') bx ?_ ?_ ?_)
    ·have bG := ((aB).f5).drop
     exact ⟨av, (Zv _), (((((bG).f4).f4).f4).f4).f4, aM, rfl, aN, aO, a1, rfl, rfl, rfl⟩
    ·intro cb dG bu di ec bT b2 q du
     obtain ⟨dA, aa, aC, aP, aQ, cl, cm, cn, aR, aS, a2⟩ := b2
     refine Zc (Zd (Za rfl rfl (Zq rfl a2 aS (Zb (Ze (Zc (W_true (Zx (decide_eq_true (by omega))) (W_skip (Ze (Zc (W_block (Zc (Zd ?_)))))))))))))
     obtain ⟨an, c9, q⟩ := Zg q
     refine Za rfl rfl (Exec.index_rep S88 rfl aR a2 (ak.mono (Zt (Zt l u) aa)) c9 ?_)
     intro cY dx br
     refine Za rfl rfl (Zw (E := encGChange) aC A98 rfl rfl rfl br ?_)
     intro dO cA
     obtain ⟨bm, bn, bo, rfl, cG, cH, bb⟩ := encGChange_val.1 cA
     refine Za rfl rfl (Exec.alloc (cs := [Value.slice none 0 0, Value.slice none 0 0, Value.slice none 0 0, Vi (0), Value.bool (false)]) aC Z98 rfl rfl ?_)
     intro cZ ed bH
     refine Za rfl rfl (Exec.store_box (ds := [bm, bn, bo, Vi (an.Atom), Value.bool (an.Add)]) (es := [bm, bn, bo, Vi (an.Atom), Value.bool (an.Add)]) bH A98 rfl rfl rfl rfl (Zj (cG).one (Zj (cH).one (Zj (bb).one (Zj rfl (Zj rfl one_nil))))) (Nat.le_of_ble_eq_true rfl) rfl ?_)
     intro ee aD
     refine Zb (Ze (Zc (Zd (Za rfl rfl (Zm (v := Value.pointer (some ⟨b, 0, none⟩)) rfl aP (Za rfl rfl (Zp F98_0 rfl rfl rfl (Za rfl rfl (Zp F84_2 rfl rfl rfl (Za rfl rfl (Zn (aD) A82 rfl rfl rfl (Za rfl rfl (Zm (v := am) rfl aQ ?_)))))))))))))
     obtain ⟨er, cB, q⟩ := Zg q
     refine Za rfl rfl (Tc rfl rfl rfl (Zi rfl (Zi rfl args_nil)) (encode_tested_sim cB aD bb (ba.mono (Zt u aa))).r ?_)
     rintro dP ef ⟨dB, _, ag, bI, rfl, cI⟩
     obtain ⟨et, cC, q⟩ := Zg q
     refine Za rfl rfl (Tc rfl rfl rfl (Zi rfl (Zi rfl args_nil)) (encode_encoder_many_sim cC (((((bI).f5).f5).f5).f5).f5 (ao.mono (Zt (Zt (Zt (Zt (Zt j o) l) u) aa) ag)) (ap.mono (Zt (Zt (Zt (Zt (Zt j o) l) u) aa) ag)) (aq.mono (Zt (Zt (Zt (Zt (Zt j o) l) u) aa) ag)) (ad.mono (Zt (Zt (Zt (Zt (Zt j o) l) u) aa) ag)) (ae.mono (Zt (Zt (Zt (Zt (Zt j o) l) u) aa) ag)) cI).r ?_)
     rintro _ eg ⟨cL, ce, bJ, rfl⟩
     refine Za rfl rfl (Exec.gtr rfl rfl rfl (Zb (Ze ?_)))
     rcases ite_some q with ⟨aj, q⟩ | ⟨aj, q⟩
     ·refine W_cond_t rfl aj (Zc ?_)
      cases q
     refine W_cond_f rfl aj ?_
     replace aj := Zk aj
     refine W_skip (ib_normal (Ze (Zd (Za rfl rfl (Exec.add rfl a2 rfl (Za rfl rfl (Zm (v := Vi (IntKind.i64.wrap ((cb : Int) + 1))) rfl rfl (Zb (Ze ?_)))))))))
     have db := Zu q
     subst bu
     refine ⟨_, rfl, ?_⟩; exact ⟨cL, (Zt (Zt aa ag) ce), (((((((bJ).f5).drop).f4).f4).f4).f4).f4, aP, aQ, cl, cm, cn, aR, aS, (Eq.trans rfl (wrap_up bT (SliceRep.le (ak.mono (Zt l u)))))⟩
    intro dH dj eh b3 bY
    obtain ⟨cM, cf, bK, co, cp, cq, cr, ct, cu, aT, cR⟩ := b3
    refine Zc (Zd (Za rfl rfl (Zq rfl cR aT (Zb (Ze (Zc (W_false (Zx (decide_eq_false (by omega))) (W_exit (at_exit (at_exit (ib_here (Ze ?_))))))))))))
    refine ⟨_, .inl bY, ?_⟩; exact ⟨cM, cf, (((((bK).f4).f4).f4).f4).f4, co, cp, cq, cr, ct, cu, aT⟩
   rintro dk ei ⟨dI, aF, b6⟩
   have m := aF.elim (bW _) (bQ _)
   clear aF
   obtain ⟨cN, cg, bL, cv, d0, cw, cx, cy, d1, d2⟩ := b6
   refine (ib_normal (Ze (Zd (Za rfl rfl (Exec.add rfl cy rfl (Za rfl rfl (Zm (v := Vi (IntKind.i64.wrap ((ar : Int) + 1))) rfl rfl (Zb (Ze ?_)))))))))
   have dc := Zu m
   subst bt
   refine ⟨_, rfl, ?_⟩; exact ⟨cN, (Zt (Zt (Zt o l) u) cg), (((((bL).f4).f4).f4).f4).f4, cv, cw, cx, (Eq.trans rfl (wrap_up bS (SliceRep.le (ae.mono j))))⟩
  intro dJ dl ej b4 bZ
  obtain ⟨cO, ch, bM, cz, c0, aU, cS⟩ := b4
  refine Zc (Zd (Za rfl rfl (Zq rfl cS aU (Zb (Ze (Zc (W_false (Zx (decide_eq_false (by omega))) (W_exit (at_exit (at_exit (ib_here (Ze ?_))))))))))))
  refine ⟨_, .inl bZ, ?_⟩; exact ⟨cO, ch, (((((bM).f4).f4).f4).f4).f4, cz, c0, aU⟩
 rintro dm ek ⟨dK, aG, b7⟩
 have hm := aG.elim (bV _) (bP _)
 clear aG
 obtain ⟨cP, ci, bN, d3, d4, d5⟩ := b7
 refine (Ze (Zc (Zd (Za rfl rfl (Zo (v := Value.bool (false)) rfl rfl (Zb (Ze (W_ret ?_))))))))
 have dd := Zu hm
 subst r
 refine ⟨_, ret1 rfl, ?_⟩
 exact ⟨cP, (Zt j ci), (((((bN).f4).f4).f4).f4).f4, rfl⟩
theorem F66_4 : tyField Tryz.prog 66 4 = some 8 := by kernel_rfl
theorem A36 : tyAgg Tryz.prog 36 = some (true, 7) := by kernel_rfl
theorem slices_Clone_int_o_sim {w0 w : World} {s : PHeap} {H : List Res} {c : (List Int)} {b : Value} {r : (List Int)} (hm : slices_Clone_int_o_p c = some r) (hS : St w0 s (Res.arr (encInt .i64) 3 b c :: H) w)  :
  Calls Tryz.prog 23 #[b] w fun e w' => ∃ v, e = .returned v ∧ ((fun (t : (List Int)) => ∃ (f : PHeap) (g : Value), PHeap.le s f ∧ St w0 f (Res.arr (encInt .i64) 3 b c :: Res.arr (encInt .i64) 3 g t :: H) w' ∧ v = g) r) := by
 unfold slices_Clone_int_o_p at hm
 refine calls_of_W Tryz.func23 rfl rfl (Zc (Zd (Za rfl rfl (Zo (v := Value.slice none 0 0) rfl rfl (Zb (Ze (Zc (Zc (Zd (Za rfl rfl (Zm (v := b) rfl rfl ?_)))))))))))
 obtain ⟨i, aa, x, j, o⟩ := (hS).nilShape
 refine Za rfl rfl (Exec.slice_eql_nil Tryz.underlying24 rfl j rfl (Zb (Ze ?_)))
 by_cases a : i.isNone = true
 ·have p := o a
  replace hm := (show (some []) = ((app 8 [] c).bind fun d => some d) from by simp [p, app]).trans hm
  refine W_true ((Zx a)) (Zc (Zd (Za rfl rfl (Zo (v := Value.slice none 0 0) rfl rfl (Zb (Ze (W_ret (at_ret ?_))))))))
  have y := Zu hm
  subst r
  refine ⟨_, ret1 rfl, ?_⟩
  have k := hS.nilArr (encInt .i64) 3
  exact ⟨s, (Value.slice none 0 0), (Zv _), (k).f1, rfl⟩
 replace a := Zk a
 refine W_false ((Zx a)) (W_skip (Ze (Zc (Zd (Za rfl rfl (Exec.buildSlice (Te := 3) (cs := []) hS rfl parts_nil (fun _ => by kernel_rfl) ?_))))))
 intro u ab l
 refine Za rfl rfl (Zm (v := b) rfl rfl ?_)
 have m := St.boxArr (E := (encInt .i64)) (xs := []) l rfl (by simp [maxLen])
 obtain ⟨d, q, hm⟩ := Zg hm
 refine Za rfl rfl (Exec.append_arr (E := (encInt .i64)) ((m).f1).f1 S24 Z3 rfl (by decide) rfl rfl rfl q ?_)
 intro h ac n
 refine Za rfl rfl (Zo (v := h) rfl rfl (Zb (Ze (W_ret ?_))))
 have z := Zu hm
 subst r
 refine ⟨_, ret1 rfl, ?_⟩
 exact ⟨s, h, (Zv _), (n).f1, rfl⟩
theorem F36_0 : tyField Tryz.prog 36 0 = some 0 := by kernel_rfl
theorem F34_0 : tyField Tryz.prog 34 0 = some 0 := by kernel_rfl
theorem F34_1 : tyField Tryz.prog 34 1 = some 1 := by kernel_rfl
theorem F46_0 : tyField Tryz.prog 46 0 = some 0 := by kernel_rfl
theorem F46_1 : tyField Tryz.prog 46 1 = some 1 := by kernel_rfl
theorem encode_encoder_assignments_sim {w0 w : World} {s : PHeap} {H : List Res} {a : encode_encoder} {y : (List Int)} {x : (List Int)} {m : Nat} {n : Value} {o : Value} {p : Value} {q : Value} {t : Value} {h : Value} {i : Value} {j : Value} {l : Value} {u : Value} {b : Value} {r : (List (List Int))} (hm : encode_encoder_assignments_p a y x = some r) (hS : St w0 s (Res.box m 66 [n, o, p, q, t, h, i, j, l] :: Res.arr (encInt .i64) 3 h a.vars :: Res.arr encFact 46 i a.atoms :: Res.arr encBool 4 j a.grouped :: Res.arr (encInt .i64) 3 l a.fluents :: H) w) (a6 : SliceRep encAtom s n a.g.Atoms) (a7 : SliceRep encGFluent s o a.g.Fluents) (a8 : SliceRep (encInt .i64) s p a.g.Init) (a9 : SliceRep encCond s q a.g.Goal) (aA : SliceRep encGOp s t a.g.Ops) (ab : SliceRep (encInt .i64) s u y) (ac : SliceRep (encInt .i64) s b x) :
  Calls Tryz.prog 51 #[Value.pointer (some ⟨m, 0, none⟩), u, b] w fun e w' => ∃ v, e = .returned v ∧ ((fun (a5 : (List (List Int))) => ∃ (aa : PHeap) (af : Value), PHeap.le s aa ∧ St w0 aa (Res.box m 66 [n, o, p, q, t, h, i, j, l] :: Res.arr (encInt .i64) 3 h a.vars :: Res.arr encFact 46 i a.atoms :: Res.arr encBool 4 j a.grouped :: Res.arr (encInt .i64) 3 l a.fluents :: H) w' ∧ v = af ∧ SliceRep (encSlice (encInt .i64)) aa af a5) r) := by
 unfold encode_encoder_assignments_p at hm
 refine calls_of_W Tryz.func51 rfl rfl (Zc (Zd (Za rfl rfl (Zo (v := Value.slice none 0 0) rfl rfl (Zb (Ze (Zc (Zd (Za rfl rfl (Zm (v := b) rfl rfl (Za rfl rfl (Exec.buildSlice (Te := 24) (cs := [b]) hS rfl (parts_cons (c := [b]) (cells_of rfl (cells_one (ac).one)) parts_nil) (fun _ => by kernel_rfl) ?_))))))))))))
 intro d aS al
 refine Za rfl rfl (Zo (v := Value.slice (some ⟨d, 0, none⟩) 1 1) rfl rfl (Zb (Ze (Zc (Zc (Zd (Za rfl rfl (Zm (v := u) rfl rfl (Za rfl rfl (Zr S24 rfl rfl ab (Za rfl rfl (Zm (v := Vi (0)) rfl rfl (Zb (Ze ?_))))))))))))))
 obtain ⟨aP, ai, hm⟩ := Zg hm
 refine W_block (W_forS (fun k' s' f' w' => (fun (_ : Unit) => ∃ (ae : PHeap) , PHeap.le s ae ∧ St w0 ae (Res.box m 66 [n, o, p, q, t, h, i, j, l] :: Res.arr (encInt .i64) 3 h a.vars :: Res.arr encFact 46 i a.atoms :: Res.arr encBool 4 j a.grouped :: Res.arr (encInt .i64) 3 l a.fluents :: Res.box d 24 [b] :: H) w' ∧ f' 0 = Value.pointer (some ⟨m, 0, none⟩) ∧ f' 7 = Value.slice (some ⟨d, 0, none⟩) 1 1 ∧ f' 17 = u ∧ f' 18 = Vi ((y.length : Int)) ∧ f' 19 = Vi (k' : Int)) s') ai ?_ ?_ ?_)
 ·have am := (al).f5
  exact ⟨s, (Zv _), ((((am).f5).f5).f5).f5, rfl, rfl, rfl, rfl, rfl⟩
 ·intro aG aQ aM aD aT aF aj z
  obtain ⟨aN, ar, an, aI, aJ, av, aw, ag⟩ := aj
  refine Zc (Zd (Za rfl rfl (Zq rfl ag aw (Zb (Ze (Zc (W_true (Zx (decide_eq_true (by omega))) (W_skip (Ze (Zc (W_block (Zc (Zd ?_)))))))))))))
  obtain ⟨a3, az, z⟩ := Zg z
  refine Za rfl rfl (Exec.index_rep S24 rfl av ag (ab.mono ar) az ?_)
  intro aB aH ah
  refine Za rfl rfl (Zw (E := (encInt .i64)) an A3 rfl rfl rfl ah ?_)
  intro aR a0
  obtain rfl := encInt_val.1 a0
  refine Za rfl rfl (Zo (v := Vi (a3)) rfl rfl (Zb (Ze (Zc ?_))))
  cases z
 intro aE aU ak
 obtain ⟨aO, ad, ao, aK, ax, aL, ay, a4⟩ := ak
 refine Zc (Zd (Za rfl rfl (Zq rfl a4 ay (Zb (Ze (Zc (W_false (Zx (decide_eq_false (by omega))) (W_exit (at_exit (at_exit (ib_here (Ze (Zc (Zd (Za rfl rfl (Zm (v := Value.slice (some ⟨d, 0, none⟩) 1 1) rfl ax (Za rfl rfl (Zo (v := Value.slice (some ⟨d, 0, none⟩) 1 1) rfl rfl (Zb (Ze (W_ret ?_)))))))))))))))))))))
 have aC := Zu hm
 subst r
 refine ⟨_, ret1 rfl, ?_⟩
 have ap := St.boxArr (E := (encSlice (encInt .i64))) (xs := [x]) (ao).f5 (reps.mono ad ⟨[b], [], rfl, ⟨_, rfl, ac⟩, rfl⟩) (by simp [maxLen])
 obtain ⟨a2, au, aq, a1⟩ := ap.freezeArr
 exact ⟨a2, (Value.slice (some ⟨d, 0, none⟩) 1 1), (Zt ad au), (((((aq).f4).f4).f4).f4).f4, rfl, a1⟩
theorem encode_encoder_hold_sim {w0 w : World} {s : PHeap} {H : List Res} {a : encode_encoder} {t : (List GTest)} {ai : (List Int)} {j : Nat} {l : Value} {m : Value} {n : Value} {o : Value} {p : Value} {c : Value} {d : Value} {h : Value} {i : Value} {q : Value} {u : Value} {r : Bool} (hm : encode_encoder_hold_p a t ai = some r) (hS : St w0 s (Res.box j 66 [l, m, n, o, p, c, d, h, i] :: Res.arr (encInt .i64) 3 c a.vars :: Res.arr encFact 46 d a.atoms :: Res.arr encBool 4 h a.grouped :: Res.arr (encInt .i64) 3 i a.fluents :: H) w) (aE : SliceRep encAtom s l a.g.Atoms) (aF : SliceRep encGFluent s m a.g.Fluents) (aG : SliceRep (encInt .i64) s n a.g.Init) (aH : SliceRep encCond s o a.g.Goal) (aI : SliceRep encGOp s p a.g.Ops) (y : SliceRep encGTest s q t) (aJ : SliceRep (encInt .i64) s u ai) :
  Calls Tryz.prog 74 #[Value.pointer (some ⟨j, 0, none⟩), q, u] w fun e w' => ∃ v, e = .returned v ∧ ((fun (aD : Bool) => ∃ (ad : PHeap) , PHeap.le s ad ∧ St w0 ad (Res.box j 66 [l, m, n, o, p, c, d, h, i] :: Res.arr (encInt .i64) 3 c a.vars :: Res.arr encFact 46 d a.atoms :: Res.arr encBool 4 h a.grouped :: Res.arr (encInt .i64) 3 i a.fluents :: H) w' ∧ v = Value.bool (aD)) r) := by
 unfold encode_encoder_hold_p at hm
 refine calls_of_W Tryz.func74 rfl rfl (Zc (Zd (Za rfl rfl (Zo (v := Value.bool (false)) rfl rfl (Zb (Ze (Zc (Zc (Zd (Za rfl rfl (Zm (v := q) rfl rfl (Za rfl rfl (Zr S82 rfl rfl y (Za rfl rfl (Zm (v := Vi (0)) rfl rfl (Zb (Ze ?_)))))))))))))))))
 obtain ⟨z, al, aT, aw, av⟩ := ctl_some hm
 refine W_mid (M := fun f' w' => ∃ s', (z = .next s' ∨ z = .brk s') ∧ (fun (_ : Unit) => ∃ (ae : PHeap) , PHeap.le s ae ∧ St w0 ae (Res.box j 66 [l, m, n, o, p, c, d, h, i] :: Res.arr (encInt .i64) 3 c a.vars :: Res.arr encFact 46 d a.atoms :: Res.arr encBool 4 h a.grouped :: Res.arr (encInt .i64) 3 i a.fluents :: H) w' ∧ f' 0 = Value.pointer (some ⟨j, 0, none⟩) ∧ f' 2 = u ∧ f' 13 = q ∧ f' 14 = Vi ((t.length : Int))) s') ?_ ?_
 ·refine W_block (W_forC (fun k' s' f' w' => (fun (_ : Unit) => ∃ (af : PHeap) , PHeap.le s af ∧ St w0 af (Res.box j 66 [l, m, n, o, p, c, d, h, i] :: Res.arr (encInt .i64) 3 c a.vars :: Res.arr encFact 46 d a.atoms :: Res.arr encBool 4 h a.grouped :: Res.arr (encInt .i64) 3 i a.fluents :: H) w' ∧ f' 0 = Value.pointer (some ⟨j, 0, none⟩) ∧ f' 2 = u ∧ f' 13 = q ∧ f' 14 = Vi ((t.length : Int)) ∧ f' 15 = Vi (k' : Int)) s') al ?_ ?_ ?_)
  ·have ap := (hS).f4
   exact ⟨s, (Zv _), ((((ap).f4).f4).f4).f4, rfl, rfl, rfl, rfl, rfl⟩
  ·intro aV be aM aO bi aS am x aU
   obtain ⟨bd, ay, aa, aX, aY, a1, a2, aj⟩ := am
   refine Zc (Zd (Za rfl rfl (Zq rfl aj a2 (Zb (Ze (Zc (W_true (Zx (decide_eq_true (by omega))) (W_skip (Ze (Zc (W_block (Zc (Zd ?_)))))))))))))
   obtain ⟨b, a6, x⟩ := Zg x
   refine Za rfl rfl (Exec.index_rep S82 rfl a1 aj (y.mono ay) a6 ?_)
   intro aK aW ak
   refine Za rfl rfl (Zw (E := encGTest) aa A127 rfl rfl rfl ak ?_)
   intro bh a7
   obtain ⟨ag, ah, rfl, a8, a9⟩ := encGTest_val.1 a7
   refine Za rfl rfl (Exec.alloc (cs := [Value.string (⟨#[]⟩), Value.string (⟨#[]⟩), Vi (0), Value.slice none 0 0, Value.string (⟨#[]⟩), Vi (0), Value.slice none 0 0]) aa Z127 rfl rfl ?_)
   intro aL bj aq
   refine Za rfl rfl (Exec.store_box (ds := [Value.string (b.Op), Value.string (b.A.Op), Vi (b.A.N), ag, Value.string (b.B.Op), Vi (b.B.N), ah]) (es := [Value.string (b.Op), Value.string (b.A.Op), Vi (b.A.N), ag, Value.string (b.B.Op), Vi (b.B.N), ah]) aq A127 rfl rfl rfl rfl (Zj rfl (Zj rfl (Zj rfl (Zj (a8).one (Zj rfl (Zj rfl (Zj (a9).one one_nil))))))) (Nat.le_of_ble_eq_true rfl) rfl ?_)
   intro bk aR
   refine Zb (Ze (Zc ?_))
   cases x
  intro bf aP bl an ax
  obtain ⟨aA, az, ar, a3, a4, a5, ac, aC⟩ := an
  refine Zc (Zd (Za rfl rfl (Zq rfl aC ac (Zb (Ze (Zc (W_false (Zx (decide_eq_false (by omega))) (W_exit (at_exit (at_exit (ib_here (Ze ?_))))))))))))
  refine ⟨_, .inl ax, ?_⟩; exact ⟨aA, az, (((((ar).f4).f4).f4).f4).f4, a3, a4, a5, ac⟩
 rintro aQ bm ⟨bg, ab, ao⟩
 have hm := ab.elim (aw _) (av _)
 clear ab
 obtain ⟨aB, a0, au, aZ, ba, bb, bc⟩ := ao
 refine (Ze (Zc (Zd (Za rfl rfl (Zo (v := Value.bool (true)) rfl rfl (Zb (Ze (W_ret ?_))))))))
 have aN := Zu hm
 subst r
 refine ⟨_, ret1 rfl, ?_⟩
 exact ⟨aB, a0, (((((au).f4).f4).f4).f4).f4, rfl⟩
theorem encode_encoder_possible_sim {w0 w : World} {s : PHeap} {H : List Res} {a : encode_encoder} {b : GOp} {aq : (List Int)} {c : Nat} {n : Value} {o : Value} {p : Value} {q : Value} {t : Value} {d : Value} {h : Value} {i : Value} {j : Value} {ab : Value} {ac : Value} {ad : Value} {ae : Value} {u : Value} {x : Value} {r : Bool} (hm : encode_encoder_possible_p a b aq = some r) (hS : St w0 s (Res.box c 66 [n, o, p, q, t, d, h, i, j] :: Res.arr (encInt .i64) 3 d a.vars :: Res.arr encFact 46 h a.atoms :: Res.arr encBool 4 i a.grouped :: Res.arr (encInt .i64) 3 j a.fluents :: H) w) (au : SliceRep encAtom s n a.g.Atoms) (av : SliceRep encGFluent s o a.g.Fluents) (aw : SliceRep (encInt .i64) s p a.g.Init) (ax : SliceRep encCond s q a.g.Goal) (ay : SliceRep encGOp s t a.g.Ops) (aT : SliceRep (encInt .i64) s ab b.Pre.Pos) (aU : SliceRep (encInt .i64) s ac b.Pre.Neg) (az : SliceRep encGTest s ad b.Pre.Tests) (aV : SliceRep encGChange s ae b.Changes) (af : SliceRep encGAssign s u b.Assigns) (a0 : SliceRep (encInt .i64) s x aq) :
  Calls Tryz.prog 52 #[Value.pointer (some ⟨c, 0, none⟩), Value.agg #[Value.string (b.Name), Vi (b.Cost), ab, ac, ad, ae, u], x] w fun e w' => ∃ v, e = .returned v ∧ ((fun (aS : Bool) => ∃ (am : PHeap) , PHeap.le s am ∧ St w0 am (Res.box c 66 [n, o, p, q, t, d, h, i, j] :: Res.arr (encInt .i64) 3 d a.vars :: Res.arr encFact 46 h a.atoms :: Res.arr encBool 4 i a.grouped :: Res.arr (encInt .i64) 3 j a.fluents :: H) w' ∧ v = Value.bool (aS)) r) := by
 unfold encode_encoder_possible_p at hm
 refine calls_of_W Tryz.func52 rfl rfl (Zc (Zd (Za rfl rfl (Exec.box (cs := [Value.string (b.Name), Vi (b.Cost), ab, ac, ad, ae, u]) hS rfl rfl rfl ?_))))
 intro aW bv ah
 refine Za rfl rfl (Zo (v := Value.bool (false)) rfl rfl (Zb (Ze (Zc (Zc (Zd (Za rfl rfl (Zm (v := Value.pointer (some ⟨c, 0, none⟩)) rfl rfl (Za rfl rfl (Zp F91_2 rfl rfl rfl (Za rfl rfl (Zp F84_2 rfl rfl rfl (Za rfl rfl (Zn (ah) A82 rfl rfl rfl (Za rfl rfl (Zm (v := x) rfl rfl ?_))))))))))))))))
 obtain ⟨b3, aL, hm⟩ := Zg hm
 refine Za rfl rfl (Tc rfl rfl rfl (Zi rfl (Zi rfl (Zi rfl args_nil))) (encode_encoder_hold_sim aL (((((ah).f5).f5).f5).f5).f5 au av aw ax ay az a0).r ?_)
 rintro _ bw ⟨aa, z, ai, rfl⟩
 refine Za rfl rfl (Exec.not rfl rfl (Zb (Ze ?_)))
 rcases ite_some hm with ⟨m, hm⟩ | ⟨m, hm⟩
 ·refine W_cond_t rfl m (Zc ?_)
  cases hm
 refine W_cond_f rfl m ?_
 replace m := Zk m
 refine W_skip (Ze (Zc (Zc (Zd (Za rfl rfl (Zp F91_4 rfl rfl rfl (Za rfl rfl (Zn ((ai).f5) A89 rfl rfl rfl (Za rfl rfl (Zr S89 rfl rfl (af.mono z) (Za rfl rfl (Zm (v := Vi (0)) rfl rfl (Zb (Ze ?_))))))))))))))
 obtain ⟨ag, a2, bg, aB, aA⟩ := ctl_some hm
 refine W_mid (M := fun f' w' => ∃ s', (ag = .next s' ∨ ag = .brk s') ∧ (fun (_ : Unit) => ∃ (an : PHeap) , PHeap.le aa an ∧ St w0 an (Res.box c 66 [n, o, p, q, t, d, h, i, j] :: Res.arr (encInt .i64) 3 d a.vars :: Res.arr encFact 46 h a.atoms :: Res.arr encBool 4 i a.grouped :: Res.arr (encInt .i64) 3 j a.fluents :: H) w' ∧ f' 0 = Value.pointer (some ⟨c, 0, none⟩) ∧ f' 2 = x ∧ f' 19 = u ∧ f' 20 = Vi ((b.Assigns.length : Int))) s') ?_ ?_
 ·refine W_block (W_forC (fun k' s' f' w' => (fun (_ : Unit) => ∃ (ao : PHeap) , PHeap.le aa ao ∧ St w0 ao (Res.box c 66 [n, o, p, q, t, d, h, i, j] :: Res.arr (encInt .i64) 3 d a.vars :: Res.arr encFact 46 h a.atoms :: Res.arr encBool 4 i a.grouped :: Res.arr (encInt .i64) 3 j a.fluents :: H) w' ∧ f' 0 = Value.pointer (some ⟨c, 0, none⟩) ∧ f' 2 = x ∧ f' 19 = u ∧ f' 20 = Vi ((b.Assigns.length : Int)) ∧ f' 21 = Vi (k' : Int)) s') a2 ?_ ?_ ?_)
  ·have a6 := ((ai).f5).drop
   exact ⟨aa, (Zv _), (((((a6).f4).f4).f4).f4).f4, rfl, rfl, rfl, rfl, rfl⟩
  ·intro bi br aZ bb bx bf a3 y bh
   obtain ⟨bq, aD, aj, bk, bl, aG, aH, ar⟩ := a3
   refine Zc (Zd (Za rfl rfl (Zq rfl ar aH (Zb (Ze (Zc (W_true (Zx (decide_eq_true (by omega))) (W_skip (Ze (Zc (W_block (Zc (Zd ?_)))))))))))))
   obtain ⟨l, aM, y⟩ := Zg y
   refine Za rfl rfl (Exec.index_rep S89 rfl aG ar (af.mono (Zt z aD)) aM ?_)
   intro aX bj a1
   refine Za rfl rfl (Zw (E := encGAssign) aj A104 rfl rfl rfl a1 ?_)
   intro bu aN
   obtain ⟨ap, rfl, aO⟩ := encGAssign_val.1 aN
   refine Za rfl rfl (Exec.alloc (cs := [Vi (0), Value.string (⟨#[]⟩), Vi (0), Value.slice none 0 0]) aj Z104 rfl rfl ?_)
   intro aY bz a7
   refine Za rfl rfl (Exec.store_box (ds := [Vi (l.Fluent), Value.string (l.Value.Op), Vi (l.Value.N), ap]) (es := [Vi (l.Fluent), Value.string (l.Value.Op), Vi (l.Value.N), ap]) a7 A104 rfl rfl rfl rfl (Zj rfl (Zj rfl (Zj rfl (Zj (aO).one one_nil)))) (Nat.le_of_ble_eq_true rfl) rfl ?_)
   intro b0 be
   refine Zb (Ze (Zc ?_))
   cases y
  intro bs bc b1 a4 aC
  obtain ⟨aP, aE, a8, aI, aJ, aK, al, aR⟩ := a4
  refine Zc (Zd (Za rfl rfl (Zq rfl aR al (Zb (Ze (Zc (W_false (Zx (decide_eq_false (by omega))) (W_exit (at_exit (at_exit (ib_here (Ze ?_))))))))))))
  refine ⟨_, .inl aC, ?_⟩; exact ⟨aP, aE, (((((a8).f4).f4).f4).f4).f4, aI, aJ, aK, al⟩
 rintro bd b2 ⟨bt, ak, a5⟩
 have hm := ak.elim (aB _) (aA _)
 clear ak
 obtain ⟨aQ, aF, a9, bm, bn, bo, bp⟩ := a5
 refine (Ze (Zc (Zd (Za rfl rfl (Zo (v := Value.bool (true)) rfl rfl (Zb (Ze (W_ret ?_))))))))
 have ba := Zu hm
 subst r
 refine ⟨_, ret1 rfl, ?_⟩
 exact ⟨aQ, (Zt z aF), (((((a9).f4).f4).f4).f4).f4, rfl⟩
theorem slices_Clone_apiFact_sim {w0 w : World} {s : PHeap} {H : List Res} {b : (List Fact)} {c : Value} {r : (List Fact)} (hm : slices_Clone_apiFact_p b = some r) (hS : St w0 s (H) w) (d : SliceRep encFact s c b) :
  Calls Tryz.prog 76 #[c] w fun e w' => ∃ v, e = .returned v ∧ ((fun (u : (List Fact)) => ∃ (g : PHeap) (h : Value), PHeap.le s g ∧ St w0 g (Res.arr encFact 46 h u :: H) w' ∧ v = h) r) := by
 unfold slices_Clone_apiFact_p at hm
 refine calls_of_W Tryz.func76 rfl rfl (Zc (Zd (Za rfl rfl (Zo (v := Value.slice none 0 0) rfl rfl (Zb (Ze (Zc (Zc (Zd (Za rfl rfl (Zm (v := c) rfl rfl ?_)))))))))))
 obtain ⟨j, ab, y, k, p⟩ := (d).nilShape
 refine Za rfl rfl (Exec.slice_eql_nil Tryz.underlying31 rfl k rfl (Zb (Ze ?_)))
 by_cases a : j.isNone = true
 ·have q := p a
  replace hm := (show (some []) = ((app 16 [] b).bind fun f => some f) from by simp [q, app]).trans hm
  refine W_true ((Zx a)) (Zc (Zd (Za rfl rfl (Zo (v := Value.slice none 0 0) rfl rfl (Zb (Ze (W_ret (at_ret ?_))))))))
  have z := Zu hm
  subst r
  refine ⟨_, ret1 rfl, ?_⟩
  have l := hS.nilArr encFact 46
  exact ⟨s, (Value.slice none 0 0), (Zv _), l, rfl⟩
 replace a := Zk a
 refine W_false ((Zx a)) (W_skip (Ze (Zc (Zd (Za rfl rfl (Exec.buildSlice (Te := 46) (cs := []) hS rfl parts_nil (fun _ => by kernel_rfl) ?_))))))
 intro x ac m
 refine Za rfl rfl (Zm (v := c) rfl rfl ?_)
 have n := St.boxArr (E := encFact) (xs := []) m rfl (by simp [maxLen])
 obtain ⟨f, t, hm⟩ := Zg hm
 refine Za rfl rfl (Exec.append_rep (E := encFact) (ys := b) n S31 Z46 rfl (by decide) rfl rfl rfl d t ?_)
 intro i ad o
 refine Za rfl rfl (Zo (v := i) rfl rfl (Zb (Ze (W_ret ?_))))
 have aa := Zu hm
 subst r
 refine ⟨_, ret1 rfl, ?_⟩
 exact ⟨s, i, (Zv _), o, rfl⟩
theorem encode_encoder_facts_c1_sim {w0 w : World} {s : PHeap} {H : List Res} {b : Fact} {c : Fact}  {r : Int} (hm : encode_encoder_facts_c1_p b c = some r) (hS : St w0 s (H) w)  :
  Calls Tryz.prog 78 #[Value.agg #[Vi (b.Var), Vi (b.Val)], Value.agg #[Vi (c.Var), Vi (c.Val)]] w fun e w' => ∃ v, e = .returned v ∧ ((fun (h : Int) => ∃ (f : PHeap) , PHeap.le s f ∧ St w0 f (H) w' ∧ v = Vi (h)) r) := by
 unfold encode_encoder_facts_c1_p at hm
 refine calls_of_W Tryz.func78 rfl rfl (Zc (Zd (Za rfl rfl (Exec.box (cs := [Vi (b.Var), Vi (b.Val)]) hS rfl rfl rfl ?_))))
 intro i m g
 refine Za rfl rfl (Exec.box (cs := [Vi (c.Var), Vi (c.Val)]) g rfl rfl rfl ?_)
 intro j n a
 refine Za rfl rfl (Zo (v := Vi (0)) rfl rfl (Zb (Ze (Zc (Zc (Zd (Za rfl rfl (Zp F46_0 rfl rfl rfl (Za rfl rfl (Zn ((a).f1) A3 rfl rfl rfl (Za rfl rfl (Zp F46_0 rfl rfl rfl (Za rfl rfl (Zn (a) A3 rfl rfl rfl (Za rfl rfl (Exec.neq rfl rfl rfl (Zb (Ze ?_))))))))))))))))))
 rcases ite_some hm with ⟨d, hm⟩ | ⟨d, hm⟩
 ·refine W_cond_t rfl d (Zc (Zd (Za rfl rfl (Zp F46_0 rfl rfl rfl (Za rfl rfl (Zn ((a).f1) A3 rfl rfl rfl (Za rfl rfl (Zp F46_0 rfl rfl rfl (Za rfl rfl (Zn (a) A3 rfl rfl rfl (Za rfl rfl (Exec.sub rfl rfl rfl (Za rfl rfl (Zo (v := Vi (IntKind.i64.wrap (b.Var - c.Var))) rfl rfl (Zb (Ze (W_ret (at_ret ?_))))))))))))))))))
  have k := Zu hm
  subst r
  refine ⟨_, ret1 rfl, ?_⟩
  exact ⟨s, (Zv _), ((a).drop).drop, rfl⟩
 refine W_cond_f rfl d ?_
 replace d := Zk d
 refine W_skip (Ze (Zc (Zd (Za rfl rfl (Zp F46_1 rfl rfl rfl (Za rfl rfl (Zn ((a).f1) A3 rfl rfl rfl (Za rfl rfl (Zp F46_1 rfl rfl rfl (Za rfl rfl (Zn (a) A3 rfl rfl rfl (Za rfl rfl (Exec.sub rfl rfl rfl (Za rfl rfl (Zo (v := Vi (IntKind.i64.wrap (b.Val - c.Val))) rfl rfl (Zb (Ze (W_ret ?_))))))))))))))))))
 have l := Zu hm
 subst r
 refine ⟨_, ret1 rfl, ?_⟩
 exact ⟨s, (Zv _), ((a).drop).drop, rfl⟩
end Go.Pw
