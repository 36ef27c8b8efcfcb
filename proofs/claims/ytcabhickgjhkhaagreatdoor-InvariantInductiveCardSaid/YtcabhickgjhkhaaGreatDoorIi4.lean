/-
  The walks (printed by my generator).
-/
import Derived.Test.YtcabhickgjhkhaaGreatDoorL29
import Derived.Test.YtcabhickgjhkhaaGreatDoorL27
import Derived.Test.YtcabhickgjhkhaaGreatDoorIiW1
import Derived.Test.YtcabhickgjhkhaaGreatDoorIiY
set_option maxRecDepth 100000
set_option maxHeartbeats 4000000
set_option linter.unusedVariables false
namespace Go.Pw
open Go.Proofs
theorem invariant_quoted_o_sim {w0 w : World} {s : PHeap} {H : List Res} {c : (List ByteArray)} {b : Value} {r : ByteArray} (hm : invariant_quoted_o_p c = some r) (hS : St w0 s (Res.arr encStr 9 b c :: H) w)  (ht : TabQ Tryz.prog s) :
  Calls Tryz.prog 77 #[b] w fun e w' => ∃ v, e = .returned v ∧ ((fun (a0 : ByteArray) => ∃ (u : PHeap) , PHeap.le s u ∧ St w0 u (Res.arr encStr 9 b c :: H) w' ∧ v = Value.string (a0)) r) := by
 unfold invariant_quoted_o_p at hm
 refine calls_of_W Tryz.func77 rfl rfl (Zc (Zd (Za rfl rfl (Zo (v := Value.string (⟨#[]⟩)) rfl rfl (Zb (Ze (Zc (Zd (Za rfl rfl (Exec.alloc (cs := [Value.pointer none, Value.slice none 0 0]) hS Z140 rfl rfl ?_))))))))))
 intro m aB ab
 have g := St.bld_close (.inl rfl) ((St.arr_none (E := encInt .u8) (Te := 5) ab).perm (.swap _ _ _))
 refine Zb (Ze (Zc (Zc (Zd (Za rfl rfl (Zm (v := b) rfl rfl (Za rfl rfl (Exec.len_arr ((g).f1) S54 rfl rfl (Za rfl rfl (Zm (v := Vi (0)) rfl rfl (Zb (Ze ?_))))))))))))
 obtain ⟨i, y, hm⟩ := Zg hm
 refine W_block (W_forS (fun k' s' f' w' => (fun (i : (List Int)) => ∃ (x : PHeap) , PHeap.le s x ∧ St w0 x (Res.arr encStr 9 b c :: Res.bld 140 5 m i :: H) w' ∧ f' 3 = Value.pointer (some ⟨m, 0, none⟩) ∧ f' 6 = b ∧ f' 7 = Vi ((c.length : Int)) ∧ f' 8 = Vi (k' : Int)) s') y ?_ ?_ ?_)
 ·have ac := (g).f1
  exact ⟨s, (Zv _), ac, rfl, rfl, rfl, rfl⟩
 ·intro ai i av a5 aC ah z a
  obtain ⟨aA, o, h, p, q, t, j⟩ := z
  refine Zc (Zd (Za rfl rfl (Zq rfl j t (Zb (Ze (Zc (W_true (Zx (decide_eq_true (by omega))) (W_skip (Ze (Zc (W_block (Zc (Zd ?_)))))))))))))
  obtain ⟨l, d, a⟩ := Zg a
  obtain ⟨a7, a1, n⟩ := (h).arr_at d
  refine Za rfl rfl (Exec.index_slice S54 rfl (Eq.trans q n) j (idx_some d).1 (idx_some d).2.1 (Za rfl rfl (Exec.load_arr (F := encStr) (h) n A9 rfl rfl rfl d (Sub.refl _) ?_)))
  intro ay an
  obtain rfl : ay = Value.string (l) := encStr_val.1 an
  refine Za rfl rfl (Zo (v := Value.string (l)) rfl rfl (Zb (Ze (Zd (Za rfl rfl (Zm (v := Value.string (l)) rfl rfl ?_))))))
  obtain ⟨aH, ao, a⟩ := Zg a
  refine Za rfl rfl (Tc rfl rfl rfl (Zi rfl args_nil) (strconv_Quote_sim ao h  (ht.mono o)).r ?_)
  rintro _ aD ⟨aw, aj, ad, rfl⟩
  obtain ⟨a2, ap, a⟩ := Zg a
  refine Za rfl rfl (Exec.str_add rfl rfl rfl ap ?_)
  obtain ⟨a8, aq, a⟩ := Zg a
  refine Za rfl rfl (Tc rfl rfl rfl (Zi p (Zi rfl args_nil)) (bld_write_sim aq (ad).f1).r ?_)
  rintro _ aE ⟨rfl, ae⟩
  refine Zb (ib_normal (Ze (Zd (Za rfl rfl (Exec.add rfl j rfl (Za rfl rfl (Zm (v := Vi (IntKind.i64.wrap ((ai : Int) + 1))) rfl rfl (Zb (Ze ?_)))))))))
  have a3 := Zu a
  subst av
  exact ⟨aw, (Zt o aj), (ae).f1, p, q, t, (Eq.trans rfl (wrap_up ah ((g).f1).arr_le))⟩
 intro a6 aF aa
 obtain ⟨ax, ak, af, al, a9, am, az⟩ := aa
 refine Zc (Zd (Za rfl rfl (Zq rfl az am (Zb (Ze (Zc (W_false (Zx (decide_eq_false (by omega))) (W_exit (at_exit (at_exit (ib_here (Ze (Zc (Zd ?_))))))))))))))
 obtain ⟨ar, au, hm⟩ := Zg hm
 refine Za rfl rfl (Tc rfl rfl rfl (Zi al args_nil) (bld_string_sim au (af).f1).r ?_)
 rintro _ aG ⟨rfl, ag⟩
 refine Za rfl rfl (Zo (v := Value.string (ar)) rfl rfl (Zb (Ze (W_ret ?_))))
 have a4 := Zu hm
 subst r
 refine ⟨_, ret1 rfl, ?_⟩
 exact ⟨ax, ak, ag, rfl⟩
theorem Z3 : tyZero Tryz.prog 3 = some (Vi (0)) := by kernel_rfl
theorem S89 : tySlice Tryz.prog 89 = some (93, 4, 64) := by kernel_rfl
theorem Z93 : tyZero Tryz.prog 93 = some (Value.agg #[Value.slice none 0 0, Value.string ⟨#[]⟩, Value.string ⟨#[]⟩, Value.bool false]) := by kernel_rfl
theorem F93_0 : tyField Tryz.prog 93 0 = some 0 := by kernel_rfl
theorem invariant_simples_sim {w0 w : World} {s : PHeap} {H : List Res} {x : Ground} {ah : Value} {bd : Value} {be : Value} {bf : Value} {bg : Value} {r : (List invariant_simple)} (hm : invariant_simples_p x = some r) (hS : St w0 s (H) w) (aH : SliceRep encAtom s ah x.Atoms) (d0 : SliceRep encGFluent s bd x.Fluents) (d1 : SliceRep (encInt .i64) s be x.Init) (d2 : SliceRep encCond s bf x.Goal) (d3 : SliceRep encGOp s bg x.Ops) (ht : TabQ Tryz.prog s) :
  Calls Tryz.prog 49 #[Value.agg #[ah, bd, be, bf, bg]] w fun e w' => ∃ v, e = .returned v ∧ ((fun (dz : (List invariant_simple)) => ∃ (bb : PHeap) (bN : Value), PHeap.le s bb ∧ St w0 bb (H) w' ∧ v = bN ∧ SliceRep encinvariant_simple bb bN dz) r) := by
 unfold invariant_simples_p at hm
 refine calls_of_W Tryz.func49 rfl rfl (Zc (Zd (Za rfl rfl (Exec.box (cs := [ah, bd, be, bf, bg]) hS rfl rfl rfl ?_))))
 intro d4 ex ca
 refine Za rfl rfl (Zo (v := Value.slice none 0 0) rfl rfl (Zb (Ze (Zc (Zd (Za rfl rfl (Exec.make_map (k := 9) (e := 3) ca rfl ?_)))))))
 intro m ey bk
 refine Za rfl rfl (Zo (v := Value.map (some m)) rfl rfl (Zb (Ze (Zc (Zd (Za rfl rfl (Zo (v := Value.slice none 0 0) rfl rfl (Zb (Ze (Zc (Zc (Zd (Za rfl rfl (Zp F28_0 rfl rfl rfl (Za rfl rfl (Zn ((bk).f1) A22 rfl rfl rfl (Za rfl rfl (Zr S22 rfl rfl aH (Za rfl rfl (Zm (v := Vi (0)) rfl rfl (Zb (Ze ?_))))))))))))))))))))))
 obtain ⟨du, bR, hm⟩ := Zg hm
 refine W_block (W_forS (fun k' s' f' w' => (un2 fun (aJ : (List invariant_simple)) (aI : SMap) => ∃ (bF : PHeap) (ak : Value), PHeap.le s bF ∧ St w0 bF (Res.smap Tryz.prog 9 3 m aI :: Res.sg (encInt .i64) (encStr.pair (encStr.pair encBool)) (fun (b : invariant_simple) => b.atoms) (fun (b : invariant_simple) => (b.name, b.rest, b.position)) 3 93 ak aJ :: H) w' ∧ f' 3 = Value.map (some m) ∧ f' 4 = ak ∧ f' 14 = ah ∧ f' 15 = Vi ((x.Atoms.length : Int)) ∧ f' 16 = Vi (k' : Int)) s') bR ?_ ?_ ?_)
 ·have cb := bk.nilSg (encInt .i64) (encStr.pair (encStr.pair encBool)) (fun (b : invariant_simple) => b.atoms) (fun (b : invariant_simple) => (b.name, b.rest, b.position)) 3 93
  exact ⟨s, (Value.slice none 0 0), (Zv _), (((cb).f2).drop).f1, rfl, rfl, rfl, rfl, rfl⟩
 ·intro i dv dh dN ez c3 bT ag
  obtain ⟨aJ, aI⟩ := dv
  replace ag := un2_eq ag
  obtain ⟨bc, ak, ab, bl, cG, cH, b5, b6, aG⟩ := bT
  refine Zc (Zd (Za rfl rfl (Zq rfl aG b6 (Zb (Ze (Zc (W_true (Zx (decide_eq_true (by omega))) (W_skip (Ze (Zc (W_block (Zc (Zd (Za rfl rfl (Zm (v := Vi ((i : Int))) rfl aG ?_)))))))))))))))
  obtain ⟨d, cW, ag⟩ := Zg ag
  refine Za rfl rfl (Exec.index_rep S22 rfl b5 aG (aH.mono ab) cW ?_)
  intro d5 ee bQ
  refine Za rfl rfl (Zw (E := encAtom) bl A56 rfl rfl rfl bQ ?_)
  intro er cX
  obtain ⟨ap, rfl, aj⟩ := encAtom_val.1 cX
  refine Za rfl rfl (Exec.alloc (cs := [Value.string (⟨#[]⟩), Value.slice none 0 0]) bl Z56 rfl rfl ?_)
  intro ad e0 cc
  refine Za rfl rfl (Zo (v := Vi ((i : Int))) rfl rfl (Za rfl rfl (Exec.store_box (ds := [Value.string (d.Name), ap]) (es := [Value.string (d.Name), ap]) cc A56 rfl rfl rfl rfl (Zj rfl (Zj (aj).one one_nil)) (Nat.le_of_ble_eq_true rfl) rfl ?_)))
  intro e1 cd
  refine Zb (Ze (Zc (Zd (Za rfl rfl (Zo (v := Vi ((-1))) rfl rfl (Zb (Ze ?_)))))))
  obtain ⟨bi, bS, dW, c5, c2⟩ := ctl_some ag
  refine W_mid (M := fun f' w' => ∃ s', (bi = .next s' ∨ bi = .brk s') ∧ (un3 fun (bv : Int) (bw : SMap) (bx : (List invariant_simple)) => ∃ (bG : PHeap) (aF : Value), PHeap.le bc bG ∧ St w0 bG (Res.smap Tryz.prog 9 3 m bw :: Res.sg (encInt .i64) (encStr.pair (encStr.pair encBool)) (fun (b : invariant_simple) => b.atoms) (fun (b : invariant_simple) => (b.name, b.rest, b.position)) 3 93 aF bx :: Res.box ad 56 [Value.string (d.Name), ap] :: H) w' ∧ f' 3 = Value.map (some m) ∧ f' 4 = aF ∧ f' 5 = Vi ((i : Int)) ∧ f' 6 = Value.pointer (some ⟨ad, 0, none⟩) ∧ f' 7 = Vi (bv) ∧ f' 14 = ah ∧ f' 15 = Vi ((x.Atoms.length : Int)) ∧ f' 16 = Vi ((i : Int))) s') ?_ ?_
  ·refine W_block (W_while (fun s' f' w' => (un3 fun (g : Int) (a8 : SMap) (ar : (List invariant_simple)) => ∃ (bH : PHeap) (u : Value), PHeap.le bc bH ∧ St w0 bH (Res.smap Tryz.prog 9 3 m a8 :: Res.sg (encInt .i64) (encStr.pair (encStr.pair encBool)) (fun (b : invariant_simple) => b.atoms) (fun (b : invariant_simple) => (b.name, b.rest, b.position)) 3 93 u ar :: Res.box ad 56 [Value.string (d.Name), ap] :: H) w' ∧ f' 3 = Value.map (some m) ∧ f' 4 = u ∧ f' 5 = Vi ((i : Int)) ∧ f' 6 = Value.pointer (some ⟨ad, 0, none⟩) ∧ f' 7 = Vi (g) ∧ f' 14 = ah ∧ f' 15 = Vi ((x.Atoms.length : Int)) ∧ f' 16 = Vi ((i : Int))) s') bS ?_ ?_)
   ·have ce := (cd).f2
    exact ⟨bc, ak, (Zv _), (ce).f2, cG, cH, rfl, rfl, rfl, b5, b6, aG⟩
   intro dw bj dO e2 bU a c6
   obtain ⟨g, a8, ar⟩ := dw
   replace a := un3_eq a
   obtain ⟨di, u, j, a4, aK, aL, aM, az, am, aN, aO, aP⟩ := bU
   refine Zc (Zc (Zd (Za rfl rfl (Zm (v := Vi (g)) rfl am (Za rfl rfl (Zp F56_1 rfl az rfl (Za rfl rfl (Zn ((a4).f2) A54 rfl rfl rfl (Za rfl rfl (Zr S54 rfl rfl (aj.mono j) (Za rfl rfl (Zq rfl rfl rfl (Zb (Ze ?_))))))))))))))
   rcases ite_some a with ⟨aw, a⟩ | ⟨aw, a⟩
   ·refine W_cond_t rfl aw (W_skip (Ze (Zc (W_block (Zc (Zd (Za rfl rfl (Zp F56_1 rfl az rfl (Za rfl rfl (Zn ((a4).f2) A54 rfl rfl rfl ?_))))))))))
    obtain ⟨eW, cY, a⟩ := Zg a
    refine Za rfl rfl (Tc rfl rfl rfl (Zi rfl args_nil) (slices_Clone_string_sim cY a4 (aj.mono j)).r ?_)
    rintro bh e3 ⟨bI, _, n, bm, rfl⟩
    refine Za rfl rfl (Zo (v := bh) rfl rfl (Zb (Ze (Zc (Zc (Zd (Za rfl rfl (Zm (v := Vi (g)) rfl am (Za rfl rfl (Exec.geq rfl rfl rfl (Zb (Ze ?_))))))))))))
    obtain ⟨au, al, a⟩ := Zg a
    refine W_mid (M := fun f' w' => (fun (au : (List ByteArray)) => ∃ (bJ : PHeap) (p : Value), PHeap.le bI bJ ∧ St w0 bJ (Res.smap Tryz.prog 9 3 m a8 :: Res.sg (encInt .i64) (encStr.pair (encStr.pair encBool)) (fun (b : invariant_simple) => b.atoms) (fun (b : invariant_simple) => (b.name, b.rest, b.position)) 3 93 u ar :: Res.box ad 56 [Value.string (d.Name), ap] :: Res.arr encStr 9 p au :: H) w' ∧ f' 3 = Value.map (some m) ∧ f' 4 = u ∧ f' 5 = Vi ((i : Int)) ∧ f' 6 = Value.pointer (some ⟨ad, 0, none⟩) ∧ f' 7 = Vi (g) ∧ f' 8 = p ∧ f' 14 = ah ∧ f' 15 = Vi ((x.Atoms.length : Int)) ∧ f' 16 = Vi ((i : Int))) au) ?_ ?_
    ·rcases ite_some al with ⟨ax, al⟩ | ⟨ax, al⟩
     ·refine W_cond_t rfl ax (Zd (Za rfl rfl (Zm (v := bh) rfl rfl (Za rfl rfl (Zm (v := Vi (g)) rfl am (Za rfl rfl (Zm (v := Vi (g)) rfl am (Za rfl rfl (Exec.add rfl rfl rfl ?_)))))))))
      obtain ⟨dY, cZ, al⟩ := Zg al
      refine Za rfl rfl (Tc rfl rfl rfl (Zi rfl (Zi rfl (Zi rfl args_nil))) (delS_sim cZ bm ).r ?_)
      rintro bO e4 ⟨dj, _, c7, cf, rfl⟩
      refine Za rfl rfl (Zo (v := bO) rfl rfl (Zb (Ze ?_)))
      have dF := Zu al
      subst au
      exact ⟨dj, bO, c7, (((cf).f3).f3).f3, aK, aL, aM, az, am, rfl, aN, aO, aP⟩
     refine W_cond_f rfl ax ?_
     replace ax := Zk ax
     refine W_skip (Ze ?_)
     have dG := Zu al
     subst au
     exact ⟨bI, bh, (Zv _), (((bm).f3).f3).f3, aK, aL, aM, az, am, rfl, aN, aO, aP⟩
    intro dP e5 bW
    obtain ⟨dk, p, o, a5, aQ, aR, aS, ac, a0, z, aT, aU, aV⟩ := bW
    refine (Ze (Zc ?_))
    obtain ⟨eX, bE, a⟩ := Zg a
    obtain ⟨dB, t, a⟩ := Zg a
    obtain ⟨eY, aX, a⟩ := Zg a
    obtain ⟨dC, ae, a⟩ := Zg a
    obtain ⟨dD, af, a⟩ := Zg a
    obtain ⟨dZ, aY, a⟩ := Zg a
    obtain ⟨eZ, aZ, a⟩ := Zg a
    obtain ⟨aq, ba, a⟩ := Zg a
    refine W_mid (M := fun f' w' => ∃ (bK : PHeap) , PHeap.le dk bK ∧ St w0 bK (Res.smap Tryz.prog 9 3 m a8 :: Res.sg (encInt .i64) (encStr.pair (encStr.pair encBool)) (fun (b : invariant_simple) => b.atoms) (fun (b : invariant_simple) => (b.name, b.rest, b.position)) 3 93 u ar :: Res.box ad 56 [Value.string (d.Name), ap] :: Res.arr encStr 9 p au :: H) w' ∧ f' 3 = Value.map (some m) ∧ f' 4 = u ∧ f' 5 = Vi ((i : Int)) ∧ f' 6 = Value.pointer (some ⟨ad, 0, none⟩) ∧ f' 7 = Vi (g) ∧ f' 8 = p ∧ f' 9 = Value.string (aq) ∧ f' 14 = ah ∧ f' 15 = Vi ((x.Atoms.length : Int)) ∧ f' 16 = Vi ((i : Int))) ?_ ?_
    ·refine W_dl (n0 := 16) (.q 0 (qs 3 3 (.q 9 (.q 10 (.q 12 (.alt (.e 1 [3, 4, 5, 9, 10, 12] (.q 2 (.alt (.e 6 [9, 10, 12, 2] (.q 7 (.q 8 (.e 11 [12, 2, 7, 8] (.e 13 [2, 7, 8] (.e 14 [2, 7, 8] (.q 15 .done))))))) (.e 11 [3, 4, 5, 12, 2] (.e 6 [12, 2] (.q 7 (.q 8 (.e 13 [2, 7, 8] (.e 14 [2, 7, 8] (.q 15 .done)))))))))) (.e 11 [0, 3, 4, 5, 12] (.e 1 [3, 4, 5, 12] (.q 2 (.e 6 [12, 2] (.q 7 (.q 8 (.e 13 [2, 7, 8] (.e 14 [2, 7, 8] (.q 15 .done))))))))))))))) hmix (by kernel_rfl) (by kernel_rfl) (DL_q rfl rfl (Zm (v := Vi (g)) rfl a0 ⟨rfl, ?_⟩))
     refine DL_q rfl rfl (Zp F56_1 rfl ac rfl ⟨rfl, ?_⟩)
     refine DL_q rfl rfl (Zn ((a5.drew).f2) A54 rfl rfl rfl ⟨rfl, ?_⟩)
     refine DL_q rfl rfl (Zr S54 rfl rfl (aj.mono (Zt (Zt j n) o)) ⟨rfl, ?_⟩)
     refine DL_q rfl rfl (Zp F56_0 rfl ac rfl ⟨rfl, ?_⟩)
     refine DL_q rfl rfl (Zn ((a5.drew).f2) A9 rfl rfl rfl ⟨rfl, ?_⟩)
     refine DL_q rfl rfl (Zm (v := p) rfl z ⟨rfl, ?_⟩)
     refine DL_alt ?_ ?_
     ·refine DL_e rfl rfl (Tc rfl rfl rfl (Zi rfl args_nil) (strconv_Itoa_sim bE a5.drew  (ht.mono (Zt (Zt (Zt ab j) n) o))).r ?_)
      rintro _ e6 ⟨ek, ai, a6, rfl⟩
      refine ⟨(ag_cons (ag_r rfl rfl (Zp F56_1 rfl ac rfl ⟨rfl, rfl⟩)) (ag_cons (ag_r rfl rfl (Zn ((a6).f2) A54 rfl rfl rfl ⟨rfl, rfl⟩)) (ag_cons (ag_r rfl rfl (Zr S54 rfl rfl (aj.mono (Zt (Zt (Zt j n) o) ai)) ⟨rfl, rfl⟩)) (ag_cons (ag_r rfl rfl (Zp F56_0 rfl ac rfl ⟨rfl, rfl⟩)) (ag_cons (ag_r rfl rfl (Zn ((a6).f2) A9 rfl rfl rfl ⟨rfl, rfl⟩)) (ag_cons (ag_r rfl rfl (Zm (v := p) rfl z ⟨rfl, rfl⟩)) ag_nil)))))), ?_⟩
      refine DL_q rfl rfl (Exec.str_add rfl rfl rfl t ⟨rfl, ?_⟩)
      refine DL_alt ?_ ?_
      ·refine DL_e rfl rfl (Tc rfl rfl rfl (Zi rfl args_nil) (strconv_Itoa_sim aX a6  (ht.mono (Zt (Zt (Zt (Zt ab j) n) o) ai))).r ?_)
       rintro _ e7 ⟨el, bz, bn, rfl⟩
       refine ⟨(ag_cons (ag_r rfl rfl (Zp F56_0 rfl ac rfl ⟨rfl, rfl⟩)) (ag_cons (ag_r rfl rfl (Zn ((bn).f2) A9 rfl rfl rfl ⟨rfl, rfl⟩)) (ag_cons (ag_r rfl rfl (Zm (v := p) rfl z ⟨rfl, rfl⟩)) (ag_cons (ag_r rfl rfl (Exec.str_add rfl rfl rfl t ⟨rfl, rfl⟩)) ag_nil)))), ?_⟩
       refine DL_q rfl rfl (Exec.str_add rfl rfl rfl ae ⟨rfl, ?_⟩)
       refine DL_q rfl rfl (Exec.str_add rfl rfl rfl af ⟨rfl, ?_⟩)
       refine DL_e rfl rfl (Exec.buildSlice (Te := 9) (cs := [Value.string (d.Name)]) bn rfl (parts_cons (c := [Value.string (d.Name)]) (cells_of rfl rfl) parts_nil) (fun _ => by kernel_rfl) ?_)
       intro d6 e8 cg
       refine ⟨(ag_cons (ag_r rfl rfl (Zm (v := p) rfl z ⟨rfl, rfl⟩)) (ag_cons (ag_r rfl rfl (Exec.str_add rfl rfl rfl t ⟨rfl, rfl⟩)) (ag_cons (ag_r rfl rfl (Exec.str_add rfl rfl rfl ae ⟨rfl, rfl⟩)) (ag_cons (ag_r rfl rfl (Exec.str_add rfl rfl rfl af ⟨rfl, rfl⟩)) ag_nil)))), ?_⟩
       have ch := St.boxArr (E := encStr) (xs := [d.Name]) cg ⟨[Value.string (d.Name)], [], rfl, rfl, rfl⟩ (by simp [maxLen])
       refine DL_e rfl rfl (Exec.append_arr (E := encStr) ((ch).f4).f1 S54 Z9 rfl (by decide) rfl rfl rfl aY ?_)
       intro et e9 ci
       refine ⟨(ag_cons (ag_r rfl rfl (Exec.str_add rfl rfl rfl t ⟨rfl, rfl⟩)) (ag_cons (ag_r rfl rfl (Exec.str_add rfl rfl rfl ae ⟨rfl, rfl⟩)) (ag_cons (ag_r rfl rfl (Exec.str_add rfl rfl rfl af ⟨rfl, rfl⟩)) ag_nil))), ?_⟩
       refine DL_e rfl rfl (Tc rfl rfl rfl (Zi rfl args_nil) (invariant_quoted_o_sim aZ ci  (ht.mono (Zt (Zt (Zt (Zt (Zt ab j) n) o) ai) bz))).r ?_)
       rintro _ eA ⟨dl, c8, cj, rfl⟩
       refine ⟨(ag_cons (ag_r rfl rfl (Exec.str_add rfl rfl rfl t ⟨rfl, rfl⟩)) (ag_cons (ag_r rfl rfl (Exec.str_add rfl rfl rfl ae ⟨rfl, rfl⟩)) (ag_cons (ag_r rfl rfl (Exec.str_add rfl rfl rfl af ⟨rfl, rfl⟩)) ag_nil))), ?_⟩
       refine DL_q rfl rfl (Exec.str_add rfl rfl rfl ba ⟨rfl, ?_⟩)
       refine DL_done (Za rfl rfl (Zo (v := Value.string (aq)) rfl rfl (Zb (Ze ?_))))
       exact ⟨dl, (Zt (Zt ai bz) c8), ((((cj).drop).f3).f3).f3, aQ, aR, aS, ac, a0, z, rfl, aT, aU, aV⟩
      refine DL_e rfl rfl (Exec.buildSlice (Te := 9) (cs := [Value.string (d.Name)]) a6 rfl (parts_cons (c := [Value.string (d.Name)]) (cells_of rfl rfl) parts_nil) (fun _ => by kernel_rfl) ?_)
      intro d7 eB bo
      refine ⟨(ag_cons (ag_r rfl rfl (Zp F56_1 rfl ac rfl ⟨rfl, rfl⟩)) (ag_cons (ag_r rfl rfl (Zn ((bo).f3) A54 rfl rfl rfl ⟨rfl, rfl⟩)) (ag_cons (ag_r rfl rfl (Zr S54 rfl rfl (aj.mono (Zt (Zt (Zt j n) o) ai)) ⟨rfl, rfl⟩)) (ag_cons (ag_r rfl rfl (Zm (v := p) rfl z ⟨rfl, rfl⟩)) (ag_cons (ag_r rfl rfl (Exec.str_add rfl rfl rfl t ⟨rfl, rfl⟩)) ag_nil))))), ?_⟩
      refine DL_e rfl rfl (Tc rfl rfl rfl (Zi rfl args_nil) (strconv_Itoa_sim aX bo  (ht.mono (Zt (Zt (Zt (Zt ab j) n) o) ai))).r ?_)
      rintro _ eC ⟨em, b0, ck, rfl⟩
      refine ⟨(ag_cons (ag_r rfl rfl (Zm (v := p) rfl z ⟨rfl, rfl⟩)) (ag_cons (ag_r rfl rfl (Exec.str_add rfl rfl rfl t ⟨rfl, rfl⟩)) ag_nil)), ?_⟩
      refine DL_q rfl rfl (Exec.str_add rfl rfl rfl ae ⟨rfl, ?_⟩)
      refine DL_q rfl rfl (Exec.str_add rfl rfl rfl af ⟨rfl, ?_⟩)
      have cl := St.boxArr (E := encStr) (xs := [d.Name]) ck ⟨[Value.string (d.Name)], [], rfl, rfl, rfl⟩ (by simp [maxLen])
      refine DL_e rfl rfl (Exec.append_arr (E := encStr) ((cl).f4).f1 S54 Z9 rfl (by decide) rfl rfl rfl aY ?_)
      intro eu eD cm
      refine ⟨(ag_cons (ag_r rfl rfl (Exec.str_add rfl rfl rfl t ⟨rfl, rfl⟩)) (ag_cons (ag_r rfl rfl (Exec.str_add rfl rfl rfl ae ⟨rfl, rfl⟩)) (ag_cons (ag_r rfl rfl (Exec.str_add rfl rfl rfl af ⟨rfl, rfl⟩)) ag_nil))), ?_⟩
      refine DL_e rfl rfl (Tc rfl rfl rfl (Zi rfl args_nil) (invariant_quoted_o_sim aZ cm  (ht.mono (Zt (Zt (Zt (Zt (Zt ab j) n) o) ai) b0))).r ?_)
      rintro _ eE ⟨dm, c9, cn, rfl⟩
      refine ⟨(ag_cons (ag_r rfl rfl (Exec.str_add rfl rfl rfl t ⟨rfl, rfl⟩)) (ag_cons (ag_r rfl rfl (Exec.str_add rfl rfl rfl ae ⟨rfl, rfl⟩)) (ag_cons (ag_r rfl rfl (Exec.str_add rfl rfl rfl af ⟨rfl, rfl⟩)) ag_nil))), ?_⟩
      refine DL_q rfl rfl (Exec.str_add rfl rfl rfl ba ⟨rfl, ?_⟩)
      refine DL_done (Za rfl rfl (Zo (v := Value.string (aq)) rfl rfl (Zb (Ze ?_))))
      exact ⟨dm, (Zt (Zt ai b0) c9), ((((cn).drop).f3).f3).f3, aQ, aR, aS, ac, a0, z, rfl, aT, aU, aV⟩
     refine DL_e rfl rfl (Exec.buildSlice (Te := 9) (cs := [Value.string (d.Name)]) a5.drew rfl (parts_cons (c := [Value.string (d.Name)]) (cells_of rfl rfl) parts_nil) (fun _ => by kernel_rfl) ?_)
     intro d8 eF bp
     refine ⟨(ag_cons (ag_r rfl rfl (Zm (v := Vi (g)) rfl a0 ⟨rfl, rfl⟩)) (ag_cons (ag_r rfl rfl (Zp F56_1 rfl ac rfl ⟨rfl, rfl⟩)) (ag_cons (ag_r rfl rfl (Zn ((bp).f3) A54 rfl rfl rfl ⟨rfl, rfl⟩)) (ag_cons (ag_r rfl rfl (Zr S54 rfl rfl (aj.mono (Zt (Zt j n) o)) ⟨rfl, rfl⟩)) (ag_cons (ag_r rfl rfl (Zm (v := p) rfl z ⟨rfl, rfl⟩)) ag_nil))))), ?_⟩
     refine DL_e rfl rfl (Tc rfl rfl rfl (Zi rfl args_nil) (strconv_Itoa_sim bE bp  (ht.mono (Zt (Zt (Zt ab j) n) o))).r ?_)
     rintro _ eG ⟨en, a9, bq, rfl⟩
     refine ⟨(ag_cons (ag_r rfl rfl (Zp F56_1 rfl ac rfl ⟨rfl, rfl⟩)) (ag_cons (ag_r rfl rfl (Zn ((bq).f3) A54 rfl rfl rfl ⟨rfl, rfl⟩)) (ag_cons (ag_r rfl rfl (Zr S54 rfl rfl (aj.mono (Zt (Zt (Zt j n) o) a9)) ⟨rfl, rfl⟩)) (ag_cons (ag_r rfl rfl (Zm (v := p) rfl z ⟨rfl, rfl⟩)) ag_nil)))), ?_⟩
     refine DL_q rfl rfl (Exec.str_add rfl rfl rfl t ⟨rfl, ?_⟩)
     refine DL_e rfl rfl (Tc rfl rfl rfl (Zi rfl args_nil) (strconv_Itoa_sim aX bq  (ht.mono (Zt (Zt (Zt (Zt ab j) n) o) a9))).r ?_)
     rintro _ eH ⟨eo, b1, co, rfl⟩
     refine ⟨(ag_cons (ag_r rfl rfl (Zm (v := p) rfl z ⟨rfl, rfl⟩)) (ag_cons (ag_r rfl rfl (Exec.str_add rfl rfl rfl t ⟨rfl, rfl⟩)) ag_nil)), ?_⟩
     refine DL_q rfl rfl (Exec.str_add rfl rfl rfl ae ⟨rfl, ?_⟩)
     refine DL_q rfl rfl (Exec.str_add rfl rfl rfl af ⟨rfl, ?_⟩)
     have cp := St.boxArr (E := encStr) (xs := [d.Name]) co ⟨[Value.string (d.Name)], [], rfl, rfl, rfl⟩ (by simp [maxLen])
     refine DL_e rfl rfl (Exec.append_arr (E := encStr) ((cp).f4).f1 S54 Z9 rfl (by decide) rfl rfl rfl aY ?_)
     intro ev eI cq
     refine ⟨(ag_cons (ag_r rfl rfl (Exec.str_add rfl rfl rfl t ⟨rfl, rfl⟩)) (ag_cons (ag_r rfl rfl (Exec.str_add rfl rfl rfl ae ⟨rfl, rfl⟩)) (ag_cons (ag_r rfl rfl (Exec.str_add rfl rfl rfl af ⟨rfl, rfl⟩)) ag_nil))), ?_⟩
     refine DL_e rfl rfl (Tc rfl rfl rfl (Zi rfl args_nil) (invariant_quoted_o_sim aZ cq  (ht.mono (Zt (Zt (Zt (Zt (Zt ab j) n) o) a9) b1))).r ?_)
     rintro _ eJ ⟨dn, cA, cr, rfl⟩
     refine ⟨(ag_cons (ag_r rfl rfl (Exec.str_add rfl rfl rfl t ⟨rfl, rfl⟩)) (ag_cons (ag_r rfl rfl (Exec.str_add rfl rfl rfl ae ⟨rfl, rfl⟩)) (ag_cons (ag_r rfl rfl (Exec.str_add rfl rfl rfl af ⟨rfl, rfl⟩)) ag_nil))), ?_⟩
     refine DL_q rfl rfl (Exec.str_add rfl rfl rfl ba ⟨rfl, ?_⟩)
     refine DL_done (Za rfl rfl (Zo (v := Value.string (aq)) rfl rfl (Zb (Ze ?_))))
     exact ⟨dn, (Zt (Zt a9 b1) cA), ((((cr).drop).f3).f3).f3, aQ, aR, aS, ac, a0, z, rfl, aT, aU, aV⟩
    intro dQ eK bX
    obtain ⟨bL, b2, a7, aB, a1, b7, aC, aD, cI, b8, b9, bA, bB⟩ := bX
    refine (Ze (Zc (Zd (Za rfl rfl (Zm (v := Value.map (some m)) rfl aB (Za rfl rfl (Zm (v := Value.string (aq)) rfl b8 ?_)))))))
    obtain ⟨an, da, a⟩ := Zg a
    refine Za rfl rfl (Exec.map_get (a7) ⟨Tryz.underlying125, Tryz.underlying9, Tryz.underlying3⟩ Z3 rfl rfl rfl da (Za rfl rfl (Zm (v := Value.tuple #[Vi (an.1), Value.bool (an.2)]) rfl rfl (Za rfl rfl (Exec.extract (v := Vi (an.1)) rfl rfl rfl (Za rfl rfl (Exec.extract (v := Value.bool (an.2)) rfl rfl rfl (Za rfl rfl (Zo (v := Vi (an.1)) rfl rfl (Za rfl rfl (Zo (v := Value.bool (an.2)) rfl rfl (Zb (Ze (Zc (Zc (Zd (Za rfl rfl (Zm (v := Value.bool (an.2)) rfl rfl (Za rfl rfl (Exec.not rfl rfl (Zb (Ze ?_))))))))))))))))))))))
    obtain ⟨aE, aa, a⟩ := Zg a
    refine W_mid (M := fun f' w' => (un3 fun (aA : Int) (b3 : SMap) (b4 : (List invariant_simple)) => ∃ (bM : PHeap) (av : Value), PHeap.le bL bM ∧ St w0 bM (Res.smap Tryz.prog 9 3 m b3 :: Res.sg (encInt .i64) (encStr.pair (encStr.pair encBool)) (fun (b : invariant_simple) => b.atoms) (fun (b : invariant_simple) => (b.name, b.rest, b.position)) 3 93 av b4 :: Res.box ad 56 [Value.string (d.Name), ap] :: H) w' ∧ f' 3 = Value.map (some m) ∧ f' 4 = av ∧ f' 5 = Vi ((i : Int)) ∧ f' 6 = Value.pointer (some ⟨ad, 0, none⟩) ∧ f' 7 = Vi (g) ∧ f' 10 = Vi (aA) ∧ f' 14 = ah ∧ f' 15 = Vi ((x.Atoms.length : Int)) ∧ f' 16 = Vi ((i : Int))) aE) ?_ ?_
    ·rcases ite_some aa with ⟨ay, aa⟩ | ⟨ay, aa⟩
     ·refine W_cond_t rfl ay (Zc (Zd (Za rfl rfl (Zm (v := u) rfl a1 (Za rfl rfl (Exec.len_sg ((a7).f1) S89 rfl rfl (Za rfl rfl (Zo (v := Vi ((ar.length : Int))) rfl rfl (Zb (Ze (Zc (Zd (Za rfl rfl (Zm (v := Value.map (some m)) rfl aB (Za rfl rfl (Zm (v := Value.string (aq)) rfl b8 (Za rfl rfl (Zm (v := Vi ((ar.length : Int))) rfl rfl ?_))))))))))))))))))
      obtain ⟨ed, db, aa⟩ := Zg aa
      refine Za rfl rfl (Exec.map_put a7 ⟨Tryz.underlying125, Tryz.underlying9, Tryz.underlying3⟩ rfl rfl rfl rfl db ?_)
      intro eL br
      refine Zb (Ze (W_dl (n0 := 10) (qs 0 4 (.q 5 (.q 6 (.e 4 [0, 1, 2, 5, 6] (.q 7 (.e 8 [0] (.e 9 [] .done))))))) hmix (by kernel_rfl) (by kernel_rfl) (DL_q rfl rfl (Zm (v := u) rfl a1 ⟨rfl, ?_⟩))))
      refine DL_q rfl rfl (Zp F56_0 rfl aC rfl ⟨rfl, ?_⟩)
      refine DL_q rfl rfl (Zn ((br.drew).f2) A9 rfl rfl rfl ⟨rfl, ?_⟩)
      refine DL_q rfl rfl (Zm (v := p) rfl cI ⟨rfl, ?_⟩)
      refine DL_q rfl rfl (Zm (v := Vi (g)) rfl aD ⟨rfl, ?_⟩)
      refine DL_q rfl rfl (Exec.geq rfl rfl rfl ⟨rfl, ?_⟩)
      obtain ⟨a2, dc, aa⟩ := Zg aa
      refine DL_e rfl rfl (Tc rfl rfl rfl (Zi rfl args_nil) (invariant_quoted_o_sim dc (br.drew).f3  (ht.mono (Zt (Zt (Zt (Zt ab j) n) o) b2))).r ?_)
      rintro _ eM ⟨dp, cB, bs, rfl⟩
      refine ⟨(ag_cons (ag_r rfl rfl (Zm (v := u) rfl a1 ⟨rfl, rfl⟩)) (ag_cons (ag_r rfl rfl (Zp F56_0 rfl aC rfl ⟨rfl, rfl⟩)) (ag_cons (ag_r rfl rfl (Zn ((bs).f3) A9 rfl rfl rfl ⟨rfl, rfl⟩)) (ag_cons (ag_r rfl rfl (Zm (v := Vi (g)) rfl aD ⟨rfl, rfl⟩)) (ag_cons (ag_r rfl rfl (Exec.geq rfl rfl rfl ⟨rfl, rfl⟩)) ag_nil))))), ?_⟩
      refine DL_q rfl rfl (Exec.build rfl (parts_cons (c := [Value.string (d.Name)]) (cells_of rfl rfl) (parts_cons (c := [Value.string (a2)]) (cells_of rfl rfl) (parts_cons (c := [Value.bool (decide (0 ≤ g))]) (cells_of rfl rfl) parts_nil))) (v := Value.agg #[Value.slice none 0 0, Value.string (d.Name), Value.string (a2), Value.bool (decide (0 ≤ g))]) (fun _ => by kernel_rfl) ⟨rfl, ?_⟩)
      refine DL_e rfl rfl (Exec.buildSlice (Te := 93) (cs := [Value.slice none 0 0, Value.string (d.Name), Value.string (a2), Value.bool (decide (0 ≤ g))]) bs rfl (parts_cons (c := [Value.slice none 0 0, Value.string (d.Name), Value.string (a2), Value.bool (decide (0 ≤ g))]) (cells_of rfl rfl) parts_nil) (fun _ => by kernel_rfl) ?_)
      intro d9 eN ct
      refine ⟨(ag_cons (ag_r rfl rfl (Zm (v := u) rfl a1 ⟨rfl, rfl⟩)) ag_nil), ?_⟩
      obtain ⟨ea, dd, aa⟩ := Zg aa
      refine DL_e rfl rfl (Exec.append_sg (y := (⟨[], d.Name, a2, decide (0 ≤ g)⟩ : invariant_simple)) (ct).f3 S89 Z93 rfl (by decide) rfl rfl rfl rfl ⟨[_], [_, _], rfl, rfl, ⟨[_], [_], rfl, rfl, rfl⟩⟩ rfl dd ?_)
      intro bP eO cu
      refine ⟨ag_nil, ?_⟩
      refine DL_done (Za rfl rfl (Zo (v := bP) rfl rfl (Zb (Ze ?_))))
      have dH := Zu aa
      subst aE
      exact ⟨dp, bP, cB, (((((cu).f1).drop).f2).f1).f2, aB, rfl, b7, aC, aD, rfl, b9, bA, bB⟩
     refine W_cond_f rfl ay ?_
     replace ay := Zk ay
     refine W_skip (Ze ?_)
     have dI := Zu aa
     subst aE
     exact ⟨bL, u, (Zv _), (((((a7).f3).drop).f2).f2).f2, aB, a1, b7, aC, aD, rfl, b9, bA, bB⟩
    intro dR eP bY
    obtain ⟨aA, b3, b4⟩ := aE
    replace a := un3_eq a
    obtain ⟨dq, av, cC, bt, cJ, aW, bC, cK, cL, bD, cM, cN, cO⟩ := bY
    refine (Ze (Zd (Za rfl rfl (Zm (v := av) rfl aW (Za rfl rfl (Zm (v := Vi (aA)) rfl bD (Za rfl rfl (Zm (v := av) rfl aW (Za rfl rfl (Zm (v := Vi (aA)) rfl bD ?_))))))))))
    obtain ⟨eV, ao, a⟩ := Zg a
    obtain ⟨dU, dE, a3⟩ := ((bt).f1).sg_at ao
    refine Za rfl rfl (Exec.index_slice S89 rfl a3 rfl (idx_some ao).1 (idx_some ao).2.1 (Za rfl rfl (Zp F93_0 rfl rfl rfl (Za rfl rfl (Exec.load_sg (bt).f1 a3 A24 rfl rfl rfl ao ?_)))))
    intro dV dX c4 cv
    refine Za rfl rfl (Zm (v := Vi ((i : Int))) rfl bC (Za rfl rfl (Exec.buildSlice (Te := 3) (cs := [Vi ((i : Int))]) cv rfl (parts_cons (c := [Vi ((i : Int))]) (cells_of rfl rfl) parts_nil) (fun _ => by kernel_rfl) ?_)))
    intro dA eQ cw
    obtain ⟨eb, de, a⟩ := Zg a
    refine Za rfl rfl (Exec.append_box (E := (encInt .i64)) (ys := [(i : Int)]) (cw).f1 S24 Z3 rfl (by decide) rfl rfl rfl rfl ⟨[Vi ((i : Int))], [], rfl, rfl, rfl⟩ rfl de ?_)
    intro ew eR cx
    refine Za rfl rfl (Exec.index_slice S89 rfl a3 rfl (idx_some ao).1 (idx_some ao).2.1 (Za rfl rfl (Zp F93_0 rfl rfl rfl ?_)))
    obtain ⟨ec, df, a⟩ := Zg a
    refine Za rfl rfl (Exec.store_sg (set := fun (c : invariant_simple) l => { c with atoms := l }) (((cx).f2).f2).f2 c4 a3 A24 rfl rfl rfl rfl (fun _ _ => rfl) (fun _ _ => rfl) ao df ?_)
    intro eS cy
    refine Zb (ib_normal (Ze (Zd (Za rfl rfl (Zm (v := Vi (g)) rfl cL (Za rfl rfl (Exec.add rfl rfl rfl (Za rfl rfl (Zo (v := Vi (IntKind.i64.wrap (g + 1))) rfl rfl (Zb (Ze ?_)))))))))))
    have dJ := Zu a
    subst bj
    refine ⟨_, rfl, ?_⟩; exact ⟨dq, av, (Zt (Zt (Zt (Zt j n) o) b2) cC), (((cy).f2).f1).f2, cJ, aW, bC, cK, rfl, cM, cN, cO⟩
   refine W_cond_f rfl aw ?_
   replace aw := Zk aw
   refine W_exit (at_exit (at_exit (ib_here (Ze ?_))))
   have dK := Zu a
   subst bj
   refine ⟨_, .inr (c6 (by intro _ h; cases h)), ?_⟩; exact ⟨di, u, j, (((a4).f2).f2).f2, aK, aL, aM, az, am, aN, aO, aP⟩
  rintro dS eT ⟨dx, bu, bZ⟩
  have ag := bu.elim (c5 _) (c2 _)
  clear bu
  obtain ⟨bv, bw, bx⟩ := dx
  replace ag := un3_eq ag
  obtain ⟨dr, aF, cD, cz, cP, cQ, ef, eg, eh, cR, cS, cT⟩ := bZ
  refine (ib_normal (Ze (Zd (Za rfl rfl (Exec.add rfl cT rfl (Za rfl rfl (Zm (v := Vi (IntKind.i64.wrap ((i : Int) + 1))) rfl rfl (Zb (Ze ?_)))))))))
  have dL := Zu ag
  subst dh
  exact ⟨dr, aF, (Zt ab cD), ((((cz).f2).drop).f1).f1, cP, cQ, cR, cS, (Eq.trans rfl (wrap_up c3 (SliceRep.le aH)))⟩
 intro dT eU bV
 obtain ⟨aJ, aI⟩ := du
 replace hm := un2_eq hm
 obtain ⟨ep, ak, cE, c0, ei, cU, ej, cV, dy⟩ := bV
 refine Zc (Zd (Za rfl rfl (Zq rfl dy cV (Zb (Ze (Zc (W_false (Zx (decide_eq_false (by omega))) (W_exit (at_exit (at_exit (ib_here (Ze (Zc (Zd (Za rfl rfl (Zm (v := ak) rfl cU (Za rfl rfl (Zo (v := ak) rfl rfl (Zb (Ze (W_ret ?_)))))))))))))))))))))
 have dM := Zu hm
 subst r
 refine ⟨_, ret1 rfl, ?_⟩
 obtain ⟨dt, cF, c1, dg⟩ := (c0).f1.freezeSg
 exact ⟨dt, ak, (Zt cE cF), (c1).drop, rfl, dg⟩
theorem A93 : tyAgg Tryz.prog 93 = some (true, 4) := by kernel_rfl
theorem slices_Clone_int_sim {w0 w : World} {s : PHeap} {H : List Res} {b : (List Int)} {c : Value} {r : (List Int)} (hm : slices_Clone_int_p b = some r) (hS : St w0 s (H) w) (d : SliceRep (encInt .i64) s c b) :
  Calls Tryz.prog 29 #[c] w fun e w' => ∃ v, e = .returned v ∧ ((fun (u : (List Int)) => ∃ (g : PHeap) (h : Value), PHeap.le s g ∧ St w0 g (Res.arr (encInt .i64) 3 h u :: H) w' ∧ v = h) r) := by
 unfold slices_Clone_int_p at hm
 refine calls_of_W Tryz.func29 rfl rfl (Zc (Zd (Za rfl rfl (Zo (v := Value.slice none 0 0) rfl rfl (Zb (Ze (Zc (Zc (Zd (Za rfl rfl (Zm (v := c) rfl rfl ?_)))))))))))
 obtain ⟨j, ab, y, k, p⟩ := (d).nilShape
 refine Za rfl rfl (Exec.slice_eql_nil Tryz.underlying24 rfl k rfl (Zb (Ze ?_)))
 by_cases a : j.isNone = true
 ·have q := p a
  replace hm := (show (some []) = ((app 8 [] b).bind fun f => some f) from by simp [q, app]).trans hm
  refine W_true ((Zx a)) (Zc (Zd (Za rfl rfl (Zo (v := Value.slice none 0 0) rfl rfl (Zb (Ze (W_ret (at_ret ?_))))))))
  have z := Zu hm
  subst r
  refine ⟨_, ret1 rfl, ?_⟩
  have l := hS.nilArr (encInt .i64) 3
  exact ⟨s, (Value.slice none 0 0), (Zv _), l, rfl⟩
 replace a := Zk a
 refine W_false ((Zx a)) (W_skip (Ze (Zc (Zd (Za rfl rfl (Exec.buildSlice (Te := 3) (cs := []) hS rfl parts_nil (fun _ => by kernel_rfl) ?_))))))
 intro x ac m
 refine Za rfl rfl (Zm (v := c) rfl rfl ?_)
 have n := St.boxArr (E := (encInt .i64)) (xs := []) m rfl (by simp [maxLen])
 obtain ⟨f, t, hm⟩ := Zg hm
 refine Za rfl rfl (Exec.append_rep (E := (encInt .i64)) (ys := b) n S24 Z3 rfl (by decide) rfl rfl rfl d t ?_)
 intro i ad o
 refine Za rfl rfl (Zo (v := i) rfl rfl (Zb (Ze (W_ret ?_))))
 have aa := Zu hm
 subst r
 refine ⟨_, ret1 rfl, ?_⟩
 exact ⟨s, i, (Zv _), o, rfl⟩
theorem S36 : tySlice Tryz.prog 36 = some (24, 1, 24) := by kernel_rfl
theorem Z24 : tyZero Tryz.prog 24 = some (Value.slice none 0 0) := by kernel_rfl
theorem F93_2 : tyField Tryz.prog 93 2 = some 2 := by kernel_rfl
theorem bits_Len64_sim {w0 w : World} {s : PHeap} {H : List Res} {i : Int}  {r : Int} (hm : bits_Len64_p i = some r) (hS : St w0 s (H) w)  :
  Calls Tryz.prog 100 #[Value.int .u64 (i)] w fun e w' => ∃ v, e = .returned v ∧ ((fun (aq : Int) => ∃ (af : PHeap) , PHeap.le s af ∧ St w0 af (H) w' ∧ v = Vi (aq)) r) := by
 unfold bits_Len64_p at hm
 refine calls_of_W Tryz.func100 rfl rfl (Zc (Zd (Za rfl rfl (Zo (v := Vi (0)) rfl rfl (Zb (Ze (Zc (Zc (Zd (Za rfl rfl (Zm (v := Value.int .u64 (i)) rfl rfl (Za rfl rfl (Exec.geq rfl rfl rfl (Zb (Ze ?_)))))))))))))))
 obtain ⟨p, d, hm⟩ := Zg hm
 refine W_mid (M := fun f' w' => (un2 fun (j : Int) (l : Int) => ∃ (ag : PHeap) , PHeap.le s ag ∧ St w0 ag (H) w' ∧ f' 0 = Value.int .u64 (j) ∧ f' 2 = Vi (l)) p) ?_ ?_
 ·rcases ite_some d with ⟨a, d⟩ | ⟨a, d⟩
  ·refine W_cond_t rfl a (Zc (Zd (Za rfl rfl (Zm (v := Value.int .u64 (i)) rfl rfl (Za rfl rfl (Exec.shr_const (n := 32) rfl (by decide) rfl rfl rfl (Za rfl rfl (Zo (v := Value.int .u64 (i.fdiv (2 ^ 32))) rfl rfl (Zb (Ze (Zd (Za rfl rfl (Zo (v := Vi (32)) rfl rfl (Zb (Ze ?_)))))))))))))))
   have ay := Zu d
   subst p
   exact ⟨s, (Zv _), hS, rfl, rfl⟩
  refine W_cond_f rfl a ?_
  replace a := Zk a
  refine W_skip (Ze ?_)
  have az := Zu d
  subst p
  exact ⟨s, (Zv _), hS, rfl, rfl⟩
 intro a5 a8 aj
 obtain ⟨j, l⟩ := p
 replace hm := un2_eq hm
 obtain ⟨y, an, ab, u, ad⟩ := aj
 refine (Ze (Zc (Zc (Zd (Za rfl rfl (Zm (v := Value.int .u64 (j)) rfl u (Za rfl rfl (Exec.geq rfl rfl rfl (Zb (Ze ?_))))))))))
 obtain ⟨q, g, hm⟩ := Zg hm
 refine W_mid (M := fun f' w' => (un2 fun (k : Int) (m : Int) => ∃ (ah : PHeap) , PHeap.le y ah ∧ St w0 ah (H) w' ∧ f' 0 = Value.int .u64 (k) ∧ f' 2 = Vi (m)) q) ?_ ?_
 ·rcases ite_some g with ⟨b, g⟩ | ⟨b, g⟩
  ·refine W_cond_t rfl b (Zc (Zd (Za rfl rfl (Zm (v := Value.int .u64 (j)) rfl u (Za rfl rfl (Exec.shr_const (n := 16) rfl (by decide) rfl rfl rfl (Za rfl rfl (Zo (v := Value.int .u64 (j.fdiv (2 ^ 16))) rfl rfl (Zb (Ze (Zd (Za rfl rfl (Zm (v := Vi (l)) rfl ad (Za rfl rfl (Exec.add rfl rfl rfl (Za rfl rfl (Zo (v := Vi (IntKind.i64.wrap (l + 16))) rfl rfl (Zb (Ze ?_)))))))))))))))))))
   have a0 := Zu g
   subst q
   exact ⟨y, (Zv _), ab, rfl, rfl⟩
  refine W_cond_f rfl b ?_
  replace b := Zk b
  refine W_skip (Ze ?_)
  have a1 := Zu g
  subst q
  exact ⟨y, (Zv _), ab, u, ad⟩
 intro a6 a9 ak
 obtain ⟨k, m⟩ := q
 replace hm := un2_eq hm
 obtain ⟨z, ao, ac, x, ae⟩ := ak
 refine (Ze (Zc (Zc (Zd (Za rfl rfl (Zm (v := Value.int .u64 (k)) rfl x (Za rfl rfl (Exec.geq rfl rfl rfl (Zb (Ze ?_))))))))))
 obtain ⟨t, h, hm⟩ := Zg hm
 refine W_mid (M := fun f' w' => (un2 fun (aa : Int) (o : Int) => ∃ (ai : PHeap) , PHeap.le z ai ∧ St w0 ai (H) w' ∧ f' 0 = Value.int .u64 (aa) ∧ f' 2 = Vi (o)) t) ?_ ?_
 ·rcases ite_some h with ⟨c, h⟩ | ⟨c, h⟩
  ·refine W_cond_t rfl c (Zc (Zd (Za rfl rfl (Zm (v := Value.int .u64 (k)) rfl x (Za rfl rfl (Exec.shr_const (n := 8) rfl (by decide) rfl rfl rfl (Za rfl rfl (Zo (v := Value.int .u64 (k.fdiv (2 ^ 8))) rfl rfl (Zb (Ze (Zd (Za rfl rfl (Zm (v := Vi (m)) rfl ae (Za rfl rfl (Exec.add rfl rfl rfl (Za rfl rfl (Zo (v := Vi (IntKind.i64.wrap (m + 8))) rfl rfl (Zb (Ze ?_)))))))))))))))))))
   have a2 := Zu h
   subst t
   exact ⟨z, (Zv _), ac, rfl, rfl⟩
  refine W_cond_f rfl c ?_
  replace c := Zk c
  refine W_skip (Ze ?_)
  have a3 := Zu h
  subst t
  exact ⟨z, (Zv _), ac, x, ae⟩
 intro a7 aA al
 obtain ⟨aa, o⟩ := t
 replace hm := un2_eq hm
 obtain ⟨aw, ap, am, ar, au⟩ := al
 refine (Ze (Zc (Zd (Za rfl rfl (Zm (v := Vi (o)) rfl au (Za rfl rfl (Zm (v := Value.int .u64 (aa)) rfl ar ?_)))))))
 refine Za rfl rfl (Exec.convert_int (by rw [Tryz.underlying155]; rfl) Tryz.underlying5 rfl rfl ?_)
 obtain ⟨ax, av, hm⟩ := Zg hm
 refine Za rfl rfl (Exec.index_str Tryz.underlying9 rfl rfl rfl av ?_)
 refine Za rfl rfl (Exec.convert_int (by rw [Tryz.underlying5]; rfl) Tryz.underlying3 rfl rfl ?_)
 refine Za rfl rfl (Exec.add rfl rfl rfl (Za rfl rfl (Zo (v := Vi (IntKind.i64.wrap (o + (IntKind.i64.wrap ax)))) rfl rfl (Zb (Ze (W_ret ?_))))))
 have a4 := Zu hm
 subst r
 refine ⟨_, ret1 rfl, ?_⟩
 exact ⟨aw, (Zt (Zt an ao) ap), am, rfl⟩
theorem bits_Len_sim {w0 w : World} {s : PHeap} {H : List Res} {a : Int}  {r : Int} (hm : bits_Len_p a = some r) (hS : St w0 s (H) w)  :
  Calls Tryz.prog 79 #[Value.int .u64 (a)] w fun e w' => ∃ v, e = .returned v ∧ ((fun (i : Int) => ∃ (b : PHeap) , PHeap.le s b ∧ St w0 b (H) w' ∧ v = Vi (i)) r) := by
 unfold bits_Len_p at hm
 refine calls_of_W Tryz.func79 rfl rfl (Zc (Zd (Za rfl rfl (Zo (v := Vi (0)) rfl rfl (Zb (Ze (Zc (W_false rfl (W_skip (Ze (Zc (Zd (Za rfl rfl (Zm (v := Value.int .u64 (a)) rfl rfl ?_))))))))))))))
 obtain ⟨f, g, hm⟩ := Zg hm
 refine Za rfl rfl (Tc rfl rfl rfl (Zi rfl args_nil) (bits_Len64_sim g hS ).r ?_)
 rintro _ k ⟨h, d, c, rfl⟩
 refine Za rfl rfl (Zo (v := Vi (f)) rfl rfl (Zb (Ze (W_ret ?_))))
 have j := Zu hm
 subst r
 refine ⟨_, ret1 rfl, ?_⟩
 exact ⟨h, d, c, rfl⟩
theorem cmp_isNaN_int_sim {w0 w : World} {s : PHeap} {H : List Res} {a : Int}  {r : Bool} (hm : cmp_isNaN_int_p a = some r) (hS : St w0 s (H) w)  :
  Calls Tryz.prog 85 #[Vi (a)] w fun e w' => ∃ v, e = .returned v ∧ ((fun (c : Bool) => ∃ (b : PHeap) , PHeap.le s b ∧ St w0 b (H) w' ∧ v = Value.bool (c)) r) := by
 unfold cmp_isNaN_int_p at hm
 refine calls_of_W Tryz.func85 rfl rfl (Zc (Zd (Za rfl rfl (Zo (v := Value.bool (false)) rfl rfl (Zb (Ze (Zc (Zd (Za rfl rfl (Zm (v := Vi (a)) rfl rfl (Za rfl rfl (Zm (v := Vi (a)) rfl rfl (Za rfl rfl (Exec.neq rfl rfl rfl (Za rfl rfl (Zo (v := Value.bool (!decide (a = a))) rfl rfl (Zb (Ze (W_ret ?_)))))))))))))))))))
 have d := Zu hm
 subst r
 refine ⟨_, ret1 rfl, ?_⟩
 exact ⟨s, (Zv _), hS, rfl⟩
theorem cmp_Compare_int_sim {w0 w : World} {s : PHeap} {H : List Res} {b : Int} {a : Int}  {r : Int} (hm : cmp_Compare_int_p b a = some r) (hS : St w0 s (H) w)  :
  Calls Tryz.prog 81 #[Vi (b), Vi (a)] w fun e w' => ∃ v, e = .returned v ∧ ((fun (o : Int) => ∃ (m : PHeap) , PHeap.le s m ∧ St w0 m (H) w' ∧ v = Vi (o)) r) := by
 unfold cmp_Compare_int_p at hm
 refine calls_of_W Tryz.func81 rfl rfl (Zc (Zd (Za rfl rfl (Zo (v := Vi (0)) rfl rfl (Zb (Ze (Zc (Zd (Za rfl rfl (Zm (v := Vi (b)) rfl rfl (Za rfl rfl (Tc rfl rfl rfl (Zi rfl args_nil) (cmp_isNaN_int_sim (cmp_isNaN_int_tot b) hS ).r ?_))))))))))))
 rintro _ aa ⟨z, d, n, rfl⟩
 refine Za rfl rfl (Zo (v := Value.bool ((cmp_isNaN_int_t b))) rfl rfl (Zb (Ze (Zc (Zd (Za rfl rfl (Zm (v := Vi (a)) rfl rfl (Za rfl rfl (Tc rfl rfl rfl (Zi rfl args_nil) (cmp_isNaN_int_sim (cmp_isNaN_int_tot a) n ).r ?_)))))))))
 rintro _ ab ⟨g, f, c, rfl⟩
 refine Za rfl rfl (Zo (v := Value.bool ((cmp_isNaN_int_t a))) rfl rfl (Zb (Ze (Zc (Zc (Zd (Za rfl rfl (Zm (v := Value.bool ((cmp_isNaN_int_t b))) rfl rfl (Zb (Ze ?_))))))))))
 rcases ite_some hm with ⟨h, hm⟩ | ⟨h, hm⟩
 ·refine W_cond_t rfl h (Zc (Zc (Zd (Za rfl rfl (Zm (v := Value.bool ((cmp_isNaN_int_t a))) rfl rfl (Zb (Ze ?_)))))))
  rcases ite_some hm with ⟨i, hm⟩ | ⟨i, hm⟩
  ·refine W_cond_t rfl i (Zc (Zd (Za rfl rfl (Zo (v := Vi (0)) rfl rfl (Zb (Ze (W_ret (at_ret (at_ret ?_)))))))))
   have p := Zu hm
   subst r
   refine ⟨_, ret1 rfl, ?_⟩
   exact ⟨g, (Zt d f), c, rfl⟩
  refine W_cond_f rfl i ?_
  replace i := Zk i
  refine W_skip (Ze (Zc (Zd (Za rfl rfl (Zo (v := Vi ((-1))) rfl rfl (Zb (Ze (W_ret (at_ret ?_)))))))))
  have q := Zu hm
  subst r
  refine ⟨_, ret1 rfl, ?_⟩
  exact ⟨g, (Zt d f), c, rfl⟩
 refine W_cond_f rfl h ?_
 replace h := Zk h
 refine W_skip (Ze (Zc (Zc (Zd (Za rfl rfl (Zm (v := Value.bool ((cmp_isNaN_int_t a))) rfl rfl (Zb (Ze ?_))))))))
 rcases ite_some hm with ⟨j, hm⟩ | ⟨j, hm⟩
 ·refine W_cond_t rfl j (Zc (Zd (Za rfl rfl (Zo (v := Vi (1)) rfl rfl (Zb (Ze (W_ret (at_ret ?_))))))))
  have t := Zu hm
  subst r
  refine ⟨_, ret1 rfl, ?_⟩
  exact ⟨g, (Zt d f), c, rfl⟩
 refine W_cond_f rfl j ?_
 replace j := Zk j
 refine W_skip (Ze (Zc (Zc (Zd (Za rfl rfl (Zm (v := Vi (b)) rfl rfl (Za rfl rfl (Zm (v := Vi (a)) rfl rfl (Za rfl rfl (Zq rfl rfl rfl (Zb (Ze ?_))))))))))))
 rcases ite_some hm with ⟨k, hm⟩ | ⟨k, hm⟩
 ·refine W_cond_t rfl k (Zc (Zd (Za rfl rfl (Zo (v := Vi ((-1))) rfl rfl (Zb (Ze (W_ret (at_ret ?_))))))))
  have u := Zu hm
  subst r
  refine ⟨_, ret1 rfl, ?_⟩
  exact ⟨g, (Zt d f), c, rfl⟩
 refine W_cond_f rfl k ?_
 replace k := Zk k
 refine W_skip (Ze (Zc (Zc (Zd (Za rfl rfl (Zm (v := Vi (b)) rfl rfl (Za rfl rfl (Zm (v := Vi (a)) rfl rfl (Za rfl rfl (Exec.gtr rfl rfl rfl (Zb (Ze ?_))))))))))))
 rcases ite_some hm with ⟨l, hm⟩ | ⟨l, hm⟩
 ·refine W_cond_t rfl l (Zc (Zd (Za rfl rfl (Zo (v := Vi (1)) rfl rfl (Zb (Ze (W_ret (at_ret ?_))))))))
  have x := Zu hm
  subst r
  refine ⟨_, ret1 rfl, ?_⟩
  exact ⟨g, (Zt d f), c, rfl⟩
 refine W_cond_f rfl l ?_
 replace l := Zk l
 refine W_skip (Ze (Zc (Zd (Za rfl rfl (Zo (v := Vi (0)) rfl rfl (Zb (Ze (W_ret ?_))))))))
 have y := Zu hm
 subst r
 refine ⟨_, ret1 rfl, ?_⟩
 exact ⟨g, (Zt d f), c, rfl⟩
theorem N53 : (Tryz.f53.name == "runtime.NumGoroutine") = false := by kernel_rfl
theorem slices_Compare_int_sim {w0 w : World} {s : PHeap} {H : List Res} {t : (List Int)} {ak : (List Int)} {b : Value} {c : Value} {r : Int} (hm : slices_Compare_int_p t ak = some r) (hS : St w0 s (H) w) (o : SliceRep (encInt .i64) s b t) (x : SliceRep (encInt .i64) s c ak) :
  Calls Tryz.prog 53 #[b, c] w fun e w' => ∃ v, e = .returned v ∧ ((fun (aJ : Int) => ∃ (al : PHeap) , PHeap.le s al ∧ St w0 al (H) w' ∧ v = Vi (aJ)) r) := by
 unfold slices_Compare_int_p at hm
 refine calls_of_W Tryz.func53 rfl rfl (Zc (Zd (Za rfl rfl (Zo (v := Vi (0)) rfl rfl (Zb (Ze (Zc (Zc (Zd (Za rfl rfl (Zm (v := b) rfl rfl (Za rfl rfl (Zr S24 rfl rfl o (Za rfl rfl (Zm (v := Vi (0)) rfl rfl (Zb (Ze ?_)))))))))))))))))
 obtain ⟨aa, au, ae, a1, az⟩ := ctl_some hm
 refine W_mid (M := fun f' w' => ∃ s', (aa = .next s' ∨ aa = .brk s') ∧ (fun (_ : Unit) => ∃ (am : PHeap) , PHeap.le s am ∧ St w0 am (H) w' ∧ f' 0 = b ∧ f' 1 = c ∧ f' 9 = b ∧ f' 10 = Vi ((t.length : Int))) s') ?_ ?_
 ·refine W_block (W_forC (fun k' s' f' w' => (fun (_ : Unit) => ∃ (an : PHeap) , PHeap.le s an ∧ St w0 an (H) w' ∧ f' 0 = b ∧ f' 1 = c ∧ f' 9 = b ∧ f' 10 = Vi ((t.length : Int)) ∧ f' 11 = Vi (k' : Int)) s') au ?_ ?_ ?_)
  ·exact ⟨s, (Zv _), hS, rfl, rfl, rfl, rfl, rfl⟩
  ·intro n ba y aT bf a0 av a af
   obtain ⟨aG, i, p, a6, z, ah, ai, u⟩ := av
   refine Zc (Zd (Za rfl rfl (Zq rfl u ai (Zb (Ze (Zc (W_true (Zx (decide_eq_true (by omega))) (W_skip (Ze (Zc (W_block (Zc (Zd (Za rfl rfl (Zm (v := Vi ((n : Int))) rfl u ?_)))))))))))))))
   obtain ⟨d, aC, a⟩ := Zg a
   refine Za rfl rfl (Exec.index_rep S24 rfl ah u (o.mono i) aC ?_)
   intro aK aW aq
   refine Za rfl rfl (Zw (E := (encInt .i64)) p A3 rfl rfl rfl aq ?_)
   intro bd aD
   obtain rfl := encInt_val.1 aD
   refine Za rfl rfl (Zo (v := Vi ((n : Int))) rfl rfl (Za rfl rfl (Zo (v := Vi (d)) rfl rfl (Zb (Ze (Zc (Zc (Zd (Za rfl rfl (Zm (v := Vi ((n : Int))) rfl rfl (Za rfl rfl (Zm (v := c) rfl z (Za rfl rfl (Zr S24 rfl rfl (x.mono i) (Za rfl rfl (Exec.geq rfl rfl rfl (Zb (Ze ?_))))))))))))))))))
   rcases ite_some a with ⟨j, a⟩ | ⟨j, a⟩
   ·refine W_cond_t rfl j (Zc (Zd (Za rfl rfl (Zo (v := Vi (1)) rfl rfl (Zb (Ze (W_ret (at_ret (ib_ret (at_ret (at_ret (ib_ret (at_ret (at_ret ?_))))))))))))))
    have aM := Zu a
    subst y
    have a2 := ae _ (af (by intro _ h; cases h))
    have aN := Zu a2
    subst r
    refine ⟨_, ret1 rfl, ?_⟩
    exact ⟨aG, i, p, rfl⟩
   refine W_cond_f rfl j ?_
   replace j := Zk j
   refine W_skip (Ze (Zc (Zd (Za rfl rfl (Zm (v := c) rfl z (Za rfl rfl (Zm (v := Vi ((n : Int))) rfl rfl ?_)))))))
   obtain ⟨g, aE, a⟩ := Zg a
   refine Za rfl rfl (Exec.index_rep S24 rfl rfl rfl (x.mono i) aE ?_)
   intro aL aX ar
   refine Za rfl rfl (Zw (E := (encInt .i64)) p A3 rfl rfl rfl ar ?_)
   intro be aF
   obtain rfl := encInt_val.1 aF
   refine Za rfl rfl (Zo (v := Vi (g)) rfl rfl (Zb (Ze (Zc (Zd (Za rfl rfl (Zm (v := Vi (d)) rfl rfl (Za rfl rfl (Zm (v := Vi (g)) rfl rfl (Za rfl rfl (Tc rfl rfl rfl (Zi rfl (Zi rfl args_nil)) (cmp_Compare_int_sim (cmp_Compare_int_tot d g) p ).r ?_)))))))))))
   rintro _ bg ⟨ao, ag, ab, rfl⟩
   refine Za rfl rfl (Zo (v := Vi ((cmp_Compare_int_t d g))) rfl rfl (Zb (Ze (Zc (Zd (Za rfl rfl (Zm (v := Vi ((cmp_Compare_int_t d g))) rfl rfl (Za rfl rfl (Exec.neq rfl rfl rfl (Zb (Ze ?_)))))))))))
   rcases ite_some a with ⟨l, a⟩ | ⟨l, a⟩
   ·refine W_cond_t rfl l (Zc (Zd (Za rfl rfl (Zm (v := Vi ((cmp_Compare_int_t d g))) rfl rfl (Za rfl rfl (Zo (v := Vi ((cmp_Compare_int_t d g))) rfl rfl (Zb (Ze (W_ret (ib_ret (at_ret (at_ret (ib_ret (at_ret (at_ret ?_)))))))))))))))
    have aO := Zu a
    subst y
    have a3 := ae _ (af (by intro _ h; cases h))
    have aP := Zu a3
    subst r
    refine ⟨_, ret1 rfl, ?_⟩
    exact ⟨ao, (Zt i ag), ab, rfl⟩
   refine W_cond_f rfl l ?_
   replace l := Zk l
   refine W_skip (ib_normal (Ze (Zd (Za rfl rfl (Exec.add rfl u rfl (Za rfl rfl (Zm (v := Vi (IntKind.i64.wrap ((n : Int) + 1))) rfl rfl (Zb (Ze ?_)))))))))
   have aQ := Zu a
   subst y
   refine ⟨_, rfl, ?_⟩; exact ⟨ao, (Zt i ag), ab, a6, z, ah, ai, (Eq.trans rfl (wrap_up a0 (SliceRep.le o)))⟩
  intro bb aU bh aw a4
  obtain ⟨aH, a5, ay, a7, a8, a9, aj, aI⟩ := aw
  refine Zc (Zd (Za rfl rfl (Zq rfl aI aj (Zb (Ze (Zc (W_false (Zx (decide_eq_false (by omega))) (W_exit (at_exit (at_exit (ib_here (Ze ?_))))))))))))
  refine ⟨_, .inl a4, ?_⟩; exact ⟨aH, a5, ay, a7, a8, a9, aj⟩
 rintro aV bi ⟨bc, ad, ax⟩
 have hm := ad.elim (a1 _) (az _)
 clear ad
 obtain ⟨ap, q, ac, aA, aB, aY, aZ⟩ := ax
 refine (Ze (Zc (Zc (Zd (Za rfl rfl (Zm (v := b) rfl aA (Za rfl rfl (Zr S24 rfl rfl (o.mono q) (Za rfl rfl (Zm (v := c) rfl aB (Za rfl rfl (Zr S24 rfl rfl (x.mono q) (Za rfl rfl (Zq rfl rfl rfl (Zb (Ze ?_))))))))))))))))
 rcases ite_some hm with ⟨m, hm⟩ | ⟨m, hm⟩
 ·refine W_cond_t rfl m (Zc (Zd (Za rfl rfl (Zo (v := Vi ((-1))) rfl rfl (Zb (Ze (W_ret (at_ret ?_))))))))
  have aR := Zu hm
  subst r
  refine ⟨_, ret1 rfl, ?_⟩
  exact ⟨ap, q, ac, rfl⟩
 refine W_cond_f rfl m ?_
 replace m := Zk m
 refine W_skip (Ze (Zc (Zd (Za rfl rfl (Zo (v := Vi (0)) rfl rfl (Zb (Ze (W_ret ?_))))))))
 have aS := Zu hm
 subst r
 refine ⟨_, ret1 rfl, ?_⟩
 exact ⟨ap, q, ac, rfl⟩
theorem slices_insertionSortCmpFunc_int_o_Compare_sim {w0 w : World} {s : PHeap} {H : List Res} {ap : (List (List Int))} {g : Int} {l : Int} {a : Value} {r : (List (List Int))} (hm : slices_insertionSortCmpFunc_int_o_Compare_p ap g l = some r) (hS : St w0 s (Res.arr (encSlice (encInt .i64)) 24 a ap :: H) w)  :
  Calls Tryz.prog 101 #[a, Vi (g), Vi (l), Value.func (.func 53) #[] #[]] w fun e w' => ∃ v, e = .returned v ∧ ((fun (bj : (List (List Int))) => ∃ (aK : PHeap) , PHeap.le s aK ∧ St w0 aK (Res.arr (encSlice (encInt .i64)) 24 a bj :: H) w' ∧ v = Value.tuple #[]) r) := by
 unfold slices_insertionSortCmpFunc_int_o_Compare_p at hm
 refine calls_of_W Tryz.func101 rfl rfl (Zc (Zd (Za rfl rfl (Zm (v := Vi (g)) rfl rfl (Za rfl rfl (Exec.add rfl rfl rfl (Za rfl rfl (Zo (v := Vi (IntKind.i64.wrap (g + 1))) rfl rfl (Zb (Ze ?_))))))))))
 obtain ⟨al, aS, ce, bf, bd⟩ := ctl_some hm
 refine W_mid (M := fun f' w' => ∃ s', (al = .next s' ∨ al = .brk s') ∧ (un2 fun (a2 : Int) (a4 : (List (List Int))) => ∃ (aL : PHeap) , PHeap.le s aL ∧ St w0 aL (Res.arr (encSlice (encInt .i64)) 24 a a4 :: H) w' ∧ f' 0 = a ∧ f' 1 = Vi (g) ∧ f' 2 = Vi (l) ∧ f' 3 = Value.func (.func 53) #[] #[] ∧ f' 8 = Vi (a2)) s') ?_ ?_
 ·refine W_block (W_while (fun s' f' w' => (un2 fun (k : Int) (a5 : (List (List Int))) => ∃ (aM : PHeap) , PHeap.le s aM ∧ St w0 aM (Res.arr (encSlice (encInt .i64)) 24 a a5 :: H) w' ∧ f' 0 = a ∧ f' 1 = Vi (g) ∧ f' 2 = Vi (l) ∧ f' 3 = Value.func (.func 53) #[] #[] ∧ f' 8 = Vi (k)) s') aS ?_ ?_)
  ·exact ⟨s, (Zv _), hS, rfl, rfl, rfl, rfl, rfl⟩
  intro b7 am bT cs aU i bh
  obtain ⟨k, a5⟩ := b7
  replace i := un2_eq i
  obtain ⟨af, a6, ay, aA, aB, ah, aC, aa⟩ := aU
  refine Zc (Zc (Zd (Za rfl rfl (Zm (v := Vi (k)) rfl aa (Za rfl rfl (Zm (v := Vi (l)) rfl ah (Za rfl rfl (Zq rfl rfl rfl (Zb (Ze ?_))))))))))
  rcases ite_some i with ⟨u, i⟩ | ⟨u, i⟩
  ·refine W_cond_t rfl u (W_skip (Ze (Zc (W_block (Zc (Zd (Za rfl rfl (Zm (v := Vi (k)) rfl aa (Za rfl rfl (Zo (v := Vi (k)) rfl rfl (Zb (Ze ?_))))))))))))
   obtain ⟨an, aT, cf, bg, be⟩ := ctl_some i
   refine W_mid (M := fun f' w' => ∃ s', (an = .next s' ∨ an = .brk s') ∧ (un2 fun (a3 : Int) (a7 : (List (List Int))) => ∃ (aN : PHeap) , PHeap.le af aN ∧ St w0 aN (Res.arr (encSlice (encInt .i64)) 24 a a7 :: H) w' ∧ f' 0 = a ∧ f' 1 = Vi (g) ∧ f' 2 = Vi (l) ∧ f' 3 = Value.func (.func 53) #[] #[] ∧ f' 8 = Vi (k) ∧ f' 9 = Vi (a3)) s') ?_ ?_
   ·refine W_block (W_while (fun s' f' w' => (un2 fun (d : Int) (ag : (List (List Int))) => ∃ (aO : PHeap) , PHeap.le af aO ∧ St w0 aO (Res.arr (encSlice (encInt .i64)) 24 a ag :: H) w' ∧ f' 0 = a ∧ f' 1 = Vi (g) ∧ f' 2 = Vi (l) ∧ f' 3 = Value.func (.func 53) #[] #[] ∧ f' 8 = Vi (k) ∧ f' 9 = Vi (d)) s') aT ?_ ?_)
    ·exact ⟨af, (Zv _), ay, aA, aB, ah, aC, aa, rfl⟩
    intro b8 ao bU ct aV b bi
    obtain ⟨d, ag⟩ := b8
    replace b := un2_eq b
    obtain ⟨aP, a8, t, ab, ai, aD, aj, aE, y⟩ := aV
    refine Zc (Zc ?_)
    obtain ⟨z, j, b⟩ := Zg b
    refine W_mid (M := fun f' w' => (fun (z : Bool) => ∃ (aQ : PHeap) , PHeap.le aP aQ ∧ St w0 aQ (Res.arr (encSlice (encInt .i64)) 24 a ag :: H) w' ∧ f' 0 = a ∧ f' 1 = Vi (g) ∧ f' 2 = Vi (l) ∧ f' 3 = Value.func (.func 53) #[] #[] ∧ f' 8 = Vi (k) ∧ f' 9 = Vi (d) ∧ f' 34 = Value.bool (z)) z) ?_ ?_
    ·refine W_dl (n0 := 17) (qs 0 14 (.e 14 [] (.q 15 (.q 16 .done)))) hmix (by kernel_rfl) (by kernel_rfl) (DL_q rfl rfl (Zm (v := Vi (d)) rfl y ⟨rfl, ?_⟩))
     refine DL_q rfl rfl (Zm (v := Vi (g)) rfl ai ⟨rfl, ?_⟩)
     refine DL_q rfl rfl (Exec.gtr rfl rfl rfl ⟨rfl, ?_⟩)
     refine DL_q rfl rfl (Zm (v := Value.bool (decide (g < d))) rfl rfl ⟨rfl, ?_⟩)
     rcases ite_some j with ⟨c, j⟩ | ⟨c, j⟩
     ·refine DL_qg rfl rfl (Zf rfl (Zx c)) (Zm (v := Value.func (.func 53) #[] #[]) rfl aj ⟨rfl, ?_⟩)
      refine DL_qg rfl rfl (Zf rfl (Zx c)) (Zm (v := a) rfl ab ⟨rfl, ?_⟩)
      refine DL_qg rfl rfl (Zf rfl (Zx c)) (Zm (v := Vi (d)) rfl y ⟨rfl, ?_⟩)
      obtain ⟨bB, ac, j⟩ := Zg j
      obtain ⟨bY, bG, aq⟩ := (t.drew).arr_at ac
      refine DL_qg rfl rfl (Zf rfl (Zx c)) (Exec.index_slice S36 rfl aq rfl (idx_some ac).1 (idx_some ac).2.1 ⟨rfl, ?_⟩)
      refine DL_qg rfl rfl (Zf rfl (Zx c)) (Exec.load_arr (F := (encSlice (encInt .i64))) (t.drew) aq A24 rfl rfl rfl ac (Sub.refl _) ?_)
      intro co bs
      have b0 : SliceRep _ _ _ (bB) := encSlice_val.1 bs
      refine ⟨rfl, ?_⟩
      refine DL_qg rfl rfl (Zf rfl (Zx c)) (Zm (v := a) rfl ab ⟨rfl, ?_⟩)
      refine DL_qg rfl rfl (Zf rfl (Zx c)) (Zm (v := Vi (d)) rfl y ⟨rfl, ?_⟩)
      refine DL_qg rfl rfl (Zf rfl (Zx c)) (Exec.sub rfl rfl rfl ⟨rfl, ?_⟩)
      obtain ⟨bC, ad, j⟩ := Zg j
      obtain ⟨bZ, bH, ar⟩ := (t.drew).arr_at ad
      refine DL_qg rfl rfl (Zf rfl (Zx c)) (Exec.index_slice S36 rfl ar rfl (idx_some ad).1 (idx_some ad).2.1 ⟨rfl, ?_⟩)
      refine DL_qg rfl rfl (Zf rfl (Zx c)) (Exec.load_arr (F := (encSlice (encInt .i64))) (t.drew) ar A24 rfl rfl rfl ad (Sub.refl _) ?_)
      intro cp bt
      have b1 : SliceRep _ _ _ (bC) := encSlice_val.1 bt
      refine ⟨rfl, ?_⟩
      obtain ⟨bF, bu, j⟩ := Zg j
      refine DL_eg rfl rfl (Zf rfl (Zx c)) (Exec.callf rfl rfl Tryz.func53 rfl N53 (Zi rfl (Zi rfl args_nil)) ((slices_Compare_int_sim bu t.drew b0 b1).mono ?_))
      rintro _ cu ⟨_, rfl, ⟨b4, bk, aZ, rfl⟩⟩
      refine ⟨_, rfl, ?_⟩
      refine ⟨ag_nil, ?_⟩
      refine DL_qg rfl rfl (Zf rfl (Zx c)) (Zq rfl rfl rfl ⟨rfl, ?_⟩)
      refine DL_q rfl rfl (Zs (v := Value.bool (decide (bF < 0))) rfl (Zx c) rfl ⟨rfl, ?_⟩)
      refine DL_done (Zb (Ze ?_))
      have bM := Zu j
      subst z
      exact ⟨b4, bk, aZ, ab, ai, aD, aj, aE, y, rfl⟩
     replace c := Zk c
     refine DL_passes 13 (by rw [c]; rfl) ?_
     refine DL_done (Zb (Ze ?_))
     have bN := Zu j
     subst z
     exact ⟨aP, (Zv _), t.drew, ab, ai, aD, aj, aE, y, rfl⟩
    intro bV cv aW
    obtain ⟨aR, a9, m, n, aF, aG, aH, aI, o, aJ⟩ := aW
    refine (Ze ?_)
    rcases ite_some b with ⟨x, b⟩ | ⟨x, b⟩
    ·refine W_cond_t aJ x (W_skip (Ze (Zc (W_block (W_dl (n0 := 16) (qs 0 15 (.e 15 [2, 3, 4] .done)) hmix (by kernel_rfl) (by kernel_rfl) (DL_q rfl rfl (Zm (v := a) rfl n ⟨rfl, ?_⟩)))))))
     refine DL_q rfl rfl (Zm (v := Vi (d)) rfl o ⟨rfl, ?_⟩)
     refine DL_q rfl rfl (Zm (v := a) rfl n ⟨rfl, ?_⟩)
     refine DL_q rfl rfl (Zm (v := Vi (d)) rfl o ⟨rfl, ?_⟩)
     refine DL_q rfl rfl (Exec.sub rfl rfl rfl ⟨rfl, ?_⟩)
     refine DL_q rfl rfl (Zm (v := a) rfl n ⟨rfl, ?_⟩)
     refine DL_q rfl rfl (Zm (v := Vi (d)) rfl o ⟨rfl, ?_⟩)
     refine DL_q rfl rfl (Exec.sub rfl rfl rfl ⟨rfl, ?_⟩)
     obtain ⟨bD, ae, b⟩ := Zg b
     obtain ⟨ca, bI, au⟩ := (m.drew).arr_at ae
     refine DL_q rfl rfl (Exec.index_slice S36 rfl au rfl (idx_some ae).1 (idx_some ae).2.1 ⟨rfl, ?_⟩)
     refine DL_q rfl rfl (Exec.load_arr (F := (encSlice (encInt .i64))) (m.drew) au A24 rfl rfl rfl ae (Sub.refl _) ?_)
     intro cq bv
     have b2 : SliceRep _ _ _ (bD) := encSlice_val.1 bv
     refine ⟨rfl, ?_⟩
     refine DL_q rfl rfl (Zm (v := a) rfl n ⟨rfl, ?_⟩)
     refine DL_q rfl rfl (Zm (v := Vi (d)) rfl o ⟨rfl, ?_⟩)
     obtain ⟨bE, p, b⟩ := Zg b
     obtain ⟨cb, bJ, av⟩ := (m.drew).arr_at p
     refine DL_q rfl rfl (Exec.index_slice S36 rfl av rfl (idx_some p).1 (idx_some p).2.1 ⟨rfl, ?_⟩)
     refine DL_q rfl rfl (Exec.load_arr (F := (encSlice (encInt .i64))) (m.drew) av A24 rfl rfl rfl p (Sub.refl _) ?_)
     intro cr bw
     have b3 : SliceRep _ _ _ (bE) := encSlice_val.1 bw
     refine ⟨rfl, ?_⟩
     obtain ⟨cc, bK, aw⟩ := (m.drew).arr_at p
     refine DL_q rfl rfl (Exec.index_slice S36 rfl aw rfl (idx_some p).1 (idx_some p).2.1 ⟨rfl, ?_⟩)
     obtain ⟨cg, bx, b⟩ := Zg b
     refine DL_e rfl rfl (Exec.store_arr m.drew aw A24 rfl rfl rfl rfl (encSlice_val.2 b2) bx ?_)
     intro cw az
     refine ⟨(ag_cons (ag_r rfl rfl (Zm (v := a) rfl n ⟨rfl, rfl⟩)) (ag_cons (ag_r rfl rfl (Zm (v := Vi (d)) rfl o ⟨rfl, rfl⟩)) (ag_cons (ag_r rfl rfl (Exec.sub rfl rfl rfl ⟨rfl, rfl⟩)) ag_nil))), ?_⟩
     refine DL_done ?_
     obtain ⟨c0, ak, b⟩ := Zg b
     obtain ⟨cd, bL, ax⟩ := (az).arr_at ak
     refine Za rfl rfl (Exec.index_slice S36 rfl ax rfl (idx_some ak).1 (idx_some ak).2.1 ?_)
     obtain ⟨ch, bz, b⟩ := Zg b
     refine Za rfl rfl (Exec.store_arr az ax A24 rfl rfl rfl rfl (encSlice_val.2 b3) bz ?_)
     intro cx ba
     refine Zb (ib_normal (Ze (Zd (Za rfl rfl (Zm (v := Vi (d)) rfl o (Za rfl rfl (Exec.sub rfl rfl rfl (Za rfl rfl (Zo (v := Vi (IntKind.i64.wrap (d - 1))) rfl rfl (Zb (Ze ?_)))))))))))
     have bO := Zu b
     subst ao
     refine ⟨_, rfl, ?_⟩; exact ⟨aR, (Zt a8 a9), ba, n, aF, aG, aH, aI, rfl⟩
    refine W_cond_f aJ x ?_
    replace x := Zk x
    refine W_exit (at_exit (at_exit (ib_here (Ze ?_))))
    have bP := Zu b
    subst ao
    refine ⟨_, .inr (bi (by intro _ h; cases h)), ?_⟩; exact ⟨aR, (Zt a8 a9), m, n, aF, aG, aH, aI, o⟩
   rintro bW cy ⟨b9, a0, aX⟩
   have i := a0.elim (bg _) (be _)
   clear a0
   obtain ⟨a3, a7⟩ := b9
   replace i := un2_eq i
   obtain ⟨b5, bl, bb, bn, bo, bp, bq, br, ci⟩ := aX
   refine (ib_normal (Ze (Zd (Za rfl rfl (Zm (v := Vi (k)) rfl br (Za rfl rfl (Exec.add rfl rfl rfl (Za rfl rfl (Zo (v := Vi (IntKind.i64.wrap (k + 1))) rfl rfl (Zb (Ze ?_)))))))))))
   have bQ := Zu i
   subst am
   refine ⟨_, rfl, ?_⟩; exact ⟨b5, (Zt a6 bl), bb, bn, bo, bp, bq, rfl⟩
  refine W_cond_f rfl u ?_
  replace u := Zk u
  refine W_exit (at_exit (at_exit (ib_here (Ze ?_))))
  have bR := Zu i
  subst am
  refine ⟨_, .inr (bh (by intro _ h; cases h)), ?_⟩; exact ⟨af, a6, ay, aA, aB, ah, aC, aa⟩
 rintro bX cz ⟨bA, a1, aY⟩
 have hm := a1.elim (bf _) (bd _)
 clear a1
 obtain ⟨a2, a4⟩ := bA
 replace hm := un2_eq hm
 obtain ⟨b6, bm, bc, cj, ck, cl, cm, cn⟩ := aY
 refine ?_
 have bS := Zu hm
 subst r
 refine ⟨_, retG0 rfl, ?_⟩
 exact ⟨b6, bm, bc, rfl⟩
theorem slices_pdqsortCmpFunc_int_o_Compare_sim {w0 w : World} {s : PHeap} {H : List Res} {i : (List (List Int))} {a : Int} {b : Int} {j : Int} {c : Value} {r : (List (List Int))} (hm : slices_pdqsortCmpFunc_int_o_Compare_p i a b j = some r) (hS : St w0 s (Res.arr (encSlice (encInt .i64)) 24 c i :: H) w)  :
  Calls Tryz.prog 80 #[c, Vi (a), Vi (b), Vi (j), Value.func (.func 53) #[] #[]] w fun e w' => ∃ v, e = .returned v ∧ ((fun (ah : (List (List Int))) => ∃ (o : PHeap) , PHeap.le s o ∧ St w0 o (Res.arr (encSlice (encInt .i64)) 24 c ah :: H) w' ∧ v = Value.tuple #[]) r) := by
 unfold slices_pdqsortCmpFunc_int_o_Compare_p at hm
 refine calls_of_W Tryz.func80 rfl rfl (Zc (Zd (Za rfl rfl (Zo (v := Value.bool (true)) rfl rfl (Zb (Ze (Zc (Zd (Za rfl rfl (Zo (v := Value.bool (true)) rfl rfl (Zb (Ze ?_))))))))))))
 obtain ⟨k, u, af, ad, ac⟩ := ctl_some hm
 refine W_mid (M := fun f' w' => ∃ s', (k = .next s' ∨ k = .brk s') ∧ (fun (_ : Unit) => ∃ (p : PHeap) , PHeap.le s p ∧ St w0 p (Res.arr (encSlice (encInt .i64)) 24 c i :: H) w' ∧ f' 0 = c ∧ f' 1 = Vi (a) ∧ f' 2 = Vi (b) ∧ f' 3 = Vi (j) ∧ f' 4 = Value.func (.func 53) #[] #[] ∧ f' 10 = Value.bool (true) ∧ f' 11 = Value.bool (true)) s') ?_ ?_
 ·refine W_block (W_while (fun s' f' w' => (fun (_ : Unit) => ∃ (q : PHeap) , PHeap.le s q ∧ St w0 q (Res.arr (encSlice (encInt .i64)) 24 c i :: H) w' ∧ f' 0 = c ∧ f' 1 = Vi (a) ∧ f' 2 = Vi (b) ∧ f' 3 = Vi (j) ∧ f' 4 = Value.func (.func 53) #[] #[] ∧ f' 10 = Value.bool (true) ∧ f' 11 = Value.bool (true)) s') u ?_ ?_)
  ·exact ⟨s, (Zv _), hS, rfl, rfl, rfl, rfl, rfl, rfl, rfl⟩
  intro a9 t av aB x d ag
  obtain ⟨a8, ai, z, al, m, n, ay, am, az, a0⟩ := x
  refine W_block (Zc (Zd (Za rfl rfl (Zm (v := Vi (b)) rfl n (Za rfl rfl (Zm (v := Vi (a)) rfl m (Za rfl rfl (Exec.sub rfl rfl rfl (Za rfl rfl (Zo (v := Vi (IntKind.i64.wrap (b - a))) rfl rfl (Zb (Ze (Zc (Zc (Zd (Za rfl rfl (Zm (v := Vi (IntKind.i64.wrap (b - a))) rfl rfl (Za rfl rfl (Exec.leq rfl rfl rfl (Zb (Ze ?_)))))))))))))))))))))
  rcases ite_some d with ⟨g, d⟩ | ⟨g, d⟩
  ·refine W_cond_t rfl g (Zc (Zd (Za rfl rfl (Zm (v := c) rfl al (Za rfl rfl (Zm (v := Vi (a)) rfl m (Za rfl rfl (Zm (v := Vi (b)) rfl n (Za rfl rfl (Zm (v := Value.func (.func 53) #[] #[]) rfl am ?_))))))))))
   obtain ⟨ax, an, d⟩ := Zg d
   refine Za rfl rfl (Tc rfl rfl rfl (Zi rfl (Zi rfl (Zi rfl (Zi rfl args_nil)))) (slices_insertionSortCmpFunc_int_o_Compare_sim an z ).r ?_)
   rintro _ aC ⟨ao, aj, aa, rfl⟩
   refine Zb (Ze (W_ret (at_ret (ib_ret (at_ret (ib_ret (at_ret ?_)))))))
   have aq := Zu d
   subst t
   have ae := af _ (ag (by intro _ h; cases h))
   have ar := Zu ae
   subst r
   refine ⟨_, retG0 rfl, ?_⟩
   exact ⟨ao, (Zt ai aj), aa, rfl⟩
  refine W_cond_f rfl g ?_
  replace g := Zk g
  refine W_skip (Ze (Zc (Zc ?_)))
  cases d
 rintro aw aD ⟨aA, l, y⟩
 have hm := l.elim (ad _) (ac _)
 clear l
 obtain ⟨ap, ak, ab, a1, a2, a3, a4, a5, a6, a7⟩ := y
 refine ?_
 have au := Zu hm
 subst r
 refine ⟨_, retG0 rfl, ?_⟩
 exact ⟨ap, ak, ab, rfl⟩
theorem slices_SortFunc_int_o_Compare_sim {w0 w : World} {s : PHeap} {H : List Res} {b : (List (List Int))} {a : Value} {r : (List (List Int))} (hm : slices_SortFunc_int_o_Compare_p b = some r) (hS : St w0 s (Res.arr (encSlice (encInt .i64)) 24 a b :: H) w)  :
  Calls Tryz.prog 52 #[a, Value.func (.func 53) #[] #[]] w fun e w' => ∃ v, e = .returned v ∧ ((fun (g : (List (List Int))) => ∃ (c : PHeap) , PHeap.le s c ∧ St w0 c (Res.arr (encSlice (encInt .i64)) 24 a g :: H) w' ∧ v = Value.tuple #[]) r) := by
 unfold slices_SortFunc_int_o_Compare_p at hm
 refine calls_of_W Tryz.func52 rfl rfl (Zc (Zd (Za rfl rfl (Zm (v := a) rfl rfl (Za rfl rfl (Exec.len_arr (hS) S36 rfl rfl (Za rfl rfl (Zo (v := Vi ((b.length : Int))) rfl rfl (Zb (Ze (Zd (Za rfl rfl (Zm (v := a) rfl rfl (Za rfl rfl (Zm (v := Vi ((b.length : Int))) rfl rfl (Za rfl rfl (Zm (v := Vi ((b.length : Int))) rfl rfl ?_)))))))))))))))))
 refine Za rfl rfl (Exec.convert_int (by rw [Tryz.underlying3]; rfl) Tryz.underlying118 rfl rfl ?_)
 obtain ⟨t, j, hm⟩ := Zg hm
 refine Za rfl rfl (Tc rfl rfl rfl (Zi rfl args_nil) (bits_Len_sim j hS ).r ?_)
 rintro _ p ⟨o, h, d, rfl⟩
 refine Za rfl rfl (Zm (v := Value.func (.func 53) #[] #[]) rfl rfl ?_)
 obtain ⟨n, k, hm⟩ := Zg hm
 refine Za rfl rfl (Tc rfl rfl rfl (Zi rfl (Zi rfl (Zi rfl (Zi rfl (Zi rfl args_nil))))) (slices_pdqsortCmpFunc_int_o_Compare_sim k d ).r ?_)
 rintro _ q ⟨l, i, f, rfl⟩
 refine Zb ?_
 have m := Zu hm
 subst r
 refine ⟨_, retG0 rfl, ?_⟩
 exact ⟨l, (Zt h i), f, rfl⟩
theorem N55 : (Tryz.f55.name == "runtime.NumGoroutine") = false := by kernel_rfl
theorem slices_Equal_int_sim {w0 w : World} {s : PHeap} {H : List Res} {n : (List Int)} {ab : (List Int)} {b : Value} {c : Value} {r : Bool} (hm : slices_Equal_int_p n ab = some r) (hS : St w0 s (H) w) (j : SliceRep (encInt .i64) s b n) (p : SliceRep (encInt .i64) s c ab) :
  Calls Tryz.prog 55 #[b, c] w fun e w' => ∃ v, e = .returned v ∧ ((fun (a8 : Bool) => ∃ (ac : PHeap) , PHeap.le s ac ∧ St w0 ac (H) w' ∧ v = Value.bool (a8)) r) := by
 unfold slices_Equal_int_p at hm
 refine calls_of_W Tryz.func55 rfl rfl (Zc (Zd (Za rfl rfl (Zo (v := Value.bool (false)) rfl rfl (Zb (Ze (Zc (Zc (Zd (Za rfl rfl (Zm (v := b) rfl rfl (Za rfl rfl (Zr S24 rfl rfl j (Za rfl rfl (Zm (v := c) rfl rfl (Za rfl rfl (Zr S24 rfl rfl p (Za rfl rfl (Exec.neq rfl rfl rfl (Zb (Ze ?_)))))))))))))))))))))
 rcases ite_some hm with ⟨d, hm⟩ | ⟨d, hm⟩
 ·refine W_cond_t rfl d (Zc (Zd (Za rfl rfl (Zo (v := Value.bool (false)) rfl rfl (Zb (Ze (W_ret (at_ret ?_))))))))
  have aB := Zu hm
  subst r
  refine ⟨_, ret1 rfl, ?_⟩
  exact ⟨s, (Zv _), hS, rfl⟩
 refine W_cond_f rfl d ?_
 replace d := Zk d
 refine W_skip (Ze (Zc (Zc (Zd (Za rfl rfl (Zm (v := b) rfl rfl (Za rfl rfl (Zr S24 rfl rfl j (Za rfl rfl (Zm (v := Vi (0)) rfl rfl (Zb (Ze ?_))))))))))))
 obtain ⟨q, ai, au, aq, ao⟩ := ctl_some hm
 refine W_mid (M := fun f' w' => ∃ s', (q = .next s' ∨ q = .brk s') ∧ (fun (_ : Unit) => ∃ (ad : PHeap) , PHeap.le s ad ∧ St w0 ad (H) w' ∧ f' 0 = b ∧ f' 1 = c ∧ f' 12 = Vi ((n.length : Int))) s') ?_ ?_
 ·refine W_block (W_forC (fun k' s' f' w' => (fun (_ : Unit) => ∃ (ae : PHeap) , PHeap.le s ae ∧ St w0 ae (H) w' ∧ f' 0 = b ∧ f' 1 = c ∧ f' 12 = Vi ((n.length : Int)) ∧ f' 13 = Vi (k' : Int)) s') ai ?_ ?_ ?_)
  ·exact ⟨s, (Zv _), hS, rfl, rfl, rfl, rfl⟩
  ·intro i aQ t aI aV ap aj a av
   obtain ⟨af, m, l, x, y, z, o⟩ := aj
   refine Zc (Zd (Za rfl rfl (Zq rfl o z (Zb (Ze (Zc (W_true (Zx (decide_eq_true (by omega))) (W_skip (Ze (Zc (W_block (Zc (Zd (Za rfl rfl (Zm (v := Vi ((i : Int))) rfl o (Za rfl rfl (Zo (v := Vi ((i : Int))) rfl rfl (Zb (Ze (Zc (W_dl (n0 := 9) (qs 0 9 .done) hmix (by kernel_rfl) (by kernel_rfl) (DL_q rfl rfl (Zm (v := b) rfl x ⟨rfl, ?_⟩)))))))))))))))))))))))
   refine DL_q rfl rfl (Zm (v := Vi ((i : Int))) rfl rfl ⟨rfl, ?_⟩)
   obtain ⟨aY, a1, a⟩ := Zg a
   refine DL_q rfl rfl (Exec.index_repE S24 rfl rfl rfl (j.mono m) a1 ?_)
   intro a9 aL ag aC
   refine ⟨rfl, ?_⟩
   refine DL_q rfl rfl (Zw (E := (encInt .i64)) l.drew A3 rfl rfl rfl ag ?_)
   intro aT a2
   obtain rfl := encInt_val.1 a2
   refine ⟨rfl, ?_⟩
   refine DL_q rfl rfl (Zm (v := c) rfl y ⟨rfl, ?_⟩)
   refine DL_q rfl rfl (Zm (v := Vi ((i : Int))) rfl rfl ⟨rfl, ?_⟩)
   obtain ⟨aZ, a3, a⟩ := Zg a
   refine DL_q rfl rfl (Exec.index_repE S24 rfl rfl rfl (p.mono m) a3 ?_)
   intro aA aM ah aD
   refine ⟨rfl, ?_⟩
   refine DL_q rfl rfl (Zw (E := (encInt .i64)) l.drew A3 rfl rfl rfl ah ?_)
   intro aU a4
   obtain rfl := encInt_val.1 a4
   refine ⟨rfl, ?_⟩
   refine DL_q rfl rfl (Exec.neq rfl rfl rfl ⟨rfl, ?_⟩)
   refine DL_done (Zb (Ze ?_))
   rcases ite_some a with ⟨g, a⟩ | ⟨g, a⟩
   ·refine W_cond_t rfl g (Zc (Zd (Za rfl rfl (Zo (v := Value.bool (false)) rfl rfl (Zb (Ze (W_ret (ib_ret (at_ret (at_ret (ib_ret (at_ret (at_ret ?_)))))))))))))
    have aE := Zu a
    subst t
    have ar := au _ (av (by intro _ h; cases h))
    have aF := Zu ar
    subst r
    refine ⟨_, ret1 rfl, ?_⟩
    exact ⟨af, m, l.drew, rfl⟩
   refine W_cond_f rfl g ?_
   replace g := Zk g
   refine W_skip (ib_normal (Ze (Zd (Za rfl rfl (Exec.add rfl o rfl (Za rfl rfl (Zm (v := Vi (IntKind.i64.wrap ((i : Int) + 1))) rfl rfl (Zb (Ze ?_)))))))))
   have aG := Zu a
   subst t
   refine ⟨_, rfl, ?_⟩; exact ⟨af, m, l.drew, x, y, z, (Eq.trans rfl (wrap_up ap (SliceRep.le j)))⟩
  intro aR aJ aW ak aw
  obtain ⟨a5, ax, am, az, a0, aa, a7⟩ := ak
  refine Zc (Zd (Za rfl rfl (Zq rfl a7 aa (Zb (Ze (Zc (W_false (Zx (decide_eq_false (by omega))) (W_exit (at_exit (at_exit (ib_here (Ze ?_))))))))))))
  refine ⟨_, .inl aw, ?_⟩; exact ⟨a5, ax, am, az, a0, aa⟩
 rintro aK aX ⟨aS, u, al⟩
 have hm := u.elim (aq _) (ao _)
 clear u
 obtain ⟨a6, ay, an, aN, aO, aP⟩ := al
 refine (Ze (Zc (Zd (Za rfl rfl (Zo (v := Value.bool (true)) rfl rfl (Zb (Ze (W_ret ?_))))))))
 have aH := Zu hm
 subst r
 refine ⟨_, ret1 rfl, ?_⟩
 exact ⟨a6, ay, an, rfl⟩
theorem slices_CompactFunc_int_o_Equal_sim {w0 w : World} {s : PHeap} {H : List Res} {aq : (List (List Int))} {a : Value} {r : Nat × (List (List Int))} (hm : slices_CompactFunc_int_o_Equal_p aq = some r) (hS : St w0 s (Res.arr (encSlice (encInt .i64)) 24 a aq :: H) w)  :
  Calls Tryz.prog 54 #[a, Value.func (.func 55) #[] #[]] w fun e w' => ∃ v, e = .returned v ∧ ((un2 fun (bR : Nat) (bp : (List (List Int))) => ∃ (aP : PHeap) (aV : Value), PHeap.le s aP ∧ St w0 aP (Res.arr (encSlice (encInt .i64)) 24 a bp :: H) w' ∧ v = aV ∧ SubOf 1 a aV 0 bR) r) := by
 unfold slices_CompactFunc_int_o_Equal_p at hm
 refine calls_of_W Tryz.func54 rfl rfl (Zc (Zd (Za rfl rfl (Zo (v := Value.slice none 0 0) rfl rfl (Zb (Ze (Zc (Zc (Zd (Za rfl rfl (Zm (v := a) rfl rfl (Za rfl rfl (Exec.len_arr (hS) S36 rfl rfl (Za rfl rfl (Zq rfl rfl rfl (Zb (Ze ?_)))))))))))))))))
 rcases ite_some hm with ⟨u, hm⟩ | ⟨u, hm⟩
 ·refine W_cond_t rfl u (Zc (Zd (Za rfl rfl (Zm (v := a) rfl rfl (Za rfl rfl (Zo (v := a) rfl rfl (Zb (Ze (W_ret (at_ret ?_))))))))))
  have bY := Zu hm
  subst r
  refine ⟨_, ret1 rfl, ?_⟩
  exact ⟨s, a, (Zv _), hS, rfl, (Or.inl ⟨rfl, rfl, (hS).arr_shape⟩)⟩
 refine W_cond_f rfl u ?_
 replace u := Zk u
 refine W_skip (Ze (Zc (Zc (Zd (Za rfl rfl (Zo (v := Vi (1)) rfl rfl (Zb (Ze ?_))))))))
 obtain ⟨az, aZ, bn, bk, bi⟩ := ctl_some hm
 refine W_mid (M := fun f' w' => ∃ s', (az = .next s' ∨ az = .brk s') ∧ (fun (aE : Int) => ∃ (aQ : PHeap) , PHeap.le s aQ ∧ St w0 aQ (Res.arr (encSlice (encInt .i64)) 24 a aq :: H) w' ∧ f' 0 = a ∧ f' 1 = Value.func (.func 55) #[] #[] ∧ f' 5 = Vi (aE)) s') ?_ ?_
 ·refine W_block (W_while (fun s' f' w' => (fun (i : Int) => ∃ (aR : PHeap) , PHeap.le s aR ∧ St w0 aR (Res.arr (encSlice (encInt .i64)) 24 a aq :: H) w' ∧ f' 0 = a ∧ f' 1 = Value.func (.func 55) #[] #[] ∧ f' 5 = Vi (i)) s') aZ ?_ ?_)
  ·exact ⟨s, (Zv _), hS, rfl, rfl, rfl⟩
  intro i au ci c9 bb b aD
  obtain ⟨bF, aw, k, l, af, m⟩ := bb
  refine Zc (Zc (Zd (Za rfl rfl (Zm (v := Vi (i)) rfl m (Za rfl rfl (Zm (v := a) rfl l (Za rfl rfl (Exec.len_arr (k) S36 rfl rfl (Za rfl rfl (Zq rfl rfl rfl (Zb (Ze ?_))))))))))))
  rcases ite_some b with ⟨x, b⟩ | ⟨x, b⟩
  ·refine W_cond_t rfl x (W_skip (Ze (Zc (W_block (Zc (W_dl (n0 := 11) (qs 0 10 (.e 10 [] .done)) hmix (by kernel_rfl) (by kernel_rfl) (DL_q rfl rfl (Zm (v := Value.func (.func 55) #[] #[]) rfl af ⟨rfl, ?_⟩))))))))
   refine DL_q rfl rfl (Zm (v := a) rfl l ⟨rfl, ?_⟩)
   refine DL_q rfl rfl (Zm (v := Vi (i)) rfl m ⟨rfl, ?_⟩)
   obtain ⟨bM, aj, b⟩ := Zg b
   obtain ⟨cn, bS, a2⟩ := (k.drew).arr_at aj
   refine DL_q rfl rfl (Exec.index_slice S36 rfl a2 rfl (idx_some aj).1 (idx_some aj).2.1 ⟨rfl, ?_⟩)
   refine DL_q rfl rfl (Exec.load_arr (F := (encSlice (encInt .i64))) (k.drew) a2 A24 rfl rfl rfl aj (Sub.refl _) ?_)
   intro c3 b1
   have bA : SliceRep _ _ _ (bM) := encSlice_val.1 b1
   refine ⟨rfl, ?_⟩
   refine DL_q rfl rfl (Zm (v := a) rfl l ⟨rfl, ?_⟩)
   refine DL_q rfl rfl (Zm (v := Vi (i)) rfl m ⟨rfl, ?_⟩)
   refine DL_q rfl rfl (Exec.sub rfl rfl rfl ⟨rfl, ?_⟩)
   obtain ⟨bN, ak, b⟩ := Zg b
   obtain ⟨co, bT, a3⟩ := (k.drew).arr_at ak
   refine DL_q rfl rfl (Exec.index_slice S36 rfl a3 rfl (idx_some ak).1 (idx_some ak).2.1 ⟨rfl, ?_⟩)
   refine DL_q rfl rfl (Exec.load_arr (F := (encSlice (encInt .i64))) (k.drew) a3 A24 rfl rfl rfl ak (Sub.refl _) ?_)
   intro c4 b2
   have bB : SliceRep _ _ _ (bN) := encSlice_val.1 b2
   refine ⟨rfl, ?_⟩
   obtain ⟨cJ, b3, b⟩ := Zg b
   refine DL_e rfl rfl (Exec.callf rfl rfl Tryz.func55 rfl N55 (Zi rfl (Zi rfl args_nil)) ((slices_Equal_int_sim b3 k.drew bA bB).mono ?_))
   rintro _ cA ⟨_, rfl, ⟨ap, aH, av, rfl⟩⟩
   refine ⟨_, rfl, ?_⟩
   refine ⟨ag_nil, ?_⟩
   refine DL_done (Zb (Ze ?_))
   rcases ite_some b with ⟨z, b⟩ | ⟨z, b⟩
   ·refine W_cond_t rfl z (Zc (Zd (Za rfl rfl (Zm (v := a) rfl l (Za rfl rfl (Zm (v := Vi (i)) rfl m ?_))))))
    obtain ⟨cv, al, b⟩ := Zg b
    refine Za rfl rfl (Exec.sub_from (av) S36 rfl rfl rfl al ?_)
    intro j ad
    refine Za rfl rfl (Zo (v := j) rfl rfl (Zb (Ze (Zc (Zc (Zd (Za rfl rfl (Zo (v := Vi (1)) rfl rfl (Zb (Ze ?_))))))))))
    obtain ⟨a0, ba, ct, bl, bj⟩ := ctl_some b
    refine W_mid (M := fun f' w' => ∃ s', (a0 = .next s' ∨ a0 = .brk s') ∧ (un3 fun (ae : Int) (aF : Int) (aI : (List (List Int))) => ∃ (aS : PHeap) , PHeap.le ap aS ∧ St w0 aS (Res.arr (encSlice (encInt .i64)) 24 a aI :: H) w' ∧ f' 0 = a ∧ f' 1 = Value.func (.func 55) #[] #[] ∧ f' 5 = Vi (ae) ∧ f' 6 = j ∧ f' 7 = Vi (aF)) s') ?_ ?_
    ·refine W_block (W_while (fun s' f' w' => (un3 fun (ac : Int) (g : Int) (aJ : (List (List Int))) => ∃ (aT : PHeap) , PHeap.le ap aT ∧ St w0 aT (Res.arr (encSlice (encInt .i64)) 24 a aJ :: H) w' ∧ f' 0 = a ∧ f' 1 = Value.func (.func 55) #[] #[] ∧ f' 5 = Vi (ac) ∧ f' 6 = j ∧ f' 7 = Vi (g)) s') ba ?_ ?_)
     ·exact ⟨ap, (Zv _), av, l, af, m, rfl, rfl⟩
     intro bK a1 cj cB bc c bo
     obtain ⟨ac, g, aJ⟩ := bK
     replace c := un3_eq c
     obtain ⟨bG, aK, p, ag, ah, ai, n, o⟩ := bc
     refine Zc (Zc (Zd (Za rfl rfl (Zm (v := Vi (g)) rfl o (Za rfl rfl (Zm (v := j) rfl n (Za rfl rfl (Exec.len_sub S36 ad rfl rfl (Za rfl rfl (Zq rfl rfl rfl (Zb (Ze ?_))))))))))))
     rcases ite_some c with ⟨aa, c⟩ | ⟨aa, c⟩
     ·refine W_cond_t rfl aa (W_skip (Ze (Zc (W_block (Zc (W_dl (n0 := 12) (qs 0 10 (.e 10 [] (.q 11 .done))) hmix (by kernel_rfl) (by kernel_rfl) (DL_q rfl rfl (Zm (v := Value.func (.func 55) #[] #[]) rfl ah ⟨rfl, ?_⟩))))))))
      refine DL_q rfl rfl (Zm (v := j) rfl n ⟨rfl, ?_⟩)
      refine DL_q rfl rfl (Zm (v := Vi (g)) rfl o ⟨rfl, ?_⟩)
      obtain ⟨bO, am, c⟩ := Zg c
      obtain ⟨cp, bU, a4⟩ := (p.drew).arr_at (idxV_some am).2.2
      refine DL_q rfl rfl (Exec.index_sub S36 (view_some al).1 ad a4 rfl rfl rfl (idxV_some am).1 (idxV_some am).2.1 ⟨rfl, ?_⟩)
      refine DL_q rfl rfl (Exec.load_arr (F := (encSlice (encInt .i64))) (p.drew) a4 A24 rfl rfl rfl (idxV_some am).2.2 (Sub.refl _) ?_)
      intro c5 b4
      have bC : SliceRep _ _ _ (bO) := encSlice_val.1 b4
      refine ⟨rfl, ?_⟩
      refine DL_q rfl rfl (Zm (v := j) rfl n ⟨rfl, ?_⟩)
      refine DL_q rfl rfl (Zm (v := Vi (g)) rfl o ⟨rfl, ?_⟩)
      refine DL_q rfl rfl (Exec.sub rfl rfl rfl ⟨rfl, ?_⟩)
      obtain ⟨bP, an, c⟩ := Zg c
      obtain ⟨cq, bV, a5⟩ := (p.drew).arr_at (idxV_some an).2.2
      refine DL_q rfl rfl (Exec.index_sub S36 (view_some al).1 ad a5 rfl rfl rfl (idxV_some an).1 (idxV_some an).2.1 ⟨rfl, ?_⟩)
      refine DL_q rfl rfl (Exec.load_arr (F := (encSlice (encInt .i64))) (p.drew) a5 A24 rfl rfl rfl (idxV_some an).2.2 (Sub.refl _) ?_)
      intro c6 b5
      have bD : SliceRep _ _ _ (bP) := encSlice_val.1 b5
      refine ⟨rfl, ?_⟩
      obtain ⟨cK, b6, c⟩ := Zg c
      refine DL_e rfl rfl (Exec.callf rfl rfl Tryz.func55 rfl N55 (Zi rfl (Zi rfl args_nil)) ((slices_Equal_int_sim b6 p.drew bC bD).mono ?_))
      rintro _ cC ⟨_, rfl, ⟨ay, bq, t, rfl⟩⟩
      refine ⟨_, rfl, ?_⟩
      refine ⟨ag_nil, ?_⟩
      refine DL_q rfl rfl (Exec.not rfl rfl ⟨rfl, ?_⟩)
      refine DL_done (Zb (Ze ?_))
      obtain ⟨ar, d, c⟩ := Zg c
      refine W_mid (M := fun f' w' => (un2 fun (aG : Int) (aL : (List (List Int))) => ∃ (aU : PHeap) , PHeap.le ay aU ∧ St w0 aU (Res.arr (encSlice (encInt .i64)) 24 a aL :: H) w' ∧ f' 0 = a ∧ f' 1 = Value.func (.func 55) #[] #[] ∧ f' 5 = Vi (aG) ∧ f' 6 = j ∧ f' 7 = Vi (g)) ar) ?_ ?_
      ·rcases ite_some d with ⟨ab, d⟩ | ⟨ab, d⟩
       ·refine W_cond_t rfl ab (Zc (Zd (Za rfl rfl (Zm (v := a) rfl ag (Za rfl rfl (Zm (v := Vi (ac)) rfl ai (Za rfl rfl (Zm (v := j) rfl n (Za rfl rfl (Zm (v := Vi (g)) rfl o ?_))))))))))
        obtain ⟨bQ, ao, d⟩ := Zg d
        obtain ⟨cr, bW, a6⟩ := (t).arr_at (idxV_some ao).2.2
        refine Za rfl rfl (Exec.index_sub S36 (view_some al).1 ad a6 rfl rfl rfl (idxV_some ao).1 (idxV_some ao).2.1 (Za rfl rfl (Exec.load_arr (F := (encSlice (encInt .i64))) (t) a6 A24 rfl rfl rfl (idxV_some ao).2.2 (Sub.refl _) ?_)))
        intro c7 b7
        have bE : SliceRep _ _ _ (bQ) := encSlice_val.1 b7
        obtain ⟨cI, ax, d⟩ := Zg d
        obtain ⟨cs, bX, a7⟩ := (t).arr_at ax
        refine Za rfl rfl (Exec.index_slice S36 rfl a7 rfl (idx_some ax).1 (idx_some ax).2.1 ?_)
        obtain ⟨cu, b8, d⟩ := Zg d
        refine Za rfl rfl (Exec.store_arr t a7 A24 rfl rfl rfl rfl (encSlice_val.2 bE) b8 ?_)
        intro cD bg
        refine Zb (Ze (Zd (Za rfl rfl (Zm (v := Vi (ac)) rfl ai (Za rfl rfl (Exec.add rfl rfl rfl (Za rfl rfl (Zo (v := Vi (IntKind.i64.wrap (ac + 1))) rfl rfl (Zb (Ze ?_))))))))))
        have bZ := Zu d
        subst ar
        exact ⟨ay, (Zv _), bg, ag, ah, rfl, n, o⟩
       refine W_cond_f rfl ab ?_
       replace ab := Zk ab
       refine W_skip (Ze ?_)
       have ca := Zu d
       subst ar
       exact ⟨ay, (Zv _), t, ag, ah, ai, n, o⟩
      intro ck cE bd
      obtain ⟨aG, aL⟩ := ar
      replace c := un2_eq c
      obtain ⟨bH, br, bh, bu, bv, bw, bx, bz⟩ := bd
      refine (ib_normal (Ze (Zd (Za rfl rfl (Zm (v := Vi (g)) rfl bz (Za rfl rfl (Exec.add rfl rfl rfl (Za rfl rfl (Zo (v := Vi (IntKind.i64.wrap (g + 1))) rfl rfl (Zb (Ze ?_)))))))))))
      have cb := Zu c
      subst a1
      refine ⟨_, rfl, ?_⟩; exact ⟨bH, (Zt (Zt aK bq) br), bh, bu, bv, bw, bx, rfl⟩
     refine W_cond_f rfl aa ?_
     replace aa := Zk aa
     refine W_exit (at_exit (at_exit (ib_here (Ze ?_))))
     have cc := Zu c
     subst a1
     refine ⟨_, .inr (bo (by intro _ h; cases h)), ?_⟩; exact ⟨bG, aK, p, ag, ah, ai, n, o⟩
    rintro cl cF ⟨bL, aB, be⟩
    have b := aB.elim (bl _) (bj _)
    clear aB
    obtain ⟨ae, aF, aI⟩ := bL
    replace b := un3_eq b
    obtain ⟨bI, bs, a8, aM, cy, aN, cz, c0⟩ := be
    refine (Ze (Zc (Zd (Za rfl rfl (Zm (v := a) rfl aM (Za rfl rfl (Zm (v := Vi (ae)) rfl aN ?_)))))))
    obtain ⟨cw, aO, b⟩ := Zg b
    refine Za rfl rfl (Exec.sub_from (a8) S36 rfl rfl rfl aO ?_)
    intro c8 aX
    refine Za rfl rfl (Exec.clear_sub (E := (encSlice (encInt .i64))) (y := []) a8 aX (view_some aO).2.2.2.2.2 S36 Z24 ⟨_, rfl, (SliceRep.nil _ _)⟩ rfl rfl ?_)
    intro cG a9
    refine Zb (Ze (Zc (Zd (Za rfl rfl (Zm (v := a) rfl aM (Za rfl rfl (Zm (v := Vi (ae)) rfl aN ?_)))))))
    obtain ⟨cx, b9, b⟩ := Zg b
    refine Za rfl rfl (Exec.sub_to (a9) S36 rfl rfl rfl b9 ?_)
    intro aW aY
    refine Za rfl rfl (Zo (v := aW) rfl rfl (Zb (Ze (W_ret (ib_ret (at_ret (at_ret (ib_ret (at_ret (at_ret ?_))))))))))
    have cd := Zu b
    subst au
    have bm := bn _ (aD (by intro _ h; cases h))
    have ce := Zu bm
    subst r
    refine ⟨_, ret1 rfl, ?_⟩
    exact ⟨bI, aW, (Zt (Zt aw aH) bs), a9, rfl, aY⟩
   refine W_cond_f rfl z ?_
   replace z := Zk z
   refine W_skip (ib_normal (Ze (Zd (Za rfl rfl (Zm (v := Vi (i)) rfl m (Za rfl rfl (Exec.add rfl rfl rfl (Za rfl rfl (Zo (v := Vi (IntKind.i64.wrap (i + 1))) rfl rfl (Zb (Ze ?_)))))))))))
   have cf := Zu b
   subst au
   refine ⟨_, rfl, ?_⟩; exact ⟨ap, (Zt aw aH), av, l, af, rfl⟩
  refine W_cond_f rfl x ?_
  replace x := Zk x
  refine W_exit (at_exit (at_exit (ib_here (Ze ?_))))
  have cg := Zu b
  subst au
  refine ⟨_, .inr (aD (by intro _ h; cases h)), ?_⟩; exact ⟨bF, aw, k, l, af, m⟩
 rintro cm cH ⟨aE, aC, bf⟩
 have hm := aC.elim (bk _) (bi _)
 clear aC
 obtain ⟨bJ, bt, aA, b0, c1, c2⟩ := bf
 refine (Ze (Zc (Zd (Za rfl rfl (Zm (v := a) rfl b0 (Za rfl rfl (Zo (v := a) rfl rfl (Zb (Ze (W_ret ?_))))))))))
 have ch := Zu hm
 subst r
 refine ⟨_, ret1 rfl, ?_⟩
 exact ⟨bJ, a, bt, aA, rfl, (Or.inl ⟨rfl, rfl, (aA).arr_shape⟩)⟩
theorem invariant_candidates_sim {w0 w : World} {s : PHeap} {H : List Res} {i : Ground} {q : Value} {t : Value} {u : Value} {x : Value} {y : Value} {r : (List (List Int))} (hm : invariant_candidates_p i = some r) (hS : St w0 s (H) w) (a5 : SliceRep encAtom s q i.Atoms) (a6 : SliceRep encGFluent s t i.Fluents) (a7 : SliceRep (encInt .i64) s u i.Init) (a8 : SliceRep encCond s x i.Goal) (a9 : SliceRep encGOp s y i.Ops) (ht : TabQ Tryz.prog s) :
  Calls Tryz.prog 27 #[Value.agg #[q, t, u, x, y]] w fun e w' => ∃ v, e = .returned v ∧ ((fun (bJ : (List (List Int))) => ∃ (ah : PHeap) (a1 : Value), PHeap.le s ah ∧ St w0 ah (H) w' ∧ v = a1 ∧ SliceRep (encSlice (encInt .i64)) ah a1 bJ) r) := by
 unfold invariant_candidates_p at hm
 refine calls_of_W Tryz.func27 rfl rfl (Zc (Zd (Za rfl rfl (Exec.box (cs := [q, t, u, x, y]) hS rfl rfl rfl ?_))))
 intro bL c5 am
 refine Za rfl rfl (Zo (v := Value.slice none 0 0) rfl rfl (Zb (Ze (Zc (Zd (Za rfl rfl (Exec.load_box_agg (ds := [q, t, u, x, y]) (am) A28 rfl rfl rfl ?_)))))))
 obtain ⟨a4, bu, hm⟩ := Zg hm
 refine Za rfl rfl (Tc rfl rfl rfl (Zi rfl args_nil) (invariant_simples_sim bu am a5 a6 a7 a8 a9 ht).r ?_)
 rintro l c6 ⟨ay, _, aZ, aI, rfl, ag⟩
 refine Za rfl rfl (Zo (v := l) rfl rfl (Zb (Ze (Zc (Zd (Za rfl rfl (Exec.make_kmap (k := 9) aI rfl ?_)))))))
 intro b c7 aJ
 refine Za rfl rfl (Zo (v := Value.map (some b)) rfl rfl (Zb (Ze (Zc (Zd (Za rfl rfl (Zo (v := Value.slice none 0 0) rfl rfl (Zb (Ze (Zc (Zc (Zd (Za rfl rfl (Zm (v := l) rfl rfl (Za rfl rfl (Zr S89 rfl rfl ag (Za rfl rfl (Zm (v := Vi (0)) rfl rfl (Zb (Ze ?_))))))))))))))))))))
 obtain ⟨bD, aC, hm⟩ := Zg hm
 refine W_block (W_forS (fun k' s' f' w' => (un2 fun (ae : (List (List Int))) (p : (List ByteArray)) => ∃ (az : PHeap) (h : Value), PHeap.le ay az ∧ St w0 az (Res.kmap Tryz.prog 9 b p :: Res.arr (encSlice (encInt .i64)) 24 h ae :: H) w' ∧ f' 3 = l ∧ f' 4 = Value.map (some b) ∧ f' 5 = h ∧ f' 15 = l ∧ f' 16 = Vi ((a4.length : Int)) ∧ f' 17 = Vi (k' : Int)) s') aC ?_ ?_ ?_)
 ·have aK := aJ.nilArr (encSlice (encInt .i64)) 24
  exact ⟨ay, (Value.slice none 0 0), (Zv _), (((aK).f2).drop).f1, rfl, rfl, rfl, rfl, rfl, rfl⟩
 ·intro d bE b9 bS c8 aY aE a
  obtain ⟨ae, p⟩ := bE
  replace a := un2_eq a
  obtain ⟨cr, h, ap, an, bi, aq, bj, ar, au, aa⟩ := aE
  refine Zc (Zd (Za rfl rfl (Zq rfl aa au (Zb (Ze (Zc (W_true (Zx (decide_eq_true (by omega))) (W_skip (Ze (Zc (W_block (Zc (Zd (Za rfl rfl (Zm (v := Vi ((d : Int))) rfl aa ?_)))))))))))))))
  obtain ⟨g, bv, a⟩ := Zg a
  refine Za rfl rfl (Exec.index_rep S89 rfl ar aa (ag.mono ap) bv ?_)
  intro bM cd aA
  refine Za rfl rfl (Zw (E := encinvariant_simple) an A93 rfl rfl rfl aA ?_)
  intro c2 bw
  obtain ⟨aj, rfl, aw⟩ := encinvariant_simple_val.1 bw
  refine Za rfl rfl (Exec.alloc (cs := [Value.slice none 0 0, Value.string (⟨#[]⟩), Value.string (⟨#[]⟩), Value.bool (false)]) an Z93 rfl rfl ?_)
  intro al c9 aL
  refine Za rfl rfl (Zo (v := Vi ((d : Int))) rfl rfl (Za rfl rfl (Exec.store_box (ds := [aj, Value.string (g.name), Value.string (g.rest), Value.bool (g.position)]) (es := [aj, Value.string (g.name), Value.string (g.rest), Value.bool (g.position)]) aL A93 rfl rfl rfl rfl (Zj (aw).one (Zj rfl (Zj rfl (Zj rfl one_nil)))) (Nat.le_of_ble_eq_true rfl) rfl ?_)))
  intro cA ao
  refine Zb (Ze (Zc (Zd (Za rfl rfl (Zm (v := h) rfl bj (Za rfl rfl (Zp F93_0 rfl rfl rfl (Za rfl rfl (Zn (ao) A24 rfl rfl rfl ?_)))))))))
  obtain ⟨bK, bx, a⟩ := Zg a
  refine Za rfl rfl (Tc rfl rfl rfl (Zi rfl args_nil) (slices_Clone_int_sim bx ao aw).r ?_)
  rintro ak cB ⟨ct, _, ba, aM, rfl⟩
  obtain ⟨ai, bb, aN, ax⟩ := aM.freezeArr
  refine Za rfl rfl (Exec.buildSlice (Te := 24) (cs := [ak]) aN rfl (parts_cons (c := [ak]) (cells_of rfl (cells_one (ax).one)) parts_nil) (fun _ => by kernel_rfl) ?_)
  intro bN cC aO
  obtain ⟨bc, bz, a⟩ := Zg a
  refine Za rfl rfl (Exec.append_box (E := (encSlice (encInt .i64))) (ys := [bK]) (aO).f3 S36 Z24 rfl (by decide) rfl rfl rfl rfl ⟨[ak], [], rfl, ⟨_, rfl, ax⟩, rfl⟩ rfl bz ?_)
  intro z cD ab
  refine Za rfl rfl (Zo (v := z) rfl rfl (Zb (Ze (Zc (Zc (Zd (Za rfl rfl (Zm (v := Value.map (some b)) rfl aq (Za rfl rfl (Zp F93_2 rfl rfl rfl (Za rfl rfl (Zn ((ab).f1) A9 rfl rfl rfl ?_))))))))))))
  obtain ⟨c0, af, a⟩ := Zg a
  refine Za rfl rfl (Exec.kmap_look ((ab).f2) ⟨Tryz.underlying91, Tryz.underlying9⟩ Z24 rfl rfl rfl af (Za rfl rfl (Zr (E := (encInt .i64)) (xs := []) S24 rfl rfl (SliceRep.nil _ ai) (Za rfl rfl (Zm (v := Vi (0)) rfl rfl (Zb (Ze ?_)))))))
  obtain ⟨cy, aD, a⟩ := Zg a
  refine W_block (W_forS (fun k' s' f' w' => (fun (_ : Unit) => ∃ (a0 : PHeap) , PHeap.le ai a0 ∧ St w0 a0 (Res.kmap Tryz.prog 9 b p :: Res.arr (encSlice (encInt .i64)) 24 z bc :: Res.box al 93 [aj, Value.string (g.name), Value.string (g.rest), Value.bool (g.position)] :: H) w' ∧ f' 3 = l ∧ f' 4 = Value.map (some b) ∧ f' 5 = z ∧ f' 6 = Vi ((d : Int)) ∧ f' 7 = Value.pointer (some ⟨al, 0, none⟩) ∧ f' 15 = l ∧ f' 16 = Vi ((a4.length : Int)) ∧ f' 17 = Vi ((d : Int)) ∧ f' 31 = Value.slice none 0 0 ∧ f' 32 = Vi (0) ∧ f' 33 = Vi (k' : Int)) s') aD ?_ ?_ ?_)
  ·have aP := (ab).f1
   exact ⟨ai, (Zv _), ((aP).f1).f2, bi, aq, rfl, rfl, rfl, ar, au, aa, rfl, rfl, rfl⟩
  ·intro bX cz cu bT cE bW aF ad
   obtain ⟨bA, bY, aQ, cf, cg, ch, ci, cj, ck, cl, cm, bk, bl, a3⟩ := aF
   refine Zc (Zd (Za rfl rfl (Zq rfl a3 bl (Zb (Ze (Zc (W_true (Zx (decide_eq_true (by omega))) (W_skip (Ze (Zc (W_block (Zc (Zd ?_)))))))))))))
   obtain ⟨bG, b0, ad⟩ := Zg ad
   refine Za rfl rfl (Exec.index_rep S24 rfl bk a3 (SliceRep.nil (encInt .i64) bA) b0 ?_)
   intro bO ce aB
   refine Za rfl rfl (Zw (E := (encInt .i64)) aQ A3 rfl rfl rfl aB ?_)
   intro c3 b1
   obtain rfl := encInt_val.1 b1
   refine Za rfl rfl (Zo (v := Vi (bG)) rfl rfl (Zb (Ze (Zc ?_))))
   cases ad
  intro bU cF aG
  obtain ⟨bB, bd, n, bm, j, bn, bo, m, bp, bq, br, cn, bs, bH⟩ := aG
  refine Zc (Zd (Za rfl rfl (Zq rfl bH bs (Zb (Ze (Zc (W_false (Zx (decide_eq_false (by omega))) (W_exit (at_exit (at_exit (ib_here (Ze (W_dl (n0 := 10) (qs 0 8 (.e 8 [0, 1, 2, 3, 4, 5, 6] (.e 9 [0, 1, 2] .done))) hmix (by kernel_rfl) (by kernel_rfl) (DL_q rfl rfl (Zm (v := Value.map (some b)) rfl j ⟨rfl, ?_⟩)))))))))))))))
  refine DL_q rfl rfl (Zp F93_2 rfl m rfl ⟨rfl, ?_⟩)
  refine DL_q rfl rfl (Zn ((n.drew).f2) A9 rfl rfl rfl ⟨rfl, ?_⟩)
  refine DL_q rfl rfl (Zm (v := Value.map (some b)) rfl j ⟨rfl, ?_⟩)
  refine DL_q rfl rfl (Zp F93_2 rfl m rfl ⟨rfl, ?_⟩)
  refine DL_q rfl rfl (Zn ((n.drew).f2) A9 rfl rfl rfl ⟨rfl, ?_⟩)
  refine DL_q rfl rfl (Exec.kmap_look (n.drew) ⟨Tryz.underlying91, Tryz.underlying9⟩ Z24 rfl rfl rfl af ⟨rfl, ?_⟩)
  refine DL_q rfl rfl (Zm (v := Vi ((d : Int))) rfl bo ⟨rfl, ?_⟩)
  refine DL_e rfl rfl (Exec.buildSlice (Te := 3) (cs := [Vi ((d : Int))]) n.drew rfl (parts_cons (c := [Vi ((d : Int))]) (cells_of rfl rfl) parts_nil) (fun _ => by kernel_rfl) ?_)
  intro bP cG o
  refine ⟨(ag_cons (ag_r rfl rfl (Zm (v := Value.map (some b)) rfl j ⟨rfl, rfl⟩)) (ag_cons (ag_r rfl rfl (Zp F93_2 rfl m rfl ⟨rfl, rfl⟩)) (ag_cons (ag_r rfl rfl (Zn ((o).f3) A9 rfl rfl rfl ⟨rfl, rfl⟩)) (ag_cons (ag_r rfl rfl (Zm (v := Value.map (some b)) rfl j ⟨rfl, rfl⟩)) (ag_cons (ag_r rfl rfl (Zp F93_2 rfl m rfl ⟨rfl, rfl⟩)) (ag_cons (ag_r rfl rfl (Zn ((o).f3) A9 rfl rfl rfl ⟨rfl, rfl⟩)) (ag_cons (ag_r rfl rfl (Exec.kmap_look ((o).f1) ⟨Tryz.underlying91, Tryz.underlying9⟩ Z24 rfl rfl rfl af ⟨rfl, rfl⟩)) ag_nil))))))), ?_⟩
  have aR := o.nilArr (encInt .i64) 3
  obtain ⟨bZ, b2, a⟩ := Zg a
  refine DL_e rfl rfl (Exec.append_box (E := (encInt .i64)) (ys := [(d : Int)]) ((aR).f1).f1 S24 Z3 rfl (by decide) rfl rfl rfl rfl ⟨[Vi ((d : Int))], [], rfl, rfl, rfl⟩ rfl b2 ?_)
  intro c4 cH ac
  refine ⟨(ag_cons (ag_r rfl rfl (Zm (v := Value.map (some b)) rfl j ⟨rfl, rfl⟩)) (ag_cons (ag_r rfl rfl (Zp F93_2 rfl m rfl ⟨rfl, rfl⟩)) (ag_cons (ag_r rfl rfl (Zn ((ac).f3) A9 rfl rfl rfl ⟨rfl, rfl⟩)) ag_nil))), ?_⟩
  refine DL_done ?_
  obtain ⟨cc, b3, a⟩ := Zg a
  refine Za rfl rfl (Exec.kmap_put (ac).f1 ⟨Tryz.underlying91, Tryz.underlying9⟩ rfl rfl rfl rfl (((ac).f1).f1).arr_one b3 ?_)
  intro cI aS
  refine Zb (ib_normal (Ze (Zd (Za rfl rfl (Exec.add rfl br rfl (Za rfl rfl (Zm (v := Vi (IntKind.i64.wrap ((d : Int) + 1))) rfl rfl (Zb (Ze ?_)))))))))
  have bQ := Zu a
  subst b9
  exact ⟨bB, z, (Zt (Zt (Zt ap ba) bb) bd), ((((((aS).f1).drop).f2).drop).f1).f1, bm, j, bn, bp, bq, (Eq.trans rfl (wrap_up aY (SliceRep.le ag)))⟩
 intro bV cJ aH
 obtain ⟨ae, p⟩ := bD
 replace hm := un2_eq hm
 obtain ⟨cv, h, be, aT, co, cp, av, cq, bt, bI⟩ := aH
 refine Zc (Zd (Za rfl rfl (Zq rfl bI bt (Zb (Ze (Zc (W_false (Zx (decide_eq_false (by omega))) (W_exit (at_exit (at_exit (ib_here (Ze (Zc (Zd (Za rfl rfl (Zm (v := h) rfl av ?_))))))))))))))))
 obtain ⟨ca, b4, hm⟩ := Zg hm
 refine Za rfl rfl (Tc rfl rfl rfl (Zi rfl (Zi rfl args_nil)) (slices_SortFunc_int_o_Compare_sim b4 (aT).f1 ).r ?_)
 rintro _ cK ⟨cw, bf, aU, rfl⟩
 refine Zb (Ze (Zc (Zd (Za rfl rfl (Zm (v := h) rfl av ?_)))))
 obtain ⟨bF, b5, hm⟩ := Zg hm
 obtain ⟨cM, cb⟩ := bF
 replace hm := un2_eq hm
 refine Za rfl rfl (Tc rfl rfl rfl (Zi rfl (Zi rfl args_nil)) (slices_CompactFunc_int_o_Equal_sim b5 aU ).r ?_)
 rintro a2 cL ⟨cx, _, bg, aV, rfl, b7⟩
 obtain ⟨c1, b6, hm⟩ := Zg hm
 have aW := (aV).arr_head b7 (by simpa using must_some b6)
 refine Za rfl rfl (Zo (v := a2) rfl rfl (Zb (Ze (W_ret ?_))))
 have bR := Zu hm
 subst r
 refine ⟨_, ret1 rfl, ?_⟩
 obtain ⟨bC, bh, aX, b8⟩ := aW.freezeArr
 exact ⟨bC, a2, (Zt (Zt (Zt (Zt aZ be) bf) bg) bh), (aX).drop, rfl, b8⟩
theorem F33_0 : tyField Tryz.prog 33 0 = some 0 := by kernel_rfl
theorem slices_Index_int_sim {w0 w : World} {s : PHeap} {H : List Res} {i : (List Int)} {g : Int} {c : Value} {r : Int} (hm : slices_Index_int_p i g = some r) (hS : St w0 s (H) w) (j : SliceRep (encInt .i64) s c i) :
  Calls Tryz.prog 48 #[c, Vi (g)] w fun e w' => ∃ v, e = .returned v ∧ ((fun (a2 : Int) => ∃ (z : PHeap) , PHeap.le s z ∧ St w0 z (H) w' ∧ v = Vi (a2)) r) := by
 unfold slices_Index_int_p at hm
 refine calls_of_W Tryz.func48 rfl rfl (Zc (Zd (Za rfl rfl (Zo (v := Vi (0)) rfl rfl (Zb (Ze (Zc (Zc (Zd (Za rfl rfl (Zm (v := c) rfl rfl (Za rfl rfl (Zr S24 rfl rfl j (Za rfl rfl (Zm (v := Vi (0)) rfl rfl (Zb (Ze ?_)))))))))))))))))
 obtain ⟨o, ae, ao, am, ak⟩ := ctl_some hm
 refine W_mid (M := fun f' w' => ∃ s', (o = .next s' ∨ o = .brk s') ∧ (fun (_ : Unit) => ∃ (aa : PHeap) , PHeap.le s aa ∧ St w0 aa (H) w' ∧ f' 0 = c ∧ f' 1 = Vi (g) ∧ f' 7 = Vi ((i.length : Int))) s') ?_ ?_
 ·refine W_block (W_forC (fun k' s' f' w' => (fun (_ : Unit) => ∃ (ab : PHeap) , PHeap.le s ab ∧ St w0 ab (H) w' ∧ f' 0 = c ∧ f' 1 = Vi (g) ∧ f' 7 = Vi ((i.length : Int)) ∧ f' 8 = Vi (k' : Int)) s') ae ?_ ?_ ?_)
  ·exact ⟨s, (Zv _), hS, rfl, rfl, rfl, rfl⟩
  ·intro b aF p a8 aJ al af a ap
   obtain ⟨ac, m, l, t, u, x, n⟩ := af
   refine Zc (Zd (Za rfl rfl (Zq rfl n x (Zb (Ze (Zc (W_true (Zx (decide_eq_true (by omega))) (W_skip (Ze (Zc (W_block (Zc (Zd (Za rfl rfl (Zm (v := Vi ((b : Int))) rfl n (Za rfl rfl (Zo (v := Vi ((b : Int))) rfl rfl (Zb (Ze (Zc (Zd (Za rfl rfl (Zm (v := Vi (g)) rfl u (Za rfl rfl (Zm (v := c) rfl t (Za rfl rfl (Zm (v := Vi ((b : Int))) rfl rfl ?_)))))))))))))))))))))))))))
   obtain ⟨aM, ax, a⟩ := Zg a
   refine Za rfl rfl (Exec.index_rep S24 rfl rfl rfl (j.mono m) ax ?_)
   intro a3 aB ad
   refine Za rfl rfl (Zw (E := (encInt .i64)) l A3 rfl rfl rfl ad ?_)
   intro aI ay
   obtain rfl := encInt_val.1 ay
   refine Za rfl rfl (Exec.eql rfl rfl rfl (Zb (Ze ?_)))
   rcases ite_some a with ⟨d, a⟩ | ⟨d, a⟩
   ·refine W_cond_t rfl d (Zc (Zd (Za rfl rfl (Zm (v := Vi ((b : Int))) rfl rfl (Za rfl rfl (Zo (v := Vi ((b : Int))) rfl rfl (Zb (Ze (W_ret (ib_ret (at_ret (at_ret (ib_ret (at_ret (at_ret ?_)))))))))))))))
    have a4 := Zu a
    subst p
    have an := ao _ (ap (by intro _ h; cases h))
    have a5 := Zu an
    subst r
    refine ⟨_, ret1 rfl, ?_⟩
    exact ⟨ac, m, l, rfl⟩
   refine W_cond_f rfl d ?_
   replace d := Zk d
   refine W_skip (ib_normal (Ze (Zd (Za rfl rfl (Exec.add rfl n rfl (Za rfl rfl (Zm (v := Vi (IntKind.i64.wrap ((b : Int) + 1))) rfl rfl (Zb (Ze ?_)))))))))
   have a6 := Zu a
   subst p
   refine ⟨_, rfl, ?_⟩; exact ⟨ac, m, l, t, u, x, (Eq.trans rfl (wrap_up al (SliceRep.le j)))⟩
  intro aG a9 aK ag aq
  obtain ⟨az, ar, ai, av, aw, y, a1⟩ := ag
  refine Zc (Zd (Za rfl rfl (Zq rfl a1 y (Zb (Ze (Zc (W_false (Zx (decide_eq_false (by omega))) (W_exit (at_exit (at_exit (ib_here (Ze ?_))))))))))))
  refine ⟨_, .inl aq, ?_⟩; exact ⟨az, ar, ai, av, aw, y⟩
 rintro aA aL ⟨aH, q, ah⟩
 have hm := q.elim (am _) (ak _)
 clear q
 obtain ⟨a0, au, aj, aC, aD, aE⟩ := ah
 refine (Ze (Zc (Zd (Za rfl rfl (Zo (v := Vi ((-1))) rfl rfl (Zb (Ze (W_ret ?_))))))))
 have a7 := Zu hm
 subst r
 refine ⟨_, ret1 rfl, ?_⟩
 exact ⟨a0, au, aj, rfl⟩
theorem slices_Contains_int_sim {w0 w : World} {s : PHeap} {H : List Res} {d : (List Int)} {a : Int} {b : Value} {r : Bool} (hm : slices_Contains_int_p d a = some r) (hS : St w0 s (H) w) (f : SliceRep (encInt .i64) s b d) :
  Calls Tryz.prog 26 #[b, Vi (a)] w fun e w' => ∃ v, e = .returned v ∧ ((fun (k : Bool) => ∃ (c : PHeap) , PHeap.le s c ∧ St w0 c (H) w' ∧ v = Value.bool (k)) r) := by
 unfold slices_Contains_int_p at hm
 refine calls_of_W Tryz.func26 rfl rfl (Zc (Zd (Za rfl rfl (Zo (v := Value.bool (false)) rfl rfl (Zb (Ze (Zc (Zd (Za rfl rfl (Zm (v := b) rfl rfl (Za rfl rfl (Zm (v := Vi (a)) rfl rfl ?_))))))))))))
 obtain ⟨l, i, hm⟩ := Zg hm
 refine Za rfl rfl (Tc rfl rfl rfl (Zi rfl (Zi rfl args_nil)) (slices_Index_int_sim i hS f).r ?_)
 rintro _ n ⟨j, h, g, rfl⟩
 refine Za rfl rfl (Exec.geq rfl rfl rfl (Za rfl rfl (Zo (v := Value.bool (decide (0 ≤ l))) rfl rfl (Zb (Ze (W_ret ?_))))))
 have m := Zu hm
 subst r
 refine ⟨_, ret1 rfl, ?_⟩
 exact ⟨j, h, g, rfl⟩
theorem invariant_Holds_sim {w0 w : World} {s : PHeap} {H : List Res} {ab : GState} {m : (List Int)} {h : Value} {i : Value} {j : Value} {r : Bool} (hm : invariant_Holds_p ab m = some r) (hS : St w0 s (H) w) (aj : SliceRep (encInt .i64) s h ab.True) (aG : SliceRep (encInt .i64) s i ab.Values) (p : SliceRep (encInt .i64) s j m) :
  Calls Tryz.prog 13 #[Value.agg #[h, i], j] w fun e w' => ∃ v, e = .returned v ∧ ((fun (aF : Bool) => ∃ (ag : PHeap) , PHeap.le s ag ∧ St w0 ag (H) w' ∧ v = Value.bool (aF)) r) := by
 unfold invariant_Holds_p at hm
 refine calls_of_W Tryz.func13 rfl rfl (Zc (Zd (Za rfl rfl (Exec.box (cs := [h, i]) hS rfl rfl rfl ?_))))
 intro l aV ap
 refine Za rfl rfl (Zo (v := Value.bool (false)) rfl rfl (Zb (Ze (Zc (Zd (Za rfl rfl (Exec.make_bmap (k := 3) (e := 4) ap rfl ?_)))))))
 intro a aW aq
 refine Za rfl rfl (Zo (v := Value.map (some a)) rfl rfl (Zb (Ze (Zc (Zc (Zd (Za rfl rfl (Zm (v := j) rfl rfl (Za rfl rfl (Zr S24 rfl rfl p (Za rfl rfl (Zm (v := Vi (0)) rfl rfl (Zb (Ze ?_))))))))))))))
 obtain ⟨n, al, hm⟩ := Zg hm
 refine W_block (W_forS (fun k' s' f' w' => (fun (n : BMap) => ∃ (ah : PHeap) , PHeap.le s ah ∧ St w0 ah (Res.box l 33 [h, i] :: Res.bmap Tryz.prog 3 4 a n :: H) w' ∧ f' 2 = Value.pointer (some ⟨l, 0, none⟩) ∧ f' 5 = Value.map (some a) ∧ f' 9 = j ∧ f' 10 = Vi ((m.length : Int)) ∧ f' 11 = Vi (k' : Int)) s') al ?_ ?_ ?_)
 ·have ar := (aq).f1
  exact ⟨s, (Zv _), ar, rfl, rfl, rfl, rfl, rfl⟩
 ·intro af n aB aM aX aw am b
  obtain ⟨aT, t, q, u, x, y, z, o⟩ := am
  refine Zc (Zd (Za rfl rfl (Zq rfl o z (Zb (Ze (Zc (W_true (Zx (decide_eq_true (by omega))) (W_skip (Ze (Zc (W_block (Zc (Zd ?_)))))))))))))
  obtain ⟨ac, a7, b⟩ := Zg b
  refine Za rfl rfl (Exec.index_rep S24 rfl y o (p.mono t) a7 ?_)
  intro aH aQ ak
  refine Za rfl rfl (Zw (E := (encInt .i64)) q A3 rfl rfl rfl ak ?_)
  intro aU a8
  obtain rfl := encInt_val.1 a8
  refine Za rfl rfl (Zo (v := Vi (ac)) rfl rfl (Zb (Ze (Zc (Zd (Za rfl rfl (Zp F33_0 rfl u rfl (Za rfl rfl (Zn (q) A24 rfl rfl rfl (Za rfl rfl (Zm (v := Vi (ac)) rfl rfl ?_)))))))))))
  obtain ⟨bc, a9, b⟩ := Zg b
  refine Za rfl rfl (Tc rfl rfl rfl (Zi rfl (Zi rfl args_nil)) (slices_Contains_int_sim a9 q (aj.mono t)).r ?_)
  rintro _ aY ⟨aa, ax, ad, rfl⟩
  refine Zb (Ze ?_)
  obtain ⟨g, c, b⟩ := Zg b
  refine W_mid (M := fun f' w' => (fun (g : BMap) => ∃ (ai : PHeap) , PHeap.le aa ai ∧ St w0 ai (Res.box l 33 [h, i] :: Res.bmap Tryz.prog 3 4 a g :: H) w' ∧ f' 2 = Value.pointer (some ⟨l, 0, none⟩) ∧ f' 5 = Value.map (some a) ∧ f' 9 = j ∧ f' 10 = Vi ((m.length : Int)) ∧ f' 11 = Vi ((af : Int))) g) ?_ ?_
  ·rcases ite_some c with ⟨d, c⟩ | ⟨d, c⟩
   ·refine W_cond_t rfl d (Zd (Za rfl rfl (Zm (v := Value.map (some a)) rfl x (Za rfl rfl (Zm (v := Vi (ac)) rfl rfl ?_)))))
    obtain ⟨aP, aA, c⟩ := Zg c
    refine Za rfl rfl (Exec.bmap_put (ad).f1 ⟨Tryz.underlying34, Tryz.underlying3, Tryz.underlying4⟩ rfl rfl rfl rfl aA ?_)
    intro aZ au
    refine Zb (Ze ?_)
    have aI := Zu c
    subst g
    exact ⟨aa, (Zv _), (au).f1, u, x, y, z, o⟩
   refine W_cond_f rfl d ?_
   replace d := Zk d
   refine W_skip (Ze ?_)
   have aJ := Zu c
   subst g
   exact ⟨aa, (Zv _), ((ad).f1).f1, u, x, y, z, o⟩
  intro aN ba ao
  obtain ⟨aC, ay, av, a0, a1, a2, a3, a4⟩ := ao
  refine (ib_normal (Ze (Zd (Za rfl rfl (Exec.add rfl a4 rfl (Za rfl rfl (Zm (v := Vi (IntKind.i64.wrap ((af : Int) + 1))) rfl rfl (Zb (Ze ?_)))))))))
  have aK := Zu b
  subst aB
  exact ⟨aC, (Zt (Zt t ax) ay), ((av).f1).f1, a0, a1, a2, a3, (Eq.trans rfl (wrap_up aw (SliceRep.le p)))⟩
 intro aO bb an
 obtain ⟨aD, az, ae, aR, a5, aS, a6, aE⟩ := an
 refine Zc (Zd (Za rfl rfl (Zq rfl aE a6 (Zb (Ze (Zc (W_false (Zx (decide_eq_false (by omega))) (W_exit (at_exit (at_exit (ib_here (Ze (Zc (Zd (Za rfl rfl (Zm (v := Value.map (some a)) rfl a5 (Za rfl rfl (Exec.bmap_len ((ae).f1) ⟨Tryz.underlying34, Tryz.underlying3, Tryz.underlying4⟩ rfl rfl (Za rfl rfl (Exec.leq rfl rfl rfl (Za rfl rfl (Zo (v := Value.bool (decide ((n.length : Int) ≤ 1))) rfl rfl (Zb (Ze (W_ret ?_)))))))))))))))))))))))))
 have aL := Zu hm
 subst r
 refine ⟨_, ret1 rfl, ?_⟩
 exact ⟨aD, az, ((ae).drop).drop, rfl⟩
theorem cmp_Less_int_sim {w0 w : World} {s : PHeap} {H : List Res} {a : Int} {c : Int}  {r : Bool} (hm : cmp_Less_int_p a c = some r) (hS : St w0 s (H) w)  :
  Calls Tryz.prog 69 #[Vi (a), Vi (c)] w fun e w' => ∃ v, e = .returned v ∧ ((fun (x : Bool) => ∃ (k : PHeap) , PHeap.le s k ∧ St w0 k (H) w' ∧ v = Value.bool (x)) r) := by
 unfold cmp_Less_int_p at hm
 refine calls_of_W Tryz.func69 rfl rfl (Zc (Zd (Za rfl rfl (Zo (v := Value.bool (false)) rfl rfl (Zb (Ze (Zc (W_mid (M := fun f' w' => ∃ (l : PHeap) , PHeap.le s l ∧ St w0 l (H) w' ∧ f' 4 = Value.bool ((bif (cmp_isNaN_int_t a) then ((!(cmp_isNaN_int_t c)) || decide (a < c)) else decide (a < c)))) ?_ ?_))))))))
 ·refine Zd (Za rfl rfl (Zm (v := Vi (a)) rfl rfl (Za rfl rfl (Tc rfl rfl rfl (Zi rfl args_nil) (cmp_isNaN_int_sim (cmp_isNaN_int_tot a) hS ).r ?_))))
  rintro _ aa ⟨t, g, h, rfl⟩
  refine Za rfl rfl (Zm (v := Value.bool ((cmp_isNaN_int_t a))) rfl rfl ?_)
  by_cases b : (cmp_isNaN_int_t a) = true
  ·refine WL_run rfl (Zf rfl (Zx b)) rfl (Zm (v := Vi (c)) rfl rfl (WL_run rfl (Zf rfl (Zx b)) rfl (Tc rfl rfl rfl (Zi rfl args_nil) (cmp_isNaN_int_sim (cmp_isNaN_int_tot c) h ).r ?_)))
   rintro _ ab ⟨m, j, i, rfl⟩
   refine WL_run rfl (Zf rfl (Zx b)) rfl (Exec.not rfl rfl ?_)
   refine WL_passes 2 (by rw [b]; rfl) ?_
   by_cases d : (!(cmp_isNaN_int_t c)) = true
   ·refine WL_passes 5 (by rw [d]; rfl) ?_
    refine Zb (Ze ?_)
    exact ⟨m, (Zt g j), i, (Zx (Eq.trans (cnd_t b) (or_t d))).symm⟩
   replace d := Zk d
   refine WL_run rfl (Zf rfl (Zx d)) rfl (Zm (v := Vi (a)) rfl rfl (WL_run rfl (Zf rfl (Zx d)) rfl (Zm (v := Vi (c)) rfl rfl (WL_run rfl (Zf rfl (Zx d)) rfl (Zq rfl rfl rfl ?_)))))
   refine WL_passes 2 (by rw [d]; rfl) ?_
   refine Zb (Ze ?_)
   exact ⟨m, (Zt g j), i, (Zx (Eq.trans (cnd_t b) (or_f d))).symm⟩
  replace b := Zk b
  refine WL_passes 5 (by rw [b]; rfl) ?_
  refine WL_run rfl (Zf rfl rfl) rfl (Zm (v := Vi (a)) rfl rfl (WL_run rfl (Zf rfl rfl) rfl (Zm (v := Vi (c)) rfl rfl (WL_run rfl (Zf rfl rfl) rfl (Zq rfl rfl rfl (WL_passes 2 rfl (Zb (Ze ?_))))))))
  exact ⟨t, g, h, (Zx (cnd_f b)).symm⟩
 intro z ac n
 obtain ⟨u, p, o, q⟩ := n
 refine (Ze (W_ret ?_))
 have y := Zu hm
 subst r
 refine ⟨_, ret1 rfl, ?_⟩
 exact ⟨u, p, o, q⟩
theorem slices_isNaN_int_sim {w0 w : World} {s : PHeap} {H : List Res} {a : Int}  {r : Bool} (hm : slices_isNaN_int_p a = some r) (hS : St w0 s (H) w)  :
  Calls Tryz.prog 70 #[Vi (a)] w fun e w' => ∃ v, e = .returned v ∧ ((fun (c : Bool) => ∃ (b : PHeap) , PHeap.le s b ∧ St w0 b (H) w' ∧ v = Value.bool (c)) r) := by
 unfold slices_isNaN_int_p at hm
 refine calls_of_W Tryz.func70 rfl rfl (Zc (Zd (Za rfl rfl (Zo (v := Value.bool (false)) rfl rfl (Zb (Ze (Zc (Zd (Za rfl rfl (Zm (v := Vi (a)) rfl rfl (Za rfl rfl (Zm (v := Vi (a)) rfl rfl (Za rfl rfl (Exec.neq rfl rfl rfl (Za rfl rfl (Zo (v := Value.bool (!decide (a = a))) rfl rfl (Zb (Ze (W_ret ?_)))))))))))))))))))
 have d := Zu hm
 subst r
 refine ⟨_, ret1 rfl, ?_⟩
 exact ⟨s, (Zv _), hS, rfl⟩
theorem slices_BinarySearch_int_sim {w0 w : World} {s : PHeap} {H : List Res} {l : (List Int)} {c : Int} {m : Value} {r : Int × Bool} (hm : slices_BinarySearch_int_p l c = some r) (hS : St w0 s (H) w) (y : SliceRep (encInt .i64) s m l) :
  Calls Tryz.prog 43 #[m, Vi (c)] w fun e w' => ∃ v, e = .returned v ∧ ((un2 fun (bh : Int) (bi : Bool) => ∃ (a0 : PHeap) , PHeap.le s a0 ∧ St w0 a0 (H) w' ∧ v = Value.tuple #[Vi (bh), Value.bool (bi)]) r) := by
 unfold slices_BinarySearch_int_p at hm
 refine calls_of_W Tryz.func43 rfl rfl (Zc (Zd (Za rfl rfl (Zo (v := Vi (0)) rfl rfl (Za rfl rfl (Zo (v := Value.bool (false)) rfl rfl (Zb (Ze (Zc (Zd (Za rfl rfl (Zm (v := m) rfl rfl (Za rfl rfl (Zr S24 rfl rfl y (Za rfl rfl (Zo (v := Vi ((l.length : Int))) rfl rfl (Zb (Ze (Zc (Zd (Za rfl rfl (Zm (v := Vi ((l.length : Int))) rfl rfl (Za rfl rfl (Zo (v := Vi (0)) rfl rfl (Za rfl rfl (Zo (v := Vi ((l.length : Int))) rfl rfl (Zb (Ze (Zc ?_)))))))))))))))))))))))))))))
 obtain ⟨am, a8, b0, aH, aG⟩ := ctl_some hm
 refine W_mid (M := fun f' w' => ∃ s', (am = .next s' ∨ am = .brk s') ∧ (un2 fun (i : Int) (au : Int) => ∃ (a1 : PHeap) , PHeap.le s a1 ∧ St w0 a1 (H) w' ∧ f' 0 = m ∧ f' 1 = Vi (c) ∧ f' 6 = Vi ((l.length : Int)) ∧ f' 7 = Vi (i) ∧ f' 8 = Vi (au)) s') ?_ ?_
 ·refine W_block (W_while (fun s' f' w' => (un2 fun (j : Int) (k : Int) => ∃ (a2 : PHeap) , PHeap.le s a2 ∧ St w0 a2 (H) w' ∧ f' 0 = m ∧ f' 1 = Vi (c) ∧ f' 6 = Vi ((l.length : Int)) ∧ f' 7 = Vi (j) ∧ f' 8 = Vi (k)) s') a8 ?_ ?_)
  ·exact ⟨s, (Zv _), hS, rfl, rfl, rfl, rfl, rfl⟩
  intro be an bv b8 a9 g aI
  obtain ⟨j, k⟩ := be
  replace g := un2_eq g
  obtain ⟨aZ, ag, af, z, aa, ai, ab, ac⟩ := a9
  refine Zc (Zc (Zd (Za rfl rfl (Zm (v := Vi (j)) rfl ab (Za rfl rfl (Zm (v := Vi (k)) rfl ac (Za rfl rfl (Zq rfl rfl rfl (Zb (Ze ?_))))))))))
  rcases ite_some g with ⟨t, g⟩ | ⟨t, g⟩
  ·refine W_cond_t rfl t (W_skip (Ze (W_block (Zc (Zd (Za rfl rfl (Zm (v := Vi (j)) rfl ab (Za rfl rfl (Zm (v := Vi (k)) rfl ac (Za rfl rfl (Exec.add rfl rfl rfl ?_)))))))))))
   refine Za rfl rfl (Exec.convert_int (by rw [Tryz.underlying3]; rfl) Tryz.underlying118 rfl rfl ?_)
   refine Za rfl rfl (Exec.shr_const (n := 1) rfl (by decide) rfl rfl rfl ?_)
   refine Za rfl rfl (Exec.convert_int (by rw [Tryz.underlying118]; rfl) Tryz.underlying3 rfl rfl ?_)
   refine Za rfl rfl (Zo (v := Vi (IntKind.i64.wrap ((IntKind.u64.wrap (IntKind.i64.wrap (j + k))).fdiv (2 ^ 1)))) rfl rfl (Zb (Ze (Zc (Zd (Za rfl rfl (Zm (v := m) rfl z (Za rfl rfl (Zm (v := Vi (IntKind.i64.wrap ((IntKind.u64.wrap (IntKind.i64.wrap (j + k))).fdiv (2 ^ 1)))) rfl rfl ?_)))))))))
   obtain ⟨bg, aV, g⟩ := Zg g
   refine Za rfl rfl (Exec.index_rep S24 rfl rfl rfl (y.mono ag) aV ?_)
   intro bj b1 a5
   refine Za rfl rfl (Zw (E := (encInt .i64)) af A3 rfl rfl rfl a5 ?_)
   intro b5 aW
   obtain rfl := encInt_val.1 aW
   refine Za rfl rfl (Zm (v := Vi (c)) rfl aa (Za rfl rfl (Tc rfl rfl rfl (Zi rfl (Zi rfl args_nil)) (cmp_Less_int_sim (cmp_Less_int_tot bg c) af ).r ?_)))
   rintro _ b9 ⟨aj, aJ, ao, rfl⟩
   refine Zb (Ze ?_)
   obtain ⟨ae, x, g⟩ := Zg g
   refine W_mid (M := fun f' w' => (un2 fun (ar : Int) (av : Int) => ∃ (a3 : PHeap) , PHeap.le aj a3 ∧ St w0 a3 (H) w' ∧ f' 0 = m ∧ f' 1 = Vi (c) ∧ f' 6 = Vi ((l.length : Int)) ∧ f' 7 = Vi (ar) ∧ f' 8 = Vi (av)) ae) ?_ ?_
   ·rcases ite_some x with ⟨u, x⟩ | ⟨u, x⟩
    ·refine W_cond_t rfl u (Zd (Za rfl rfl (Zm (v := Vi (IntKind.i64.wrap ((IntKind.u64.wrap (IntKind.i64.wrap (j + k))).fdiv (2 ^ 1)))) rfl rfl (Za rfl rfl (Exec.add rfl rfl rfl (Za rfl rfl (Zo (v := Vi (IntKind.i64.wrap ((IntKind.i64.wrap ((IntKind.u64.wrap (IntKind.i64.wrap (j + k))).fdiv (2 ^ 1))) + 1))) rfl rfl (Zb (Ze ?_)))))))))
     have bm := Zu x
     subst ae
     exact ⟨aj, (Zv _), ao, z, aa, ai, rfl, ac⟩
    refine W_cond_f rfl u ?_
    replace u := Zk u
    refine Zd (Za rfl rfl (Zm (v := Vi (IntKind.i64.wrap ((IntKind.u64.wrap (IntKind.i64.wrap (j + k))).fdiv (2 ^ 1)))) rfl rfl (Za rfl rfl (Zo (v := Vi (IntKind.i64.wrap ((IntKind.u64.wrap (IntKind.i64.wrap (j + k))).fdiv (2 ^ 1)))) rfl rfl (Zb (Ze ?_))))))
    have bn := Zu x
    subst ae
    exact ⟨aj, (Zv _), ao, z, aa, ai, ab, rfl⟩
   intro bw bA aA
   obtain ⟨ar, av⟩ := ae
   replace g := un2_eq g
   obtain ⟨ba, aK, aD, aN, aO, aP, aQ, aR⟩ := aA
   refine (ib_normal (Ze ?_))
   have bo := Zu g
   subst an
   refine ⟨_, rfl, ?_⟩; exact ⟨ba, (Zt (Zt ag aJ) aK), aD, aN, aO, aP, aQ, aR⟩
  refine W_cond_f rfl t ?_
  replace t := Zk t
  refine W_exit (at_exit (at_exit (ib_here (Ze ?_))))
  have bp := Zu g
  subst an
  refine ⟨_, .inr (aI (by intro _ h; cases h)), ?_⟩; exact ⟨aZ, ag, af, z, aa, ai, ab, ac⟩
 rintro bx bB ⟨bf, aq, aB⟩
 have hm := aq.elim (aH _) (aG _)
 clear aq
 obtain ⟨i, au⟩ := bf
 replace hm := un2_eq hm
 obtain ⟨ak, ah, q, ax, ay, aS, ad, b4⟩ := aB
 refine (Ze (Zc ?_))
 obtain ⟨p, b, hm⟩ := Zg hm
 refine W_mid (M := fun f' w' => (fun (p : Bool) => ∃ (a4 : PHeap) , PHeap.le ak a4 ∧ St w0 a4 (H) w' ∧ f' 4 = Vi (i) ∧ f' 5 = Value.bool (p)) p) ?_ ?_
 ·refine Zd (Za rfl rfl (Zm (v := Vi (i)) rfl ad (Za rfl rfl (Zm (v := Vi (i)) rfl ad (Za rfl rfl (Zm (v := Vi ((l.length : Int))) rfl aS (Za rfl rfl (Zq rfl rfl rfl (Za rfl rfl (Zm (v := Value.bool (decide (i < (l.length : Int)))) rfl rfl ?_))))))))))
  rcases ite_some b with ⟨a, b⟩ | ⟨a, b⟩
  ·refine WL_run rfl (Zf rfl (Zx a)) rfl (Zm (v := m) rfl ax (WL_run rfl (Zf rfl (Zx a)) rfl (Zm (v := Vi (i)) rfl ad ?_)))
   obtain ⟨al, az, b⟩ := Zg b
   refine WL_run rfl (Zf rfl (Zx a)) rfl (Exec.index_rep S24 rfl rfl rfl (y.mono ah) az ?_)
   intro bk b2 a6
   refine WL_run rfl (Zf rfl (Zx a)) rfl (Zw (E := (encInt .i64)) q A3 rfl rfl rfl a6 ?_)
   intro b6 aX
   obtain rfl := encInt_val.1 aX
   refine WL_run rfl (Zf rfl (Zx a)) rfl (Zm (v := Vi (c)) rfl ay (WL_run rfl (Zf rfl (Zx a)) rfl (Exec.eql rfl rfl rfl (WL_run rfl (Zf rfl (Zx a)) rfl (Zm (v := Value.bool (decide (al = c))) rfl rfl ?_)))))
   rcases ite_some b with ⟨d, b⟩ | ⟨d, b⟩
   ·refine WL_passes 9 (by rw [d]; rfl) ?_
    refine WL_run rfl (Zf rfl (Zx a)) rfl (Zs (v := Value.bool (true)) rfl rfl rfl (Za rfl rfl (Zs (v := Value.bool (true)) rfl (Zx a) rfl (Za rfl rfl (Zo (v := Vi (i)) rfl rfl (Za rfl rfl (Zo (v := Value.bool (true)) rfl rfl (Zb (Ze ?_)))))))))
    have bq := Zu b
    subst p
    exact ⟨ak, (Zv _), q, rfl, rfl⟩
   replace d := Zk d
   refine WL_run rfl (Zf rfl (Zx d)) rfl (Zm (v := m) rfl ax (WL_run rfl (Zf rfl (Zx d)) rfl (Zm (v := Vi (i)) rfl ad (WL_run rfl (Zf rfl (Zx d)) rfl (Exec.index_rep S24 rfl rfl rfl (y.mono ah) az ?_)))))
   intro bl b3 a7
   refine WL_run rfl (Zf rfl (Zx d)) rfl (Zw (E := (encInt .i64)) q A3 rfl rfl rfl a7 ?_)
   intro b7 aY
   obtain rfl := encInt_val.1 aY
   refine WL_run rfl (Zf rfl (Zx d)) rfl (Tc rfl rfl rfl (Zi rfl args_nil) (slices_isNaN_int_sim (slices_isNaN_int_tot al) q ).r ?_)
   rintro _ bC ⟨bb, aw, ap, rfl⟩
   refine WL_run rfl (Zf rfl (Zx d)) rfl (Zm (v := Value.bool ((slices_isNaN_int_t al))) rfl rfl ?_)
   rcases ite_some b with ⟨o, b⟩ | ⟨o, b⟩
   ·refine WL_run rfl (Zf rfl (Zx o)) rfl (Zm (v := Vi (c)) rfl ay (WL_run rfl (Zf rfl (Zx o)) rfl (Tc rfl rfl rfl (Zi rfl args_nil) (slices_isNaN_int_sim (slices_isNaN_int_tot c) ap ).r ?_)))
    rintro _ bD ⟨bc, aL, aE, rfl⟩
    refine WL_run rfl (Zf rfl (Zx d)) rfl (Zs (v := Value.bool ((slices_isNaN_int_t c))) rfl (Zx o) rfl (WL_run rfl (Zf rfl (Zx a)) rfl (Exec.pick_f (v := Value.bool ((slices_isNaN_int_t c))) rfl (Zx d) rfl (Za rfl rfl (Zs (v := Value.bool ((slices_isNaN_int_t c))) rfl (Zx a) rfl (Za rfl rfl (Zo (v := Vi (i)) rfl rfl (Za rfl rfl (Zo (v := Value.bool ((slices_isNaN_int_t c))) rfl rfl (Zb (Ze ?_)))))))))))
    have br := Zu b
    subst p
    exact ⟨bc, (Zt aw aL), aE, rfl, rfl⟩
   replace o := Zk o
   refine WL_passes 2 (by rw [o]; rfl) ?_
   refine WL_run rfl (Zf rfl (Zx d)) rfl (Exec.pick_f (v := Value.bool (false)) rfl rfl rfl (WL_run rfl (Zf rfl (Zx a)) rfl (Exec.pick_f (v := Value.bool (false)) rfl (Zx d) rfl (Za rfl rfl (Zs (v := Value.bool (false)) rfl (Zx a) rfl (Za rfl rfl (Zo (v := Vi (i)) rfl rfl (Za rfl rfl (Zo (v := Value.bool (false)) rfl rfl (Zb (Ze ?_)))))))))))
   have bs := Zu b
   subst p
   exact ⟨bb, aw, ap, rfl, rfl⟩
  replace a := Zk a
  refine WL_passes 18 (by rw [a]; rfl) ?_
  refine Za rfl rfl (Zo (v := Vi (i)) rfl rfl (Za rfl rfl (Zo (v := Value.bool (false)) rfl rfl (Zb (Ze ?_)))))
  have bt := Zu b
  subst p
  exact ⟨ak, (Zv _), q, rfl, rfl⟩
 intro bz bE aC
 obtain ⟨bd, aM, aF, aT, aU⟩ := aC
 refine (Ze (W_ret ?_))
 have bu := Zu hm
 subst r
 refine ⟨_, ret2 rfl, ?_⟩
 exact ⟨bd, (Zt ah aM), aF, (tup2 aT aU)⟩
theorem F81_2 : tyField Tryz.prog 81 2 = some 4 := by kernel_rfl
theorem A4 : tyAgg Tryz.prog 4 = some (false, 1) := by kernel_rfl
theorem Z121 : tyZero Tryz.prog 121 = some (Value.agg #[Value.map none, Value.map none]) := by kernel_rfl
theorem A121 : tyAgg Tryz.prog 121 = some (true, 2) := by kernel_rfl
theorem F121_0 : tyField Tryz.prog 121 0 = some 0 := by kernel_rfl
theorem A34 : tyAgg Tryz.prog 34 = some (false, 1) := by kernel_rfl
theorem F121_1 : tyField Tryz.prog 121 1 = some 1 := by kernel_rfl
theorem N86 : (Tryz.f86.name == "runtime.NumGoroutine") = false := by kernel_rfl
theorem invariant_situation_c1_sim {w0 w : World} {s : PHeap} {H : List Res} {d : Cond} {l : invariant_literals} {i : Value} {j : Value} {o : Value} {c : Nat} {a : Nat} {b : Nat} {r : BMap × BMap} (hm : invariant_situation_c1_p d l = some r) (hS : St w0 s (Res.box c 121 [Value.map (some a), Value.map (some b)] :: Res.bmap Tryz.prog 3 4 a l.pos :: Res.bmap Tryz.prog 3 4 b l.neg :: H) w) (p : SliceRep (encInt .i64) s i d.Pos) (q : SliceRep (encInt .i64) s j d.Neg) (aV : SliceRep encGTest s o d.Tests) :
  Calls Tryz.prog 86 #[Value.agg #[i, j, o], Value.pointer (some ⟨c, 0, none⟩)] w fun e w' => ∃ v, e = .returned v ∧ ((un2 fun (aA : BMap) (aB : BMap) => ∃ (al : PHeap) , PHeap.le s al ∧ St w0 al (Res.box c 121 [Value.map (some a), Value.map (some b)] :: Res.bmap Tryz.prog 3 4 a aA :: Res.bmap Tryz.prog 3 4 b aB :: H) w' ∧ v = Value.tuple #[]) r) := by
 unfold invariant_situation_c1_p at hm
 refine calls_of_W Tryz.func86 rfl rfl (Zc (Zd (Za rfl rfl (Exec.box (cs := [i, j, o]) hS rfl rfl rfl ?_))))
 intro aa bo ab
 refine Zb (Ze (Zc (Zc (Zd (Za rfl rfl (Zp F59_0 rfl rfl rfl (Za rfl rfl (Zn (ab) A24 rfl rfl rfl (Za rfl rfl (Zr S24 rfl rfl p (Za rfl rfl (Zm (v := Vi (0)) rfl rfl (Zb (Ze ?_))))))))))))))
 obtain ⟨m, av, hm⟩ := Zg hm
 refine W_block (W_forS (fun k' s' f' w' => (fun (m : BMap) => ∃ (am : PHeap) , PHeap.le s am ∧ St w0 am (Res.box c 121 [Value.map (some a), Value.map (some b)] :: Res.bmap Tryz.prog 3 4 a m :: Res.bmap Tryz.prog 3 4 b l.neg :: Res.box aa 59 [i, j, o] :: H) w' ∧ f' 1 = Value.pointer (some ⟨c, 0, none⟩) ∧ f' 2 = Value.pointer (some ⟨aa, 0, none⟩) ∧ f' 8 = i ∧ f' 9 = Vi ((d.Pos.length : Int)) ∧ f' 10 = Vi (k' : Int)) s') av ?_ ?_ ?_)
 ·have a1 := (ab).f3
  exact ⟨s, (Zv _), ((a1).f3).f3, rfl, rfl, rfl, rfl, rfl⟩
 ·intro a8 m aO bb bp a6 ax g
  obtain ⟨aP, ad, t, af, aD, ag, ah, y⟩ := ax
  refine Zc (Zd (Za rfl rfl (Zq rfl y ah (Zb (Ze (Zc (W_true (Zx (decide_eq_true (by omega))) (W_skip (Ze (Zc (W_block (Zc (Zd ?_)))))))))))))
  obtain ⟨ap, aI, g⟩ := Zg g
  refine Za rfl rfl (Exec.index_rep S24 rfl ag y (p.mono ad) aI ?_)
  intro aW bh ar
  refine Za rfl rfl (Zw (E := (encInt .i64)) t A3 rfl rfl rfl ar ?_)
  intro bm aJ
  obtain rfl := encInt_val.1 aJ
  refine Za rfl rfl (Zo (v := Vi (ap)) rfl rfl (Zb (Ze (Zd (Za rfl rfl (Zp F121_0 rfl af rfl (Za rfl rfl (Zn (t) A34 rfl rfl rfl (Za rfl rfl (Zm (v := Vi (ap)) rfl rfl ?_))))))))))
  obtain ⟨bf, aK, g⟩ := Zg g
  refine Za rfl rfl (Exec.bmap_put (t).f1 ⟨Tryz.underlying34, Tryz.underlying3, Tryz.underlying4⟩ rfl rfl rfl rfl aK ?_)
  intro bq a2
  refine Zb (ib_normal (Ze (Zd (Za rfl rfl (Exec.add rfl y rfl (Za rfl rfl (Zm (v := Vi (IntKind.i64.wrap ((a8 : Int) + 1))) rfl rfl (Zb (Ze ?_)))))))))
  have aY := Zu g
  subst aO
  exact ⟨aP, ad, ((((a2).f3).f3).f2).f3, af, aD, ag, ah, (Eq.trans rfl (wrap_up a6 (SliceRep.le p)))⟩
 intro bc br ay
 obtain ⟨an, n, ac, aE, aF, bj, aG, aT⟩ := ay
 refine Zc (Zd (Za rfl rfl (Zq rfl aT aG (Zb (Ze (Zc (W_false (Zx (decide_eq_false (by omega))) (W_exit (at_exit (at_exit (ib_here (Ze (Zc (Zd (Za rfl rfl (Zp F59_1 rfl aF rfl (Za rfl rfl (Zn ((ac).f3) A24 rfl rfl rfl (Za rfl rfl (Zr S24 rfl rfl (q.mono n) (Za rfl rfl (Zm (v := Vi (0)) rfl rfl (Zb (Ze ?_))))))))))))))))))))))))
 obtain ⟨x, aw, hm⟩ := Zg hm
 refine W_block (W_forS (fun k' s' f' w' => (fun (x : BMap) => ∃ (ao : PHeap) , PHeap.le an ao ∧ St w0 ao (Res.box c 121 [Value.map (some a), Value.map (some b)] :: Res.bmap Tryz.prog 3 4 a m :: Res.bmap Tryz.prog 3 4 b x :: H) w' ∧ f' 1 = Value.pointer (some ⟨c, 0, none⟩) ∧ f' 19 = j ∧ f' 20 = Vi ((d.Neg.length : Int)) ∧ f' 21 = Vi (k' : Int)) s') aw ?_ ?_ ?_)
 ·have a3 := ((ac).f3).drop
  exact ⟨an, (Zv _), (((a3).f2).f2).f2, aE, rfl, rfl, rfl⟩
 ·intro a9 x aQ bd bs a7 az h
  obtain ⟨aR, ae, u, ai, aj, ak, z⟩ := az
  refine Zc (Zd (Za rfl rfl (Zq rfl z ak (Zb (Ze (Zc (W_true (Zx (decide_eq_true (by omega))) (W_skip (Ze (Zc (W_block (Zc (Zd ?_)))))))))))))
  obtain ⟨aq, aL, h⟩ := Zg h
  refine Za rfl rfl (Exec.index_rep S24 rfl aj z (q.mono (Zt n ae)) aL ?_)
  intro aX bi au
  refine Za rfl rfl (Zw (E := (encInt .i64)) u A3 rfl rfl rfl au ?_)
  intro bn aM
  obtain rfl := encInt_val.1 aM
  refine Za rfl rfl (Zo (v := Vi (aq)) rfl rfl (Zb (Ze (Zd (Za rfl rfl (Zp F121_1 rfl ai rfl (Za rfl rfl (Zn (u) A34 rfl rfl rfl (Za rfl rfl (Zm (v := Vi (aq)) rfl rfl ?_))))))))))
  obtain ⟨bg, aN, h⟩ := Zg h
  refine Za rfl rfl (Exec.bmap_put (u).f2 ⟨Tryz.underlying34, Tryz.underlying3, Tryz.underlying4⟩ rfl rfl rfl rfl aN ?_)
  intro bt a4
  refine Zb (ib_normal (Ze (Zd (Za rfl rfl (Exec.add rfl z rfl (Za rfl rfl (Zm (v := Vi (IntKind.i64.wrap ((a9 : Int) + 1))) rfl rfl (Zb (Ze ?_)))))))))
  have aZ := Zu h
  subst aQ
  exact ⟨aR, ae, ((a4).f2).f2, ai, aj, ak, (Eq.trans rfl (wrap_up a7 (SliceRep.le (q.mono n))))⟩
 intro be bu a0
 obtain ⟨aS, aC, a5, bk, bl, aH, aU⟩ := a0
 refine Zc (Zd (Za rfl rfl (Zq rfl aU aH (Zb (Ze (Zc (W_false (Zx (decide_eq_false (by omega))) (W_exit (at_exit (at_exit (ib_here ?_)))))))))))
 have ba := Zu hm
 subst r
 refine ⟨_, retG0 rfl, ?_⟩
 exact ⟨aS, (Zt n aC), (((a5).f2).f2).f2, rfl⟩
theorem invariant_situation_sim {w0 w : World} {s : PHeap} {H : List Res} {i : GOp} {aw : (List GChange)} {j : Int} {ag : (List Int)} {am : Value} {an : Value} {ao : Value} {aC : Value} {aD : Value} {ap : Value} {t : Value} {r : Bool × invariant_literals} (hm : invariant_situation_p i aw j ag = some r) (hS : St w0 s (H) w) (br : SliceRep (encInt .i64) s am i.Pre.Pos) (bs : SliceRep (encInt .i64) s an i.Pre.Neg) (bt : SliceRep encGTest s ao i.Pre.Tests) (cC : SliceRep encGChange s aC i.Changes) (cD : SliceRep encGAssign s aD i.Assigns) (au : SliceRep encGChange s ap aw) (av : SliceRep (encInt .i64) s t ag) :
  Calls Tryz.prog 71 #[Value.agg #[Value.string (i.Name), Vi (i.Cost), am, an, ao, aC, aD], ap, Vi (j), t] w fun e w' => ∃ v, e = .returned v ∧ ((un2 fun (cB : Bool) (bq : invariant_literals) => ∃ (be : PHeap) (bo : Nat) (bp : Nat), PHeap.le s be ∧ St w0 be (Res.bmap Tryz.prog 3 4 bo bq.pos :: Res.bmap Tryz.prog 3 4 bp bq.neg :: H) w' ∧ v = Value.tuple #[Value.agg #[Value.map (some bo), Value.map (some bp)], Value.bool (cB)]) r) := by
 unfold invariant_situation_p at hm
 refine calls_of_W Tryz.func71 rfl rfl (Zc (Zd (Za rfl rfl (Exec.box (cs := [Value.string (i.Name), Vi (i.Cost), am, an, ao, aC, aD]) hS rfl rfl rfl ?_))))
 intro cE du b6
 refine Za rfl rfl (Exec.alloc (cs := [Value.map none, Value.map none]) b6 Z121 rfl rfl ?_)
 intro h dv b7
 refine Za rfl rfl (Zo (v := Value.bool (false)) rfl rfl (Zb (Ze (Zc (Zd (Za rfl rfl (Exec.make_bmap (k := 3) (e := 4) b7 rfl ?_)))))))
 intro a dw b8
 refine Za rfl rfl (Exec.make_bmap (k := 3) (e := 4) b8 rfl ?_)
 intro b dx b9
 refine Za rfl rfl (Exec.build rfl (parts_cons (c := [Value.map (some a)]) (cells_of rfl rfl) (parts_cons (c := [Value.map (some b)]) (cells_of rfl rfl) parts_nil)) (v := Value.agg #[Value.map (some a), Value.map (some b)]) (fun _ => by kernel_rfl) (Za rfl rfl (Exec.alloc (cs := [Value.map none, Value.map none]) b9 Z121 rfl rfl ?_)))
 intro g dy bA
 refine Za rfl rfl (Exec.store_box (ds := [Value.map (some a), Value.map (some b)]) (es := [Value.map (some a), Value.map (some b)]) bA A121 rfl rfl rfl rfl (Zj rfl (Zj rfl one_nil)) (Nat.le_of_ble_eq_true rfl) rfl ?_)
 intro dz aG
 refine Zb (Ze (Zc (Zd (Za rfl rfl (Exec.makeFunc rfl (Zi rfl args_nil) (Za rfl rfl (Zo (v := Value.func (.func 86) #[] #[Value.pointer (some ⟨g, 0, none⟩)]) rfl rfl (Zb (Ze (Zc (Zd (Za rfl rfl (Zm (v := Value.func (.func 86) #[] #[Value.pointer (some ⟨g, 0, none⟩)]) rfl rfl (Za rfl rfl (Zp F63_2 rfl rfl rfl (Za rfl rfl (Exec.load_box_agg (ds := [am, an, ao]) ((aG).f4) A59 rfl rfl rfl ?_)))))))))))))))))
 obtain ⟨c5, cr, hm⟩ := Zg hm
 obtain ⟨da, db⟩ := c5
 replace hm := un2_eq hm
 refine Za rfl rfl (Exec.callc rfl rfl Tryz.func86 rfl N86 (Zi rfl args_nil) rfl ((invariant_situation_c1_sim cr (((aG).f1).f2).f2 br bs bt).mono ?_))
 rintro _ d0 ⟨_, rfl, ⟨bf, n, bB, rfl⟩⟩
 refine ⟨_, rfl, ?_⟩
 refine Zb (Ze (Zc (Zc (Zd (Za rfl rfl (Zm (v := ap) rfl rfl (Za rfl rfl (Zr S60 rfl rfl (au.mono n) (Za rfl rfl (Zm (v := Vi (0)) rfl rfl (Zb (Ze ?_))))))))))))
 obtain ⟨c6, bw, hm⟩ := Zg hm
 refine W_block (W_forS (fun k' s' f' w' => (un2 fun (ay : BMap) (ai : BMap) => ∃ (bg : PHeap) , PHeap.le bf bg ∧ St w0 bg (Res.box h 121 [Value.map none, Value.map none] :: Res.box g 121 [Value.map (some a), Value.map (some b)] :: Res.bmap Tryz.prog 3 4 a ay :: Res.bmap Tryz.prog 3 4 b ai :: H) w' ∧ f' 2 = Vi (j) ∧ f' 3 = t ∧ f' 8 = Value.pointer (some ⟨h, 0, none⟩) ∧ f' 10 = Value.pointer (some ⟨g, 0, none⟩) ∧ f' 11 = Value.func (.func 86) #[] #[Value.pointer (some ⟨g, 0, none⟩)] ∧ f' 25 = ap ∧ f' 26 = Vi ((aw.length : Int)) ∧ f' 27 = Vi (k' : Int)) s') bw ?_ ?_ ?_)
 ·have bC := ((bB).f4).drop
  exact ⟨bf, (Zv _), ((((bC).f2).f2).f2).f3, rfl, rfl, rfl, rfl, rfl, rfl, rfl, rfl⟩
 ·intro bX c7 c1 cT d1 bR bz l
  obtain ⟨ay, ai⟩ := c7
  replace l := un2_eq l
  obtain ⟨dn, aQ, aH, ca, cb, cc, cd, aT, aU, aV, aE⟩ := bz
  refine Zc (Zd (Za rfl rfl (Zq rfl aE aV (Zb (Ze (Zc (W_true (Zx (decide_eq_true (by omega))) (W_skip (Ze (Zc (W_block (Zc (Zd ?_)))))))))))))
  obtain ⟨aq, ct, l⟩ := Zg l
  refine Za rfl rfl (Exec.index_rep S60 rfl aU aE (au.mono (Zt n aQ)) ct ?_)
  intro cF dg bu
  refine Za rfl rfl (Zw (E := encGChange) aH A81 rfl rfl rfl bu ?_)
  intro dq cu
  obtain ⟨a9, aA, aB, rfl, ba, bb, bc⟩ := encGChange_val.1 cu
  refine Za rfl rfl (Exec.alloc (cs := [Value.slice none 0 0, Value.slice none 0 0, Value.slice none 0 0, Vi (0), Value.bool (false)]) aH Z81 rfl rfl ?_)
  intro cG d2 bD
  refine Za rfl rfl (Exec.store_box (ds := [a9, aA, aB, Vi (aq.Atom), Value.bool (aq.Add)]) (es := [a9, aA, aB, Vi (aq.Atom), Value.bool (aq.Add)]) bD A81 rfl rfl rfl rfl (Zj (ba).one (Zj (bb).one (Zj (bc).one (Zj rfl (Zj rfl one_nil))))) (Nat.le_of_ble_eq_true rfl) rfl ?_)
  intro d3 aI
  refine Zb (Ze (Zd (Za rfl rfl (Zm (v := Value.func (.func 86) #[] #[Value.pointer (some ⟨g, 0, none⟩)]) rfl aT (Za rfl rfl (Zp F81_0 rfl rfl rfl (Za rfl rfl (Exec.load_box_agg (ds := [a9, aA, aB]) (aI) A59 rfl rfl rfl ?_))))))))
  obtain ⟨c8, cv, l⟩ := Zg l
  obtain ⟨dc, dd⟩ := c8
  replace l := un2_eq l
  refine Za rfl rfl (Exec.callc rfl rfl Tryz.func86 rfl N86 (Zi rfl args_nil) rfl ((invariant_situation_c1_sim cv (((aI).f4).f4).f4 ba bb bc).mono ?_))
  rintro _ d4 ⟨_, rfl, ⟨c2, bY, bE, rfl⟩⟩
  refine ⟨_, rfl, ?_⟩
  refine Zb (ib_normal (Ze (Zd (Za rfl rfl (Exec.add rfl aE rfl (Za rfl rfl (Zm (v := Vi (IntKind.i64.wrap ((bX : Int) + 1))) rfl rfl (Zb (Ze ?_)))))))))
  have cJ := Zu l
  subst c1
  exact ⟨c2, (Zt aQ bY), ((((((bE).f3).drop).f2).f2).f2).f3, ca, cb, cc, cd, aT, aU, aV, (Eq.trans rfl (wrap_up bR (SliceRep.le (au.mono n))))⟩
 intro cU d5 b0
 obtain ⟨ay, ai⟩ := c6
 replace hm := un2_eq hm
 obtain ⟨a6, ab, ax, ak, aW, aX, a0, di, dj, ce, c9⟩ := b0
 refine Zc (Zd (Za rfl rfl (Zq rfl c9 ce (Zb (Ze (Zc (W_false (Zx (decide_eq_false (by omega))) (W_exit (at_exit (at_exit (ib_here (Ze (Zc (Zc (Zd (Za rfl rfl (Zm (v := Vi (j)) rfl ak (Za rfl rfl (Exec.geq rfl rfl rfl (Zb (Ze ?_)))))))))))))))))))))
 obtain ⟨o, p, hm⟩ := Zg hm
 refine W_mid (M := fun f' w' => (fun (o : BMap) => ∃ (bh : PHeap) , PHeap.le a6 bh ∧ St w0 bh (Res.box h 121 [Value.map none, Value.map none] :: Res.box g 121 [Value.map (some a), Value.map (some b)] :: Res.bmap Tryz.prog 3 4 a o :: Res.bmap Tryz.prog 3 4 b ai :: H) w' ∧ f' 2 = Vi (j) ∧ f' 3 = t ∧ f' 8 = Value.pointer (some ⟨h, 0, none⟩) ∧ f' 10 = Value.pointer (some ⟨g, 0, none⟩)) o) ?_ ?_
 ·rcases ite_some p with ⟨x, p⟩ | ⟨x, p⟩
  ·refine W_cond_t rfl x (Zd (Za rfl rfl (Zp F121_0 rfl a0 rfl (Za rfl rfl (Zn ((ax).f1) A34 rfl rfl rfl (Za rfl rfl (Zm (v := Vi (j)) rfl ak ?_)))))))
   obtain ⟨de, cw, p⟩ := Zg p
   refine Za rfl rfl (Exec.bmap_put (ax).f2 ⟨Tryz.underlying34, Tryz.underlying3, Tryz.underlying4⟩ rfl rfl rfl rfl cw ?_)
   intro d6 bF
   refine Zb (Ze ?_)
   have cK := Zu p
   subst o
   exact ⟨a6, (Zv _), ((((bF).f3).f1).f3).f3, ak, aW, aX, a0⟩
  refine W_cond_f rfl x ?_
  replace x := Zk x
  refine W_skip (Ze ?_)
  have cL := Zu p
  subst o
  exact ⟨a6, (Zv _), ((((ax).f3).f3).f3).f3, ak, aW, aX, a0⟩
 intro cV d7 b4
 obtain ⟨bi, ac, bG, cf, cg, ch, ci⟩ := b4
 refine (Ze (Zc (Zc (Zd (Za rfl rfl (Zm (v := t) rfl cg (Za rfl rfl (Zr S24 rfl rfl (av.mono (Zt (Zt n ab) ac)) (Za rfl rfl (Zm (v := Vi (0)) rfl rfl (Zb (Ze ?_))))))))))))
 obtain ⟨aj, bx, hm⟩ := Zg hm
 refine W_block (W_forS (fun k' s' f' w' => (fun (aj : BMap) => ∃ (bj : PHeap) , PHeap.le bi bj ∧ St w0 bj (Res.box h 121 [Value.map none, Value.map none] :: Res.box g 121 [Value.map (some a), Value.map (some b)] :: Res.bmap Tryz.prog 3 4 a o :: Res.bmap Tryz.prog 3 4 b aj :: H) w' ∧ f' 2 = Vi (j) ∧ f' 8 = Value.pointer (some ⟨h, 0, none⟩) ∧ f' 10 = Value.pointer (some ⟨g, 0, none⟩) ∧ f' 41 = t ∧ f' 42 = Vi ((ag.length : Int)) ∧ f' 43 = Vi (k' : Int)) s') bx ?_ ?_ ?_)
 ·have bH := (bG).f3
  exact ⟨bi, (Zv _), (((bH).f3).f3).f3, cf, ch, ci, rfl, rfl, rfl⟩
 ·intro aP aj c3 cW d8 bS b1 aa
  obtain ⟨a7, aR, ah, a1, aY, a2, a3, a4, ar⟩ := b1
  refine Zc (Zd (Za rfl rfl (Zq rfl ar a4 (Zb (Ze (Zc (W_true (Zx (decide_eq_true (by omega))) (W_skip (Ze (Zc (W_block (Zc (Zd ?_)))))))))))))
  obtain ⟨aF, cx, aa⟩ := Zg aa
  refine Za rfl rfl (Exec.index_rep S24 rfl a3 ar (av.mono (Zt (Zt (Zt n ab) ac) aR)) cx ?_)
  intro cH dh bv
  refine Za rfl rfl (Zw (E := (encInt .i64)) ah A3 rfl rfl rfl bv ?_)
  intro dr cy
  obtain rfl := encInt_val.1 cy
  refine Za rfl rfl (Zo (v := Vi (aF)) rfl rfl (Zb (Ze (Zc (Zd (Za rfl rfl (Zm (v := Vi (aF)) rfl rfl (Za rfl rfl (Zm (v := Vi (j)) rfl a1 (Za rfl rfl (Exec.neq rfl rfl rfl (Zb (Ze ?_)))))))))))))
  obtain ⟨ad, q, aa⟩ := Zg aa
  refine W_mid (M := fun f' w' => (fun (ad : BMap) => ∃ (bk : PHeap) , PHeap.le a7 bk ∧ St w0 bk (Res.box h 121 [Value.map none, Value.map none] :: Res.box g 121 [Value.map (some a), Value.map (some b)] :: Res.bmap Tryz.prog 3 4 a o :: Res.bmap Tryz.prog 3 4 b ad :: H) w' ∧ f' 2 = Vi (j) ∧ f' 8 = Value.pointer (some ⟨h, 0, none⟩) ∧ f' 10 = Value.pointer (some ⟨g, 0, none⟩) ∧ f' 41 = t ∧ f' 42 = Vi ((ag.length : Int)) ∧ f' 43 = Vi ((aP : Int))) ad) ?_ ?_
  ·rcases ite_some q with ⟨y, q⟩ | ⟨y, q⟩
   ·refine W_cond_t rfl y (Zd (Za rfl rfl (Zp F121_1 rfl a2 rfl (Za rfl rfl (Zn ((ah).f1) A34 rfl rfl rfl (Za rfl rfl (Zm (v := Vi (aF)) rfl rfl ?_)))))))
    obtain ⟨df, cz, q⟩ := Zg q
    refine Za rfl rfl (Exec.bmap_put (ah).f3 ⟨Tryz.underlying34, Tryz.underlying3, Tryz.underlying4⟩ rfl rfl rfl rfl cz ?_)
    intro d9 bI
    refine Zb (Ze ?_)
    have cM := Zu q
    subst ad
    exact ⟨a7, (Zv _), (((bI).f3).f3).f3, a1, aY, a2, a3, a4, ar⟩
   refine W_cond_f rfl y ?_
   replace y := Zk y
   refine W_skip (Ze ?_)
   have cN := Zu q
   subst ad
   exact ⟨a7, (Zv _), ((((ah).f3).f3).f3).f3, a1, aY, a2, a3, a4, ar⟩
  intro cX dA b5
  obtain ⟨c4, bZ, bJ, cj, ck, cl, cm, cn, co⟩ := b5
  refine (ib_normal (Ze (Zd (Za rfl rfl (Exec.add rfl co rfl (Za rfl rfl (Zm (v := Vi (IntKind.i64.wrap ((aP : Int) + 1))) rfl rfl (Zb (Ze ?_)))))))))
  have cO := Zu aa
  subst c3
  exact ⟨c4, (Zt aR bZ), ((((bJ).f3).f3).f3).f3, cj, ck, cl, cm, cn, (Eq.trans rfl (wrap_up bS (SliceRep.le (av.mono (Zt (Zt n ab) ac)))))⟩
 intro cY dB b2
 obtain ⟨bl, aS, aJ, dk, cp, aZ, dl, cq, cA⟩ := b2
 refine Zc (Zd (Za rfl rfl (Zq rfl cA cq (Zb (Ze (Zc (W_false (Zx (decide_eq_false (by omega))) (W_exit (at_exit (at_exit (ib_here (Ze (Zc (Zc (Zd (Za rfl rfl (Zp F121_0 rfl aZ rfl (Za rfl rfl (Zn ((aJ).f1) A34 rfl rfl rfl (Za rfl rfl (Exec.bmap_range (aJ).f2 ⟨Tryz.underlying34, Tryz.underlying3, Tryz.underlying4⟩ rfl rfl ?_)))))))))))))))))))))
 intro bd dC bK
 refine Zb (Ze (W_block (W_rangeC (fun d' s' f' w' => (fun (_ : Unit) => ∃ (bm : PHeap) , PHeap.le bl bm ∧ St w0 bm (Res.box h 121 [Value.map none, Value.map none] :: Res.box g 121 [Value.map (some a), Value.map (some b)] :: Res.brange Tryz.prog 3 4 a bd o d' :: Res.bmap Tryz.prog 3 4 b aj :: H) w' ∧ f' 8 = Value.pointer (some ⟨h, 0, none⟩) ∧ f' 10 = Value.pointer (some ⟨g, 0, none⟩) ∧ f' 56 = Value.pointer (some ⟨bd, 0, none⟩)) s') hm ?_ ?_)))
 ·have bL := (bK).f3
  exact ⟨bl, (Zv _), (((bL).f1).f3).f3, cp, aZ, rfl⟩
 intro cI dp cZ dD b3 bP bU
 obtain ⟨a8, az, bM, ae, al, a5⟩ := b3
 refine Zc (Zd (Za rfl rfl (Exec.brange_next (bM).f2 ⟨Tryz.underlying34, Tryz.underlying3, Tryz.underlying4⟩ rfl a5 ?_ ?_)))
 ·intro bO aK
  have bT := bP bO
  refine Za rfl rfl (Exec.extract (v := Value.bool (false)) rfl rfl rfl (Zb (Ze (Zc (W_false rfl (W_exit (at_exit (at_exit (ib_here (Ze (Zc (Zd (Za rfl rfl (Exec.load_box_agg (ds := [Value.map (some a), Value.map (some b)]) ((aK).f2) A121 rfl al rfl (Za rfl rfl (Exec.store_box (ds := [Value.map (some a), Value.map (some b)]) (es := [Value.map (some a), Value.map (some b)]) (aK).f1 A121 rfl ae rfl rfl (Zj rfl (Zj rfl one_nil)) (Nat.le_of_ble_eq_true rfl) rfl ?_))))))))))))))))
  intro dE aL
  refine Za rfl rfl (Zo (v := Value.bool (true)) rfl rfl (Zb (Ze (W_ret ?_))))
  have cP := Zu bT
  subst r
  refine ⟨_, retG2 rfl ⟨_, _, ae, cellRes (aL) A121⟩ rfl, ?_⟩
  exact ⟨a8, a, b, (Zt (Zt (Zt (Zt n ab) ac) aS) az), (((((aL).drop).f1).drop).f1).f1, (tup2 rfl rfl)⟩
 intro af dt dF aN aO u bQ
 obtain ⟨bn, m, bW⟩ := bU af aN aO
 have hm40802k := m
 refine Za rfl rfl (Exec.extract (v := Value.bool (true)) rfl rfl rfl (Zb (Ze (Zc (W_true rfl (W_skip (Ze (W_block (Zc (Zd (Za rfl rfl (Exec.entry rfl a5 bQ (Za rfl rfl (Exec.extract (v := Vi (af)) rfl rfl rfl (Za rfl rfl (Zo (v := Vi (af)) rfl rfl (Zb (Ze (Zc (Zd (Za rfl rfl (Zp F121_1 rfl al rfl (Za rfl rfl (Zn ((u).f2) A34 rfl rfl rfl (Za rfl rfl (Zm (v := Vi (af)) rfl rfl ?_))))))))))))))))))))))))))
 obtain ⟨dm, c0, m⟩ := Zg m
 refine Za rfl rfl (Exec.bmap_get ((u).f3) ⟨Tryz.underlying34, Tryz.underlying3, Tryz.underlying4⟩ Z4 rfl rfl rfl c0 (Zb (Ze ?_)))
 rcases ite_some m with ⟨z, m⟩ | ⟨z, m⟩
 ·refine W_cond_t rfl z (Zc (Zd (Za rfl rfl (Exec.load_box_agg (ds := [Value.map (some a), Value.map (some b)]) ((u).f2) A121 rfl al rfl (Za rfl rfl (Exec.store_box (ds := [Value.map (some a), Value.map (some b)]) (es := [Value.map (some a), Value.map (some b)]) (u).f1 A121 rfl ae rfl rfl (Zj rfl (Zj rfl one_nil)) (Nat.le_of_ble_eq_true rfl) rfl ?_))))))
  intro dG bN
  refine Za rfl rfl (Zo (v := Value.bool (false)) rfl rfl (Zb (Ze (W_ret (ib_ret (at_ret (ib_ret (at_ret ?_))))))))
  have aM := St.brange_stop (bN).f1
  have cQ := Zu m
  subst bn
  have bV := bW _ rfl
  have cR := Zu bV
  subst r
  refine ⟨_, retG2 rfl ⟨_, _, ae, cellRes ((aM).f1) A121⟩ rfl, ?_⟩
  exact ⟨a8, a, b, (Zt (Zt (Zt (Zt n ab) ac) aS) az), ((((((aM).f1).drop).f1).drop).f1).f1, (tup2 rfl rfl)⟩
 refine W_cond_f rfl z ?_
 replace z := Zk z
 refine W_skip (ib_normal (Ze ?_))
 have cS := Zu m
 subst bn
 exact ⟨af, _, aN, aO, hm40802k, ⟨a8, az, ((((u).f3).f1).f3).f3, ae, al, a5⟩⟩
theorem invariant_literals_deletes_o_sim {w0 w : World} {s : PHeap} {H : List Res} {b : invariant_literals} {g : GOp} {l : Int} {c : Nat} {d : Nat} {aE : Value} {aF : Value} {aG : Value} {o : Value} {aH : Value} {r : Bool} (hm : invariant_literals_deletes_o_p b g l = some r) (hS : St w0 s (Res.bmap Tryz.prog 3 4 c b.pos :: Res.bmap Tryz.prog 3 4 d b.neg :: H) w) (cW : SliceRep (encInt .i64) s aE g.Pre.Pos) (cX : SliceRep (encInt .i64) s aF g.Pre.Neg) (cY : SliceRep encGTest s aG g.Pre.Tests) (aq : SliceRep encGChange s o g.Changes) (cZ : SliceRep encGAssign s aH g.Assigns) :
  Calls Tryz.prog 72 #[Value.agg #[Value.map (some c), Value.map (some d)], Value.agg #[Value.string (g.Name), Vi (g.Cost), aE, aF, aG, o, aH], Vi (l)] w fun e w' => ∃ v, e = .returned v ∧ ((fun (cV : Bool) => ∃ (bm : PHeap) , PHeap.le s bm ∧ St w0 bm (Res.bmap Tryz.prog 3 4 c b.pos :: Res.bmap Tryz.prog 3 4 d b.neg :: H) w' ∧ v = Value.bool (cV)) r) := by
 unfold invariant_literals_deletes_o_p at hm
 refine calls_of_W Tryz.func72 rfl rfl (Zc (Zd (Za rfl rfl (Exec.box (cs := [Value.map (some c), Value.map (some d)]) hS rfl rfl rfl ?_))))
 intro j dI bF
 refine Za rfl rfl (Exec.box (cs := [Value.string (g.Name), Vi (g.Cost), aE, aF, aG, o, aH]) bF rfl rfl rfl ?_)
 intro da dJ aJ
 refine Za rfl rfl (Zo (v := Value.bool (false)) rfl rfl (Zb (Ze (Zc (Zc (Zd (Za rfl rfl (Zp F63_3 rfl rfl rfl (Za rfl rfl (Zn (aJ) A60 rfl rfl rfl (Za rfl rfl (Zr S60 rfl rfl aq (Za rfl rfl (Zm (v := Vi (0)) rfl rfl (Zb (Ze ?_))))))))))))))))
 obtain ⟨aI, b2, bT, bR, bO⟩ := ctl_some hm
 refine W_mid (M := fun f' w' => ∃ s', (aI = .next s' ∨ aI = .brk s') ∧ (fun (_ : Unit) => ∃ (bn : PHeap) , PHeap.le s bn ∧ St w0 bn (Res.bmap Tryz.prog 3 4 c b.pos :: Res.bmap Tryz.prog 3 4 d b.neg :: Res.box j 121 [Value.map (some c), Value.map (some d)] :: H) w' ∧ f' 2 = Vi (l) ∧ f' 3 = Value.pointer (some ⟨j, 0, none⟩) ∧ f' 15 = o ∧ f' 16 = Vi ((g.Changes.length : Int))) s') ?_ ?_
 ·refine W_block (W_forC (fun k' s' f' w' => (fun (_ : Unit) => ∃ (bo : PHeap) , PHeap.le s bo ∧ St w0 bo (Res.bmap Tryz.prog 3 4 c b.pos :: Res.bmap Tryz.prog 3 4 d b.neg :: Res.box j 121 [Value.map (some c), Value.map (some d)] :: H) w' ∧ f' 2 = Vi (l) ∧ f' 3 = Value.pointer (some ⟨j, 0, none⟩) ∧ f' 15 = o ∧ f' 16 = Vi ((g.Changes.length : Int)) ∧ f' 17 = Vi (k' : Int)) s') b2 ?_ ?_ ?_)
  ·have bG := (aJ).drop
   exact ⟨s, (Zv _), ((bG).f2).f2, rfl, rfl, rfl, rfl, rfl⟩
  ·intro y dC a2 dq dK aO b5 i bU
   obtain ⟨az, ar, aK, au, a4, av, aw, ap⟩ := b5
   refine Zc (Zd (Za rfl rfl (Zq rfl ap aw (Zb (Ze (Zc (W_true (Zx (decide_eq_true (by omega))) (W_skip (Ze (Zc (W_block (Zc (Zd ?_)))))))))))))
   obtain ⟨a, cE, i⟩ := Zg i
   refine Za rfl rfl (Exec.index_rep S60 rfl av ap (aq.mono ar) cE ?_)
   intro db d1 bz
   refine Za rfl rfl (Zw (E := encGChange) aK A81 rfl rfl rfl bz ?_)
   intro dF cF
   obtain ⟨z, aa, ao, rfl, ax, ay, bl⟩ := encGChange_val.1 cF
   refine Za rfl rfl (Exec.alloc (cs := [Value.slice none 0 0, Value.slice none 0 0, Value.slice none 0 0, Vi (0), Value.bool (false)]) aK Z81 rfl rfl ?_)
   intro ac dL bH
   refine Za rfl rfl (Exec.store_box (ds := [z, aa, ao, Vi (a.Atom), Value.bool (a.Add)]) (es := [z, aa, ao, Vi (a.Atom), Value.bool (a.Add)]) bH A81 rfl rfl rfl rfl (Zj (ax).one (Zj (ay).one (Zj (bl).one (Zj rfl (Zj rfl one_nil))))) (Nat.le_of_ble_eq_true rfl) rfl ?_)
   intro dM ad
   refine Zb (Ze (Zc (Zc (W_mid (M := fun f' w' => ∃ (bp : PHeap) , PHeap.le az bp ∧ St w0 bp (Res.bmap Tryz.prog 3 4 c b.pos :: Res.bmap Tryz.prog 3 4 d b.neg :: Res.box j 121 [Value.map (some c), Value.map (some d)] :: Res.box ac 81 [z, aa, ao, Vi (a.Atom), Value.bool (a.Add)] :: H) w' ∧ f' 2 = Vi (l) ∧ f' 3 = Value.pointer (some ⟨j, 0, none⟩) ∧ f' 8 = Value.pointer (some ⟨ac, 0, none⟩) ∧ f' 15 = o ∧ f' 16 = Vi ((g.Changes.length : Int)) ∧ f' 17 = Vi ((y : Int)) ∧ f' 35 = Value.bool ((a.Add || ((!decide (a.Atom = l)) || decide (0 < (a.When.Tests.length : Int)))))) ?_ ?_))))
   ·refine Zd (Za rfl rfl (Zp F81_2 rfl rfl rfl (Za rfl rfl (Zn (ad) A4 rfl rfl rfl (Za rfl rfl (Zm (v := Value.bool (a.Add)) rfl rfl ?_))))))
    by_cases m : a.Add = true
    ·refine WL_passes 12 (by rw [m]; rfl) ?_
     refine Zb (Ze ?_)
     exact ⟨az, (Zv _), (((ad).f3).f3).f3, au, a4, rfl, av, aw, ap, (Zx (or_t m)).symm⟩
    replace m := Zk m
    refine WL_run rfl (Zf rfl (Zx m)) rfl (Zp F81_1 rfl rfl rfl (WL_run rfl (Zf rfl (Zx m)) rfl (Zn (ad) A3 rfl rfl rfl (WL_run rfl (Zf rfl (Zx m)) rfl (Zm (v := Vi (l)) rfl au (WL_run rfl (Zf rfl (Zx m)) rfl (Exec.neq rfl rfl rfl ?_)))))))
    refine WL_passes 2 (by rw [m]; rfl) ?_
    by_cases n : (!decide (a.Atom = l)) = true
    ·refine WL_passes 6 (by rw [n]; rfl) ?_
     refine Zb (Ze ?_)
     exact ⟨az, (Zv _), (((ad).f3).f3).f3, au, a4, rfl, av, aw, ap, (Zx (Eq.trans (or_f m) (or_t n))).symm⟩
    replace n := Zk n
    refine WL_run rfl (Zf rfl (Zx n)) rfl (Zp F81_0 rfl rfl rfl (WL_run rfl (Zf rfl (Zx n)) rfl (Zp F59_2 rfl rfl rfl (WL_run rfl (Zf rfl (Zx n)) rfl (Zn (ad) A57 rfl rfl rfl (WL_run rfl (Zf rfl (Zx n)) rfl (Zr S57 rfl rfl bl (WL_run rfl (Zf rfl (Zx n)) rfl (Exec.gtr rfl rfl rfl (Za rfl rfl (Exec.pick_f (v := Value.bool (decide (0 < (a.When.Tests.length : Int)))) rfl (Zx n) rfl (Zb (Ze ?_)))))))))))))
    exact ⟨az, (Zv _), (((ad).f3).f3).f3, au, a4, rfl, av, aw, ap, (Zx (Eq.trans (or_f m) (or_f n))).symm⟩
   intro dr dN bB
   obtain ⟨aB, t, a3, aU, aV, aW, aX, aY, aZ, ba⟩ := bB
   refine (Ze ?_)
   rcases ite_some i with ⟨aj, i⟩ | ⟨aj, i⟩
   ·refine W_cond_t ba aj (W_exit (at_exit (ib_here (Ze (Zd (Za rfl rfl (Exec.add rfl aZ rfl (Za rfl rfl (Zm (v := Vi (IntKind.i64.wrap ((y : Int) + 1))) rfl rfl (Zb (Ze ?_)))))))))))
    have de := Zu i
    subst a2
    refine ⟨_, rfl, ?_⟩; exact ⟨aB, (Zt ar t), (((((a3).f3).drop).f2).f2).f2, aU, aV, aX, aY, (Eq.trans rfl (wrap_up aO (SliceRep.le aq)))⟩
   refine W_cond_f ba aj ?_
   replace aj := Zk aj
   refine W_skip (Ze (Zc (Zd (Za rfl rfl (Zo (v := Value.bool (true)) rfl rfl (Zb (Ze (Zc (Zc (Zd (Za rfl rfl (Zp F81_0 rfl aW rfl (Za rfl rfl (Zp F59_0 rfl rfl rfl (Za rfl rfl (Zn ((a3).f3) A24 rfl rfl rfl (Za rfl rfl (Zr S24 rfl rfl (ax.mono t) (Za rfl rfl (Zm (v := Vi (0)) rfl rfl (Zb (Ze ?_))))))))))))))))))))))
   obtain ⟨ae, b3, i⟩ := Zg i
   refine W_block (W_forS (fun k' s' f' w' => (fun (ae : Bool) => ∃ (bq : PHeap) , PHeap.le aB bq ∧ St w0 bq (Res.bmap Tryz.prog 3 4 c b.pos :: Res.bmap Tryz.prog 3 4 d b.neg :: Res.box j 121 [Value.map (some c), Value.map (some d)] :: Res.box ac 81 [z, aa, ao, Vi (a.Atom), Value.bool (a.Add)] :: H) w' ∧ f' 2 = Vi (l) ∧ f' 3 = Value.pointer (some ⟨j, 0, none⟩) ∧ f' 8 = Value.pointer (some ⟨ac, 0, none⟩) ∧ f' 9 = Value.bool (ae) ∧ f' 15 = o ∧ f' 16 = Vi ((g.Changes.length : Int)) ∧ f' 17 = Vi ((y : Int)) ∧ f' 38 = z ∧ f' 39 = Vi ((a.When.Pos.length : Int)) ∧ f' 40 = Vi (k' : Int)) s') b3 ?_ ?_ ?_)
   ·have bI := (a3).f3
    exact ⟨aB, (Zv _), (((bI).f3).f3).f3, aU, aV, aW, rfl, aX, aY, aZ, rfl, rfl, rfl⟩
   ·intro aP ae cM dt dO bP b6 al
    obtain ⟨aC, aR, ah, bb, a5, bc, ca, bd, be, bf, a6, a7, a0⟩ := b6
    refine Zc (Zd (Za rfl rfl (Zq rfl a0 a7 (Zb (Ze (Zc (W_true (Zx (decide_eq_true (by omega))) (W_skip (Ze (Zc (W_block (Zc (Zd ?_)))))))))))))
    obtain ⟨bw, cG, al⟩ := Zg al
    refine Za rfl rfl (Exec.index_rep S24 rfl a6 a0 (ax.mono (Zt t aR)) cG ?_)
    intro dc d2 b0
    refine Za rfl rfl (Zw (E := (encInt .i64)) ah A3 rfl rfl rfl b0 ?_)
    intro dG cH
    obtain rfl := encInt_val.1 cH
    refine Za rfl rfl (Zo (v := Vi (bw)) rfl rfl (Zb (Ze ?_)))
    obtain ⟨af, u, al⟩ := Zg al
    refine W_mid (M := fun f' w' => (fun (af : Bool) => ∃ (br : PHeap) , PHeap.le aC br ∧ St w0 br (Res.bmap Tryz.prog 3 4 c b.pos :: Res.bmap Tryz.prog 3 4 d b.neg :: Res.box j 121 [Value.map (some c), Value.map (some d)] :: Res.box ac 81 [z, aa, ao, Vi (a.Atom), Value.bool (a.Add)] :: H) w' ∧ f' 2 = Vi (l) ∧ f' 3 = Value.pointer (some ⟨j, 0, none⟩) ∧ f' 8 = Value.pointer (some ⟨ac, 0, none⟩) ∧ f' 9 = Value.bool (af) ∧ f' 15 = o ∧ f' 16 = Vi ((g.Changes.length : Int)) ∧ f' 17 = Vi ((y : Int)) ∧ f' 38 = z ∧ f' 39 = Vi ((a.When.Pos.length : Int)) ∧ f' 40 = Vi ((aP : Int))) af) ?_ ?_
    ·refine Zd (Za rfl rfl (Zm (v := Value.bool (ae)) rfl ca (Za rfl rfl (Zm (v := Value.bool (ae)) rfl rfl ?_))))
     rcases ite_some u with ⟨p, u⟩ | ⟨p, u⟩
     ·refine WL_run rfl (Zf rfl (Zx p)) rfl (Zp F121_0 rfl a5 rfl (WL_run rfl (Zf rfl (Zx p)) rfl (Zn ((ah).f2) A34 rfl rfl rfl (WL_run rfl (Zf rfl (Zx p)) rfl (Zm (v := Vi (bw)) rfl rfl ?_)))))
      obtain ⟨dA, cI, u⟩ := Zg u
      refine WL_run rfl (Zf rfl (Zx p)) rfl (Exec.bmap_get (ah) ⟨Tryz.underlying34, Tryz.underlying3, Tryz.underlying4⟩ Z4 rfl rfl rfl cI ?_)
      refine WL_passes 2 (by rw [p]; rfl) ?_
      refine Zb (Ze ?_)
      have df := Zu u
      subst af
      exact ⟨aC, (Zv _), ((((ah).f3).f3).f3).f3, bb, a5, bc, rfl, bd, be, bf, a6, a7, a0⟩
     replace p := Zk p
     refine WL_passes 6 (by rw [p]; rfl) ?_
     refine Zb (Ze ?_)
     have dg := Zu u
     subst af
     exact ⟨aC, (Zv _), ((((ah).f3).f3).f3).f3, bb, a5, bc, rfl, bd, be, bf, a6, a7, a0⟩
    intro du dP bC
    obtain ⟨cN, bW, bJ, cb, cc, cd, ce, cf, cg, ch, ci, cj, ck⟩ := bC
    refine (ib_normal (Ze (Zd (Za rfl rfl (Exec.add rfl ck rfl (Za rfl rfl (Zm (v := Vi (IntKind.i64.wrap ((aP : Int) + 1))) rfl rfl (Zb (Ze ?_)))))))))
    have dh := Zu al
    subst cM
    exact ⟨cN, (Zt aR bW), ((((bJ).f3).f3).f3).f3, cb, cc, cd, ce, cf, cg, ch, ci, cj, (Eq.trans rfl (wrap_up bP (SliceRep.le (ax.mono t))))⟩
   intro dv dQ b7
   obtain ⟨bs, an, aL, cl, cm, cn, co, cp, cq, cr, d4, ct, cS⟩ := b7
   refine Zc (Zd (Za rfl rfl (Zq rfl cS ct (Zb (Ze (Zc (W_false (Zx (decide_eq_false (by omega))) (W_exit (at_exit (at_exit (ib_here (Ze (Zc (Zc (Zd (Za rfl rfl (Zp F81_0 rfl cn rfl (Za rfl rfl (Zp F59_1 rfl rfl rfl (Za rfl rfl (Zn ((aL).f3) A24 rfl rfl rfl (Za rfl rfl (Zr S24 rfl rfl (ay.mono (Zt t an)) (Za rfl rfl (Zm (v := Vi (0)) rfl rfl (Zb (Ze ?_)))))))))))))))))))))))))))
   obtain ⟨ab, b4, i⟩ := Zg i
   refine W_block (W_forS (fun k' s' f' w' => (fun (ab : Bool) => ∃ (bt : PHeap) , PHeap.le bs bt ∧ St w0 bt (Res.bmap Tryz.prog 3 4 c b.pos :: Res.bmap Tryz.prog 3 4 d b.neg :: Res.box j 121 [Value.map (some c), Value.map (some d)] :: H) w' ∧ f' 2 = Vi (l) ∧ f' 3 = Value.pointer (some ⟨j, 0, none⟩) ∧ f' 9 = Value.bool (ab) ∧ f' 15 = o ∧ f' 16 = Vi ((g.Changes.length : Int)) ∧ f' 17 = Vi ((y : Int)) ∧ f' 54 = aa ∧ f' 55 = Vi ((a.When.Neg.length : Int)) ∧ f' 56 = Vi (k' : Int)) s') b4 ?_ ?_ ?_)
   ·have bK := ((aL).f3).drop
    exact ⟨bs, (Zv _), (((bK).f2).f2).f2, cl, cm, co, cp, cq, cr, rfl, rfl, rfl⟩
   ·intro aQ ab cO dw dR bQ b8 am
    obtain ⟨aD, aS, ai, bg, a8, cu, bh, bi, bj, a9, aA, a1⟩ := b8
    refine Zc (Zd (Za rfl rfl (Zq rfl a1 aA (Zb (Ze (Zc (W_true (Zx (decide_eq_true (by omega))) (W_skip (Ze (Zc (W_block (Zc (Zd ?_)))))))))))))
    obtain ⟨bx, cJ, am⟩ := Zg am
    refine Za rfl rfl (Exec.index_rep S24 rfl a9 a1 (ay.mono (Zt (Zt t an) aS)) cJ ?_)
    intro dd d3 b1
    refine Za rfl rfl (Zw (E := (encInt .i64)) ai A3 rfl rfl rfl b1 ?_)
    intro dH cK
    obtain rfl := encInt_val.1 cK
    refine Za rfl rfl (Zo (v := Vi (bx)) rfl rfl (Zb (Ze ?_)))
    obtain ⟨ag, x, am⟩ := Zg am
    refine W_mid (M := fun f' w' => (fun (ag : Bool) => ∃ (bu : PHeap) , PHeap.le aD bu ∧ St w0 bu (Res.bmap Tryz.prog 3 4 c b.pos :: Res.bmap Tryz.prog 3 4 d b.neg :: Res.box j 121 [Value.map (some c), Value.map (some d)] :: H) w' ∧ f' 2 = Vi (l) ∧ f' 3 = Value.pointer (some ⟨j, 0, none⟩) ∧ f' 9 = Value.bool (ag) ∧ f' 15 = o ∧ f' 16 = Vi ((g.Changes.length : Int)) ∧ f' 17 = Vi ((y : Int)) ∧ f' 54 = aa ∧ f' 55 = Vi ((a.When.Neg.length : Int)) ∧ f' 56 = Vi ((aQ : Int))) ag) ?_ ?_
    ·refine Zd (Za rfl rfl (Zm (v := Value.bool (ab)) rfl cu (Za rfl rfl (Zm (v := Value.bool (ab)) rfl rfl ?_))))
     rcases ite_some x with ⟨q, x⟩ | ⟨q, x⟩
     ·refine WL_run rfl (Zf rfl (Zx q)) rfl (Zp F121_1 rfl a8 rfl (WL_run rfl (Zf rfl (Zx q)) rfl (Zn ((ai).f2) A34 rfl rfl rfl (WL_run rfl (Zf rfl (Zx q)) rfl (Zm (v := Vi (bx)) rfl rfl ?_)))))
      obtain ⟨dB, cL, x⟩ := Zg x
      refine WL_run rfl (Zf rfl (Zx q)) rfl (Exec.bmap_get ((ai).f1) ⟨Tryz.underlying34, Tryz.underlying3, Tryz.underlying4⟩ Z4 rfl rfl rfl cL ?_)
      refine WL_passes 2 (by rw [q]; rfl) ?_
      refine Zb (Ze ?_)
      have di := Zu x
      subst ag
      exact ⟨aD, (Zv _), (((ai).f2).f2).f2, bg, a8, rfl, bh, bi, bj, a9, aA, a1⟩
     replace q := Zk q
     refine WL_passes 6 (by rw [q]; rfl) ?_
     refine Zb (Ze ?_)
     have dj := Zu x
     subst ag
     exact ⟨aD, (Zv _), (((ai).f2).f2).f2, bg, a8, rfl, bh, bi, bj, a9, aA, a1⟩
    intro dx dS bD
    obtain ⟨cP, bX, bL, cv, cw, cx, cy, cz, c0, c1, c2, c3⟩ := bD
    refine (ib_normal (Ze (Zd (Za rfl rfl (Exec.add rfl c3 rfl (Za rfl rfl (Zm (v := Vi (IntKind.i64.wrap ((aQ : Int) + 1))) rfl rfl (Zb (Ze ?_)))))))))
    have dk := Zu am
    subst cO
    exact ⟨cP, (Zt aS bX), (((bL).f2).f2).f2, cv, cw, cx, cy, cz, c0, c1, c2, (Eq.trans rfl (wrap_up bQ (SliceRep.le (ay.mono (Zt t an)))))⟩
   intro dy dT b9
   obtain ⟨bv, aT, aM, c4, c5, c6, c7, c8, c9, d5, cA, cT⟩ := b9
   refine Zc (Zd (Za rfl rfl (Zq rfl cT cA (Zb (Ze (Zc (W_false (Zx (decide_eq_false (by omega))) (W_exit (at_exit (at_exit (ib_here (Ze (Zc (Zd (Za rfl rfl (Zm (v := Value.bool (ab)) rfl c6 (Zb (Ze ?_))))))))))))))))))
   rcases ite_some i with ⟨ak, i⟩ | ⟨ak, i⟩
   ·refine W_cond_t rfl ak (Zc (Zd (Za rfl rfl (Zo (v := Value.bool (true)) rfl rfl (Zb (Ze (W_ret (ib_ret (at_ret (at_ret (ib_ret (at_ret (at_ret ?_)))))))))))))
    have dl := Zu i
    subst a2
    have bS := bT _ (bU (by intro _ h; cases h))
    have dm := Zu bS
    subst r
    refine ⟨_, ret1 rfl, ?_⟩
    exact ⟨bv, (Zt (Zt (Zt ar t) an) aT), ((((aM).f2).drop).f1).f1, rfl⟩
   refine W_cond_f rfl ak ?_
   replace ak := Zk ak
   refine W_skip (ib_normal (Ze (Zd (Za rfl rfl (Exec.add rfl c9 rfl (Za rfl rfl (Zm (v := Vi (IntKind.i64.wrap ((y : Int) + 1))) rfl rfl (Zb (Ze ?_)))))))))
   have dn := Zu i
   subst a2
   refine ⟨_, rfl, ?_⟩; exact ⟨bv, (Zt (Zt (Zt ar t) an) aT), (((aM).f2).f2).f2, c4, c5, c7, c8, (Eq.trans rfl (wrap_up aO (SliceRep.le aq)))⟩
  intro dD dz dU bA bV
  obtain ⟨cQ, bY, bM, cB, cC, cD, bk, cU⟩ := bA
  refine Zc (Zd (Za rfl rfl (Zq rfl cU bk (Zb (Ze (Zc (W_false (Zx (decide_eq_false (by omega))) (W_exit (at_exit (at_exit (ib_here (Ze ?_))))))))))))
  refine ⟨_, .inl bV, ?_⟩; exact ⟨cQ, bY, (((bM).f2).f2).f2, cB, cC, cD, bk⟩
 rintro d0 dV ⟨dE, aN, bE⟩
 have hm := aN.elim (bR _) (bO _)
 clear aN
 obtain ⟨cR, bZ, bN, d6, d7, d8, d9⟩ := bE
 refine (Ze (Zc (Zd (Za rfl rfl (Zo (v := Value.bool (false)) rfl rfl (Zb (Ze (W_ret ?_))))))))
 have dp := Zu hm
 subst r
 refine ⟨_, ret1 rfl, ?_⟩
 exact ⟨cR, bZ, ((((bN).f2).drop).f1).f1, rfl⟩
end Go.Pw
