/-
  The walks (printed by my generator).
-/
import Derived.Test.YtcabhickgjhkhaaGreatDoorL29
import Derived.Test.YtcabhickgjhkhaaGreatDoorIsW1
import Derived.Test.YtcabhickgjhkhaaGreatDoorIsY
set_option maxRecDepth 100000
set_option maxHeartbeats 4000000
set_option linter.unusedVariables false
namespace Go.Pw
open Go.Proofs
theorem invariant_quoted_o_sim {w0 w : World} {s : PHeap} {H : List Res} {c : (List ByteArray)} {b : Value} {r : ByteArray} (hm : invariant_quoted_o_p c = some r) (hS : St w0 s (Res.arr encStr 9 b c :: H) w)  (ht : TabR Tryz.prog w0 s) :
  Calls Tryz.prog 77 #[b] w fun e w' => ∃ v, e = .returned v ∧ ((fun (a0 : ByteArray) => ∃ (u : PHeap) , PHeap.le s u ∧ St w0 u (Res.arr encStr 9 b c :: H) w' ∧ v = Value.string (a0)) r) := by
 unfold invariant_quoted_o_p at hm
 refine calls_of_W Tryz.func77 rfl rfl (Zc (Zd (Za rfl rfl (Zo (v := Value.string (⟨#[]⟩)) rfl rfl (Zb (Ze (Zc (Zd (Za rfl rfl (Exec.alloc (cs := [Value.pointer none, Value.slice none 0 0]) hS Z140 rfl rfl ?_))))))))))
 intro m aB ab
 have g := St.bld_close (.inl rfl) ((St.arr_none (E := encInt .u8) (Te := 5) ab).perm (.swap _ _ _))
 refine Zb (Ze (Zc (Zc (Zd (Za rfl rfl (Zm (v := b) rfl rfl (Za rfl rfl (Exec.len_arr ((g).f1) S54 rfl rfl (Za rfl rfl (Zm (v := Vi (0)) rfl rfl (Zb (Ze ?_))))))))))))
 obtain ⟨i, y, hm⟩ := Zg hm
 refine W_block (W_forS (fun k' s' f' w' => (fun (i : (List Int)) => ∃ (x : PHeap) , PHeap.le s x ∧ St w0 x (Res.arr encStr 9 b c :: Res.bld 140 5 m i :: H) w' ∧ f' 3 = Value.pointer (some ⟨m, 0, none⟩) ∧ f' 6 = b ∧ f' 7 = Vi ((c.length : Int)) ∧ f' 8 = Vi (k' : Int)) s') y ?_ ?_ ?_)
 ·have ac := (g).f1
  exact ⟨s, (Zv _), ac, rfl, rfl, rfl, rfl⟩
 ·intro ai i av a5 aC ah z a
  obtain ⟨aA, o, h, p, q, t, j⟩ := z
  refine Zc (Zd (Za rfl rfl (Zq rfl j t (Zb (Ze (Zc (W_true (Zx (decide_eq_true (by omega))) (W_skip (Ze (Zc (W_block (Zc (Zd ?_)))))))))))))
  obtain ⟨l, d, a⟩ := Zg a
  obtain ⟨a7, a1, n⟩ := (h).arr_at d
  refine Za rfl rfl (Exec.index_slice S54 rfl (Eq.trans q n) j (idx_some d).1 (idx_some d).2.1 (Za rfl rfl (Exec.load_arr (F := encStr) (h) n A9 rfl rfl rfl d (Sub.refl _) ?_)))
  intro ay an
  obtain rfl : ay = Value.string (l) := encStr_val.1 an
  refine Za rfl rfl (Zo (v := Value.string (l)) rfl rfl (Zb (Ze (Zd (Za rfl rfl (Zm (v := Value.string (l)) rfl rfl ?_))))))
  obtain ⟨aH, ao, a⟩ := Zg a
  refine Za rfl rfl (Tc rfl rfl rfl (Zi rfl args_nil) (strconv_Quote_sim ao h  (ht.mono o)).r ?_)
  rintro _ aD ⟨aw, aj, ad, rfl⟩
  obtain ⟨a2, ap, a⟩ := Zg a
  refine Za rfl rfl (Exec.str_add rfl rfl rfl ap ?_)
  obtain ⟨a8, aq, a⟩ := Zg a
  refine Za rfl rfl (Tc rfl rfl rfl (Zi p (Zi rfl args_nil)) (bld_write_sim aq (ad).f1).r ?_)
  rintro _ aE ⟨rfl, ae⟩
  refine Zb (ib_normal (Ze (Zd (Za rfl rfl (Exec.add rfl j rfl (Za rfl rfl (Zm (v := Vi (IntKind.i64.wrap ((ai : Int) + 1))) rfl rfl (Zb (Ze ?_)))))))))
  have a3 := Zu a
  subst av
  exact ⟨aw, (Zt o aj), (ae).f1, p, q, t, (Eq.trans rfl (wrap_up ah ((g).f1).arr_le))⟩
 intro a6 aF aa
 obtain ⟨ax, ak, af, al, a9, am, az⟩ := aa
 refine Zc (Zd (Za rfl rfl (Zq rfl az am (Zb (Ze (Zc (W_false (Zx (decide_eq_false (by omega))) (W_exit (at_exit (at_exit (ib_here (Ze (Zc (Zd ?_))))))))))))))
 obtain ⟨ar, au, hm⟩ := Zg hm
 refine Za rfl rfl (Tc rfl rfl rfl (Zi al args_nil) (bld_string_sim au (af).f1).r ?_)
 rintro _ aG ⟨rfl, ag⟩
 refine Za rfl rfl (Zo (v := Value.string (ar)) rfl rfl (Zb (Ze (W_ret ?_))))
 have a4 := Zu hm
 subst r
 refine ⟨_, ret1 rfl, ?_⟩
 exact ⟨ax, ak, ag, rfl⟩
theorem Z3 : tyZero Tryz.prog 3 = some (Vi (0)) := by kernel_rfl
theorem S89 : tySlice Tryz.prog 89 = some (93, 4, 64) := by kernel_rfl
theorem Z93 : tyZero Tryz.prog 93 = some (Value.agg #[Value.slice none 0 0, Value.string ⟨#[]⟩, Value.string ⟨#[]⟩, Value.bool false]) := by kernel_rfl
theorem F93_0 : tyField Tryz.prog 93 0 = some 0 := by kernel_rfl
theorem invariant_simples_sim {w0 w : World} {s : PHeap} {H : List Res} {x : Ground} {ah : Value} {bd : Value} {be : Value} {bf : Value} {bg : Value} {r : (List invariant_simple)} (hm : invariant_simples_p x = some r) (hS : St w0 s (H) w) (aH : SliceRep encAtom s ah x.Atoms) (d0 : SliceRep encGFluent s bd x.Fluents) (d1 : SliceRep (encInt .i64) s be x.Init) (d2 : SliceRep encCond s bf x.Goal) (d3 : SliceRep encGOp s bg x.Ops) (ht : TabR Tryz.prog w0 s) :
  Calls Tryz.prog 49 #[Value.agg #[ah, bd, be, bf, bg]] w fun e w' => ∃ v, e = .returned v ∧ ((fun (dz : (List invariant_simple)) => ∃ (bb : PHeap) (bN : Value), PHeap.le s bb ∧ St w0 bb (H) w' ∧ v = bN ∧ SliceRep encinvariant_simple bb bN dz) r) := by
 unfold invariant_simples_p at hm
 refine calls_of_W Tryz.func49 rfl rfl (Zc (Zd (Za rfl rfl (Exec.box (cs := [ah, bd, be, bf, bg]) hS rfl rfl rfl ?_))))
 intro d4 ex ca
 refine Za rfl rfl (Zo (v := Value.slice none 0 0) rfl rfl (Zb (Ze (Zc (Zd (Za rfl rfl (Exec.make_map (k := 9) (e := 3) ca rfl ?_)))))))
 intro m ey bk
 refine Za rfl rfl (Zo (v := Value.map (some m)) rfl rfl (Zb (Ze (Zc (Zd (Za rfl rfl (Zo (v := Value.slice none 0 0) rfl rfl (Zb (Ze (Zc (Zc (Zd (Za rfl rfl (Zp F28_0 rfl rfl rfl (Za rfl rfl (Zn ((bk).f1) A22 rfl rfl rfl (Za rfl rfl (Zr S22 rfl rfl aH (Za rfl rfl (Zm (v := Vi (0)) rfl rfl (Zb (Ze ?_))))))))))))))))))))))
 obtain ⟨du, bR, hm⟩ := Zg hm
 refine W_block (W_forS (fun k' s' f' w' => (un2 fun (aJ : (List invariant_simple)) (aI : SMap) => ∃ (bF : PHeap) (ak : Value), PHeap.le s bF ∧ St w0 bF (Res.smap Tryz.prog 9 3 m aI :: Res.sg (encInt .i64) (encStr.pair (encStr.pair encBool)) (fun (b : invariant_simple) => b.atoms) (fun (b : invariant_simple) => (b.name, b.rest, b.position)) 3 93 ak aJ :: H) w' ∧ f' 3 = Value.map (some m) ∧ f' 4 = ak ∧ f' 14 = ah ∧ f' 15 = Vi ((x.Atoms.length : Int)) ∧ f' 16 = Vi (k' : Int)) s') bR ?_ ?_ ?_)
 ·have cb := bk.nilSg (encInt .i64) (encStr.pair (encStr.pair encBool)) (fun (b : invariant_simple) => b.atoms) (fun (b : invariant_simple) => (b.name, b.rest, b.position)) 3 93
  exact ⟨s, (Value.slice none 0 0), (Zv _), (((cb).f2).drop).f1, rfl, rfl, rfl, rfl, rfl⟩
 ·intro i dv dh dN ez c3 bT ag
  obtain ⟨aJ, aI⟩ := dv
  replace ag := un2_eq ag
  obtain ⟨bc, ak, ab, bl, cG, cH, b5, b6, aG⟩ := bT
  refine Zc (Zd (Za rfl rfl (Zq rfl aG b6 (Zb (Ze (Zc (W_true (Zx (decide_eq_true (by omega))) (W_skip (Ze (Zc (W_block (Zc (Zd (Za rfl rfl (Zm (v := Vi ((i : Int))) rfl aG ?_)))))))))))))))
  obtain ⟨d, cW, ag⟩ := Zg ag
  refine Za rfl rfl (Exec.index_rep S22 rfl b5 aG (aH.mono ab) cW ?_)
  intro d5 ee bQ
  refine Za rfl rfl (Zw (E := encAtom) bl A56 rfl rfl rfl bQ ?_)
  intro er cX
  obtain ⟨ap, rfl, aj⟩ := encAtom_val.1 cX
  refine Za rfl rfl (Exec.alloc (cs := [Value.string (⟨#[]⟩), Value.slice none 0 0]) bl Z56 rfl rfl ?_)
  intro ad e0 cc
  refine Za rfl rfl (Zo (v := Vi ((i : Int))) rfl rfl (Za rfl rfl (Exec.store_box (ds := [Value.string (d.Name), ap]) (es := [Value.string (d.Name), ap]) cc A56 rfl rfl rfl rfl (Zj rfl (Zj (aj).one one_nil)) (Nat.le_of_ble_eq_true rfl) rfl ?_)))
  intro e1 cd
  refine Zb (Ze (Zc (Zd (Za rfl rfl (Zo (v := Vi ((-1))) rfl rfl (Zb (Ze ?_)))))))
  obtain ⟨bi, bS, dW, c5, c2⟩ := ctl_some ag
  refine W_mid (M := fun f' w' => ∃ s', (bi = .next s' ∨ bi = .brk s') ∧ (un3 fun (bv : Int) (bw : SMap) (bx : (List invariant_simple)) => ∃ (bG : PHeap) (aF : Value), PHeap.le bc bG ∧ St w0 bG (Res.smap Tryz.prog 9 3 m bw :: Res.sg (encInt .i64) (encStr.pair (encStr.pair encBool)) (fun (b : invariant_simple) => b.atoms) (fun (b : invariant_simple) => (b.name, b.rest, b.position)) 3 93 aF bx :: Res.box ad 56 [Value.string (d.Name), ap] :: H) w' ∧ f' 3 = Value.map (some m) ∧ f' 4 = aF ∧ f' 5 = Vi ((i : Int)) ∧ f' 6 = Value.pointer (some ⟨ad, 0, none⟩) ∧ f' 7 = Vi (bv) ∧ f' 14 = ah ∧ f' 15 = Vi ((x.Atoms.length : Int)) ∧ f' 16 = Vi ((i : Int))) s') ?_ ?_
  ·refine W_block (W_while (fun s' f' w' => (un3 fun (g : Int) (a8 : SMap) (ar : (List invariant_simple)) => ∃ (bH : PHeap) (u : Value), PHeap.le bc bH ∧ St w0 bH (Res.smap Tryz.prog 9 3 m a8 :: Res.sg (encInt .i64) (encStr.pair (encStr.pair encBool)) (fun (b : invariant_simple) => b.atoms) (fun (b : invariant_simple) => (b.name, b.rest, b.position)) 3 93 u ar :: Res.box ad 56 [Value.string (d.Name), ap] :: H) w' ∧ f' 3 = Value.map (some m) ∧ f' 4 = u ∧ f' 5 = Vi ((i : Int)) ∧ f' 6 = Value.pointer (some ⟨ad, 0, none⟩) ∧ f' 7 = Vi (g) ∧ f' 14 = ah ∧ f' 15 = Vi ((x.Atoms.length : Int)) ∧ f' 16 = Vi ((i : Int))) s') bS ?_ ?_)
   ·have ce := (cd).f2
    exact ⟨bc, ak, (Zv _), (ce).f2, cG, cH, rfl, rfl, rfl, b5, b6, aG⟩
   intro dw bj dO e2 bU a c6
   obtain ⟨g, a8, ar⟩ := dw
   replace a := un3_eq a
   obtain ⟨di, u, j, a4, aK, aL, aM, az, am, aN, aO, aP⟩ := bU
   refine Zc (Zc (Zd (Za rfl rfl (Zm (v := Vi (g)) rfl am (Za rfl rfl (Zp F56_1 rfl az rfl (Za rfl rfl (Zn ((a4).f2) A54 rfl rfl rfl (Za rfl rfl (Zr S54 rfl rfl (aj.mono j) (Za rfl rfl (Zq rfl rfl rfl (Zb (Ze ?_))))))))))))))
   rcases ite_some a with ⟨aw, a⟩ | ⟨aw, a⟩
   ·refine W_cond_t rfl aw (W_skip (Ze (Zc (W_block (Zc (Zd (Za rfl rfl (Zp F56_1 rfl az rfl (Za rfl rfl (Zn ((a4).f2) A54 rfl rfl rfl ?_))))))))))
    obtain ⟨eW, cY, a⟩ := Zg a
    refine Za rfl rfl (Tc rfl rfl rfl (Zi rfl args_nil) (slices_Clone_string_sim cY a4 (aj.mono j)).r ?_)
    rintro bh e3 ⟨bI, _, n, bm, rfl⟩
    refine Za rfl rfl (Zo (v := bh) rfl rfl (Zb (Ze (Zc (Zc (Zd (Za rfl rfl (Zm (v := Vi (g)) rfl am (Za rfl rfl (Exec.geq rfl rfl rfl (Zb (Ze ?_))))))))))))
    obtain ⟨au, al, a⟩ := Zg a
    refine W_mid (M := fun f' w' => (fun (au : (List ByteArray)) => ∃ (bJ : PHeap) (p : Value), PHeap.le bI bJ ∧ St w0 bJ (Res.smap Tryz.prog 9 3 m a8 :: Res.sg (encInt .i64) (encStr.pair (encStr.pair encBool)) (fun (b : invariant_simple) => b.atoms) (fun (b : invariant_simple) => (b.name, b.rest, b.position)) 3 93 u ar :: Res.box ad 56 [Value.string (d.Name), ap] :: Res.arr encStr 9 p au :: H) w' ∧ f' 3 = Value.map (some m) ∧ f' 4 = u ∧ f' 5 = Vi ((i : Int)) ∧ f' 6 = Value.pointer (some ⟨ad, 0, none⟩) ∧ f' 7 = Vi (g) ∧ f' 8 = p ∧ f' 14 = ah ∧ f' 15 = Vi ((x.Atoms.length : Int)) ∧ f' 16 = Vi ((i : Int))) au) ?_ ?_
    ·rcases ite_some al with ⟨ax, al⟩ | ⟨ax, al⟩
     ·refine W_cond_t rfl ax (Zd (Za rfl rfl (Zm (v := bh) rfl rfl (Za rfl rfl (Zm (v := Vi (g)) rfl am (Za rfl rfl (Zm (v := Vi (g)) rfl am (Za rfl rfl (Exec.add rfl rfl rfl ?_)))))))))
      obtain ⟨dY, cZ, al⟩ := Zg al
      refine Za rfl rfl (Tc rfl rfl rfl (Zi rfl (Zi rfl (Zi rfl args_nil))) (delS_sim cZ bm ).r ?_)
      rintro bO e4 ⟨dj, _, c7, cf, rfl⟩
      refine Za rfl rfl (Zo (v := bO) rfl rfl (Zb (Ze ?_)))
      have dF := Zu al
      subst au
      exact ⟨dj, bO, c7, (((cf).f3).f3).f3, aK, aL, aM, az, am, rfl, aN, aO, aP⟩
     refine W_cond_f rfl ax ?_
     replace ax := Zk ax
     refine W_skip (Ze ?_)
     have dG := Zu al
     subst au
     exact ⟨bI, bh, (Zv _), (((bm).f3).f3).f3, aK, aL, aM, az, am, rfl, aN, aO, aP⟩
    intro dP e5 bW
    obtain ⟨dk, p, o, a5, aQ, aR, aS, ac, a0, z, aT, aU, aV⟩ := bW
    refine (Ze (Zc ?_))
    obtain ⟨eX, bE, a⟩ := Zg a
    obtain ⟨dB, t, a⟩ := Zg a
    obtain ⟨eY, aX, a⟩ := Zg a
    obtain ⟨dC, ae, a⟩ := Zg a
    obtain ⟨dD, af, a⟩ := Zg a
    obtain ⟨dZ, aY, a⟩ := Zg a
    obtain ⟨eZ, aZ, a⟩ := Zg a
    obtain ⟨aq, ba, a⟩ := Zg a
    refine W_mid (M := fun f' w' => ∃ (bK : PHeap) , PHeap.le dk bK ∧ St w0 bK (Res.smap Tryz.prog 9 3 m a8 :: Res.sg (encInt .i64) (encStr.pair (encStr.pair encBool)) (fun (b : invariant_simple) => b.atoms) (fun (b : invariant_simple) => (b.name, b.rest, b.position)) 3 93 u ar :: Res.box ad 56 [Value.string (d.Name), ap] :: Res.arr encStr 9 p au :: H) w' ∧ f' 3 = Value.map (some m) ∧ f' 4 = u ∧ f' 5 = Vi ((i : Int)) ∧ f' 6 = Value.pointer (some ⟨ad, 0, none⟩) ∧ f' 7 = Vi (g) ∧ f' 8 = p ∧ f' 9 = Value.string (aq) ∧ f' 14 = ah ∧ f' 15 = Vi ((x.Atoms.length : Int)) ∧ f' 16 = Vi ((i : Int))) ?_ ?_
    ·refine W_dl (n0 := 16) (.q 0 (qs 3 3 (.q 9 (.q 10 (.q 12 (.alt (.e 1 [3, 4, 5, 9, 10, 12] (.q 2 (.alt (.e 6 [9, 10, 12, 2] (.q 7 (.q 8 (.e 11 [12, 2, 7, 8] (.e 13 [2, 7, 8] (.e 14 [2, 7, 8] (.q 15 .done))))))) (.e 11 [3, 4, 5, 12, 2] (.e 6 [12, 2] (.q 7 (.q 8 (.e 13 [2, 7, 8] (.e 14 [2, 7, 8] (.q 15 .done)))))))))) (.e 11 [0, 3, 4, 5, 12] (.e 1 [3, 4, 5, 12] (.q 2 (.e 6 [12, 2] (.q 7 (.q 8 (.e 13 [2, 7, 8] (.e 14 [2, 7, 8] (.q 15 .done))))))))))))))) hmix (by kernel_rfl) (by kernel_rfl) (DL_q rfl rfl (Zm (v := Vi (g)) rfl a0 ⟨rfl, ?_⟩))
     refine DL_q rfl rfl (Zp F56_1 rfl ac rfl ⟨rfl, ?_⟩)
     refine DL_q rfl rfl (Zn ((a5.drew).f2) A54 rfl rfl rfl ⟨rfl, ?_⟩)
     refine DL_q rfl rfl (Zr S54 rfl rfl (aj.mono (Zt (Zt j n) o)) ⟨rfl, ?_⟩)
     refine DL_q rfl rfl (Zp F56_0 rfl ac rfl ⟨rfl, ?_⟩)
     refine DL_q rfl rfl (Zn ((a5.drew).f2) A9 rfl rfl rfl ⟨rfl, ?_⟩)
     refine DL_q rfl rfl (Zm (v := p) rfl z ⟨rfl, ?_⟩)
     refine DL_alt ?_ ?_
     ·refine DL_e rfl rfl (Tc rfl rfl rfl (Zi rfl args_nil) (strconv_Itoa_sim bE a5.drew  (ht.mono (Zt (Zt (Zt ab j) n) o))).r ?_)
      rintro _ e6 ⟨ek, ai, a6, rfl⟩
      refine ⟨(ag_cons (ag_r rfl rfl (Zp F56_1 rfl ac rfl ⟨rfl, rfl⟩)) (ag_cons (ag_r rfl rfl (Zn ((a6).f2) A54 rfl rfl rfl ⟨rfl, rfl⟩)) (ag_cons (ag_r rfl rfl (Zr S54 rfl rfl (aj.mono (Zt (Zt (Zt j n) o) ai)) ⟨rfl, rfl⟩)) (ag_cons (ag_r rfl rfl (Zp F56_0 rfl ac rfl ⟨rfl, rfl⟩)) (ag_cons (ag_r rfl rfl (Zn ((a6).f2) A9 rfl rfl rfl ⟨rfl, rfl⟩)) (ag_cons (ag_r rfl rfl (Zm (v := p) rfl z ⟨rfl, rfl⟩)) ag_nil)))))), ?_⟩
      refine DL_q rfl rfl (Exec.str_add rfl rfl rfl t ⟨rfl, ?_⟩)
      refine DL_alt ?_ ?_
      ·refine DL_e rfl rfl (Tc rfl rfl rfl (Zi rfl args_nil) (strconv_Itoa_sim aX a6  (ht.mono (Zt (Zt (Zt (Zt ab j) n) o) ai))).r ?_)
       rintro _ e7 ⟨el, bz, bn, rfl⟩
       refine ⟨(ag_cons (ag_r rfl rfl (Zp F56_0 rfl ac rfl ⟨rfl, rfl⟩)) (ag_cons (ag_r rfl rfl (Zn ((bn).f2) A9 rfl rfl rfl ⟨rfl, rfl⟩)) (ag_cons (ag_r rfl rfl (Zm (v := p) rfl z ⟨rfl, rfl⟩)) (ag_cons (ag_r rfl rfl (Exec.str_add rfl rfl rfl t ⟨rfl, rfl⟩)) ag_nil)))), ?_⟩
       refine DL_q rfl rfl (Exec.str_add rfl rfl rfl ae ⟨rfl, ?_⟩)
       refine DL_q rfl rfl (Exec.str_add rfl rfl rfl af ⟨rfl, ?_⟩)
       refine DL_e rfl rfl (Exec.buildSlice (Te := 9) (cs := [Value.string (d.Name)]) bn rfl (parts_cons (c := [Value.string (d.Name)]) (cells_of rfl rfl) parts_nil) (fun _ => by kernel_rfl) ?_)
       intro d6 e8 cg
       refine ⟨(ag_cons (ag_r rfl rfl (Zm (v := p) rfl z ⟨rfl, rfl⟩)) (ag_cons (ag_r rfl rfl (Exec.str_add rfl rfl rfl t ⟨rfl, rfl⟩)) (ag_cons (ag_r rfl rfl (Exec.str_add rfl rfl rfl ae ⟨rfl, rfl⟩)) (ag_cons (ag_r rfl rfl (Exec.str_add rfl rfl rfl af ⟨rfl, rfl⟩)) ag_nil)))), ?_⟩
       have ch := St.boxArr (E := encStr) (xs := [d.Name]) cg ⟨[Value.string (d.Name)], [], rfl, rfl, rfl⟩ (by simp [maxLen])
       refine DL_e rfl rfl (Exec.append_arr (E := encStr) ((ch).f4).f1 S54 Z9 rfl (by decide) rfl rfl rfl aY ?_)
       intro et e9 ci
       refine ⟨(ag_cons (ag_r rfl rfl (Exec.str_add rfl rfl rfl t ⟨rfl, rfl⟩)) (ag_cons (ag_r rfl rfl (Exec.str_add rfl rfl rfl ae ⟨rfl, rfl⟩)) (ag_cons (ag_r rfl rfl (Exec.str_add rfl rfl rfl af ⟨rfl, rfl⟩)) ag_nil))), ?_⟩
       refine DL_e rfl rfl (Tc rfl rfl rfl (Zi rfl args_nil) (invariant_quoted_o_sim aZ ci  (ht.mono (Zt (Zt (Zt (Zt (Zt ab j) n) o) ai) bz))).r ?_)
       rintro _ eA ⟨dl, c8, cj, rfl⟩
       refine ⟨(ag_cons (ag_r rfl rfl (Exec.str_add rfl rfl rfl t ⟨rfl, rfl⟩)) (ag_cons (ag_r rfl rfl (Exec.str_add rfl rfl rfl ae ⟨rfl, rfl⟩)) (ag_cons (ag_r rfl rfl (Exec.str_add rfl rfl rfl af ⟨rfl, rfl⟩)) ag_nil))), ?_⟩
       refine DL_q rfl rfl (Exec.str_add rfl rfl rfl ba ⟨rfl, ?_⟩)
       refine DL_done (Za rfl rfl (Zo (v := Value.string (aq)) rfl rfl (Zb (Ze ?_))))
       exact ⟨dl, (Zt (Zt ai bz) c8), ((((cj).drop).f3).f3).f3, aQ, aR, aS, ac, a0, z, rfl, aT, aU, aV⟩
      refine DL_e rfl rfl (Exec.buildSlice (Te := 9) (cs := [Value.string (d.Name)]) a6 rfl (parts_cons (c := [Value.string (d.Name)]) (cells_of rfl rfl) parts_nil) (fun _ => by kernel_rfl) ?_)
      intro d7 eB bo
      refine ⟨(ag_cons (ag_r rfl rfl (Zp F56_1 rfl ac rfl ⟨rfl, rfl⟩)) (ag_cons (ag_r rfl rfl (Zn ((bo).f3) A54 rfl rfl rfl ⟨rfl, rfl⟩)) (ag_cons (ag_r rfl rfl (Zr S54 rfl rfl (aj.mono (Zt (Zt (Zt j n) o) ai)) ⟨rfl, rfl⟩)) (ag_cons (ag_r rfl rfl (Zm (v := p) rfl z ⟨rfl, rfl⟩)) (ag_cons (ag_r rfl rfl (Exec.str_add rfl rfl rfl t ⟨rfl, rfl⟩)) ag_nil))))), ?_⟩
      refine DL_e rfl rfl (Tc rfl rfl rfl (Zi rfl args_nil) (strconv_Itoa_sim aX bo  (ht.mono (Zt (Zt (Zt (Zt ab j) n) o) ai))).r ?_)
      rintro _ eC ⟨em, b0, ck, rfl⟩
      refine ⟨(ag_cons (ag_r rfl rfl (Zm (v := p) rfl z ⟨rfl, rfl⟩)) (ag_cons (ag_r rfl rfl (Exec.str_add rfl rfl rfl t ⟨rfl, rfl⟩)) ag_nil)), ?_⟩
      refine DL_q rfl rfl (Exec.str_add rfl rfl rfl ae ⟨rfl, ?_⟩)
      refine DL_q rfl rfl (Exec.str_add rfl rfl rfl af ⟨rfl, ?_⟩)
      have cl := St.boxArr (E := encStr) (xs := [d.Name]) ck ⟨[Value.string (d.Name)], [], rfl, rfl, rfl⟩ (by simp [maxLen])
      refine DL_e rfl rfl (Exec.append_arr (E := encStr) ((cl).f4).f1 S54 Z9 rfl (by decide) rfl rfl rfl aY ?_)
      intro eu eD cm
      refine ⟨(ag_cons (ag_r rfl rfl (Exec.str_add rfl rfl rfl t ⟨rfl, rfl⟩)) (ag_cons (ag_r rfl rfl (Exec.str_add rfl rfl rfl ae ⟨rfl, rfl⟩)) (ag_cons (ag_r rfl rfl (Exec.str_add rfl rfl rfl af ⟨rfl, rfl⟩)) ag_nil))), ?_⟩
      refine DL_e rfl rfl (Tc rfl rfl rfl (Zi rfl args_nil) (invariant_quoted_o_sim aZ cm  (ht.mono (Zt (Zt (Zt (Zt (Zt ab j) n) o) ai) b0))).r ?_)
      rintro _ eE ⟨dm, c9, cn, rfl⟩
      refine ⟨(ag_cons (ag_r rfl rfl (Exec.str_add rfl rfl rfl t ⟨rfl, rfl⟩)) (ag_cons (ag_r rfl rfl (Exec.str_add rfl rfl rfl ae ⟨rfl, rfl⟩)) (ag_cons (ag_r rfl rfl (Exec.str_add rfl rfl rfl af ⟨rfl, rfl⟩)) ag_nil))), ?_⟩
      refine DL_q rfl rfl (Exec.str_add rfl rfl rfl ba ⟨rfl, ?_⟩)
      refine DL_done (Za rfl rfl (Zo (v := Value.string (aq)) rfl rfl (Zb (Ze ?_))))
      exact ⟨dm, (Zt (Zt ai b0) c9), ((((cn).drop).f3).f3).f3, aQ, aR, aS, ac, a0, z, rfl, aT, aU, aV⟩
     refine DL_e rfl rfl (Exec.buildSlice (Te := 9) (cs := [Value.string (d.Name)]) a5.drew rfl (parts_cons (c := [Value.string (d.Name)]) (cells_of rfl rfl) parts_nil) (fun _ => by kernel_rfl) ?_)
     intro d8 eF bp
     refine ⟨(ag_cons (ag_r rfl rfl (Zm (v := Vi (g)) rfl a0 ⟨rfl, rfl⟩)) (ag_cons (ag_r rfl rfl (Zp F56_1 rfl ac rfl ⟨rfl, rfl⟩)) (ag_cons (ag_r rfl rfl (Zn ((bp).f3) A54 rfl rfl rfl ⟨rfl, rfl⟩)) (ag_cons (ag_r rfl rfl (Zr S54 rfl rfl (aj.mono (Zt (Zt j n) o)) ⟨rfl, rfl⟩)) (ag_cons (ag_r rfl rfl (Zm (v := p) rfl z ⟨rfl, rfl⟩)) ag_nil))))), ?_⟩
     refine DL_e rfl rfl (Tc rfl rfl rfl (Zi rfl args_nil) (strconv_Itoa_sim bE bp  (ht.mono (Zt (Zt (Zt ab j) n) o))).r ?_)
     rintro _ eG ⟨en, a9, bq, rfl⟩
     refine ⟨(ag_cons (ag_r rfl rfl (Zp F56_1 rfl ac rfl ⟨rfl, rfl⟩)) (ag_cons (ag_r rfl rfl (Zn ((bq).f3) A54 rfl rfl rfl ⟨rfl, rfl⟩)) (ag_cons (ag_r rfl rfl (Zr S54 rfl rfl (aj.mono (Zt (Zt (Zt j n) o) a9)) ⟨rfl, rfl⟩)) (ag_cons (ag_r rfl rfl (Zm (v := p) rfl z ⟨rfl, rfl⟩)) ag_nil)))), ?_⟩
     refine DL_q rfl rfl (Exec.str_add rfl rfl rfl t ⟨rfl, ?_⟩)
     refine DL_e rfl rfl (Tc rfl rfl rfl (Zi rfl args_nil) (strconv_Itoa_sim aX bq  (ht.mono (Zt (Zt (Zt (Zt ab j) n) o) a9))).r ?_)
     rintro _ eH ⟨eo, b1, co, rfl⟩
     refine ⟨(ag_cons (ag_r rfl rfl (Zm (v := p) rfl z ⟨rfl, rfl⟩)) (ag_cons (ag_r rfl rfl (Exec.str_add rfl rfl rfl t ⟨rfl, rfl⟩)) ag_nil)), ?_⟩
     refine DL_q rfl rfl (Exec.str_add rfl rfl rfl ae ⟨rfl, ?_⟩)
     refine DL_q rfl rfl (Exec.str_add rfl rfl rfl af ⟨rfl, ?_⟩)
     have cp := St.boxArr (E := encStr) (xs := [d.Name]) co ⟨[Value.string (d.Name)], [], rfl, rfl, rfl⟩ (by simp [maxLen])
     refine DL_e rfl rfl (Exec.append_arr (E := encStr) ((cp).f4).f1 S54 Z9 rfl (by decide) rfl rfl rfl aY ?_)
     intro ev eI cq
     refine ⟨(ag_cons (ag_r rfl rfl (Exec.str_add rfl rfl rfl t ⟨rfl, rfl⟩)) (ag_cons (ag_r rfl rfl (Exec.str_add rfl rfl rfl ae ⟨rfl, rfl⟩)) (ag_cons (ag_r rfl rfl (Exec.str_add rfl rfl rfl af ⟨rfl, rfl⟩)) ag_nil))), ?_⟩
     refine DL_e rfl rfl (Tc rfl rfl rfl (Zi rfl args_nil) (invariant_quoted_o_sim aZ cq  (ht.mono (Zt (Zt (Zt (Zt (Zt ab j) n) o) a9) b1))).r ?_)
     rintro _ eJ ⟨dn, cA, cr, rfl⟩
     refine ⟨(ag_cons (ag_r rfl rfl (Exec.str_add rfl rfl rfl t ⟨rfl, rfl⟩)) (ag_cons (ag_r rfl rfl (Exec.str_add rfl rfl rfl ae ⟨rfl, rfl⟩)) (ag_cons (ag_r rfl rfl (Exec.str_add rfl rfl rfl af ⟨rfl, rfl⟩)) ag_nil))), ?_⟩
     refine DL_q rfl rfl (Exec.str_add rfl rfl rfl ba ⟨rfl, ?_⟩)
     refine DL_done (Za rfl rfl (Zo (v := Value.string (aq)) rfl rfl (Zb (Ze ?_))))
     exact ⟨dn, (Zt (Zt a9 b1) cA), ((((cr).drop).f3).f3).f3, aQ, aR, aS, ac, a0, z, rfl, aT, aU, aV⟩
    intro dQ eK bX
    obtain ⟨bL, b2, a7, aB, a1, b7, aC, aD, cI, b8, b9, bA, bB⟩ := bX
    refine (Ze (Zc (Zd (Za rfl rfl (Zm (v := Value.map (some m)) rfl aB (Za rfl rfl (Zm (v := Value.string (aq)) rfl b8 ?_)))))))
    obtain ⟨an, da, a⟩ := Zg a
    refine Za rfl rfl (Exec.map_get (a7) ⟨Tryz.underlying125, Tryz.underlying9, Tryz.underlying3⟩ Z3 rfl rfl rfl da (Za rfl rfl (Zm (v := Value.tuple #[Vi (an.1), Value.bool (an.2)]) rfl rfl (Za rfl rfl (Exec.extract (v := Vi (an.1)) rfl rfl rfl (Za rfl rfl (Exec.extract (v := Value.bool (an.2)) rfl rfl rfl (Za rfl rfl (Zo (v := Vi (an.1)) rfl rfl (Za rfl rfl (Zo (v := Value.bool (an.2)) rfl rfl (Zb (Ze (Zc (Zc (Zd (Za rfl rfl (Zm (v := Value.bool (an.2)) rfl rfl (Za rfl rfl (Exec.not rfl rfl (Zb (Ze ?_))))))))))))))))))))))
    obtain ⟨aE, aa, a⟩ := Zg a
    refine W_mid (M := fun f' w' => (un3 fun (aA : Int) (b3 : SMap) (b4 : (List invariant_simple)) => ∃ (bM : PHeap) (av : Value), PHeap.le bL bM ∧ St w0 bM (Res.smap Tryz.prog 9 3 m b3 :: Res.sg (encInt .i64) (encStr.pair (encStr.pair encBool)) (fun (b : invariant_simple) => b.atoms) (fun (b : invariant_simple) => (b.name, b.rest, b.position)) 3 93 av b4 :: Res.box ad 56 [Value.string (d.Name), ap] :: H) w' ∧ f' 3 = Value.map (some m) ∧ f' 4 = av ∧ f' 5 = Vi ((i : Int)) ∧ f' 6 = Value.pointer (some ⟨ad, 0, none⟩) ∧ f' 7 = Vi (g) ∧ f' 10 = Vi (aA) ∧ f' 14 = ah ∧ f' 15 = Vi ((x.Atoms.length : Int)) ∧ f' 16 = Vi ((i : Int))) aE) ?_ ?_
    ·rcases ite_some aa with ⟨ay, aa⟩ | ⟨ay, aa⟩
     ·refine W_cond_t rfl ay (Zc (Zd (Za rfl rfl (Zm (v := u) rfl a1 (Za rfl rfl (Exec.len_sg ((a7).f1) S89 rfl rfl (Za rfl rfl (Zo (v := Vi ((ar.length : Int))) rfl rfl (Zb (Ze (Zc (Zd (Za rfl rfl (Zm (v := Value.map (some m)) rfl aB (Za rfl rfl (Zm (v := Value.string (aq)) rfl b8 (Za rfl rfl (Zm (v := Vi ((ar.length : Int))) rfl rfl ?_))))))))))))))))))
      obtain ⟨ed, db, aa⟩ := Zg aa
      refine Za rfl rfl (Exec.map_put a7 ⟨Tryz.underlying125, Tryz.underlying9, Tryz.underlying3⟩ rfl rfl rfl rfl db ?_)
      intro eL br
      refine Zb (Ze (W_dl (n0 := 10) (qs 0 4 (.q 5 (.q 6 (.e 4 [0, 1, 2, 5, 6] (.q 7 (.e 8 [0] (.e 9 [] .done))))))) hmix (by kernel_rfl) (by kernel_rfl) (DL_q rfl rfl (Zm (v := u) rfl a1 ⟨rfl, ?_⟩))))
      refine DL_q rfl rfl (Zp F56_0 rfl aC rfl ⟨rfl, ?_⟩)
      refine DL_q rfl rfl (Zn ((br.drew).f2) A9 rfl rfl rfl ⟨rfl, ?_⟩)
      refine DL_q rfl rfl (Zm (v := p) rfl cI ⟨rfl, ?_⟩)
      refine DL_q rfl rfl (Zm (v := Vi (g)) rfl aD ⟨rfl, ?_⟩)
      refine DL_q rfl rfl (Exec.geq rfl rfl rfl ⟨rfl, ?_⟩)
      obtain ⟨a2, dc, aa⟩ := Zg aa
      refine DL_e rfl rfl (Tc rfl rfl rfl (Zi rfl args_nil) (invariant_quoted_o_sim dc (br.drew).f3  (ht.mono (Zt (Zt (Zt (Zt ab j) n) o) b2))).r ?_)
      rintro _ eM ⟨dp, cB, bs, rfl⟩
      refine ⟨(ag_cons (ag_r rfl rfl (Zm (v := u) rfl a1 ⟨rfl, rfl⟩)) (ag_cons (ag_r rfl rfl (Zp F56_0 rfl aC rfl ⟨rfl, rfl⟩)) (ag_cons (ag_r rfl rfl (Zn ((bs).f3) A9 rfl rfl rfl ⟨rfl, rfl⟩)) (ag_cons (ag_r rfl rfl (Zm (v := Vi (g)) rfl aD ⟨rfl, rfl⟩)) (ag_cons (ag_r rfl rfl (Exec.geq rfl rfl rfl ⟨rfl, rfl⟩)) ag_nil))))), ?_⟩
      refine DL_q rfl rfl (Exec.build rfl (parts_cons (c := [Value.string (d.Name)]) (cells_of rfl rfl) (parts_cons (c := [Value.string (a2)]) (cells_of rfl rfl) (parts_cons (c := [Value.bool (decide (0 ≤ g))]) (cells_of rfl rfl) parts_nil))) (v := Value.agg #[Value.slice none 0 0, Value.string (d.Name), Value.string (a2), Value.bool (decide (0 ≤ g))]) (fun _ => by kernel_rfl) ⟨rfl, ?_⟩)
      refine DL_e rfl rfl (Exec.buildSlice (Te := 93) (cs := [Value.slice none 0 0, Value.string (d.Name), Value.string (a2), Value.bool (decide (0 ≤ g))]) bs rfl (parts_cons (c := [Value.slice none 0 0, Value.string (d.Name), Value.string (a2), Value.bool (decide (0 ≤ g))]) (cells_of rfl rfl) parts_nil) (fun _ => by kernel_rfl) ?_)
      intro d9 eN ct
      refine ⟨(ag_cons (ag_r rfl rfl (Zm (v := u) rfl a1 ⟨rfl, rfl⟩)) ag_nil), ?_⟩
      obtain ⟨ea, dd, aa⟩ := Zg aa
      refine DL_e rfl rfl (Exec.append_sg (y := (⟨[], d.Name, a2, decide (0 ≤ g)⟩ : invariant_simple)) (ct).f3 S89 Z93 rfl (by decide) rfl rfl rfl rfl ⟨[_], [_, _], rfl, rfl, ⟨[_], [_], rfl, rfl, rfl⟩⟩ rfl dd ?_)
      intro bP eO cu
      refine ⟨ag_nil, ?_⟩
      refine DL_done (Za rfl rfl (Zo (v := bP) rfl rfl (Zb (Ze ?_))))
      have dH := Zu aa
      subst aE
      exact ⟨dp, bP, cB, (((((cu).f1).drop).f2).f1).f2, aB, rfl, b7, aC, aD, rfl, b9, bA, bB⟩
     refine W_cond_f rfl ay ?_
     replace ay := Zk ay
     refine W_skip (Ze ?_)
     have dI := Zu aa
     subst aE
     exact ⟨bL, u, (Zv _), (((((a7).f3).drop).f2).f2).f2, aB, a1, b7, aC, aD, rfl, b9, bA, bB⟩
    intro dR eP bY
    obtain ⟨aA, b3, b4⟩ := aE
    replace a := un3_eq a
    obtain ⟨dq, av, cC, bt, cJ, aW, bC, cK, cL, bD, cM, cN, cO⟩ := bY
    refine (Ze (Zd (Za rfl rfl (Zm (v := av) rfl aW (Za rfl rfl (Zm (v := Vi (aA)) rfl bD (Za rfl rfl (Zm (v := av) rfl aW (Za rfl rfl (Zm (v := Vi (aA)) rfl bD ?_))))))))))
    obtain ⟨eV, ao, a⟩ := Zg a
    obtain ⟨dU, dE, a3⟩ := ((bt).f1).sg_at ao
    refine Za rfl rfl (Exec.index_slice S89 rfl a3 rfl (idx_some ao).1 (idx_some ao).2.1 (Za rfl rfl (Zp F93_0 rfl rfl rfl (Za rfl rfl (Exec.load_sg (bt).f1 a3 A24 rfl rfl rfl ao ?_)))))
    intro dV dX c4 cv
    refine Za rfl rfl (Zm (v := Vi ((i : Int))) rfl bC (Za rfl rfl (Exec.buildSlice (Te := 3) (cs := [Vi ((i : Int))]) cv rfl (parts_cons (c := [Vi ((i : Int))]) (cells_of rfl rfl) parts_nil) (fun _ => by kernel_rfl) ?_)))
    intro dA eQ cw
    obtain ⟨eb, de, a⟩ := Zg a
    refine Za rfl rfl (Exec.append_box (E := (encInt .i64)) (ys := [(i : Int)]) (cw).f1 S24 Z3 rfl (by decide) rfl rfl rfl rfl ⟨[Vi ((i : Int))], [], rfl, rfl, rfl⟩ rfl de ?_)
    intro ew eR cx
    refine Za rfl rfl (Exec.index_slice S89 rfl a3 rfl (idx_some ao).1 (idx_some ao).2.1 (Za rfl rfl (Zp F93_0 rfl rfl rfl ?_)))
    obtain ⟨ec, df, a⟩ := Zg a
    refine Za rfl rfl (Exec.store_sg (set := fun (c : invariant_simple) l => { c with atoms := l }) (((cx).f2).f2).f2 c4 a3 A24 rfl rfl rfl rfl (fun _ _ => rfl) (fun _ _ => rfl) ao df ?_)
    intro eS cy
    refine Zb (ib_normal (Ze (Zd (Za rfl rfl (Zm (v := Vi (g)) rfl cL (Za rfl rfl (Exec.add rfl rfl rfl (Za rfl rfl (Zo (v := Vi (IntKind.i64.wrap (g + 1))) rfl rfl (Zb (Ze ?_)))))))))))
    have dJ := Zu a
    subst bj
    refine ⟨_, rfl, ?_⟩; exact ⟨dq, av, (Zt (Zt (Zt (Zt j n) o) b2) cC), (((cy).f2).f1).f2, cJ, aW, bC, cK, rfl, cM, cN, cO⟩
   refine W_cond_f rfl aw ?_
   replace aw := Zk aw
   refine W_exit (at_exit (at_exit (ib_here (Ze ?_))))
   have dK := Zu a
   subst bj
   refine ⟨_, .inr (c6 (by intro _ h; cases h)), ?_⟩; exact ⟨di, u, j, (((a4).f2).f2).f2, aK, aL, aM, az, am, aN, aO, aP⟩
  rintro dS eT ⟨dx, bu, bZ⟩
  have ag := bu.elim (c5 _) (c2 _)
  clear bu
  obtain ⟨bv, bw, bx⟩ := dx
  replace ag := un3_eq ag
  obtain ⟨dr, aF, cD, cz, cP, cQ, ef, eg, eh, cR, cS, cT⟩ := bZ
  refine (ib_normal (Ze (Zd (Za rfl rfl (Exec.add rfl cT rfl (Za rfl rfl (Zm (v := Vi (IntKind.i64.wrap ((i : Int) + 1))) rfl rfl (Zb (Ze ?_)))))))))
  have dL := Zu ag
  subst dh
  exact ⟨dr, aF, (Zt ab cD), ((((cz).f2).drop).f1).f1, cP, cQ, cR, cS, (Eq.trans rfl (wrap_up c3 (SliceRep.le aH)))⟩
 intro dT eU bV
 obtain ⟨aJ, aI⟩ := du
 replace hm := un2_eq hm
 obtain ⟨ep, ak, cE, c0, ei, cU, ej, cV, dy⟩ := bV
 refine Zc (Zd (Za rfl rfl (Zq rfl dy cV (Zb (Ze (Zc (W_false (Zx (decide_eq_false (by omega))) (W_exit (at_exit (at_exit (ib_here (Ze (Zc (Zd (Za rfl rfl (Zm (v := ak) rfl cU (Za rfl rfl (Zo (v := ak) rfl rfl (Zb (Ze (W_ret ?_)))))))))))))))))))))
 have dM := Zu hm
 subst r
 refine ⟨_, ret1 rfl, ?_⟩
 obtain ⟨dt, cF, c1, dg⟩ := (c0).f1.freezeSg
 exact ⟨dt, ak, (Zt cE cF), (c1).drop, rfl, dg⟩
theorem A93 : tyAgg Tryz.prog 93 = some (true, 4) := by kernel_rfl
theorem slices_Clone_int_sim {w0 w : World} {s : PHeap} {H : List Res} {b : (List Int)} {c : Value} {r : (List Int)} (hm : slices_Clone_int_p b = some r) (hS : St w0 s (H) w) (d : SliceRep (encInt .i64) s c b) :
  Calls Tryz.prog 29 #[c] w fun e w' => ∃ v, e = .returned v ∧ ((fun (u : (List Int)) => ∃ (g : PHeap) (h : Value), PHeap.le s g ∧ St w0 g (Res.arr (encInt .i64) 3 h u :: H) w' ∧ v = h) r) := by
 unfold slices_Clone_int_p at hm
 refine calls_of_W Tryz.func29 rfl rfl (Zc (Zd (Za rfl rfl (Zo (v := Value.slice none 0 0) rfl rfl (Zb (Ze (Zc (Zc (Zd (Za rfl rfl (Zm (v := c) rfl rfl ?_)))))))))))
 obtain ⟨j, ab, y, k, p⟩ := (d).nilShape
 refine Za rfl rfl (Exec.slice_eql_nil Tryz.underlying24 rfl k rfl (Zb (Ze ?_)))
 by_cases a : j.isNone = true
 ·have q := p a
  replace hm := (show (some []) = ((app 8 [] b).bind fun f => some f) from by simp [q, app]).trans hm
  refine W_true ((Zx a)) (Zc (Zd (Za rfl rfl (Zo (v := Value.slice none 0 0) rfl rfl (Zb (Ze (W_ret (at_ret ?_))))))))
  have z := Zu hm
  subst r
  refine ⟨_, ret1 rfl, ?_⟩
  have l := hS.nilArr (encInt .i64) 3
  exact ⟨s, (Value.slice none 0 0), (Zv _), l, rfl⟩
 replace a := Zk a
 refine W_false ((Zx a)) (W_skip (Ze (Zc (Zd (Za rfl rfl (Exec.buildSlice (Te := 3) (cs := []) hS rfl parts_nil (fun _ => by kernel_rfl) ?_))))))
 intro x ac m
 refine Za rfl rfl (Zm (v := c) rfl rfl ?_)
 have n := St.boxArr (E := (encInt .i64)) (xs := []) m rfl (by simp [maxLen])
 obtain ⟨f, t, hm⟩ := Zg hm
 refine Za rfl rfl (Exec.append_rep (E := (encInt .i64)) (ys := b) n S24 Z3 rfl (by decide) rfl rfl rfl d t ?_)
 intro i ad o
 refine Za rfl rfl (Zo (v := i) rfl rfl (Zb (Ze (W_ret ?_))))
 have aa := Zu hm
 subst r
 refine ⟨_, ret1 rfl, ?_⟩
 exact ⟨s, i, (Zv _), o, rfl⟩
theorem S36 : tySlice Tryz.prog 36 = some (24, 1, 24) := by kernel_rfl
theorem Z24 : tyZero Tryz.prog 24 = some (Value.slice none 0 0) := by kernel_rfl
theorem F93_2 : tyField Tryz.prog 93 2 = some 2 := by kernel_rfl
theorem F93_1 : tyField Tryz.prog 93 1 = some 1 := by kernel_rfl
theorem F93_3 : tyField Tryz.prog 93 3 = some 3 := by kernel_rfl
theorem A4 : tyAgg Tryz.prog 4 = some (false, 1) := by kernel_rfl
end Go.Pw
