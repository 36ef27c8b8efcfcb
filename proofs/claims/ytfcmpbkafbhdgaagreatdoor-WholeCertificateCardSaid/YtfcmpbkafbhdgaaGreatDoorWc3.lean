/- -/
import Derived.Test.YtfcmpbkafbhdgaaGreatDoorLC
import Derived.Test.YtfcmpbkafbhdgaaGreatDoorLD
import Derived.Test.YtfcmpbkafbhdgaaGreatDoorWc2
import Derived.Test.YtfcmpbkafbhdgaaGreatDoorWcIp
set_option maxRecDepth 100000
set_option maxHeartbeats 4000000
set_option linter.unusedVariables false
namespace Go.Pw
open Go.Proofs
attribute [local irreducible] Exec WL W andThen Y0 DL QB
theorem QcM {w0 w : World} {s : PHeap} {H : List Res} {c : (List (List Fact))} {ak : (List Fact)} {b : Value} {j : Value} {r : Int × Bool} (hm : Kz c ak = some r) (hS : St w0 s (Res.arr (Qa encFact) 23 b c :: H) w) (aA : SliceRep encFact s j ak) :
  Calls Tryz.prog 98 #[b, j, Value.func (.func 55) #[] #[]] w fun e w' => ∃ v, e = .returned v ∧ ((QK fun (a8 : Int) (a9 : Bool) => ∃ (ae : PHeap) , PHeap.le s ae ∧ St w0 ae (Res.arr (Qa encFact) 23 b c :: H) w' ∧ v = Value.tuple #[U a8, Value.bool (a9)]) r) := by
 unfold Kz at hm
 refine Qb Tryz.func98 Z Z (G ?_)
 refine Qv (hS) S70.h Z Z ?_
 obtain ⟨t, al, aS, aw, aq⟩ := Qo hm
 refine g ?_
 refine Zc (Zd (g ?_))
 refine Zc (Qm (M := fun f' w' => ∃ s', (t = .next s' ∨ t = .brk s') ∧ (QK fun (p : Int) (ab : Int) => ∃ (af : PHeap) , PHeap.le s af ∧ St w0 af (Res.arr (Qa encFact) 23 b c :: H) w' ∧ Fx f' [(0, b), (1, j), (2, Value.func (.func 55) #[] #[]), (8, U ((c.length : Int))), (9, U p), (10, U ab)]) s') ?_ ?_)
 ·refine G ?_
  refine Y8 (fun s' f' w' => (QK fun (z : Int) (ac : Int) => ∃ (ag : PHeap) , PHeap.le s ag ∧ St w0 ag (Res.arr (Qa encFact) 23 b c :: H) w' ∧ Fx f' [(0, b), (1, j), (2, Value.func (.func 55) #[] #[]), (8, U ((c.length : Int))), (9, U z), (10, U ac)]) s') al ?_ ?_
  ·exact V
  intro a6 aB aE bf am a ax
  obtain ⟨z, ac⟩ := a6
  replace a := Qy a
  obtain ⟨aZ, aT, m, ⟨aF, rfl⟩⟩ := am
  refine G ?_
  rcases Qk a with ⟨ar, a⟩ | ⟨ar, a⟩
  ·refine G ?_
   refine Qal (by rw [Tryz.underlying3]; rfl) Tryz.underlying144 Z Z ?_
   refine G ?_
   refine QfX (n := 1) Z (by decide) Z Z Z (G ?_)
   refine Qal (by rw [Tryz.underlying144]; rfl) Tryz.underlying3 Z Z ?_
   obtain ⟨bl, k, a⟩ := Zg a
   obtain ⟨aM, aC, u⟩ := m.arr_at k
   refine G ?_
   refine Qe S70.h Z u Z (Qf k).1 (Qf k).2.1 (G ?_)
   refine Qs (F := (Qa encFact)) (m) u A23.h Z Z Z k (Sub.refl _) ?_
   intro bd ay
   have a2 := Qr.1 ay
   obtain ⟨bn, az, a⟩ := Zg a
   refine G ?_
   refine QbM Z Z Tryz.func55 Z N55 (Zi Z (Zi Z Qw)) ((K7 az m a2 rq).mono ?_)
   rintro _ bg ⟨_, rfl, ⟨a4, aU, aO, rfl⟩⟩
   refine ⟨_, Z, ?_⟩
   obtain ⟨aj, i, a⟩ := Zg a
   refine g ?_
   refine Qm (M := fun f' w' => (QK fun (aa : Int) (ad : Int) => ∃ (ah : PHeap) , PHeap.le a4 ah ∧ St w0 ah (Res.arr (Qa encFact) 23 b c :: H) w' ∧ Fx f' [(0, b), (1, j), (2, Value.func (.func 55) #[] #[]), (8, U ((c.length : Int))), (9, U aa), (10, U ad)]) aj) ?_ ?_
   ·rcases Qk i with ⟨au, i⟩ | ⟨au, i⟩
    ·cases i
     refine G ?_
     exact V
    cases i
    refine G ?_
    exact V
   intro aG bh an
   obtain ⟨aa, ad⟩ := aj
   replace a := Qy a
   obtain ⟨ba, aV, aP, ⟨aH, rfl⟩⟩ := an
   cases a
   refine G ?_
   exact ⟨_, Z, V⟩
  cases a
  refine G ?_
  exact ⟨_, .inr (ax (by intro _ h; cases h)), V⟩
 rintro aI bi ⟨a7, y, ao⟩
 have hm := y.elim (aw _) (aq _)
 clear y
 obtain ⟨p, ab⟩ := a7
 replace hm := Qy hm
 obtain ⟨a5, aW, o, ⟨aJ, rfl⟩⟩ := ao
 obtain ⟨q, d, hm⟩ := Zg hm
 refine g ?_
 refine Zc (Qm (M := fun f' w' => (fun (q : Bool) => ∃ (ai : PHeap) , PHeap.le a5 ai ∧ St w0 ai (Res.arr (Qa encFact) 23 b c :: H) w' ∧ Fx f' [(6, U p), (7, Vb q)]) q) ?_ ?_)
 ·refine G ?_
  rcases Qk d with ⟨av, d⟩ | ⟨av, d⟩
  ·obtain ⟨bm, l, d⟩ := Zg d
   obtain ⟨aN, aD, x⟩ := o.arr_at l
   refine G ?_
   refine Qe S70.h Z x Z (Qf l).1 (Qf l).2.1 (G ?_)
   refine Qs (F := (Qa encFact)) (o) x A23.h Z Z Z l (Sub.refl _) ?_
   intro be a0
   have a3 := Qr.1 a0
   obtain ⟨bo, a1, d⟩ := Zg d
   refine G ?_
   refine QbM Z Z Tryz.func55 Z N55 (Zi Z (Zi Z Qw)) ((K7 a1 o a3 rq).mono ?_)
   rintro _ bj ⟨_, rfl, ⟨bb, aX, aQ, rfl⟩⟩
   refine ⟨_, Z, ?_⟩
   cases d
   refine G ?_
   exact V
  cases d
  refine G ?_
  exact V
 intro aK bk ap
 obtain ⟨bc, aY, aR, ⟨aL, rfl⟩⟩ := ap
 cases hm
 refine G ?_
 refine ⟨_, KA Z, ?_⟩
 exact V
theorem Qaj {w0 w : World} {s : PHeap} {H : List Res} {i : (List (List Fact))} {m : (List (List Fact))} {j : Value} {d : Value} {r : (List (List Fact)) × (Option Int)} (hm : Ju i m = some r) (hS : St w0 s (H) w) (bs : SliceRep (Qa encFact) s j i) (bt : SliceRep (Qa encFact) s d m) :
  Calls Tryz.prog 77 #[j, d] w fun e w' => ∃ v, e = .returned v ∧ ((QK fun (bq : (List (List Fact))) (br : (Option Int)) => ∃ (y : PHeap) (ax : Value), PHeap.le s y ∧ St w0 y (H) w' ∧ v = Value.tuple #[ax, Yc 39 (br)] ∧ SliceRep (Qa encFact) y ax bq) r) := by
 unfold Ju at hm
 refine Qb Tryz.func77 Z Z ?_
 obtain ⟨ae, a2, aR, aN, aI⟩ := Qo hm
 refine Zc (Zd (g ?_))
 refine Zc (Zd (g ?_))
 refine Zc (Zc (Zd (g ?_)))
 refine Qm (M := fun f' w' => ∃ s', (ae = .next s' ∨ ae = .brk s') ∧ (QK fun (ao : (List (List Fact))) (aw : (List (List Fact))) => ∃ (ap : PHeap) (aa : Value) (ab : Value), PHeap.le s ap ∧ St w0 ap (Res.arr (Qa encFact) 23 aa ao :: Res.arr (Qa encFact) 23 ab aw :: H) w' ∧ Fx f' [(1, d), (6, aa), (7, ab), (16, j), (17, U ((i.length : Int)))]) s') ?_ ?_
 ·refine G ?_
  refine Q2 (fun k' s' f' w' => (QK fun (x : (List (List Fact))) (z : (List (List Fact))) => ∃ (aq : PHeap) (n : Value) (o : Value), PHeap.le s aq ∧ St w0 aq (Res.arr (Qa encFact) 23 n x :: Res.arr (Qa encFact) 23 o z :: H) w' ∧ Fx f' [(18, U (k' : Int)), (1, d), (6, n), (7, o), (16, j), (17, U ((i.length : Int)))]) s') a2 ?_ ?_ ?_
  ·have aA := hS.nilArr (Qa encFact) 23
   have bD := aA.nilArr (Qa encFact) 23
   exact V
  ·intro al bi bz b1 cr bK a4 b aT
   obtain ⟨x, z⟩ := bi
   replace b := Qy b
   obtain ⟨ar, n, o, bN, ag, ⟨b2, rfl⟩⟩ := a4
   obtain ⟨c4, aX, b⟩ := Zg b
   refine G ?_
   refine Jk Z Z Z aX ?_
   intro bu ca a0
   refine G ?_
   refine Zw (E := (Qa encFact)) ag A23.h Z Z Z a0 ?_
   intro ay aY
   have cc := Qr.1 aY
   obtain ⟨af, a3, aS, aO, aJ⟩ := Qo b
   refine g ?_
   refine Zc (Zd (g ?_))
   refine Qm (M := fun f' w' => ∃ s', (af = .next s' ∨ af = .brk s') ∧ (QK fun (am : (List (List Fact))) (an : (List (List Fact))) => ∃ (au : PHeap) (ac : Value) (ad : Value), PHeap.le ar au ∧ St w0 au (Res.arr (Qa encFact) 23 ac am :: Res.arr (Qa encFact) 23 ad an :: H) w' ∧ Fx f' [(1, d), (6, ac), (7, ad), (9, ay), (16, j), (17, U ((i.length : Int))), (18, U ((al : Int))), (22, d), (23, U ((m.length : Int)))]) s') ?_ ?_
   ·refine G ?_
    refine Q2 (fun k' s' f' w' => (QK fun (t : (List (List Fact))) (u : (List (List Fact))) => ∃ (av : PHeap) (p : Value) (q : Value), PHeap.le ar av ∧ St w0 av (Res.arr (Qa encFact) 23 p t :: Res.arr (Qa encFact) 23 q u :: H) w' ∧ Fx f' [(24, U (k' : Int)), (1, d), (6, p), (7, q), (9, ay), (16, j), (17, U ((i.length : Int))), (18, U ((al : Int))), (22, d), (23, U ((m.length : Int)))]) s') a3 ?_ ?_ ?_
    ·have bE := ag.f1
     exact V
    ·intro bM bj b0 b3 ct bL a5 a aU
     obtain ⟨t, u⟩ := bj
     replace a := Qy a
     obtain ⟨ce, p, q, bO, ah, ⟨b4, rfl⟩⟩ := a5
     obtain ⟨c5, aZ, a⟩ := Zg a
     refine G ?_
     refine Jk Z Z Z aZ ?_
     intro bv cb a1
     refine G ?_
     refine Zw (E := (Qa encFact)) ah A23.h Z Z Z a1 ?_
     intro co ba
     have bf := Qr.1 ba
     obtain ⟨bk, bb, a⟩ := Zg a
     obtain ⟨az, c6⟩ := bk
     replace a := Qy a
     refine G ?_
     refine Tc Z Z Z Z (Qes bb ah rq bf).r ?_
     rintro _ cu ⟨cf, l, bP, aB, rfl, bg⟩
     refine G ?_
     rcases Qk a with ⟨aK, a⟩ | ⟨aK, a⟩
     ·cases a
      refine G ?_
      exact ⟨_, Z, V⟩
     obtain ⟨bl, bc, a⟩ := Zg a
     obtain ⟨c7, c8⟩ := bl
     replace a := Qy a
     refine G ?_
     refine Tc Z Z Z Z (QcM bc aB.f1 bg).r ?_
     rintro _ cv ⟨cg, bQ, ai, rfl⟩
     refine G ?_
     rcases Qk a with ⟨aL, a⟩ | ⟨aL, a⟩
     ·cases a
      refine G ?_
      exact ⟨_, Z, V⟩
     refine G ?_
     refine Qv (ai.f1) S70.h Z Z (G ?_)
     rcases Qk a with ⟨aM, a⟩ | ⟨aM, a⟩
     ·refine G ?_
      refine Exec.makeInterface C39 Z Z ?_
      cases a
      have aP := aS _ (aU (by intro _ h; cases h))
      cases aP
      have aQ := aR _ (aT (by intro _ h; cases h))
      cases aQ
      refine G ?_
      refine ⟨_, KA Z, ?_⟩
      exact V
     refine G ?_
     refine Exec.buildSlice (Te := 23) (cs := [l]) ai Z (Qd (c := [l]) (Qi Z (Q5 (rq).one)) Qg) (fun _ => by kernel_rfl) ?_
     intro bw cw aC
     have aD := St.boxArr (E := (Qa encFact)) (xs := [az]) aC ⟨[l], [], rfl, ⟨_, rfl, rq⟩, rfl⟩ (by simp [maxLen])
     obtain ⟨ch, bR, aE, bh⟩ := aD.freezeArr
     obtain ⟨bS, bd, a⟩ := Zg a
     refine G ?_
     refine Tc Z Z Z Z (Qkz bd aE bh).r ?_
     rintro cp cx ⟨ci, _, bT, aF, rfl⟩
     refine G ?_
     refine Exec.buildSlice (Te := 23) (cs := [l]) aF Z (Qd (c := [l]) (Qi Z (Q5 (rq).one)) Qg) (fun _ => by kernel_rfl) ?_
     intro bx cy aG
     obtain ⟨bU, be, a⟩ := Zg a
     refine G ?_
     refine Q0 (E := (Qa encFact)) (ys := [az]) aG.f2 S70.h Z23 Z (by decide) Z Z Z Z ⟨[l], [], Z, ⟨_, Z, rq⟩, Z⟩ Z be ?_
     intro cq cz bF
     cases a
     refine G ?_
     exact ⟨_, Z, V⟩
    intro bm b5 c0 a6 aV
    obtain ⟨t, u⟩ := bm
    obtain ⟨cj, p, q, bV, bG, ⟨b6, rfl⟩⟩ := a6
    refine G ?_
    exact ⟨_, .inl aV, V⟩
   rintro b7 c1 ⟨bn, aj, a8⟩
   have b := aj.elim (aO _) (aJ _)
   clear aj
   obtain ⟨am, an⟩ := bn
   replace b := Qy b
   obtain ⟨ck, ac, ad, bW, bH, ⟨b8, rfl⟩⟩ := a8
   cases b
   refine G ?_
   exact ⟨_, Z, V⟩
  intro bo b9 c2 a7 aW
  obtain ⟨x, z⟩ := bo
  obtain ⟨cl, n, o, bX, bI, ⟨bA, rfl⟩⟩ := a7
  refine G ?_
  exact ⟨_, .inl aW, V⟩
 rintro bB c3 ⟨bp, ak, a9⟩
 have hm := ak.elim (aN _) (aI _)
 clear ak
 obtain ⟨ao, aw⟩ := bp
 replace hm := Qy hm
 obtain ⟨cm, aa, ab, bY, aH, ⟨bC, rfl⟩⟩ := a9
 cases hm
 refine G ?_
 refine ⟨_, KA Z, ?_⟩
 obtain ⟨cn, bZ, bJ, cd⟩ := aH.freezeArr
 exact V
theorem N96 : (Tryz.f96.name == "runtime.NumGoroutine") = false := by kernel_rfl
theorem Qcx {w0 w : World} {s : PHeap} {H : List Res} {g : (List Fact)} {b : (List Fact)} {f : Value} {a c : Nat} {r : Bool} (hm : KL g b = some r) (hS : St w0 s (H) w) (i : SliceRep encFact s f g) (j : At s a c (Qa encFact) b) :
  Calls Tryz.prog 96 #[f, Value.pointer (some ⟨a, c, none⟩)] w fun e w' => ∃ v, e = .returned v ∧ ((fun (n : Bool) => ∃ (d : PHeap) , PHeap.le s d ∧ St w0 d (H) w' ∧ v = Value.bool (n)) r) := by
 unfold KL at hm
 refine Qb Tryz.func96 Z Z (G ?_)
 refine Zw (E := (Qa encFact)) hS A23.h Z Z Z j ?_
 intro t k
 have m := Qr.1 k
 obtain ⟨x, l, hm⟩ := Zg hm
 refine G ?_
 refine Tc Z Z Z Z (K7 l hS i m).r ?_
 rintro _ u ⟨q, p, o, rfl⟩
 cases hm
 refine G ?_
 exact fr
theorem QbZ {w0 w : World} {s : PHeap} {H : List Res} {b : (List (List Fact))} {m : (List Fact)} {c : Value} {d i : Nat} {r : Int} (hm : JH b m = some r) (hS : St w0 s (Res.arr (Qa encFact) 23 c b :: H) w) (x : At s d i (Qa encFact) m) :
  Calls Tryz.prog 93 #[c, Value.func (.func 96) #[] #[Value.pointer (some ⟨d, i, none⟩)]] w fun e w' => ∃ v, e = .returned v ∧ ((fun (aq : Int) => ∃ (q : PHeap) , PHeap.le s q ∧ St w0 q (Res.arr (Qa encFact) 23 c b :: H) w' ∧ v = U aq) r) := by
 unfold JH at hm
 refine Qb Tryz.func93 Z Z (G ?_)
 refine Qv (hS) S70.h Z Z ?_
 obtain ⟨n, y, ai, ag, ad⟩ := Qo hm
 refine g ?_
 refine Qm (M := fun f' w' => ∃ s', (n = .next s' ∨ n = .brk s') ∧ (fun (_ : Unit) => ∃ (t : PHeap) , PHeap.le s t ∧ St w0 t (Res.arr (Qa encFact) 23 c b :: H) w' ∧ Fx f' [(0, c), (1, Value.func (.func 96) #[] #[Vp (some ⟨d, i, none⟩)]), (7, U ((b.length : Int)))]) s') ?_ ?_
 ·refine G ?_
  refine Q2 (fun k' s' f' w' => (fun (_ : Unit) => ∃ (u : PHeap) , PHeap.le s u ∧ St w0 u (Res.arr (Qa encFact) 23 c b :: H) w' ∧ Fx f' [(8, U (k' : Int)), (0, c), (1, Value.func (.func 96) #[] #[Vp (some ⟨d, i, none⟩)]), (7, U ((b.length : Int)))]) s') y ?_ ?_ ?_
  ·exact V
  ·intro a4 aB ar av aF af z a aj
   obtain ⟨a8, al, l, ⟨aw, rfl⟩⟩ := z
   obtain ⟨aJ, j, a⟩ := Zg a
   obtain ⟨a1, au, o⟩ := l.arr_at j
   refine G ?_
   refine Qe S70.h Z o Z (Qf j).1 (Qf j).2.1 (G ?_)
   refine Qs (F := (Qa encFact)) (l) o A23.h Z Z Z j (Sub.refl _) ?_
   intro aE am
   have ao := Qr.1 am
   obtain ⟨aK, an, a⟩ := Zg a
   refine G ?_
   refine Qdl Z Z Tryz.func96 Z N96 (Zi Z Qw) Z ((Qcx an l ao (x.mono al)).mono ?_)
   rintro _ aG ⟨_, rfl, ⟨ap, a5, ac, rfl⟩⟩
   refine ⟨_, Z, ?_⟩
   refine G ?_
   rcases Qk a with ⟨ae, a⟩ | ⟨ae, a⟩
   ·cases a
    have ah := ai _ (aj (by intro _ h; cases h))
    cases ah
    refine G ?_
    exact fr
   cases a
   refine G ?_
   refine ⟨_, Z, ?_⟩; exact ⟨ap, lq, ac, (Fx.mk (FxL.cons (Ja af hS.arr_le) fxl))⟩
  intro aC ax aH aa ak
  obtain ⟨a9, a6, a2, ⟨ay, rfl⟩⟩ := aa
  refine G ?_
  exact ⟨_, .inl ak, V⟩
 rintro az aI ⟨aD, p, ab⟩
 have hm := p.elim (ag _) (ad _)
 clear p
 obtain ⟨aA, a7, a3, ⟨a0, rfl⟩⟩ := ab
 cases hm
 refine G ?_
 exact fr
theorem Qa7 {w0 w : World} {s : PHeap} {H : List Res} {a : (List (List Fact))} {d : (List Fact)} {b : Value} {c f : Nat} {r : Bool} (hm : Jw a d = some r) (hS : St w0 s (Res.arr (Qa encFact) 23 b a :: H) w) (h : At s c f (Qa encFact) d) :
  Calls Tryz.prog 71 #[b, Value.func (.func 96) #[] #[Value.pointer (some ⟨c, f, none⟩)]] w fun e w' => ∃ v, e = .returned v ∧ ((fun (j : Bool) => ∃ (g : PHeap) , PHeap.le s g ∧ St w0 g (Res.arr (Qa encFact) 23 b a :: H) w' ∧ v = Value.bool (j)) r) := by
 unfold Jw at hm
 refine Qb Tryz.func71 Z Z ?_
 obtain ⟨o, i, hm⟩ := Zg hm
 refine G ?_
 refine Tc Z Z Z Z (QbZ i hS h).r ?_
 rintro _ n ⟨m, l, k, rfl⟩
 cases hm
 refine G ?_
 exact fr
theorem QdR {w0 w : World} {s : PHeap} {H : List Res} {cw : (List Int)} {t : Op} {a : Fact} {n : Value} {bj : Value} {aw : Value} {r : (List (List Fact)) × (Option Int)} (hm : KS cw t a = some r) (hS : St w0 s (H) w) (bq : SliceRep (Qc .i64) s n cw) (fh : SliceRep encFact s bj t.Pre) (br : SliceRep encEffect s aw t.Effs) :
  Calls Tryz.prog 76 #[n, Value.agg #[Value.string (t.Name), U (t.Cost), bj, aw], Value.agg #[U (a.Var), U (a.Val)]] w fun e w' => ∃ v, e = .returned v ∧ ((QK fun (ff : (List (List Fact))) (fg : (Option Int)) => ∃ (ba : PHeap) (cq : Value), PHeap.le s ba ∧ St w0 ba (H) w' ∧ v = Value.tuple #[cq, Yc 39 (fg)] ∧ SliceRep (Qa encFact) ba cq ff) r) := by
 unfold KS at hm
 refine Qb Tryz.func76 Z Z (G ?_)
 refine Exec.box (cs := [Value.string (t.Name), U (t.Cost), bj, aw]) hS Z Z Z ?_
 intro fi hl cV
 refine G ?_
 refine Exec.box (cs := [U (a.Var), U (a.Val)]) cV Z Z Z ?_
 intro d hn cW
 obtain ⟨aD, c8, hm⟩ := Zg hm
 refine G ?_
 refine J8 (fun k' s' f' w' => (fun (aD : (List Effect)) => ∃ (ce : PHeap) (al : Value), PHeap.le s ce ∧ St w0 ce (Res.box d 52 [U (a.Var), U (a.Val)] :: Res.arr encEffect 50 al aD :: H) w' ∧ Fx f' [(23, U (k' : Int)), (0, n), (5, Vq d), (8, al), (21, aw), (22, U ((t.Effs.length : Int)))]) s') c8 ?_ ?_ ?_
 ·have cX := cW.nilArr encEffect 50
  exact ⟨s, Vn, (Zv _), ((cX.f2).drop).f1, (Fx.mk)⟩
 ·intro dS aD eF fR ho dC cE ap
  obtain ⟨bb, al, bQ, b0, ⟨fS, rfl⟩⟩ := cE
  obtain ⟨l, ef, ap⟩ := Zg ap
  refine G ?_
  refine Jn S46.h Z Z Z (br.mono bQ) ef ?_
  intro fj gL cz
  refine G ?_
  refine Zw (E := encEffect) b0 A50.h Z Z Z cz ?_
  intro he eg
  obtain ⟨ak, rfl, bX⟩ := JW.1 eg
  refine G ?_
  refine Exec.alloc (cs := [Vn, U 0, U 0]) b0 Z50 Z Z ?_
  intro fk hp cY
  refine G ?_
  refine Qp (ds := [ak, U (l.Var), U (l.Val)]) (es := [ak, U (l.Var), U (l.Val)]) cY A50.h Z Z Z Z (Zj bX.one (Zj Z (Zj Z QV))) (Nat.le_of_ble_eq_true Z) Z ?_
  intro hq b1
  obtain ⟨ar, aa, ap⟩ := Zg ap
  refine g ?_
  refine Zc (Zd (g ?_))
  refine Qm (M := fun f' w' => (fun (ar : (List Effect)) => ∃ (cf : PHeap) (a8 : Value), PHeap.le bb cf ∧ St w0 cf (Res.box d 52 [U (a.Var), U (a.Val)] :: Res.arr encEffect 50 a8 ar :: H) w' ∧ Fx f' [(0, n), (5, Vq d), (8, a8), (21, aw), (22, U ((t.Effs.length : Int))), (23, U ((dS : Int)))]) ar) ?_ ?_
  ·rcases QO aa with ⟨aF, aa⟩ | ⟨aF, aa⟩
   ·refine G ?_
    refine Exec.buildSlice (Te := 50) (cs := [ak, U (l.Var), U (l.Val)]) b1 Z (Qd (c := [ak, U (l.Var), U (l.Val)]) (Qi Z Z) Qg) (fun _ => by kernel_rfl) ?_
    intro fl hr cZ
    obtain ⟨gA, eh, aa⟩ := Zg aa
    refine G ?_
    refine Q0 (E := encEffect) (ys := [l]) cZ.f3 S46.h Z50 Z (by decide) Z Z Z Z ⟨[ak, U (l.Var), U (l.Val)], [], Z, ⟨[ak], [U (l.Var), U (l.Val)], Z, ⟨_, Z, bX⟩, ⟨[U (l.Var)], [U (l.Val)], Z, Z, Z⟩⟩, Z⟩ Z eh ?_
    intro fa hs da
    have fz := Zu aa
    subst ar
    refine G ?_
    exact ⟨bb, fa, (Zv _), ((da.f1).drop).f1, (Fx.mk)⟩
   replace aF := Zk aF
   have f0 := Zu aa
   subst ar
   refine G ?_
   exact ⟨bb, al, (Zv _), ((b1.drop).f1).f1, (Fx.mk)⟩
  intro fT ht cP
  obtain ⟨eG, a8, dV, db, ⟨fU, rfl⟩⟩ := cP
  have f4 := Zu ap
  subst eF
  refine G ?_
  exact ⟨eG, a8, (Zt bQ dV), (db.f1).f1, (Fx.mk (FxL.cons (Ja dC (SliceRep.le br)) fxl))⟩
 intro fV hu cF
 obtain ⟨cg, al, ag, b2, ⟨fW, rfl⟩⟩ := cF
 refine G ?_
 refine Qv (b2.f1) S46.h Z Z ?_
 obtain ⟨bs, c9, a1, dE, d8⟩ := Qo hm
 refine g ?_
 refine Qm (M := fun f' w' => ∃ s', (bs = .next s' ∨ bs = .brk s') ∧ (K3 fun (bx : (List Effect)) (bV : (List (List Fact))) (bP : Int) => ∃ (bc : PHeap) (bk : Value) (bl : Value), PHeap.le cg bc ∧ St w0 bc (Res.box d 52 [U (a.Var), U (a.Val)] :: Res.arr (Qa encFact) 23 bl bV :: H) w' ∧ Fx f' [(0, n), (5, Vq d), (8, bk), (11, bl), (12, U bP)] ∧ SliceRep encEffect bc bk bx) s') ?_ ?_
 ·refine G ?_
  refine Y8 (fun s' f' w' => (K3 fun (bz : (List Effect)) (aj : (List (List Fact))) (q : Int) => ∃ (bd : PHeap) (p : Value) (o : Value), PHeap.le cg bd ∧ St w0 bd (Res.box d 52 [U (a.Var), U (a.Val)] :: Res.arr (Qa encFact) 23 o aj :: H) w' ∧ Fx f' [(0, n), (5, Vq d), (8, p), (11, o), (12, U q)] ∧ SliceRep encEffect bd p bz) s') c9 ?_ ?_
  ·have dc := b2.f1
   obtain ⟨eH, dW, dd, e6⟩ := dc.freezeArr
   have de := dd.nilArr (Qa encFact) 23
   exact ⟨eH, al, Vn, dW, de.f1, (Fx.mk), e6⟩
  intro eU ad fX hv cG b aq
  obtain ⟨bz, aj, q⟩ := eU
  replace b := Js b
  obtain ⟨gT, p, o, u, df, ⟨fY, rfl⟩, af⟩ := cG
  refine G ?_
  rcases QO b with ⟨aG, b⟩ | ⟨aG, b⟩
  ·refine G ?_
   refine Exec.buildSlice (Te := 52) (cs := [U (a.Var), U (a.Val)]) df Z (Qd (c := [U (a.Var), U (a.Val)]) (Qi Z Z) Qg) (fun _ => by kernel_rfl) ?_
   intro aC hw dg
   have dh := St.boxArr (E := encFact) (xs := [a]) dg ⟨[U (a.Var), U (a.Val)], [], rfl, ⟨[U (a.Var)], [U (a.Val)], rfl, rfl, rfl⟩, rfl⟩ (by simp [maxLen])
   obtain ⟨av, m, di, e7⟩ := dh.freezeArr
   refine G ?_
   refine Exec.buildSlice (Te := 23) (cs := [Vs (some ⟨aC, 0, none⟩) 1 1]) di Z (Qd (c := [Vs (some ⟨aC, 0, none⟩) 1 1]) (Qi Z Z) Qg) (fun _ => by kernel_rfl) ?_
   intro c6 hx ae
   refine G ?_
   rcases QO b with ⟨aH, b⟩ | ⟨aH, b⟩
   ·refine G ?_
    refine KG (n0 := 8) (qs 0 8 .done) Yp (by kernel_rfl) (by kernel_rfl) ?_
    obtain ⟨fe, bW, b⟩ := Zg b
    refine G ?_
    refine Q6 S46.h Z Z Z (af.mono m) bW ?_
    intro fm gM c0 f5
    refine ⟨Z, ?_⟩
    refine G ?_
    refine Zw (E := (Qc .i64)) ae.drew A3.h Z Z Z (c0.sub (Sub.iso (Kr (Kr (Sub.refl _) Z) Z)) Z) ?_
    intro hf ei
    obtain rfl := Qt.1 ei
    refine ⟨Z, ?_⟩
    refine G ?_
    refine Zn ((ae.drew).f1) A3.h Z Z Z ⟨Z, ?_⟩
    refine G ?_
    rcases QO b with ⟨aI, b⟩ | ⟨aI, b⟩
    ·have f6 := Zu b
     subst ad
     refine G ?_
     refine ⟨_, Z, ?_⟩; exact ⟨av, p, o, (Zt u m), (((ae.drew).drop).f1).f1, (Fx.mk), (af.mono m)⟩
    replace aI := Zk aI
    refine G ?_
    refine Jn S46.h Z Z Z (af.mono m) bW ?_
    intro fn gN c1
    refine G ?_
    refine Zw (E := (Qa encFact)) ae.drew A23.h Z Z Z (c1.sub (Sub.iso (Sub.fst (Sub.refl _))) Z) ?_
    intro bm ej
    have bY := Qr.1 ej
    refine G ?_
    refine Exec.buildSlice (Te := 23) (cs := [bm]) ae.drew Z (Qd (c := [bm]) (Qi Z (Q5 bY.one)) Qg) (fun _ => by kernel_rfl) ?_
    intro c7 hy dj
    obtain ⟨bt, ek, b⟩ := Zg b
    refine G ?_
    refine Qce S46.h Z Z Z (af.mono m) ek ?_
    intro cr aW
    obtain ⟨bu, cA, bK, dF, d9⟩ := Qo b
    refine g ?_
    refine Qm (M := fun f' w' => ∃ s', (bu = .next s' ∨ bu = .brk s') ∧ (fun (a6 : (List (List Fact))) => ∃ (be : PHeap) (ax : Value), PHeap.le av be ∧ St w0 be (Res.box d 52 [U (a.Var), U (a.Val)] :: Res.arr (Qa encFact) 23 o aj :: H) w' ∧ Fx f' [(0, n), (5, Vq d), (8, p), (11, o), (12, U q), (13, ax), (66, cr), (67, U ((bt.length : Int)))] ∧ SliceRep (Qa encFact) be ax a6) s') ?_ ?_
    ·refine G ?_
     refine Q2 (fun k' s' f' w' => (fun (aU : (List (List Fact))) => ∃ (bf : PHeap) (am : Value), PHeap.le av bf ∧ St w0 bf (Res.box d 52 [U (a.Var), U (a.Val)] :: Res.arr (Qa encFact) 23 o aj :: H) w' ∧ Fx f' [(68, U (k' : Int)), (0, n), (5, Vq d), (8, p), (11, o), (12, U q), (13, am), (66, cr), (67, U ((bt.length : Int)))] ∧ SliceRep (Qa encFact) bf am aU) s') cA ?_ ?_ ?_
     ·have dk := St.boxArr (E := (Qa encFact)) (xs := [fe.When]) dj ⟨[bm], [], rfl, ⟨_, rfl, bY⟩, rfl⟩ (by simp [maxLen])
      obtain ⟨eI, dX, dl, e8⟩ := dk.freezeArr
      exact ⟨eI, (Vs (some ⟨c7, 0, none⟩) 1 1), dX, ((dl.drop).f1).f1, (Fx.mk), e8⟩
     ·intro g8 aU az fZ hz bI cH i bN
      obtain ⟨eJ, am, ah, b3, ⟨ga, rfl⟩, a2⟩ := cH
      obtain ⟨hV, el, i⟩ := Zg i
      refine G ?_
      refine Jn S46.h Z Z Z (aW.mono ah) el ?_
      intro fo gO c2
      refine G ?_
      refine Zw (E := encEffect) b3 A50.h Z Z Z c2 ?_
      intro hg em
      obtain ⟨hd, rfl, e9⟩ := JW.1 em
      refine G ?_
      refine Exec.alloc (cs := [Vn, U 0, U 0]) b3 Z50 Z Z ?_
      intro fp h0 g1
      refine G ?_
      refine Yo Z Z Z ?_
      intro h1 b4
      refine G ?_
      rcases QO i with ⟨aJ, i⟩ | ⟨aJ, i⟩
      ·have f7 := Zu i
       subst az
       refine G ?_
       refine ⟨_, Z, ?_⟩; exact ⟨eJ, am, ah, ((b4.drop).f1).f1, (Fx.mk (FxL.cons (Ja bI (SliceRep.le aW)) fxl)), a2⟩
      replace aJ := Zk aJ
      obtain ⟨eV, en, i⟩ := Zg i
      obtain ⟨hW, hX⟩ := eV
      replace i := Qy i
      refine G ?_
      refine Tc Z Z Z (Zi Z (Zi Z Qw)) (QaP en b4 (bq.mono (Zt (Zt (Zt ag u) m) ah)) e9).r ?_
      rintro _ h2 ⟨eK, hh, a4, b5, rfl, eA⟩
      refine G ?_
      refine Qh (T := 39) Tryz.underlying35 Z Z Z (G ?_)
      rcases QO i with ⟨aK, i⟩ | ⟨aK, i⟩
      ·have f8 := Zu i
       subst az
       have dH := bK _ (bN (by intro _ h; cases h))
       have f9 := Zu dH
       subst ad
       have dI := a1 _ (aq (by intro _ h; cases h))
       have fA := Zu dI
       subst r
       refine G ?_
       refine ⟨_, KA Z, ?_⟩
       exact ⟨eK, Vn, (Zt (Zt (Zt (Zt ag u) m) ah) a4), ((b5.drop).drop).drop, (Qfa Z Z), (SliceRep.nil _ _)⟩
      replace aK := Zk aK
      obtain ⟨eW, eo, i⟩ := Zg i
      obtain ⟨hY, hZ⟩ := eW
      replace i := Qy i
      refine G ?_
      refine Tc Z Z Z (Zi Z (Zi Z Qw)) (Qaj eo b5 (a2.mono a4) eA).r ?_
      rintro _ h3 ⟨ch, fb, bR, b6, rfl, eB⟩
      refine G ?_
      refine Qh (T := 39) Tryz.underlying35 Z Z Z (G ?_)
      rcases QO i with ⟨aL, i⟩ | ⟨aL, i⟩
      ·have fB := Zu i
       subst az
       have dJ := bK _ (bN (by intro _ h; cases h))
       have fC := Zu dJ
       subst ad
       have dK := a1 _ (aq (by intro _ h; cases h))
       have fD := Zu dK
       subst r
       refine G ?_
       refine ⟨_, KA Z, ?_⟩
       exact ⟨ch, Vn, (Zt (Zt (Zt (Zt (Zt ag u) m) ah) a4) bR), ((b6.drop).drop).drop, (Qfa Z Z), (SliceRep.nil _ _)⟩
      replace aL := Zk aL
      have fE := Zu i
      subst az
      refine G ?_
      refine ⟨_, Z, ?_⟩; exact ⟨ch, fb, (Zt (Zt ah a4) bR), ((b6.drop).f1).f1, (Fx.mk (FxL.cons (Ja bI (SliceRep.le aW)) fxl)), eB⟩
     intro aU gb h4 cI dQ
     obtain ⟨eL, am, dY, dm, ⟨gc, rfl⟩, a2⟩ := cI
     refine G ?_
     refine ⟨_, .inl dQ, ?_⟩; exact ⟨eL, am, dY, (dm.f1).f1, (Fx.mk), a2⟩
    rintro gd h5 ⟨a6, bF, cQ⟩
    have b := bF.elim (dF _) (d9 _)
    clear bF
    obtain ⟨ci, ax, bS, dn, ⟨gf, rfl⟩, bM⟩ := cQ
    obtain ⟨aR, cB, b⟩ := Zg b
    refine G ?_
    refine J8 (fun k' s' f' w' => (fun (aR : (List (List Fact))) => ∃ (cj : PHeap) (an : Value), PHeap.le ci cj ∧ St w0 cj (Res.box d 52 [U (a.Var), U (a.Val)] :: Res.arr (Qa encFact) 23 an aR :: H) w' ∧ Fx f' [(98, U (k' : Int)), (0, n), (5, Vq d), (8, p), (11, an), (12, U q), (96, ax), (97, U ((a6.length : Int)))]) s') cB ?_ ?_ ?_
    ·have dp := dn.f1
     exact ⟨ci, o, (Zv _), dp.f1, (Fx.mk)⟩
    ·intro dT aR eM gg h6 dD cJ x
     obtain ⟨gU, an, dZ, b7, ⟨gh, rfl⟩⟩ := cJ
     obtain ⟨cx, ep, x⟩ := Zg x
     refine G ?_
     refine Jn S70.h Z Z Z (bM.mono dZ) ep ?_
     intro fr gP c3
     refine G ?_
     refine Zw (E := (Qa encFact)) b7 A23.h Z Z Z c3 ?_
     intro ct er
     have aX := Qr.1 er
     refine G ?_
     refine Exec.alloc (cs := [Vn]) b7 Z23 Z Z ?_
     intro fs h7 dq
     refine G ?_
     refine Qp (ds := [ct]) (es := [ct]) dq A23.h Z Z Z (Q5 aX.one) (Zj aX.one QV) (Nat.le_of_ble_eq_true Z) Z ?_
     intro h8 dr
     refine G ?_
     obtain ⟨gV, gB, dt, bZ⟩ := QaA (E := (Qa encFact)) (y := cx) dr ⟨_, rfl, aX⟩
     refine G ?_
     refine Exec.makeFunc Z (Zi Z Qw) ?_
     obtain ⟨ia, et, x⟩ := Zg x
     refine G ?_
     refine Tc Z Z Z (Zi Z (Zi Z Qw)) (Qa7 et dt.f1 bZ).r ?_
     rintro _ h9 ⟨bg, ea, aE, rfl⟩
     obtain ⟨au, ab, x⟩ := Zg x
     refine g ?_
     refine Qm (M := fun f' w' => (fun (au : (List (List Fact))) => ∃ (ck : PHeap) (a9 : Value), PHeap.le bg ck ∧ St w0 ck (Res.box d 52 [U (a.Var), U (a.Val)] :: Res.arr (Qa encFact) 23 a9 au :: H) w' ∧ Fx f' [(0, n), (5, Vq d), (8, p), (11, a9), (12, U q), (96, ax), (97, U ((a6.length : Int))), (98, U ((dT : Int)))]) au) ?_ ?_
     ·rcases QO ab with ⟨aM, ab⟩ | ⟨aM, ab⟩
      ·refine G ?_
       refine Zw (E := (Qa encFact)) aE A23.h Z Z Z (bZ.mono ea) ?_
       intro bn eu
       have ca := Qr.1 eu
       refine G ?_
       refine Exec.buildSlice (Te := 23) (cs := [bn]) aE Z (Qd (c := [bn]) (Qi Z (Q5 ca.one)) Qg) (fun _ => by kernel_rfl) ?_
       intro ft hA du
       obtain ⟨gC, ev, ab⟩ := Zg ab
       refine G ?_
       refine Q0 (E := (Qa encFact)) (ys := [cx]) du.f1 S70.h Z23 Z (by decide) Z Z Z Z ⟨[bn], [], Z, ⟨_, Z, ca⟩, Z⟩ Z ev ?_
       intro fc hB dv
       have fF := Zu ab
       subst au
       refine G ?_
       exact ⟨bg, fc, (Zv _), dv.f1, (Fx.mk)⟩
      replace aM := Zk aM
      have fG := Zu ab
      subst au
      refine G ?_
      exact ⟨bg, an, (Zv _), aE.f1, (Fx.mk)⟩
     intro gi hC cR
     obtain ⟨eN, a9, gD, dw, ⟨gj, rfl⟩⟩ := cR
     have fH := Zu x
     subst eM
     refine G ?_
     exact ⟨eN, a9, lq, (dw.f1).f1, (Fx.mk (FxL.cons (Ja dD (SliceRep.le bM)) fxl))⟩
    intro gk hD cK
    obtain ⟨eO, an, bT, dx, ⟨gl, rfl⟩⟩ := cK
    have fI := Zu b
    subst ad
    refine G ?_
    refine ⟨_, Z, ?_⟩; exact ⟨eO, p, an, (Zt (Zt (Zt u m) bS) bT), (dx.f1).f1, (Fx.mk), (af.mono (Zt (Zt m bS) bT))⟩
   replace aH := Zk aH
   obtain ⟨bv, ew, b⟩ := Zg b
   refine G ?_
   refine Qce S46.h Z Z Z (af.mono m) ew ?_
   intro cu aY
   obtain ⟨bw, cC, bL, dG, dA⟩ := Qo b
   refine g ?_
   refine Qm (M := fun f' w' => ∃ s', (bw = .next s' ∨ bw = .brk s') ∧ (fun (a7 : (List (List Fact))) => ∃ (bh : PHeap) (ay : Value), PHeap.le av bh ∧ St w0 bh (Res.box d 52 [U (a.Var), U (a.Val)] :: Res.arr (Qa encFact) 23 o aj :: H) w' ∧ Fx f' [(0, n), (5, Vq d), (8, p), (11, o), (12, U q), (13, ay), (66, cu), (67, U ((bv.length : Int)))] ∧ SliceRep (Qa encFact) bh ay a7) s') ?_ ?_
   ·refine G ?_
    refine Q2 (fun k' s' f' w' => (fun (aV : (List (List Fact))) => ∃ (bi : PHeap) (ao : Value), PHeap.le av bi ∧ St w0 bi (Res.box d 52 [U (a.Var), U (a.Val)] :: Res.arr (Qa encFact) 23 o aj :: H) w' ∧ Fx f' [(68, U (k' : Int)), (0, n), (5, Vq d), (8, p), (11, o), (12, U q), (13, ao), (66, cu), (67, U ((bv.length : Int)))] ∧ SliceRep (Qa encFact) bi ao aV) s') cC ?_ ?_ ?_
    ·have dy := St.boxArr (E := (Qa encFact)) (xs := [[a]]) ae ⟨[Vs (some ⟨aC, 0, none⟩) 1 1], [], rfl, ⟨_, rfl, e7⟩, rfl⟩ (by simp [maxLen])
     obtain ⟨eP, eb, dz, eC⟩ := dy.freezeArr
     exact ⟨eP, (Vs (some ⟨c6, 0, none⟩) 1 1), eb, (dz.f1).f1, (Fx.mk), eC⟩
    ·intro g9 aV a0 gm hE bJ cL j bO
     obtain ⟨eQ, ao, ai, b8, ⟨gn, rfl⟩, a3⟩ := cL
     obtain ⟨aB, ex, j⟩ := Zg j
     refine G ?_
     refine Jn S46.h Z Z Z (aY.mono ai) ex ?_
     intro fu gQ c4
     refine G ?_
     refine Zw (E := encEffect) b8 A50.h Z Z Z c4 ?_
     intro hi ey
     obtain ⟨cp, rfl, cb⟩ := JW.1 ey
     refine G ?_
     refine Exec.alloc (cs := [Vn, U 0, U 0]) b8 Z50 Z Z ?_
     intro fv hF d0
     refine G ?_
     refine Qp (ds := [cp, U (aB.Var), U (aB.Val)]) (es := [cp, U (aB.Var), U (aB.Val)]) d0 A50.h Z Z Z Z (Zj cb.one (Zj Z (Zj Z QV))) (Nat.le_of_ble_eq_true Z) Z ?_
     intro hG b9
     refine G ?_
     rcases QO j with ⟨aN, j⟩ | ⟨aN, j⟩
     ·have fJ := Zu j
      subst a0
      refine G ?_
      refine ⟨_, Z, ?_⟩; exact ⟨eQ, ao, ai, ((b9.drop).f1).f1, (Fx.mk (FxL.cons (Ja bJ (SliceRep.le aY)) fxl)), a3⟩
     replace aN := Zk aN
     obtain ⟨eX, ez, j⟩ := Zg j
     obtain ⟨ib, ic⟩ := eX
     replace j := Qy j
     refine G ?_
     refine Tc Z Z Z (Zi Z (Zi Z Qw)) (QaP ez b9 (bq.mono (Zt (Zt (Zt ag u) m) ai)) cb).r ?_
     rintro _ hH ⟨eR, hj, a5, bA, rfl, eD⟩
     refine G ?_
     refine Qh (T := 39) Tryz.underlying35 Z Z Z (G ?_)
     rcases QO j with ⟨aO, j⟩ | ⟨aO, j⟩
     ·have fK := Zu j
      subst a0
      have dL := bL _ (bO (by intro _ h; cases h))
      have fL := Zu dL
      subst ad
      have dM := a1 _ (aq (by intro _ h; cases h))
      have fM := Zu dM
      subst r
      refine G ?_
      refine ⟨_, KA Z, ?_⟩
      exact ⟨eR, Vn, (Zt (Zt (Zt (Zt ag u) m) ai) a5), ((bA.drop).drop).drop, (Qfa Z Z), (SliceRep.nil _ _)⟩
     replace aO := Zk aO
     obtain ⟨eY, e0, j⟩ := Zg j
     obtain ⟨ie, ig⟩ := eY
     replace j := Qy j
     refine G ?_
     refine Tc Z Z Z (Zi Z (Zi Z Qw)) (Qaj e0 bA (a3.mono a5) eD).r ?_
     rintro _ hI ⟨cl, fd, bU, bB, rfl, eE⟩
     refine G ?_
     refine Qh (T := 39) Tryz.underlying35 Z Z Z (G ?_)
     rcases QO j with ⟨aP, j⟩ | ⟨aP, j⟩
     ·have fN := Zu j
      subst a0
      have dN := bL _ (bO (by intro _ h; cases h))
      have fO := Zu dN
      subst ad
      have dO := a1 _ (aq (by intro _ h; cases h))
      have fP := Zu dO
      subst r
      refine G ?_
      refine ⟨_, KA Z, ?_⟩
      exact ⟨cl, Vn, (Zt (Zt (Zt (Zt (Zt ag u) m) ai) a5) bU), ((bB.drop).drop).drop, (Qfa Z Z), (SliceRep.nil _ _)⟩
     replace aP := Zk aP
     have fQ := Zu j
     subst a0
     refine G ?_
     refine ⟨_, Z, ?_⟩; exact ⟨cl, fd, (Zt (Zt ai a5) bU), ((bB.drop).f1).f1, (Fx.mk (FxL.cons (Ja bJ (SliceRep.le aY)) fxl)), eE⟩
    intro aV go hJ cM dR
    obtain ⟨eS, ao, ec, d1, ⟨gp, rfl⟩, a3⟩ := cM
    refine G ?_
    refine ⟨_, .inl dR, ?_⟩; exact ⟨eS, ao, ec, (d1.f1).f1, (Fx.mk), a3⟩
   rintro gq hK ⟨a7, bG, cS⟩
   have b := bG.elim (dG _) (dA _)
   clear bG
   obtain ⟨cm, ay, gE, d2, ⟨gr, rfl⟩, dP⟩ := cS
   obtain ⟨aS, cD, b⟩ := Zg b
   refine G ?_
   refine J8 (fun k' s' f' w' => (fun (aS : (List (List Fact))) => ∃ (cn : PHeap) (aA : Value), PHeap.le cm cn ∧ St w0 cn (Res.box d 52 [U (a.Var), U (a.Val)] :: Res.arr (Qa encFact) 23 aA aS :: H) w' ∧ Fx f' [(98, U (k' : Int)), (0, n), (5, Vq d), (8, p), (11, aA), (12, U q), (96, ay), (97, U ((a7.length : Int)))]) s') cD ?_ ?_ ?_
   ·have d3 := d2.f1
    exact ⟨cm, o, (Zv _), d3.f1, (Fx.mk)⟩
   ·intro dU aS gW gs hL g6 cN z
    obtain ⟨gX, aA, ed, bC, ⟨gu, rfl⟩⟩ := cN
    obtain ⟨cy, e1, z⟩ := Zg z
    refine G ?_
    refine Jn S70.h Z Z Z (dP.mono ed) e1 ?_
    intro fw gR c5
    refine G ?_
    refine Zw (E := (Qa encFact)) bC A23.h Z Z Z c5 ?_
    intro cv e2
    have aZ := Qr.1 e2
    refine G ?_
    refine Exec.alloc (cs := [Vn]) bC Z23 Z Z ?_
    intro fx hM d4
    refine G ?_
    refine Qp (ds := [cv]) (es := [cv]) d4 A23.h Z Z Z (Q5 aZ.one) (Zj aZ.one QV) (Nat.le_of_ble_eq_true Z) Z ?_
    intro hN d5
    refine G ?_
    obtain ⟨gY, gF, d6, cc⟩ := QaA (E := (Qa encFact)) (y := cy) d5 ⟨_, rfl, aZ⟩
    refine G ?_
    refine Exec.makeFunc Z (Zi Z Qw) ?_
    obtain ⟨ih, e3, z⟩ := Zg z
    refine G ?_
    refine Tc Z Z Z (Zi Z (Zi Z Qw)) (Qa7 e3 d6.f1 cc).r ?_
    rintro _ hO ⟨eT, ee, bD, rfl⟩
    obtain ⟨aT, ac, z⟩ := Zg z
    refine g ?_
    refine Qm (M := fun f' w' => (fun (aT : (List (List Fact))) => ∃ (co : PHeap) (bo : Value), PHeap.le eT co ∧ St w0 co (Res.box d 52 [U (a.Var), U (a.Val)] :: Res.arr (Qa encFact) 23 bo aT :: H) w' ∧ Fx f' [(0, n), (5, Vq d), (8, p), (11, bo), (12, U q), (96, ay), (97, U ((a7.length : Int))), (98, U ((dU : Int)))]) aT) ?_ ?_
    ·rcases QO ac with ⟨aQ, ac⟩ | ⟨aQ, ac⟩
     ·refine G ?_
      refine Zw (E := (Qa encFact)) bD A23.h Z Z Z (cc.mono ee) ?_
      intro bp e4
      have cd := Qr.1 e4
      refine G ?_
      refine Exec.buildSlice (Te := 23) (cs := [bp]) bD Z (Qd (c := [bp]) (Qi Z (Q5 cd.one)) Qg) (fun _ => by kernel_rfl) ?_
      intro fy hP d7
      obtain ⟨gG, e5, ac⟩ := Zg ac
      refine G ?_
      refine Q0 (E := (Qa encFact)) (ys := [cy]) d7.f1 S70.h Z23 Z (by decide) Z Z Z Z ⟨[bp], [], Z, ⟨_, Z, cd⟩, Z⟩ Z e5 ?_
      intro hk hQ g2
      cases ac
      refine G ?_
      exact V
     replace aQ := Zk aQ
     cases ac
     refine G ?_
     exact V
    intro gv hR cT
    obtain ⟨gZ, bo, gH, g3, ⟨gw, rfl⟩⟩ := cT
    cases z
    refine G ?_
    exact V
   intro gx hT cO
   obtain ⟨ha, aA, gI, g4, ⟨gy, rfl⟩⟩ := cO
   cases b
   refine G ?_
   exact ⟨_, Z, V⟩
  replace aG := Zk aG
  cases b
  refine G ?_
  exact ⟨_, .inr (aq (by intro _ h; cases h)), V⟩
 rintro gz hU ⟨eZ, bH, cU⟩
 have hm := bH.elim (dE _) (d8 _)
 clear bH
 obtain ⟨bx, bV, bP⟩ := eZ
 replace hm := Js hm
 obtain ⟨hb, bk, bl, gJ, bE, ⟨g0, rfl⟩, g7⟩ := cU
 refine G ?_
 refine Qv (bE.f1) S70.h Z Z (G ?_)
 rcases Qk hm with ⟨dB, hm⟩ | ⟨dB, hm⟩
 ·refine G ?_
  refine Exec.makeInterface C39 Z Z ?_
  cases hm
  refine G ?_
  refine ⟨_, KA Z, ?_⟩
  exact V
 cases hm
 refine G ?_
 refine ⟨_, KA Z, ?_⟩
 obtain ⟨hc, gK, g5, gS⟩ := bE.f1.freezeArr
 exact V
instance A70 : ATy Tryz.prog 70 false 1 := ⟨by kernel_rfl⟩
theorem Qcw {w0 w : World} {s : PHeap} {H : List Res} {m : Task} {l : Int} {x : (List Fact)} {n : Value} {o : Value} {p : Value} {q : Value} {t : Value} {r : (List (List Fact)) × (Option Int)} (hm : Kd m l x = some r) (hS : St w0 s (H) w) (a8 : SliceRep (Qc .i64) s n m.Vars) (a9 : SliceRep (Qc .i64) s o m.Init) (aA : SliceRep encFact s p m.Goal) (aB : SliceRep encOp s q m.Ops) (bD : SliceRep encFact s t x) :
  Calls Tryz.prog 52 #[Value.agg #[n, o, p, q], U l, t] w fun e w' => ∃ v, e = .returned v ∧ ((QK fun (bA : (List (List Fact))) (bB : (Option Int)) => ∃ (ag : PHeap) (a7 : Value), PHeap.le s ag ∧ St w0 ag (H) w' ∧ v = Value.tuple #[a7, Yc 39 (bB)] ∧ SliceRep (Qa encFact) ag a7 bA) r) := by
 unfold Kd at hm
 refine Qb Tryz.func52 Z Z (G ?_)
 refine Yz Z Z ?_
 intro i cP aN
 obtain ⟨dm, bp, hm⟩ := Zg hm
 refine G ?_
 refine Tc Z Z Z Z (QaK bp aN a8 a9 aA aB).r ?_
 rintro _ cQ ⟨b5, cp, cc, rfl⟩
 refine G ?_
 refine Qh (T := 39) Tryz.underlying35 Z Z Z (G ?_)
 rcases Qk hm with ⟨au, hm⟩ | ⟨au, hm⟩
 ·cases hm
  refine G ?_
  refine ⟨_, KA Z, ?_⟩
  exact V
 refine W_c Z au (Qa0 (QT (Ze (Zc (Zc (Qm (M := fun f' w' => ∃ (a0 : PHeap) , PHeap.le b5 a0 ∧ St w0 a0 (Res.box i 26 [n, o, p, q] :: H) w' ∧ Fx f' [(1, U l), (2, t), (3, Vq i), (33, Vb (((decide (l < 0)) || decide ((m.Ops.length : Int) ≤ l))))]) ?_ ?_))))))
 ·refine G ?_
  rcases tf (decide (l < 0)) with aZ | aZ
  ·refine G ?_
   exact V
  refine G ?_
  exact V
 intro bM cR aK
 obtain ⟨cB, cq, aO, ⟨bN, rfl⟩⟩ := aK
 refine G ?_
 rcases Qk hm with ⟨ba, hm⟩ | ⟨ba, hm⟩
 ·refine G ?_
  refine Exec.makeInterface C39 Z Z ?_
  cases hm
  refine G ?_
  refine ⟨_, KA Z, ?_⟩
  exact V
 obtain ⟨dn, bq, hm⟩ := Zg hm
 refine G ?_
 refine Tc Z Z Z Z (KC bq aO rq rq).r ?_
 rintro _ cS ⟨a1, cr, ap, rfl⟩
 refine G ?_
 rcases Qk hm with ⟨bb, hm⟩ | ⟨bb, hm⟩
 ·refine G ?_
  refine Exec.makeInterface C39 Z Z ?_
  cases hm
  refine G ?_
  refine ⟨_, KA Z, ?_⟩
  exact V
 obtain ⟨aa, br, hm⟩ := Zg hm
 refine G ?_
 refine Jk Z Z Z br ?_
 intro bE c6 aC
 refine G ?_
 refine Zw (E := encOp) ap A48.h Z Z Z aC ?_
 intro cL bs
 obtain ⟨a5, a6, rfl, c8, c9⟩ := KY.1 bs
 refine G ?_
 refine Exec.alloc (cs := [Value.string (⟨#[]⟩), U 0, Vn, Vn]) ap Z48 Z Z ?_
 intro u cT cd
 refine G ?_
 refine Yo Z Z Z ?_
 intro cU aP
 obtain ⟨ct, bt, hm⟩ := Zg hm
 refine G ?_
 refine Qep (E := (Qa (Qa encFact))) aP S139.h Z70 ⟨_, Z, (SliceRep.nil _ _)⟩ Z Z Z bt ?_
 intro d cV aQ
 obtain ⟨al, aE, bj, bf, aX⟩ := Qo hm
 refine g ?_
 refine Zc (Zc (Zd (g ?_)))
 refine Qm (M := fun f' w' => ∃ s', (al = .next s' ∨ al = .brk s') ∧ (fun (j : (List (List (List Fact)))) => ∃ (a2 : PHeap) , PHeap.le a1 a2 ∧ St w0 a2 (Res.box i 26 [n, o, p, q] :: Res.box u 48 [Value.string (aa.Name), U (aa.Cost), a5, a6] :: Res.arr (Qa (Qa encFact)) 70 d j :: H) w' ∧ Fx f' [(3, Vq i), (9, Vq u), (10, d), (49, t), (50, U ((x.length : Int)))]) s') ?_ ?_
 ·refine G ?_
  refine Q2 (fun k' s' f' w' => (fun (ad : (List (List (List Fact)))) => ∃ (a3 : PHeap) , PHeap.le a1 a3 ∧ St w0 a3 (Res.box i 26 [n, o, p, q] :: Res.box u 48 [Value.string (aa.Name), U (aa.Cost), a5, a6] :: Res.arr (Qa (Qa encFact)) 70 d ad :: H) w' ∧ Fx f' [(51, U (k' : Int)), (3, Vq i), (9, Vq u), (10, d), (49, t), (50, U ((x.length : Int)))]) s') aE ?_ ?_ ?_
  ·have ce := aQ.f1
   exact V
  ·intro cn ad bI bO cW cl aG a bl
   obtain ⟨cC, cu, aq, ⟨bP, rfl⟩⟩ := aG
   obtain ⟨dj, bu, a⟩ := Zg a
   refine G ?_
   refine Jk Z Z Z bu ?_
   intro bF c7 aD
   refine G ?_
   refine Zw (E := encFact) aq A52.h Z Z Z aD ?_
   intro cM bv
   obtain rfl := Q9.1 bv
   refine G ?_
   refine Exec.alloc (cs := [U 0, U 0]) aq Z52 Z Z ?_
   intro bG cX cf
   refine G ?_
   refine Yo Z Z Z ?_
   intro cY aR
   obtain ⟨b7, bw, a⟩ := Zg a
   obtain ⟨dp, dq⟩ := b7
   replace a := Qy a
   refine G ?_
   refine Tc Z Z Z Z (QdR bw aR rq rq rq).r ?_
   rintro _ cZ ⟨cD, cN, cv, ar, rfl, b2⟩
   refine G ?_
   refine Qh (T := 39) Tryz.underlying35 Z Z Z (G ?_)
   rcases Qk a with ⟨bc, a⟩ | ⟨bc, a⟩
   ·cases a
    have bh := bj _ (bl (by intro _ h; cases h))
    cases bh
    refine G ?_
    refine ⟨_, KA Z, ?_⟩
    exact V
   obtain ⟨dk, af, a⟩ := Zg a
   obtain ⟨ca, bJ, an⟩ := (ar.f3).arr_at af
   refine G ?_
   refine Qe S139.h Z an Z (Qf af).1 (Qf af).2.1 ?_
   obtain ⟨cw, bx, a⟩ := Zg a
   refine G ?_
   refine Jd ar.f3 an A70.h Z Z Z Z (Qr.2 b2) bx ?_
   intro da cg
   cases a
   refine G ?_
   exact ⟨_, Z, V⟩
  intro ad bQ db aH bm
  obtain ⟨cE, cx, ch, ⟨bR, rfl⟩⟩ := aH
  refine G ?_
  exact ⟨_, .inl bm, V⟩
 rintro bS dc ⟨j, av, aL⟩
 have hm := av.elim (bf _) (aX _)
 clear av
 obtain ⟨cF, cy, aS, ⟨bT, rfl⟩⟩ := aL
 obtain ⟨bC, bz, hm⟩ := Zg hm
 refine G ?_
 refine Tc Z Z Z Z (JY bz aS rq).r ?_
 rintro aj dd ⟨cG, _, cz, aT, rfl⟩
 obtain ⟨a4, c0, aU, az⟩ := aT.freezeArr
 refine G ?_
 refine Exec.buildSlice (Te := 23) (cs := [aj]) aU Z (Qd (c := [aj]) (Qi Z (Q5 az.one)) Qg) (fun _ => by kernel_rfl) ?_
 intro bH de ab
 refine G ?_
 refine Qv (ab.f3) S139.h Z Z ?_
 obtain ⟨am, aF, bk, bg, aY⟩ := Qo hm
 refine g ?_
 refine Qm (M := fun f' w' => ∃ s', (am = .next s' ∨ am = .brk s') ∧ (fun (ay : (List (List Fact))) => ∃ (ah : PHeap) (ak : Value), PHeap.le a4 ah ∧ St w0 ah (Res.arr (Qa (Qa encFact)) 70 d j :: H) w' ∧ Fx f' [(15, ak), (76, d), (77, U ((j.length : Int)))] ∧ SliceRep (Qa encFact) ah ak ay) s') ?_ ?_
 ·refine G ?_
  refine Q2 (fun k' s' f' w' => (fun (ae : (List (List Fact))) => ∃ (ai : PHeap) (z : Value), PHeap.le a4 ai ∧ St w0 ai (Res.arr (Qa (Qa encFact)) 70 d j :: H) w' ∧ Fx f' [(78, U (k' : Int)), (15, z), (76, d), (77, U ((j.length : Int)))] ∧ SliceRep (Qa encFact) ai z ae) s') aF ?_ ?_ ?_
  ·have aV := St.boxArr (E := (Qa encFact)) (xs := [bC]) ab ⟨[aj], [], rfl, ⟨_, rfl, az⟩, rfl⟩ (by simp [maxLen])
   obtain ⟨cH, c1, ci, cA⟩ := aV.freezeArr
   exact V
  ·intro co ae bK bU df be aI b bn
   obtain ⟨cI, z, c2, ac, ⟨bV, rfl⟩, ax⟩ := aI
   obtain ⟨dl, y, b⟩ := Zg b
   obtain ⟨cb, bL, ao⟩ := ac.arr_at y
   refine G ?_
   refine Qe S139.h Z ao Z (Qf y).1 (Qf y).2.1 (G ?_)
   refine Qs (F := (Qa (Qa encFact))) (ac) ao A70.h Z Z Z y (Sub.refl _) ?_
   intro cO b0
   have b3 := Qr.1 b0
   obtain ⟨b8, b1, b⟩ := Zg b
   obtain ⟨dr, ds⟩ := b8
   replace b := Qy b
   refine G ?_
   refine Tc Z Z Z Z (Qaj b1 ac ax b3).r ?_
   rintro _ dg ⟨b6, b9, c3, aW, rfl, b4⟩
   refine G ?_
   refine Qh (T := 39) Tryz.underlying35 Z Z Z (G ?_)
   rcases Qk b with ⟨bd, b⟩ | ⟨bd, b⟩
   ·cases b
    have bi := bk _ (bn (by intro _ h; cases h))
    cases bi
    refine G ?_
    refine ⟨_, KA Z, ?_⟩
    exact V
   cases b
   refine G ?_
   refine ⟨_, Z, ?_⟩; exact ⟨b6, b9, lq, aW, (Fx.mk (FxL.cons (Ja be (ab.f3).arr_le) fxl)), b4⟩
  intro ae bW dh aJ bo
  obtain ⟨cJ, z, c4, cj, ⟨bX, rfl⟩, ax⟩ := aJ
  refine G ?_
  exact ⟨_, .inl bo, V⟩
 rintro bY di ⟨ay, aw, aM⟩
 have hm := aw.elim (bg _) (aY _)
 clear aw
 obtain ⟨cK, ak, c5, ck, ⟨bZ, rfl⟩, cm⟩ := aM
 cases hm
 refine G ?_
 refine ⟨_, KA Z, ?_⟩
 exact V
theorem QcI {w0 w : World} {s : PHeap} {H : List Res} {i : (List (List Fact))} {b : Value} {r : (List (List Fact))} (hm : Kv i = some r) (hS : St w0 s (H) w) (aW : SliceRep (Qa encFact) s b i) :
  Calls Tryz.prog 53 #[b] w fun e w' => ∃ v, e = .returned v ∧ ((fun (aU : (List (List Fact))) => ∃ (ag : PHeap) (an : Value), PHeap.le s ag ∧ St w0 ag (Res.arr (Qa encFact) 23 an aU :: H) w' ∧ v = an) r) := by
 unfold Kv at hm
 refine Qb Tryz.func53 Z Z ?_
 obtain ⟨o, aq, hm⟩ := Zg hm
 refine G ?_
 refine J8 (fun k' s' f' w' => (fun (o : (List (List Fact))) => ∃ (ah : PHeap) (j : Value), PHeap.le s ah ∧ St w0 ah (Res.arr (Qa encFact) 23 j o :: H) w' ∧ Fx f' [(11, U (k' : Int)), (0, b), (3, j), (9, b), (10, U ((i.length : Int)))]) s') aq ?_ ?_ ?_
 ·have bp := hS.nilArr (Qa encFact) 23
  exact V
 ·intro n o bG bb bS bx au d
  obtain ⟨bH, j, b1, aa, ⟨bc, rfl⟩⟩ := au
  obtain ⟨cf, aH, d⟩ := Zg d
  refine G ?_
  refine Jk Z Z Z aH ?_
  intro aX bE ao
  refine G ?_
  refine Zw (E := (Qa encFact)) aa A23.h Z Z Z ao ?_
  intro t aI
  have aQ := Qr.1 aI
  obtain ⟨ch, aJ, d⟩ := Zg d
  refine G ?_
  refine Tc Z Z Z Z (JL aJ aa aQ).r ?_
  rintro _ bT ⟨ai, b2, bq, rfl⟩
  refine G ?_
  rcases Qk d with ⟨ac, d⟩ | ⟨ac, d⟩
  ·cases d
   refine G ?_
   exact V
  obtain ⟨z, ar, b0, aD, a6⟩ := Qo d
  refine W_c Z ac (Qa0 (QT (Ze (Zc (Zd (g ?_))))))
  refine Zc (Zc (Zd (g ?_)))
  refine Qm (M := fun f' w' => ∃ s', (z = .next s' ∨ z = .brk s') ∧ (fun (ae : Bool) => ∃ (aj : PHeap) , PHeap.le ai aj ∧ St w0 aj (Res.arr (Qa encFact) 23 j o :: H) w' ∧ Fx f' [(0, b), (3, j), (4, U ((n : Int))), (5, t), (6, Vb ae), (9, b), (10, U ((i.length : Int))), (11, U ((n : Int))), (19, b), (20, U ((i.length : Int)))]) s') ?_ ?_
  ·refine G ?_
   refine Q2 (fun k' s' f' w' => (fun (p : Bool) => ∃ (ak : PHeap) , PHeap.le ai ak ∧ St w0 ak (Res.arr (Qa encFact) 23 j o :: H) w' ∧ Fx f' [(21, U (k' : Int)), (0, b), (3, j), (4, U ((n : Int))), (5, t), (6, Vb p), (9, b), (10, U ((i.length : Int))), (11, U ((n : Int))), (19, b), (20, U ((i.length : Int)))]) s') ar ?_ ?_ ?_
   ·exact V
   ·intro aG p ba bd bU bz av l aE
    obtain ⟨aS, b3, ab, ⟨be, rfl⟩⟩ := av
    obtain ⟨cg, aK, l⟩ := Zg l
    refine G ?_
    refine Jk Z Z Z aK ?_
    intro aY bF ap
    refine G ?_
    refine Zw (E := (Qa encFact)) ab A23.h Z Z Z ap ?_
    intro bQ aL
    have aR := Qr.1 aL
    obtain ⟨y, a, l⟩ := Zg l
    refine g ?_
    refine Zc (Qm (M := fun f' w' => (fun (y : Bool) => ∃ (al : PHeap) , PHeap.le aS al ∧ St w0 al (Res.arr (Qa encFact) 23 j o :: H) w' ∧ Fx f' [(0, b), (3, j), (4, U ((n : Int))), (5, t), (6, Vb p), (9, b), (10, U ((i.length : Int))), (11, U ((n : Int))), (19, b), (20, U ((i.length : Int))), (21, U ((aG : Int))), (49, Vb y)]) y) ?_ ?_)
    ·refine G ?_
     rcases Qk a with ⟨a7, a⟩ | ⟨a7, a⟩
     ·obtain ⟨ci, aM, a⟩ := Zg a
      refine G ?_
      refine Tc Z Z Z Z (JL aM ab aR).r ?_
      rintro _ bV ⟨bI, b4, a1, rfl⟩
      refine G ?_
      rcases Qk a with ⟨a8, a⟩ | ⟨a8, a⟩
      ·obtain ⟨cj, aN, a⟩ := Zg a
       refine G ?_
       refine Tc Z Z Z Z (Ym aN a1 rq rq).r ?_
       rintro _ bW ⟨bJ, b5, br, rfl⟩
       refine G ?_
       rcases Qk a with ⟨a9, a⟩ | ⟨a9, a⟩
       ·refine G ?_
        rcases Qk a with ⟨aA, a⟩ | ⟨aA, a⟩
        ·cases a
         refine G ?_
         exact V
        cases a
        refine G ?_
        exact V
       cases a
       refine G ?_
       exact V
      cases a
      refine G ?_
      exact V
     cases a
     refine G ?_
     exact V
    intro bf bX ay
    obtain ⟨bK, b6, bs, ⟨bg, rfl⟩⟩ := ay
    refine G ?_
    rcases Qk l with ⟨aB, l⟩ | ⟨aB, l⟩
    ·cases l
     refine G ?_
     exact ⟨_, .inr (aE (by intro _ h; cases h)), V⟩
    cases l
    refine G ?_
    exact ⟨_, Z, V⟩
   intro p bh bY aw aF
   obtain ⟨bL, b7, bt, ⟨bi, rfl⟩⟩ := aw
   refine G ?_
   exact ⟨_, .inl aF, V⟩
  rintro bj bZ ⟨ae, ad, az⟩
  have d := ad.elim (aD _) (a6 _)
  clear ad
  obtain ⟨aT, b8, a2, ⟨bk, rfl⟩⟩ := az
  obtain ⟨q, m, d⟩ := Zg d
  refine g ?_
  refine Zc (Zd (g ?_))
  refine Qm (M := fun f' w' => (fun (q : (List (List Fact))) => ∃ (am : PHeap) (u : Value), PHeap.le aT am ∧ St w0 am (Res.arr (Qa encFact) 23 u q :: H) w' ∧ Fx f' [(0, b), (3, u), (9, b), (10, U ((i.length : Int))), (11, U ((n : Int)))]) q) ?_ ?_
  ·rcases Qk m with ⟨aC, m⟩ | ⟨aC, m⟩
   ·obtain ⟨aV, aO, m⟩ := Zg m
    refine G ?_
    refine Tc Z Z Z Z (JY aO a2 rq).r ?_
    rintro x ca ⟨bM, _, b9, a3, rfl⟩
    obtain ⟨bN, bA, a4, af⟩ := a3.freezeArr
    refine G ?_
    refine Exec.buildSlice (Te := 23) (cs := [x]) a4 Z (Qd (c := [x]) (Qi Z (Q5 af.one)) Qg) (fun _ => by kernel_rfl) ?_
    intro aZ cb a5
    obtain ⟨bB, aP, m⟩ := Zg m
    refine G ?_
    refine Q0 (E := (Qa encFact)) (ys := [aV]) a5.f1 S70.h Z23 Z (by decide) Z Z Z Z ⟨[x], [], Z, ⟨_, Z, af⟩, Z⟩ Z aP ?_
    intro bR cc bu
    cases m
    refine G ?_
    exact V
   cases m
   refine G ?_
   exact V
  intro bl cd a0
  obtain ⟨bO, u, bC, bv, ⟨bm, rfl⟩⟩ := a0
  cases d
  refine G ?_
  exact V
 intro bn ce ax
 obtain ⟨bP, j, bD, bw, ⟨bo, rfl⟩⟩ := ax
 cases hm
 refine G ?_
 exact fr
end Go.Pw
