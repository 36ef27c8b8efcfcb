/- -/
import Derived.Test.YtpjojkomdndamaaGreatDoorL11
import Derived.Test.YtpjojkomdndamaaGreatDoorL9
import Derived.ArgAppend
set_option linter.unusedSimpArgs false
namespace Go.Pw
section
variable {P : Program} {ρ : Operand → Value} {o : Oper} {w w0 : World} {s : PHeap} {H : List Res} {K : Value → World → Prop} {T : TypeId}
/-! ### rows -/
theorem Qgd {α : Type} (E : Enc α) (T : TypeId) (s : PHeap) (w : World) : ∀ n, rowsP E T s w (List.replicate n (.slice none 0 0)) (List.replicate n []) []
 | 0 => rfl
 | n + 1 => ⟨[], [], rfl, ⟨[], rfl, World.ownsRow_nil _ _ _ _, rfl⟩, Qgd E T s w n⟩
theorem St.rows_nils {α : Type} (hS : St w0 s H w) (E : Enc α) (T : TypeId) (n : Nat) : St w0 s (.rows E T (List.replicate n (.slice none 0 0)) (List.replicate n []) :: H) w := by
 obtain ⟨bs, hn, hs, hb⟩ := hS.own
 exact ⟨hS.os, hS.tape, hS.output, hS.drawn, hS.size, hS.stay, bs, hn, hs, [], bs, Z, Qgd E T s w n, hb⟩
theorem QbL {β : Type} {F : Enc β} {Te T2 : TypeId} {zs : List (List β)} {by_ : Nat} {k k' : IntKind} {l c : Operand} {n : Int} (hS : St w0 s H w) (hT : Je P T = some (Te, 1, by_)) (hz : JL P Te = some (.slice none 0 0))
  (ho : o.op = .makeSlice T l c) (hl : ρ l = .int k n) (hc : ρ c = .int k' n) (hm : mk by_ ([] : List β) n = some zs) (hk : ∀ v hs w', St w0 s (.arr encRaw Te v hs :: .rows F T2 hs zs :: H) w' → K v w') : Exec P ρ o w K := by
 obtain ⟨h0, hb, h63, rfl⟩ := QjU hm
 have hm' : mk by_ (Value.slice none 0 0) n = some (List.replicate n.toNat (.slice none 0 0)) := by unfold mk; rw [if_pos ⟨h0, hb, h63⟩]
 exact Kr (E := encRaw) (hS.rows_nils F T2 n.toNat) hT hz ⟨Z, Z⟩ ho hl hc hm' (fun v w' h => hk v _ w' h)
theorem QbK {β : Type} {F : Enc β} {Te T2 : TypeId} {u v h : Value} {hs : List Value} {xs : List β} {xss zss : List (List β)} {x z : Operand} {g cap m : Nat} {n : Int}
  (hS : St w0 s (.arr F T2 u xs :: .rows F T2 (hs.eraseIdx n.toNat) (xss.eraseIdx n.toNat) :: .arr encRaw Te v hs :: H) w) (hh : hs[n.toNat]? = some h) (hv : v = .slice (some ⟨g, 0, none⟩) hs.length cap) (hT : JU P T = some (false, 1)) (ho : o.op = .store T x z)
  (hx : ρ x = .pointer (some ⟨g, m, none⟩)) (hm : m = 0 + n.toNat * 1) (hz : ρ z = u) (hset : Kv xss n xs = some zss) (hk : ∀ hs' w', St w0 s (.arr encRaw Te v hs' :: .rows F T2 hs' zss :: H) w' → K undef w') : Exec P ρ o w K := by
 obtain ⟨h0, hlt, rfl⟩ := Qao hset
 have hi : n.toNat < hs.length := (List.getElem?_eq_some_iff.1 hh).1
 have hone : u.oneCell' = true := hS.arr_one
 have hset' : Kv hs n u = some (hs.set n.toNat u) := by unfold Kv; rw [if_pos ⟨h0, hi⟩]
 refine QQ (E := encRaw) (y := u) hS.f2 hv hT ho hx hm hz (Yr.2 ⟨Z, hone⟩) hset' ?_
 intro w' h'
 have h2 := (h'.f1.f2.f1).rows_join hi hlt
 exact hk _ w' (h2.f1)
/-! ### queues -/
def Res.que {α : Type} (E : Enc α) (T : TypeId) (v : Value) (xs : List α) : Res where
 p := fun s w bs => ∃ cells, reps E s cells xs ∧ ((v = .slice none 0 0 ∧ xs = [] ∧ bs = []) ∨ ∃ (g off cap : Nat) (cur : Array Value), v = .slice (some ⟨g, off, none⟩) xs.length cap ∧ w.heap[g]? = some (.cells cur T (0, 0)) ∧ xs.length ≤ cap ∧ cap ≤ maxLen ∧
  off + cap * E.sz ≤ cur.size ∧ (cur.toList.drop off).take (xs.length * E.sz) = cells ∧ bs = [g])
 loc := by
  rintro s w w' bs ⟨cells, h1, h2⟩ hw
  refine ⟨cells, h1, ?_⟩
  rcases h2 with h | ⟨g, off, cap, cur, hv, hg, h3, h4, h5, h6, rfl⟩
  ·exact .inl h
  ·exact .inr ⟨g, off, cap, cur, hv, by rw [hw g (by simp)]; exact hg, h3, h4, h5, h6, Z⟩
 mono := fun l ⟨cells, h1, h2⟩ => ⟨cells, h1.mono l, h2⟩
 lt := by
  rintro s w bs ⟨cells, h1, h2⟩ b hb
  rcases h2 with ⟨_, _, rfl⟩ | ⟨g, off, cap, cur, hv, hg, h3, h4, h5, h6, rfl⟩
  ·simp at hb
  ·simp at hb; subst hb; exact (Array.getElem?_eq_some_iff.1 hg).1
section
variable {α : Type} {E : Enc α} {Te : TypeId} {v : Value} {xs : List α}
theorem St.arr_que (hS : St w0 s (.arr E Te v xs :: H) w) : St w0 s (.que E Te v xs :: H) w := by
 obtain ⟨bs, hn, hs, b1, b2, e, ⟨cells, h1, h2, rfl⟩, h3⟩ := hS.own
 refine ⟨hS.os, hS.tape, hS.output, hS.drawn, hS.size, hS.stay, bs, hn, hs, v.ownBlock.toList, b2, e, ⟨cells, h1, ?_⟩, h3⟩
 rcases h2.2 with ⟨rfl, hx⟩ | ⟨g, cap, cur, rfl, _, hg, hnc, hcm, hcs, htake⟩
 ·exact .inl ⟨Z, List.eq_nil_of_length_eq_zero hx, Z⟩
 ·exact .inr ⟨g, 0, cap, cur, Z, hg, hnc, hcm, by omega, by rw [List.drop_zero]; exact htake, Z⟩
theorem St.que_shape (hS : St w0 s (.que E Te v xs :: H) w) : ∃ a c, v = .slice a xs.length c := by
 obtain ⟨bs, hn, hs, b1, b2, e, ⟨cells, h1, h2⟩, h3⟩ := hS.own
 rcases h2 with ⟨rfl, rfl, _⟩ | ⟨g, off, cap, cur, rfl, _⟩
 ·exact ⟨_, _, Z⟩
 ·exact ⟨_, _, Z⟩
theorem QhW {x : Operand} {e n b : Nat} (hS : St w0 s (.que E Te v xs :: H) w) (hT : Je P T = some (e, n, b)) (ho : o.op = .call { callee := .builtin .len, args := #[x], argTypes := #[T] }) (hx : ρ x = v) (hk : K (.int .i64 (xs.length : Int)) w) : Exec P ρ o w K := by
 obtain ⟨i, hu, _⟩ := Jq hT
 obtain ⟨a, c, rfl⟩ := hS.que_shape
 exact YE hu ho hx hk
theorem St.que_at {n : Int} {y : α} (hS : St w0 s (.que E Te v xs :: H) w) (hy : Jc xs n = some y) : ∃ g off cap, v = .slice (some ⟨g, off, none⟩) xs.length cap ∧
  ∃ cur, w.heap[g]? = some (.cells cur Te (0, 0)) ∧ E.rep s ((cur.toList.drop (off + n.toNat * E.sz)).take E.sz) y := by
 obtain ⟨h0, hlt, hget⟩ := Qg hy
 obtain ⟨bs, hn, hs, b1, b2, e, ⟨cells, h1, h2⟩, h3⟩ := hS.own
 rcases h2 with ⟨rfl, rfl, _⟩ | ⟨g, off, cap, cur, rfl, hg, hnc, hcm, hcs, htake, _⟩
 ·simp at hget
 ·obtain ⟨d, hd, hr⟩ := h1.get hget
  refine ⟨g, off, cap, Z, cur, hg, ?_⟩
  have hmul : n.toNat * E.sz + E.sz ≤ xs.length * E.sz := by rw [← Nat.succ_mul]; exact Nat.mul_le_mul_right _ (by omega)
  rw [← htake, List.drop_take, List.drop_drop, List.take_take] at hr
  have : min E.sz (xs.length * E.sz - n.toNat * E.sz) = E.sz := by omega
  rw [this] at hr
  rw [hr]; exact hd
theorem Qg7 {x i : Operand} {k : IntKind} {n : Int} {y : α} {e by_ : Nat} (hS : St w0 s (.que E Te v xs :: H) w) (hT : Je P T = some (e, E.sz, by_)) (ho : o.op = .indexAddr T x i) (hx : ρ x = v) (hi : ρ i = .int k n) (hy : Jc xs n = some y)
  (hk : ∀ g off, (∃ cur, w.heap[g]? = some (.cells cur Te (0, 0)) ∧ E.rep s ((cur.toList.drop off).take E.sz) y) → K (.pointer (some ⟨g, off, none⟩)) w) : Exec P ρ o w K := by
 obtain ⟨h0, h1, _⟩ := Qg hy
 obtain ⟨g, off, cap, rfl, hc⟩ := hS.que_at hy
 exact Qd hT ho hx hi h0 h1 (hk _ _ hc)
theorem QgN {y : α} {x : Operand} {g off : Nat} (hc : ∃ cur, w.heap[g]? = some (.cells cur Te (0, 0)) ∧ E.rep s ((cur.toList.drop off).take E.sz) y) (hT : JU P T = some (E.agg, E.sz)) (ho : o.op = .load T x) (hx : ρ x = .pointer (some ⟨g, off, none⟩)) (hk : ∀ v, E.val s v y → K v w) : Exec P ρ o w K := by
 obtain ⟨cur, hg, hr⟩ := hc
 exact Qgk hT ho hx hg hr hk
theorem Qg4 {ys : List α} {x lo : Operand} {k : IntKind} {l : Int} {e by_ : Nat} (hS : St w0 s (.que E Te v xs :: H) w) (hT : Je P T = some (e, E.sz, by_)) (ho : o.op = .slice T x (some lo) none none) (hx : ρ x = v) (hh : ρ lo = .int k l)
  (hy : Go.Pw.cut xs l xs.length = some ys) (hk : ∀ u, St w0 s (.que E Te u ys :: H) w → K u w) : Exec P ρ o w K := by
 obtain ⟨h0, h1, _, rfl⟩ := Qi8 hy
 obtain ⟨i, hu, hi', hs, _⟩ := Jq hT
 obtain ⟨a, c, hv⟩ := hS.que_shape
 have hlen : ((xs.take (xs.length : Int).toNat).drop l.toNat).length = xs.length - l.toNat := by simp
 refine .of_run (v := .slice (if c = l.toNat then a else a.map (·.add (l.toNat * E.sz))) (xs.length - l.toNat) (c - l.toNat)) ?_ (hk _ ?_)
 ·unfold execOp
  simp only [ho, hx, hv, hh, Option.map_none, Option.map_some, Instr.sliceAt, Instr.slice, Instr.sliceBounds, Sem.run_bind, run_underlying hu, Result.andThen_ok, Sem.run_pure, Yj (P := P) (w := w) (k := k) h0 h1]
  simp [sizeOf, typeInfo, hi', hs]
 ·obtain ⟨bs, hn, hss, b1, b2, e, ⟨cells, h2, h3⟩, h4⟩ := hS.own
  refine ⟨hS.os, hS.tape, hS.output, hS.drawn, hS.size, hS.stay, bs, hn, hss, b1, b2, e, ⟨cells.drop (l.toNat * E.sz), ?_, ?_⟩, h4⟩
  ·have := h2.drop l.toNat
   simpa using this
  ·rcases h3 with ⟨rfl, rfl, rfl⟩ | ⟨g, off, cap, cur, rfl, hg, hnc, hcm, hcs, htake, rfl⟩
   ·have hl0 : l.toNat = 0 := by simp at h1; omega
    cases hv
    exact .inl ⟨by simp [hl0], by simp, Z⟩
   ·cases hv
    right
    by_cases hc : c = l.toNat
    ·refine ⟨g, off, 0, cur, ?_, hg, by rw [hlen]; omega, by simp, by omega, ?_, Z⟩
     ·rw [if_pos hc, hlen, hc, Nat.sub_self]
     ·rw [hlen]
      have : xs.length - l.toNat = 0 := by omega
      rw [this, Nat.zero_mul, List.take_zero]
      symm
      apply List.drop_eq_nil_of_le
      rw [h2.len]
      exact Nat.mul_le_mul_right _ (by omega)
    ·refine ⟨g, off + l.toNat * E.sz, c - l.toNat, cur, ?_, hg, by rw [hlen]; omega, by omega, ?_, ?_, Z⟩
     ·rw [if_neg hc, hlen]; simp [Addr.add_lit]
     ·have : l.toNat * E.sz + (c - l.toNat) * E.sz = c * E.sz := by rw [← Nat.add_mul]; congr 1; omega
      omega
     ·rw [hlen, ← htake, List.drop_take, List.drop_drop, Nat.sub_mul]
theorem Qec {t ty e : TypeId} {i : TypeInfo} (ht : P.underlying t = some (.slice e)) (hi : P.info? e = some i) (b off sLen sCap : Nat) (cur : Array Value) (Tb : TypeId) (hw : w.heap[b]? = some (.cells cur Tb (0, 0))) (a : Addr) (m c : Nat) (news : List Value)
  (hl : news.length = m * i.size) (hnews : ∀ j u, news[j]? = some u → w.cell? (a.add j) = some u) (h1 : ∀ u ∈ news, u.oneCell' = true) (hroom : sLen + m ≤ sCap) (hfit : off + sLen * i.size + news.length ≤ cur.size) :
  (Builtin.append_ #[t, t] ty #[.slice (some ⟨b, off, none⟩) sLen sCap, .slice (some a) m c]).run P w = .ok (.slice (some ⟨b, off, none⟩) (sLen + m) sCap) (w.setRow b (cur.toList.take (off + sLen * i.size) ++ news ++ cur.toList.drop (off + sLen * i.size + news.length)).toArray) := by
 have hfc := run_firstCells_some (P := P) w i.size m a m c news hl hnews
 have hst := run_storeCells_at P b (off + sLen * i.size) Tb news 0 cur w hw (by simpa using hfit) h1
 simp only [Nat.add_zero] at hst
 simp [Builtin.append_, run_underlying ht, sizeOf, typeInfo, hi, Builtin.lenOf, hroom, hfc, Addr.add_lit, hst]
theorem Qfz {u z : Value} {ys zs : List α} {t by_ b n cap : Nat} {cs : List Value} {x y : Operand} (hS : St w0 s (.que E Te v xs :: .box b Te cs :: H) w)
  (hT : Je P t = some (Te, E.sz, by_)) (hz : JL P Te = some z) (hzs : z.cells.size = E.sz) (hby : 0 < by_) (ho : o.op = .call { callee := .builtin .append, args := #[x, y], argTypes := #[t, t] }) (hx : ρ x = v) (hy : ρ y = u)
  (hu : u = .slice (some ⟨b, 0, none⟩) n cap) (hr : reps E s cs ys) (hn : n = ys.length) (ha : app by_ xs ys = some zs)
  (hk : ∀ v' w', St w0 s (.que E Te v' zs :: H) w' → K v' w') : Exec P ρ o w K := by
 obtain ⟨hb, rfl⟩ := Qev ha
 subst hn
 have hbox := (hS.perm (.swap _ _ _)).box_heap
 have hcell : ∀ j u, cs[j]? = some u → w.cell? ((⟨b, 0, none⟩ : Addr).add j) = some u := by
  intro j u hj
  rw [Addr.add_lit]
  simp [World.cell?, hbox, hj]
 suffices hmain : ∃ v' w', (Builtin.append_ #[t, t] o.type #[v, .slice (some ⟨b, 0, none⟩) ys.length cap]).run P w = .ok v' w' ∧ St w0 s (.que E Te v' (xs ++ ys) :: .box b Te cs :: H) w' by
  obtain ⟨v', w', hrun, hS'⟩ := hmain
  refine .of_run (v := v') (w' := w') ?_ (hk v' w' (hS'.perm (.swap _ _ _)).drop)
  unfold execOp
  simp only [ho, resolve, invoke, builtin, Sem.run_bind, Sem.run_pure, Result.andThen_ok, List.map_toArray, List.map_cons, List.map_nil, hx, hy, hu, hrun]
 obtain ⟨bs, hnn, hss, b1, b2, e, ⟨cells, h1, h2⟩, h3⟩ := hS.own
 have hlen := h1.len
 obtain ⟨i, hiu, hi, hsz, hbs⟩ := Jq hT
 obtain ⟨i', hi', hz'⟩ := YI hz
 rw [hi] at hi'
 cases hi'
 have h63 : xs.length + ys.length ≤ maxLen := by
  have : xs.length + ys.length ≤ (xs.length + ys.length) * by_ := Nat.le_mul_of_pos_right _ hby
  simp only [maxLen]; omega
 rcases h2 with ⟨rfl, rfl, rfl⟩ | ⟨g, off, cap', cur, rfl, hg, hnc, hcm, hcs, htake, rfl⟩
 ·-- nil: a new row
  have hS0 : St w0 s (.box b Te cs :: H) w := hS.drop
  have hA := hS0.nilArr E Te
  obtain ⟨v', w', hrun, hS'⟩ := Y2 (P := P) (ty := o.type) hA hT hz hzs ⟨b, 0, none⟩ cap cs hcell hr hb hby
  exact ⟨v', w', hrun, hS'.arr_que⟩
 ·by_cases hroom : xs.length + ys.length ≤ cap'
  ·have hmul : (xs.length + ys.length) * E.sz ≤ cap' * E.sz := Nat.mul_le_mul_right _ hroom
   rw [Nat.add_mul] at hmul
   have hrun := Qec (P := P) (w := w) (ty := o.type) hiu hi g off xs.length cap' cur Te hg ⟨b, 0, none⟩ ys.length cap cs (by rw [hr.len, hsz]) hcell hr.one hroom (by rw [hr.len, hsz]; omega)
   refine ⟨_, _, hrun, ?_⟩
   refine hS.turn Z Z Z (Nat.le_refl _) (by rw [Qbh]; exact Nat.le_refl _) ?_
   rintro c1 ⟨cells', _, h2'⟩
   rcases h2' with ⟨h, _⟩ | ⟨g', off', cap2, cur', hv', hg', _, _, _, _, rfl⟩
   ·cases h
   ·cases hv'
    refine ⟨[g], ⟨cells ++ cs, h1.append hr, .inr ⟨g, off, cap', _, by rw [List.length_append], setRow_heap w g cur _ Te _ hg, by rw [List.length_append]; exact hroom, hcm, ?_, ?_, Z⟩⟩, by simp, fun x hx => .inl hx, fun x _ hx => setRow_other w g x _ (by simpa using hx)⟩
    ·have := hr.len
     simp only [List.size_toArray, List.length_append, List.length_take, List.length_drop, Array.length_toList, hsz]
     omega
    ·rw [hsz, List.length_append, Nat.add_mul]
     have hA : (cur.toList.take (off + xs.length * E.sz)).length = off + xs.length * E.sz := by simp; omega
     rw [List.toList_toArray, List.append_assoc, List.drop_append_of_le_length (by rw [hA]; omega), List.drop_take, show off + xs.length * E.sz - off = xs.length * E.sz by omega, htake]
     rw [List.take_append, hlen, List.take_of_length_le (by rw [hlen]; omega), show xs.length * E.sz + ys.length * E.sz - xs.length * E.sz = ys.length * E.sz by omega]
     congr 1
     rw [← hr.len, List.take_left]
  ·have holds : ∀ j u, cells[j]? = some u → w.cell? ((⟨g, off, none⟩ : Addr).add j) = some u := by
    intro j u hj
    rw [Addr.add_lit]
    rw [← htake, List.getElem?_take] at hj
    split at hj
    ·rw [List.getElem?_drop] at hj
     simp [World.cell?, hg]
     simpa using hj
    ·cases hj
   have hrun := run_append_grow (P := P) w t o.type Te i z hiu hi hz' ⟨g, off, none⟩ xs.length cap' cells (by rw [hlen, hsz]) holds ⟨b, 0, none⟩ ys.length cap cs (by rw [hr.len, hsz]) hcell (by omega) (by simp only [maxLen] at h63; omega) (by rw [hbs]; exact growslice_fits (by omega) hb)
   refine ⟨_, _, hrun, ?_⟩
   have hge := grownCap_ge w (xs.length + ys.length) cap' Te
   have hcm' := grownCap_le_maxLen w (xs.length + ys.length) cap' Te h63
   refine hS.turn Z Z Z (Nat.le_succ _) (by simp) ?_
   rintro c1 ⟨cells', _, h2'⟩
   rcases h2' with ⟨h, _⟩ | ⟨g', off', cap2, cur', hv', hg', _, _, _, _, rfl⟩
   ·cases h
   ·cases hv'
    refine ⟨[w.heap.size], ⟨cells ++ cs, h1.append hr, .inr ⟨w.heap.size, 0, _, _, by rw [List.length_append], heap_alloc_new w.drew _, by rw [List.length_append]; exact hge, hcm', ?_, ?_, Z⟩⟩, by simp, fun x hx => .inr (by simp at hx; omega), fun x hx _ => K2 w.drew _ hx⟩
    ·simp only [Array.size_append, List.size_toArray, size_zeroCells, hzs, hlen, hr.len, ← Nat.add_mul]
     rw [Nat.zero_add]
     exact Nat.mul_le_mul_right _ (by omega)
    ·rw [List.drop_zero]
     simp only [Array.toList_append, List.append_assoc]
     rw [← List.append_assoc, List.length_append, Nat.add_mul, ← hlen, ← hr.len, ← List.length_append]
     exact List.take_left
end
end
theorem QjD {P : Program} {ρ : Operand → Value} {o : Oper} {w : World} {K : Value → World → Prop} {c : Operand} {f : FuncId} {fn : Func} {args : List Operand} {ts : Array TypeId} {vs : List Value} (ho : o.op = .call { callee := .value c, args := args.toArray, argTypes := ts }) (hc : ρ c = .func (.func f) #[] #[])
  (hf : P.funcs[f]? = some fn) (hb : fn.body.isNone = false) (hn : (fn.name == "runtime.NumGoroutine") = false) (hargs : List.map ρ args = vs)
  (h : Calls P f vs.toArray w fun e w' => ∃ v, e = .returned v ∧ K v w') : Exec P ρ o w K :=
 Qgx ho hc hf hb hn hargs (by simpa using h)
end Go.Pw
