/-
  My walk's base, part 42: an error compared with one that is there.
-/
import Derived.Test.YtcabhickgjhkhaaGreatDoorLA
import Derived.Test.YtcabhickgjhkhaaGreatDoorLH
import Derived.Test.YtcabhickgjhkhaaGreatDoorL12
import Derived.Test.YtcabhickgjhkhaaGreatDoorL47
import Derived.Test.YtcabhickgjhkhaaGreatDoorL7
import Derived.Below
set_option linter.unusedSimpArgs false
set_option linter.unusedVariables false
namespace Go.Pw
section
variable {P : Program} {ρ : Operand → Value} {o : Oper} {w : World} {K : Value → World → Prop} {T T' I : TypeId} {x y : Operand} {e : Option Int} {b : Int} {ms : Array (String × TypeId)}
end
end Go.Pw
/-
  My walk's base, part 45: a row of structs whose first part is a row of the call's own each; these grow.
-/
namespace Go.Pw
section
variable {P : Program} {ρ : Operand → Value} {o : Oper} {w w0 : World} {s : PHeap} {H : List Res} {K : Value → World → Prop} {T T2 Te : TypeId}
variable {S α δ : Type} {E : Enc α} {R : Enc δ} {at_ : S → List α} {f : S → δ} {v : Value} {xs : List S}
def Res.sg (E : Enc α) (R : Enc δ) (at_ : S → List α) (f : S → δ) (T2 Te : TypeId) (v : Value) (xs : List S) : Res where
  p := fun s w bs => ∃ hs b1 b2, bs = b1 ++ b2 ∧ hs.length = xs.length ∧ (Res.arr (encRaw.pair R) Te v (hs.zip (xs.map f))).p s w b1 ∧ (Res.rows E T2 hs (xs.map at_)).p s w b2
  loc := by
    rintro s w w' bs ⟨hs, b1, b2, rfl, hl, h1, h2⟩ hw
    exact ⟨hs, b1, b2, rfl, hl, (Res.arr _ _ _ _).loc h1 (fun b hb => hw b (List.mem_append_left _ hb)), (Res.rows _ _ _ _).loc h2 (fun b hb => hw b (List.mem_append_right _ hb))⟩
  mono := by
    rintro s t w bs l ⟨hs, b1, b2, e, hl, h1, h2⟩
    exact ⟨hs, b1, b2, e, hl, (Res.arr _ _ _ _).mono l h1, (Res.rows _ _ _ _).mono l h2⟩
  lt := by
    rintro s w bs ⟨hs, b1, b2, rfl, hl, h1, h2⟩ b hb
    rcases List.mem_append.1 hb with hb | hb
    · exact (Res.arr _ _ _ _).lt h1 b hb
    · exact (Res.rows _ _ _ _).lt h2 b hb
theorem St.sg_split (hS : St w0 s (.sg E R at_ f T2 Te v xs :: H) w) : ∃ hs : List Value, hs.length = xs.length ∧ St w0 s (.arr (encRaw.pair R) Te v (hs.zip (xs.map f)) :: .rows E T2 hs (xs.map at_) :: H) w := by
  obtain ⟨bs, hn, hss, b, b3, e, ⟨hs, b1, b2, rfl, hl, h1, h2⟩, h3⟩ := hS.own
  refine ⟨hs, hl, hS.os, hS.tape, hS.output, hS.drawn, hS.size, hS.stay, bs, hn, hss, b1, b2 ++ b3, by rw [e, List.append_assoc], h1, b2, b3, rfl, h2, h3⟩
theorem St.sg_join {hs : List Value} (hS : St w0 s (.arr (encRaw.pair R) Te v (hs.zip (xs.map f)) :: .rows E T2 hs (xs.map at_) :: H) w) : St w0 s (.sg E R at_ f T2 Te v xs :: H) w := by
  have hl := hS.f1.rows_len
  obtain ⟨bs, hn, hss, b1, b', e, h1, b2, b3, e2, h2, h3⟩ := hS.own
  exact ⟨hS.os, hS.tape, hS.output, hS.drawn, hS.size, hS.stay, bs, hn, hss, b1 ++ b2, b3, by rw [e, e2, List.append_assoc], ⟨hs, b1, b2, rfl, by simpa using hl, h1, h2⟩, h3⟩
theorem St.nilSg (hS : St w0 s H w) (E : Enc α) (R : Enc δ) (at_ : S → List α) (f : S → δ) (T2 Te : TypeId) : St w0 s (.sg E R at_ f T2 Te (.slice none 0 0) [] :: H) w :=
  St.sg_join (hs := []) ((hS.rows_nil E T2).nilArr (encRaw.pair R) Te)
theorem zip_len {hs : List Value} (hl : hs.length = xs.length) (f : S → δ) : (hs.zip (xs.map f)).length = xs.length := by simp [hl]
theorem St.sg_shape (hS : St w0 s (.sg E R at_ f T2 Te v xs :: H) w) : ∃ a c, v = .slice a xs.length c := by
  obtain ⟨hs, hl, h⟩ := hS.sg_split
  obtain ⟨a, c, e⟩ := h.arr_shape
  exact ⟨a, c, by rw [e, zip_len hl]⟩
theorem Exec.len_sg {x : Operand} {e n b : Nat} (hS : St w0 s (.sg E R at_ f T2 Te v xs :: H) w) (hT : tySlice P T = some (e, n, b)) (ho : o.op = .call { callee := .builtin .len, args := #[x], argTypes := #[T] }) (hx : ρ x = v) (hk : K (.int .i64 (xs.length : Int)) w) : Exec P ρ o w K := by
  obtain ⟨i, hu, _⟩ := tySlice_parts hT
  obtain ⟨a, c, rfl⟩ := hS.sg_shape
  exact Exec.len_slice hu ho hx hk
theorem zip_at {hs : List Value} {n : Int} {y : S} (hl : hs.length = xs.length) (hy : idx xs n = some y) : ∃ h, hs[n.toNat]? = some h ∧ idx (hs.zip (xs.map f)) n = some (h, f y) ∧ (xs.map at_)[n.toNat]? = some (at_ y) := by
  obtain ⟨h0, hlt, hg⟩ := idx_some hy
  have hi : n.toNat < hs.length := by omega
  refine ⟨hs[n.toNat], by simp [hi], ?_, by simp [hg]⟩
  unfold idx
  rw [if_pos h0, List.getElem?_zip_eq_some]
  exact ⟨by simp [hi], by simp [hg]⟩
theorem St.sg_at {n : Int} {y : S} (hS : St w0 s (.sg E R at_ f T2 Te v xs :: H) w) (hy : idx xs n = some y) : ∃ g cap, v = .slice (some ⟨g, 0, none⟩) xs.length cap := by
  obtain ⟨hs, hl, h⟩ := hS.sg_split
  obtain ⟨h', e1, e2, _⟩ := zip_at (f := f) (at_ := at_) hl hy
  obtain ⟨g, cap, e⟩ := h.arr_at e2
  exact ⟨g, cap, by rw [e, zip_len hl]⟩
/-- 'out = append(out, S{..})', its row nil -/
theorem Exec.append_sg {u z : Value} {y : S} {zs : List S} {t by_ b cap : Nat} {cs : List Value} {x x2 : Operand} (hS : St w0 s (.sg E R at_ f T2 Te v xs :: .box b Te (.slice none 0 0 :: cs) :: H) w)
    (hT : tySlice P t = some (Te, 1 + R.sz, by_)) (hz : tyZero P Te = some z) (hzs : z.cells.size = 1 + R.sz) (hby : 0 < by_) (ho : o.op = .call { callee := .builtin .append, args := #[x, x2], argTypes := #[t, t] }) (hx : ρ x = v) (hy : ρ x2 = u)
    (hu : u = .slice (some ⟨b, 0, none⟩) 1 cap) (hr : R.rep s cs (f y)) (hn : at_ y = []) (ha : app by_ xs [y] = some zs)
    (hk : ∀ v' w', St w0 s (.sg E R at_ f T2 Te v' zs :: H) w' → K v' w') : Exec P ρ o w K := by
  obtain ⟨hs, hl, h⟩ := hS.sg_split
  obtain ⟨hb, rfl⟩ := app_some ha
  have h1 := h.f2.f1
  refine Exec.append_box (E := encRaw.pair R) (ys := [(.slice none 0 0, f y)]) (zs := hs.zip (xs.map f) ++ [(.slice none 0 0, f y)]) h1 hT hz hzs hby ho hx hy hu ⟨_, [], (List.append_nil _).symm, ⟨[_], cs, rfl, ⟨rfl, rfl⟩, hr⟩, rfl⟩ rfl ?_ ?_
  · unfold app
    rw [if_pos (by simpa [hl] using hb)]
  intro v' w' h2
  refine hk v' w' (St.sg_join (hs := hs ++ [.slice none 0 0]) ?_)
  have h3 := ((h2.f1.nilArr E T2).rows_push).f1
  rw [List.map_append, List.map_append, List.map_cons, List.map_nil, List.map_cons, List.map_nil, hn, List.zip_append (by simp [hl])]
  exact h3
/-- The row of an element is taken out: its header loaded. -/
theorem Exec.load_sg {y : S} {x : Operand} {g cap m : Nat} {n : Int} (hS : St w0 s (.sg E R at_ f T2 Te v xs :: H) w) (hv : v = .slice (some ⟨g, 0, none⟩) xs.length cap) (hT : tyAgg P T = some (false, 1)) (ho : o.op = .load T x)
    (hx : ρ x = .pointer (some ⟨g, m, none⟩)) (hm : m = 0 + n.toNat * (1 + R.sz)) (hy : idx xs n = some y)
    (hk : ∀ (h : Value) (hs : List Value), hs.length = xs.length → St w0 s (.arr E T2 h (at_ y) :: .rows E T2 (hs.eraseIdx n.toNat) ((xs.map at_).eraseIdx n.toNat) :: .arr (encRaw.pair R) Te v (hs.zip (xs.map f)) :: H) w → K h w) : Exec P ρ o w K := by
  obtain ⟨hs, hl, h⟩ := hS.sg_split
  obtain ⟨h', e1, e2, e3⟩ := zip_at (f := f) (at_ := at_) hl hy
  refine Exec.load_arr (F := encRaw) (f := Prod.fst) h (by rw [zip_len hl]; exact hv) hT ho hx hm e2 (Sub.fst (Sub.refl _)) ?_
  intro u hu
  obtain ⟨rfl, _⟩ := encRaw_val.1 hu
  exact hk _ hs hl (h.f1.rows_split e1 e3)
/-- The row is put back. -/
theorem Exec.store_sg {set : S → List α → S} {y : S} {ys : List α} {x z : Operand} {u : Value} {g cap m : Nat} {n : Int} {zs : List S} {hs : List Value}
    (hS : St w0 s (.arr E T2 u ys :: .rows E T2 (hs.eraseIdx n.toNat) ((xs.map at_).eraseIdx n.toNat) :: .arr (encRaw.pair R) Te v (hs.zip (xs.map f)) :: H) w) (hl : hs.length = xs.length) (hv : v = .slice (some ⟨g, 0, none⟩) xs.length cap) (hT : tyAgg P T = some (false, 1)) (ho : o.op = .store T x z)
    (hx : ρ x = .pointer (some ⟨g, m, none⟩)) (hm : m = 0 + n.toNat * (1 + R.sz)) (hz : ρ z = u) (hat : ∀ c l, at_ (set c l) = l) (hf : ∀ c l, f (set c l) = f c) (hy : idx xs n = some y) (hset : setI xs n (set y ys) = some zs)
    (hk : ∀ w', St w0 s (.sg E R at_ f T2 Te v zs :: H) w' → K undef w') : Exec P ρ o w K := by
  obtain ⟨h', e1, e2, e3⟩ := zip_at (f := f) (at_ := at_) hl hy
  obtain ⟨h0, hlt, rfl⟩ := setI_some hset
  have hone : u.oneCell' = true := hS.arr_one
  have hi : n.toNat < hs.length := (List.getElem?_eq_some_iff.1 e1).1
  refine Exec.store_arr_fld (F := encRaw) (set := fun c b => (b, c.2)) (y := (h', f y)) (b := u) (zs := (hs.zip (xs.map f)).set n.toNat (u, f y)) hS.f2 (by rw [zip_len hl]; exact hv) hT ho hx (by rw [hm]; rfl) hz (encRaw_val.2 ⟨rfl, hone⟩) (Upd.fst (Upd.refl _)) e2 ?_ ?_
  · unfold setI
    rw [if_pos ⟨h0, by rw [zip_len hl]; omega⟩]
  intro w' h2
  have h3 := (h2.f1.f2.f1).rows_join hi (by simpa using (by omega : n.toNat < xs.length))
  refine hk w' (St.sg_join (hs := hs.set n.toNat u) ?_)
  have e4 : (xs.set n.toNat (set y ys)).map at_ = (xs.map at_).set n.toNat ys := by rw [List.map_set, hat]
  have e5 : (hs.set n.toNat u).zip ((xs.set n.toNat (set y ys)).map f) = (hs.zip (xs.map f)).set n.toNat (u, f y) := by
    rw [List.map_set, hf]
    apply List.ext_getElem (by simp)
    intro i h1 h2
    simp only [List.getElem_zip, List.getElem_set]
    split <;> rfl
  rw [e4, e5]
  exact h3.f1
theorem reps_zip {E : Enc α} {R : Enc δ} {at_ : S → List α} {f : S → δ} {t : PHeap} : ∀ {hs : List Value} {xs : List S} {cs : List Value}, hs.length = xs.length → reps (encSlice E) t hs (xs.map at_) → reps (encRaw.pair R) t cs (hs.zip (xs.map f)) → reps (Enc.iso ((encSlice E).pair R) (fun x => (at_ x, f x))) t cs xs
  | [], [], cs, _, _, h => h
  | h :: hs, x :: xs, cs, hl, ⟨c, r, e, ⟨u, hc, hu⟩, h2⟩, ⟨c', r', e', ⟨c1, c2, ec, ⟨ec1, _⟩, hR⟩, h4⟩ => by
    subst hc ec ec1
    cases e
    exact ⟨_, r', e', ⟨[h], c2, rfl, ⟨h, rfl, hu⟩, hR⟩, reps_zip (by simpa using hl) h2 h4⟩
theorem St.freezeSg (hS : St w0 s (.sg E R at_ f T2 Te v xs :: H) w) : ∃ t, PHeap.le s t ∧ St w0 t H w ∧ SliceRep (Enc.iso ((encSlice E).pair R) (fun x => (at_ x, f x))) t v xs := by
  obtain ⟨hs, hl, h⟩ := hS.sg_split
  have hS2 := h.f1
  obtain ⟨bs1, t1, hp1, hle1, hbs1, hS1⟩ := hS2.freezeWith
  have hrep := rowsP.rep hle1 hp1 hbs1
  obtain ⟨t2, hle2, hS', h⟩ := hS1.freezeArr
  refine ⟨t2, hle1.trans hle2, hS', ?_⟩
  rcases h with ⟨rfl, hz⟩ | ⟨a, cap, rfl, hz⟩ | ⟨b, off, cap, c, T', fz, cells, rfl, h1, h2, h3, h4, h5⟩
  · exact .inl ⟨rfl, List.eq_nil_of_length_eq_zero (by rw [← zip_len hl f, hz]; rfl)⟩
  · exact .inr (.inl ⟨a, cap, rfl, List.eq_nil_of_length_eq_zero (by rw [← zip_len hl f, hz]; rfl)⟩)
  · rw [zip_len hl] at h1 ⊢
    exact .inr (.inr ⟨b, off, cap, c, T', fz, cells, rfl, h1, h2, h3, h4, reps_zip hl (hrep.mono hle2) h5⟩)
end
end Go.Pw
/-
  My walk's base, part 49: the tables of strconv.Itoa and strconv.Quote, where nothing is said of what was drawn (the world that the walk began in is taken with nothing drawn).
-/
namespace Go.Pw
open Go.Proofs Go.RowKit
/-- A world, as if nothing had been drawn yet. -/
def undrawn (w : World) : World := { w with drawn := 0 }
theorem St.start0 (w : World) : St (undrawn w) (σH w) [] w := ⟨rfl, rfl, rfl, Nat.zero_le _, Nat.le_refl _, fun _ _ h => h, [], List.nodup_nil, by simp, rfl⟩
theorem below_of_St0 {W W' : World} {s : PHeap} {X : List Res} (hS : St (undrawn W) s X W') (hle : PHeap.le (σH W) s) : Below W.heap.size W W' where
  os := hS.os
  tape := hS.tape
  output := hS.output
  size := hS.size
  block k hk := by
    have e : W.heap[k]? = some W.heap[k] := by simp [hk]
    rw [e]
    exact hS.stay k _ (hle k _ e)
/-- Both tables, and nothing drawn yet. -/
def TabR (P : Program) (w0 : World) (s : PHeap) : Prop := TabS P s ∧ w0.drawn = 0 ∧ ∃ W : World, PHeap.le (σH W) s ∧ QTab 5 6 7 8 3 4 W
theorem TabR.mono {P : Program} {w0 : World} {s t : PHeap} (h : TabR P w0 s) (l : PHeap.le s t) : TabR P w0 t := let ⟨h1, h0, W, h2, h3⟩ := h; ⟨h1.mono l, h0, W, h2.trans l, h3⟩
theorem TabR.here {P : Program} {w1 : World} {s : PHeap} {w0 w : World} {H : List Res} (h : TabR P w1 s) (hS : St w0 s H w) : QTab 5 6 7 8 3 4 w := let ⟨_, _, W, h2, h3⟩ := h; h3.kept h2 hS
theorem TabR.start {P : Program} {W : World} (h : Lib.TabIs P W "internal/strconv.uint64pow10" .u64 Lib.pow10Tab) (hq : QTab 5 6 7 8 3 4 W) : TabR P (undrawn W) (σH W) := ⟨TabS.start h, rfl, W, Zv _, hq⟩
theorem St.below0 {w0 w w' : World} {s : PHeap} {H : List Res} (hS : St w0 s H w) (h0 : w0.drawn = 0) (h : Below w.heap.size w w') : St w0 s H w' := by
  refine ⟨h.os.trans hS.os, h.tape.trans hS.tape, h.output.trans hS.output, by rw [h0]; exact Nat.zero_le _, Nat.le_trans hS.size h.size, fun b o hbo => ?_, ?_⟩
  · have := hS.stay b o hbo
    rw [h.block b (Array.getElem?_eq_some_iff.1 this).1]
    exact this
  · obtain ⟨bs, hn, hs, hh⟩ := hS.own
    exact ⟨bs, hn, hs, hh.loc fun b hm => h.block b (hh.lt b hm)⟩
end Go.Pw
