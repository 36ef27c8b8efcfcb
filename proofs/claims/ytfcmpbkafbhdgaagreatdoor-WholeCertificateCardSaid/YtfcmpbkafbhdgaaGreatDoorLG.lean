/- -/
import Derived.Test.YtfcmpbkafbhdgaaGreatDoorLB
import Derived.Test.YtfcmpbkafbhdgaaGreatDoorLC
import Derived.Test.YtfcmpbkafbhdgaaGreatDoorLE
import Derived.Laws.IdiomStrings
import Derived.Lib.Bytealg
set_option linter.unusedVariables false
namespace Go.Pw
def Upd {α β : Type} (E : Enc α) (off : Nat) (F : Enc β) (set : α → β → α) : Prop := ∀ s cells a fs b, E.rep s cells a → F.rep s fs b → off + F.sz ≤ E.sz ∧ E.rep s (cells.take off ++ fs ++ cells.drop (off + F.sz)) (set a b)
section
variable {α β γ : Type} {E : Enc α} {F : Enc β} {off : Nat}
theorem Upd.refl (E : Enc α) : Upd E 0 E (fun _ b => b) := fun s cells a fs b h k => by
 have h1 := E.len h
 have h2 := E.len k
 refine ⟨by omega, ?_⟩
 rw [List.take_zero, List.drop_of_length_le (by omega), List.nil_append, List.append_nil]
 exact k
theorem Upd.iso {f : γ → α} {g : α → β → α} {k : γ → β → γ} (h : Upd E off F g) (hf : ∀ c b, f (k c b) = g (f c) b) : Upd (E.iso f) off F k := fun s cells a fs b hr hk => by
 obtain ⟨h1, h2⟩ := h s cells (f a) fs b hr hk
 refine ⟨h1, ?_⟩
 show E.rep s _ (f (k a b))
 rw [hf]
 exact h2
theorem Upd.fst {A : Enc α} {B : Enc γ} {g : α → β → α} (h : Upd A off F g) : Upd (A.pair B) off F (fun p b => (g p.1 b, p.2)) := by
 rintro s cells p fs b ⟨c1, c2, rfl, h1, h2⟩ hk
 obtain ⟨h3, h4⟩ := h s c1 p.1 fs b h1 hk
 have hl := A.len h1
 refine ⟨by show off + F.sz ≤ A.sz + B.sz; omega, _, c2, ?_, h4, h2⟩
 rw [List.take_append_of_le_length (by omega), List.drop_append_of_le_length (by omega)]
 simp
theorem Upd.snd {A : Enc α} {B : Enc γ} {g : γ → β → γ} {n : Nat} (h : Upd B off F g) (hn : A.sz + off = n) : Upd (A.pair B) n F (fun p b => (p.1, g p.2 b)) := by
 rintro s cells p fs b ⟨c1, c2, rfl, h1, h2⟩ hk
 obtain ⟨h3, h4⟩ := h s c2 p.2 fs b h2 hk
 have hl := A.len h1
 subst hn
 refine ⟨by show A.sz + off + F.sz ≤ A.sz + B.sz; omega, c1, _, ?_, h1, h4⟩
 rw [← hl, List.take_length_add_append, Nat.add_assoc, List.drop_length_add_append]
 simp
end
section
variable {P : Program} {ρ : Operand → Value} {o : Oper} {w w0 : World} {K : Value → World → Prop} {s : PHeap} {H : List Res} {T Te : TypeId} {α : Type} {E : Enc α} {v : Value} {xs : List α}
theorem Qdp {β : Type} {F : Enc β} {set : α → β → α} {y : α} {b : β} {x z : Operand} {u : Value} {g cap off m : Nat} {n : Int} {zs : List α} (hS : St w0 s (.arr E Te v xs :: H) w) (hv : v = .slice (some ⟨g, 0, none⟩) xs.length cap) (hT : Yx P T = some (F.agg, F.sz)) (ho : o.op = .store T x z)
  (hx : ρ x = .pointer (some ⟨g, m, none⟩)) (hm : m = 0 + n.toNat * E.sz + off) (hz : ρ z = u) (hu : F.val s u b) (hup : Upd E off F set) (hy : QD xs n = some y) (hset : YO xs n (set y b) = some zs)
  (hk : ∀ w', St w0 s (.arr E Te v zs :: H) w' → K undef w') : Exec P ρ o w K := by
 rw [Nat.zero_add] at hm
 subst hm
 subst hv
 obtain ⟨h0, hlt, rfl⟩ := Qed hset
 have hr := QcY hu
 have hlen : u.cells.toList.length = F.sz := F.len hr
 have key : ∀ {bs : List Nat}, (Res.arr E Te (.slice (some ⟨g, 0, none⟩) xs.length cap) xs).p s w bs → ∃ cur : Array Value, w.heap[g]? = some (.cells cur Te (0, 0)) ∧ n.toNat * E.sz + off + u.cells.toList.length ≤ cur.size ∧ bs = [g] ∧
   (Res.arr E Te (.slice (some ⟨g, 0, none⟩) xs.length cap) (xs.set n.toNat (set y b))).p s (w.setRow g (cur.toList.take (n.toNat * E.sz + off) ++ u.cells.toList ++ cur.toList.drop (n.toNat * E.sz + off + u.cells.toList.length)).toArray) [g] := by
  intro bs h1
  obtain ⟨cur, hg, he, hb⟩ := QfI h1 hy
  obtain ⟨hoff, he2⟩ := hup s _ _ _ _ he hr
  obtain ⟨cur', hg', hfit, hbs, hnew⟩ := Qd9 h1 h0 hlt he2
  rw [hg] at hg'
  cases hg'
  refine ⟨cur, hg, by omega, hbs, ?_⟩
  have hel := E.len he2
  rw [hel] at hnew
  have hc : cur.toList.length = cur.size := by simp
  have hrow : cur.toList.take (n.toNat * E.sz + off) ++ u.cells.toList ++ cur.toList.drop (n.toNat * E.sz + off + u.cells.toList.length) =
    cur.toList.take (n.toNat * E.sz) ++ (((cur.toList.drop (n.toNat * E.sz)).take E.sz).take off ++ u.cells.toList ++ ((cur.toList.drop (n.toNat * E.sz)).take E.sz).drop (off + F.sz)) ++ cur.toList.drop (n.toNat * E.sz + E.sz) := by
   rw [List.take_take, Nat.min_eq_left (by omega), List.take_add, List.drop_take, List.drop_drop, hlen]
   have h3 : cur.toList.drop (n.toNat * E.sz + E.sz) = (cur.toList.drop (n.toNat * E.sz + (off + F.sz))).drop (E.sz - (off + F.sz)) := by
    rw [List.drop_drop]; congr 1; omega
   rw [h3]
   simp only [List.append_assoc, List.take_append_drop]
   rw [Nat.add_assoc]
  rw [hrow]
  exact hnew
 obtain ⟨bs, hn, hss, b1, b2, e, h1, h2⟩ := hS.own
 obtain ⟨cur, hg, hfit, hb1, _⟩ := key h1
 have hrun := QbN (P := P) (w := w) (T := T) (v := u) (cs := u.cells.toList) (by rw [hlen]; exact hT) (by simp) hg hfit (F.one hr)
 refine .of_skip (w' := _) ?_ (hk (w.setRow g (cur.toList.take (n.toNat * E.sz + off) ++ u.cells.toList ++ cur.toList.drop (n.toNat * E.sz + off + u.cells.toList.length)).toArray) ?_)
 ·unfold execOp
  simp only [ho, hx, hz, Instr.storeAt, Instr.sureAddr, Sem.run_bind, Sem.run_pure, Result.andThen_ok, hrun]
 ·refine hS.turn Z Z Z (Nat.le_refl _) (by rw [Qau]; exact Nat.le_refl _) ?_
  intro c1 hc1
  obtain ⟨cur', hg', _, hc1', hnew⟩ := key hc1
  rw [hg] at hg'
  cases hg'
  exact ⟨[g], hnew, by simp, fun x hx => .inl (by rw [hc1']; exact hx), fun x _ hx => setRow_other w g x _ (by rw [hc1'] at hx; simpa using hx)⟩
end
end Go.Pw
/- -/
set_option linter.unusedSimpArgs false
namespace Go.Pw
section
variable {P : Program} {ρ : Operand → Value} {o : Oper} {w w0 : World} {s : PHeap} {H : List Res} {K : Value → World → Prop} {T T2 Te : TypeId}
variable {S α δ : Type} {E : Enc α} {R : Enc δ} {at_ : S → List α} {f : S → δ} {v : Value} {xs : List S}
def Res.sg (E : Enc α) (R : Enc δ) (at_ : S → List α) (f : S → δ) (T2 Te : TypeId) (v : Value) (xs : List S) : Res where
 p := fun s w bs => ∃ hs b1 b2, bs = b1 ++ b2 ∧ hs.length = xs.length ∧ (Res.arr (encRaw.pair R) Te v (hs.zip (xs.map f))).p s w b1 ∧ (Res.rows E T2 hs (xs.map at_)).p s w b2
 loc := by
  rintro s w w' bs ⟨hs, b1, b2, rfl, hl, h1, h2⟩ hw
  exact ⟨hs, b1, b2, Z, hl, (Res.arr _ _ _ _).loc h1 (fun b hb => hw b (List.mem_append_left _ hb)), (Res.rows _ _ _ _).loc h2 (fun b hb => hw b (List.mem_append_right _ hb))⟩
 mono := by
  rintro s t w bs l ⟨hs, b1, b2, e, hl, h1, h2⟩
  exact ⟨hs, b1, b2, e, hl, (Res.arr _ _ _ _).mono l h1, (Res.rows _ _ _ _).mono l h2⟩
 lt := by
  rintro s w bs ⟨hs, b1, b2, rfl, hl, h1, h2⟩ b hb
  rcases List.mem_append.1 hb with hb | hb
  ·exact (Res.arr _ _ _ _).lt h1 b hb
  ·exact (Res.rows _ _ _ _).lt h2 b hb
theorem St.sg_split (hS : St w0 s (.sg E R at_ f T2 Te v xs :: H) w) : ∃ hs : List Value, hs.length = xs.length ∧ St w0 s (.arr (encRaw.pair R) Te v (hs.zip (xs.map f)) :: .rows E T2 hs (xs.map at_) :: H) w := by
 obtain ⟨bs, hn, hss, b, b3, e, ⟨hs, b1, b2, rfl, hl, h1, h2⟩, h3⟩ := hS.own
 refine ⟨hs, hl, hS.os, hS.tape, hS.output, hS.drawn, hS.size, hS.stay, bs, hn, hss, b1, b2 ++ b3, by rw [e, List.append_assoc], h1, b2, b3, Z, h2, h3⟩
theorem QbL {hs : List Value} (hS : St w0 s (.arr (encRaw.pair R) Te v (hs.zip (xs.map f)) :: .rows E T2 hs (xs.map at_) :: H) w) : St w0 s (.sg E R at_ f T2 Te v xs :: H) w := by
 have hl := hS.f1.rows_len
 obtain ⟨bs, hn, hss, b1, b', e, h1, b2, b3, e2, h2, h3⟩ := hS.own
 exact ⟨hS.os, hS.tape, hS.output, hS.drawn, hS.size, hS.stay, bs, hn, hss, b1 ++ b2, b3, by rw [e, e2, List.append_assoc], ⟨hs, b1, b2, Z, by simpa using hl, h1, h2⟩, h3⟩
theorem St.nilSg (hS : St w0 s H w) (E : Enc α) (R : Enc δ) (at_ : S → List α) (f : S → δ) (T2 Te : TypeId) : St w0 s (.sg E R at_ f T2 Te (.slice none 0 0) [] :: H) w :=
 QbL (hs := []) ((hS.rows_nil E T2).nilArr (encRaw.pair R) Te)
theorem Qa8 {hs : List Value} (hl : hs.length = xs.length) (f : S → δ) : (hs.zip (xs.map f)).length = xs.length := by simp [hl]
theorem St.sg_shape (hS : St w0 s (.sg E R at_ f T2 Te v xs :: H) w) : ∃ a c, v = .slice a xs.length c := by
 obtain ⟨hs, hl, h⟩ := hS.sg_split
 obtain ⟨a, c, e⟩ := h.arr_shape
 exact ⟨a, c, by rw [e, Qa8 hl]⟩
theorem St.sg_one (hS : St w0 s (.sg E R at_ f T2 Te v xs :: H) w) : v.oneCell' = true := by
 obtain ⟨a, c, rfl⟩ := hS.sg_shape; rfl
theorem Qii {hs : List Value} {n : Int} {y : S} (hl : hs.length = xs.length) (hy : QD xs n = some y) : ∃ h, hs[n.toNat]? = some h ∧ QD (hs.zip (xs.map f)) n = some (h, f y) ∧ (xs.map at_)[n.toNat]? = some (at_ y) := by
 obtain ⟨h0, hlt, hg⟩ := Qf hy
 have hi : n.toNat < hs.length := by omega
 refine ⟨hs[n.toNat], by simp [hi], ?_, by simp [hg]⟩
 unfold QD
 rw [if_pos h0, List.getElem?_zip_eq_some]
 exact ⟨by simp [hi], by simp [hg]⟩
theorem St.sg_at {n : Int} {y : S} (hS : St w0 s (.sg E R at_ f T2 Te v xs :: H) w) (hy : QD xs n = some y) : ∃ g cap, v = .slice (some ⟨g, 0, none⟩) xs.length cap := by
 obtain ⟨hs, hl, h⟩ := hS.sg_split
 obtain ⟨h', e1, e2, _⟩ := Qii (f := f) (at_ := at_) hl hy
 obtain ⟨g, cap, e⟩ := h.arr_at e2
 exact ⟨g, cap, by rw [e, Qa8 hl]⟩
theorem Qhl {y : S} {x : Operand} {g cap m : Nat} {n : Int} (hS : St w0 s (.sg E R at_ f T2 Te v xs :: H) w) (hv : v = .slice (some ⟨g, 0, none⟩) xs.length cap) (hT : Yx P T = some (false, 1)) (ho : o.op = .load T x)
  (hx : ρ x = .pointer (some ⟨g, m, none⟩)) (hm : m = 0 + n.toNat * (1 + R.sz)) (hy : QD xs n = some y)
  (hk : ∀ (h : Value) (hs : List Value), hs.length = xs.length → St w0 s (.arr E T2 h (at_ y) :: .rows E T2 (hs.eraseIdx n.toNat) ((xs.map at_).eraseIdx n.toNat) :: .arr (encRaw.pair R) Te v (hs.zip (xs.map f)) :: H) w → K h w) : Exec P ρ o w K := by
 obtain ⟨hs, hl, h⟩ := hS.sg_split
 obtain ⟨h', e1, e2, e3⟩ := Qii (f := f) (at_ := at_) hl hy
 refine Qs (F := encRaw) (f := Prod.fst) h (by rw [Qa8 hl]; exact hv) hT ho hx hm e2 (Sub.fst (Sub.refl _)) ?_
 intro u hu
 obtain ⟨rfl, _⟩ := QfD.1 hu
 exact hk _ hs hl (h.f1.rows_split e1 e3)
theorem Qgk {set : S → List α → S} {y : S} {ys : List α} {x z : Operand} {u : Value} {g cap m : Nat} {n : Int} {zs : List S} {hs : List Value}
  (hS : St w0 s (.arr E T2 u ys :: .rows E T2 (hs.eraseIdx n.toNat) ((xs.map at_).eraseIdx n.toNat) :: .arr (encRaw.pair R) Te v (hs.zip (xs.map f)) :: H) w) (hl : hs.length = xs.length) (hv : v = .slice (some ⟨g, 0, none⟩) xs.length cap) (hT : Yx P T = some (false, 1)) (ho : o.op = .store T x z)
  (hx : ρ x = .pointer (some ⟨g, m, none⟩)) (hm : m = 0 + n.toNat * (1 + R.sz)) (hz : ρ z = u) (hat : ∀ c l, at_ (set c l) = l) (hf : ∀ c l, f (set c l) = f c) (hy : QD xs n = some y) (hset : YO xs n (set y ys) = some zs)
  (hk : ∀ w', St w0 s (.sg E R at_ f T2 Te v zs :: H) w' → K undef w') : Exec P ρ o w K := by
 obtain ⟨h', e1, e2, e3⟩ := Qii (f := f) (at_ := at_) hl hy
 obtain ⟨h0, hlt, rfl⟩ := Qed hset
 have hone : u.oneCell' = true := hS.arr_one
 have hi : n.toNat < hs.length := (List.getElem?_eq_some_iff.1 e1).1
 refine Qdp (F := encRaw) (set := fun c b => (b, c.2)) (y := (h', f y)) (b := u) (zs := (hs.zip (xs.map f)).set n.toNat (u, f y)) hS.f2 (by rw [Qa8 hl]; exact hv) hT ho hx (by rw [hm]; rfl) hz (QfD.2 ⟨Z, hone⟩) (Upd.fst (Upd.refl _)) e2 ?_ ?_
 ·unfold YO
  rw [if_pos ⟨h0, by rw [Qa8 hl]; omega⟩]
 intro w' h2
 have h3 := (h2.f1.f2.f1).rows_join hi (by simpa using (by omega : n.toNat < xs.length))
 refine hk w' (QbL (hs := hs.set n.toNat u) ?_)
 have e4 : (xs.set n.toNat (set y ys)).map at_ = (xs.map at_).set n.toNat ys := by rw [List.map_set, hat]
 have e5 : (hs.set n.toNat u).zip ((xs.set n.toNat (set y ys)).map f) = (hs.zip (xs.map f)).set n.toNat (u, f y) := by
  rw [List.map_set, hf]
  apply List.ext_getElem (by simp)
  intro i h1 h2
  simp only [List.getElem_zip, List.getElem_set]
  split <;> rfl
 rw [e4, e5]
 exact h3.f1
theorem Qh0 {E : Enc α} {R : Enc δ} {at_ : S → List α} {f : S → δ} {t : PHeap} : ∀ {hs : List Value} {xs : List S} {cs : List Value}, hs.length = xs.length → reps (Qa E) t hs (xs.map at_) → reps (encRaw.pair R) t cs (hs.zip (xs.map f)) → reps (Enc.iso ((Qa E).pair R) (fun x => (at_ x, f x))) t cs xs
 | [], [], cs, _, _, h => h
 | h :: hs, x :: xs, cs, hl, ⟨c, r, e, ⟨u, hc, hu⟩, h2⟩, ⟨c', r', e', ⟨c1, c2, ec, ⟨ec1, _⟩, hR⟩, h4⟩ => by
  subst hc ec ec1
  cases e
  exact ⟨_, r', e', ⟨[h], c2, Z, ⟨h, Z, hu⟩, hR⟩, Qh0 (by simpa using hl) h2 h4⟩
theorem St.freezeSg (hS : St w0 s (.sg E R at_ f T2 Te v xs :: H) w) : ∃ t, PHeap.le s t ∧ St w0 t H w ∧ SliceRep (Enc.iso ((Qa E).pair R) (fun x => (at_ x, f x))) t v xs := by
 obtain ⟨hs, hl, h⟩ := hS.sg_split
 have hS2 := h.f1
 obtain ⟨bs1, t1, hp1, hle1, hbs1, hS1⟩ := hS2.freezeWith
 have hrep := rowsP.rep hle1 hp1 hbs1
 obtain ⟨t2, hle2, hS', h⟩ := hS1.freezeArr
 refine ⟨t2, hle1.trans hle2, hS', ?_⟩
 rcases h with ⟨rfl, hz⟩ | ⟨a, cap, rfl, hz⟩ | ⟨b, off, cap, c, T', fz, cells, rfl, h1, h2, h3, h4, h5⟩
 ·exact .inl ⟨Z, List.eq_nil_of_length_eq_zero (by rw [← Qa8 hl f, hz]; rfl)⟩
 ·exact .inr (.inl ⟨a, cap, Z, List.eq_nil_of_length_eq_zero (by rw [← Qa8 hl f, hz]; rfl)⟩)
 ·rw [Qa8 hl] at h1 ⊢
  exact .inr (.inr ⟨b, off, cap, c, T', fz, cells, Z, h1, h2, h3, h4, Qh0 hl (hrep.mono hle2) h5⟩)
end
end Go.Pw
/- -/
namespace Go.Pw
section
variable {P : Program} {ρ : Operand → Value} {o : Oper} {w w0 : World} {s : PHeap} {H : List Res} {K : Value → World → Prop} {T : TypeId}
theorem Qa1 {x hi : Operand} {k : IntKind} {h : Int} {q c : ByteArray} (hT : P.underlying T = some .string) (ho : o.op = .slice T x none (some hi) none) (hx : ρ x = .string q) (hh : ρ hi = .int k h)
  (hc : Qdb q 0 h = some c) (hk : K (.string c) w) : Exec P ρ o w K := by
 unfold Qdb at hc
 split at hc
 ·rename_i hb
  obtain ⟨_, h1, h2⟩ := hb
  cases hc
  refine .of_run (v := .string (q.extract 0 h.toNat)) (w' := w) ?_ hk
  have b1 : ∀ cd, (Instr.sliceBound (.int k h) q.size cd).run P w = .ok h.toNat w := fun cd => JZ h1 h2
  unfold execOp
  simp only [ho, hx, hh, Option.map_none, Option.map_some, Instr.sliceAt, Instr.slice, Instr.sliceBounds, Sem.run_bind, run_underlying hT, Result.andThen_ok, Sem.run_pure, b1]
  simp [Result.andThen, Sem.run_bind, b1]
 ·cases hc
theorem YD {x lo : Operand} {k : IntKind} {l : Int} {q c : ByteArray} (hT : P.underlying T = some .string) (ho : o.op = .slice T x (some lo) none none) (hx : ρ x = .string q) (hl : ρ lo = .int k l)
  (hc : Qdb q l (q.size : Int) = some c) (hk : K (.string c) w) : Exec P ρ o w K := by
 unfold Qdb at hc
 split at hc
 ·rename_i hb
  obtain ⟨h0, h1, _⟩ := hb
  cases hc
  refine .of_run (v := .string (q.extract l.toNat q.size)) (w' := w) ?_ hk
  have b2 : ∀ cd, (Instr.sliceBound (.int k l) q.size cd).run P w = .ok l.toNat w := fun cd => JZ h0 h1
  unfold execOp
  simp only [ho, hx, hl, Option.map_none, Option.map_some, Instr.sliceAt, Instr.slice, Instr.sliceBounds, Sem.run_bind, run_underlying hT, Result.andThen_ok, Sem.run_pure, b2]
  simp [Result.andThen, Sem.run_bind, b2]
 ·cases hc
def Res.obj (b : Nat) (ob : Obj) : Res where
 p := fun _ w bs => bs = [b] ∧ w.heap[b]? = some ob
 loc := by rintro s w w' bs ⟨rfl, h⟩ hw; exact ⟨rfl, by rw [hw b (by simp)]; exact h⟩
 mono := fun _ h => h
 lt := by rintro s w bs ⟨rfl, h⟩ b' hb; simp at hb; subst hb; exact (Array.getElem?_eq_some_iff.1 h).1
theorem St.allocObj (h : St w0 s H w) (ob : Obj) : St w0 s (.obj w.heap.size ob :: H) (w.alloc ob) := by
 obtain ⟨bs, hn, hs, hb⟩ := h.own
 have hlt := hb.lt
 refine ⟨h.os, h.tape, h.output, h.drawn, Nat.le_trans h.size (by simp), fun b o hbo => ?_, w.heap.size :: bs, List.nodup_cons.2 ⟨fun hm => Nat.lt_irrefl _ (hlt _ hm), hn⟩, ?_, [w.heap.size], bs, Z, ⟨Z, heap_alloc_new w _⟩, hb.loc fun b hm => YV w _ (hlt b hm)⟩
 ·have := h.stay b o hbo
  rw [YV w _ (Array.getElem?_eq_some_iff.1 this).1]
  exact this
 ·intro b hm
  rcases List.mem_cons.1 hm with e | hm
  ·subst e; exact h.new
  ·exact hs b hm
def Qfk (q : ByteArray) : Option (List Int) := if q.size ≤ 9223372036854775807 then some (QJ q) else none
theorem Qdr {S e : TypeId} {x : Operand} {q : ByteArray} {ys : List Int} (hS : St w0 s H w) (h1 : P.underlying S = some .string) (h2 : P.underlying T = some (.slice e)) (h3 : P.underlying e = some (.int .u8)) (ho : o.op = .convert S T x) (hx : ρ x = .string q)
  (hq : Qfk q = some ys) (hk : ∀ (t : PHeap) (v : Value) (w' : World), PHeap.le s t → St w0 t H w' → SliceRep (Qc .u8) t v ys → K v w') : Exec P ρ o w K := by
 unfold Qfk at hq
 split at hq
 ·rename_i hle
  cases hq
  obtain ⟨bs, t, hp, hlt, hbs, hS'⟩ := (hS.drew.allocObj (.cells (bytesRow q (grownCap w q.size 0 e)) e ((bytesRow q (grownCap w q.size 0 e)).size, (bytesRow q (grownCap w q.size 0 e)).size + 1))).freezeWith
  obtain ⟨rfl, hb⟩ := hp
  refine .of_run (v := .slice (some ⟨w.heap.size, 0, none⟩) q.size (grownCap w q.size 0 e)) (w' := _) ?_ (hk t _ _ hlt hS' ?_)
  ·unfold execOp
   simp only [ho, hx, Sem.run_bind, run_bytes_of_string (P := P) w S T e q h1 h2 h3, Result.andThen_ok, Sem.run_pure]
  ·refine .inr (.inr ⟨w.heap.size, 0, grownCap w q.size 0 e, bytesRow q (grownCap w q.size 0 e), e, ((bytesRow q (grownCap w q.size 0 e)).size, (bytesRow q (grownCap w q.size 0 e)).size + 1), (QJ q).map (Value.int .u8), ?_, ?_, grownCap_le_maxLen w q.size 0 e (by unfold maxLen; exact hle), ?_, ?_, (Qdg).2 Z⟩)
   ·rw [YZ]
   ·rw [YZ]; exact grownCap_ge w q.size 0 e
   ·exact (hbs w.drew.heap.size (by simp)).trans hb
   ·rw [List.drop_zero, List.length_map]
    unfold bytesRow QJ
    rw [Array.toList_append, Array.toList_map, List.take_append_of_le_length (by simp), List.map_map, List.take_of_length_le (by simp)]
    rfl
 ·cases hq
end
section
variable {P : Program} {ρ : Operand → Value} {o : Oper} {w w0 : World} {s : PHeap} {H : List Res} {K : Value → World → Prop} {T T2 Te : TypeId}
variable {S α δ : Type} {E : Enc α} {R : Enc δ} {at_ : S → List α} {f : S → δ} {v : Value} {xs : List S}
theorem QeO {u z hd : Value} {y : S} {zs : List S} {ys : List α} {t by_ b cap : Nat} {cs : List Value} {x x2 : Operand} (hS : St w0 s (.sg E R at_ f T2 Te v xs :: .box b Te (hd :: cs) :: .arr E T2 hd ys :: H) w)
  (hT : QA P t = some (Te, 1 + R.sz, by_)) (hz : Jl P Te = some z) (hzs : z.cells.size = 1 + R.sz) (hby : 0 < by_) (ho : o.op = .call { callee := .builtin .append, args := #[x, x2], argTypes := #[t, t] }) (hx : ρ x = v) (hy : ρ x2 = u)
  (hu : u = .slice (some ⟨b, 0, none⟩) 1 cap) (hr : R.rep s cs (f y)) (hn : at_ y = ys) (ha : app by_ xs [y] = some zs)
  (hk : ∀ v' w', St w0 s (.sg E R at_ f T2 Te v' zs :: H) w' → K v' w') : Exec P ρ o w K := by
 obtain ⟨hs, hl, h⟩ := hS.sg_split
 obtain ⟨hb, rfl⟩ := QdA ha
 have hone : hd.oneCell' = true := (h.f3).arr_one
 have h1 := h.f2.f1
 refine Q0 (E := encRaw.pair R) (ys := [(hd, f y)]) (zs := hs.zip (xs.map f) ++ [(hd, f y)]) h1 hT hz hzs hby ho hx hy hu ⟨_, [], (List.append_nil _).symm, ⟨[_], cs, Z, ⟨Z, hone⟩, hr⟩, Z⟩ Z ?_ ?_
 ·unfold app
  rw [if_pos (by simpa [hl] using hb)]
 intro v' w' h2
 refine hk v' w' (QbL (hs := hs ++ [hd]) ?_)
 have h3 := (h2.f2.f2.f1).rows_push.f1
 rw [List.map_append, List.map_append, List.map_cons, List.map_nil, List.map_cons, List.map_nil, hn, List.zip_append (by simp [hl])]
 exact h3
end
end Go.Pw
/- -/
namespace Go.Pw
noncomputable def Qef (s : ByteArray) (c : Int) : Option Int := some (Lib.indexByte s.data.toList c.toNat.toUInt8)
noncomputable def Qel (s : ByteArray) (c : Int) : Option Int := some (Lib.countByte s.data.toList c.toNat.toUInt8)
section
variable {P : Program} {ρ : Operand → Value} {o : Oper} {w : World} {K : Value → World → Prop}
theorem Qcr {f : FuncId} {fn : Func} {x y : Operand} {ts : Array TypeId} {u v r : Value} {e : Array Value → Sem Value} (ho : o.op = .call { callee := .value (.func f), args := #[x, y], argTypes := ts }) (hc : ρ (.func f) = .func (.func f) #[] #[]) (hf : P.funcs[f]? = some fn) (hname : (fn.name == "runtime.NumGoroutine") = false)
  (hb : fn.body.isNone = true) (hn : Extern.findNext fn = none) (he : Extern.find fn = some e) (hx : ρ x = u) (hy : ρ y = v) (hr : (e #[u, v]).run P w = .ok r w) (hk : K r w) : Exec P ρ o w K := by
 have hrun := run_callFunc_extern hf hname hb hn he #[u, v] w
 rw [hr] at hrun
 refine .of_run (v := r) (w' := w) ?_ hk
 unfold execOp
 simp only [ho, resolve, hc, Deferred.ofValue, invoke, Sem.run_bind, Sem.run_pure, Result.andThen_ok, List.map_toArray, List.map_cons, List.map_nil, hx, hy]
 simpa using hrun
theorem Qhm {f : FuncId} {fn : Func} {x y : Operand} {ts : Array TypeId} {q : ByteArray} {c r : Int} (ho : o.op = .call { callee := .value (.func f), args := #[x, y], argTypes := ts }) (hc : ρ (.func f) = .func (.func f) #[] #[]) (hf : P.funcs[f]? = some fn) (hname : (fn.name == "runtime.NumGoroutine") = false)
  (hb : fn.body.isNone = true) (hn : Extern.findNext fn = none) (he : Extern.find fn = some Extern.BytealgIndexByte.indexByte) (hx : ρ x = .string q) (hy : ρ y = .int .u8 c) (hr : Qef q c = some r) (hk : K (.int .i64 r) w) : Exec P ρ o w K := by
 cases hr
 exact Qcr ho hc hf hname hb hn he hx hy (Lib.run_indexByteString q c w) hk
theorem Qhn {f : FuncId} {fn : Func} {x y : Operand} {ts : Array TypeId} {q : ByteArray} {c r : Int} (ho : o.op = .call { callee := .value (.func f), args := #[x, y], argTypes := ts }) (hc : ρ (.func f) = .func (.func f) #[] #[]) (hf : P.funcs[f]? = some fn) (hname : (fn.name == "runtime.NumGoroutine") = false)
  (hb : fn.body.isNone = true) (hn : Extern.findNext fn = none) (he : Extern.find fn = some Extern.BytealgCount.count) (hx : ρ x = .string q) (hy : ρ y = .int .u8 c) (hr : Qel q c = some r) (hk : K (.int .i64 r) w) : Exec P ρ o w K := by
 cases hr
 exact Qcr ho hc hf hname hb hn he hx hy (Lib.run_countString q c w) hk
end
end Go.Pw
