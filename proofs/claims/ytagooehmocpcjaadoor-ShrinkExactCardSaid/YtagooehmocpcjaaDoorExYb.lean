/-
  The library's builders of strings in a row, as the walks call them.
-/
import Derived.Test.YtagooehmocpcjaaDoorL22
import Derived.Test.YtagooehmocpcjaaDoorL10
import Derived.Test.YtagooehmocpcjaaDoorL11
import Derived.Test.YtagooehmocpcjaaDoorExY
import Derived.Test.YtagooehmocpcjaaDoorProg
import Derived.KernelRfl
set_option maxRecDepth 100000
set_option maxHeartbeats 4000000
set_option linter.unusedSimpArgs false
set_option linter.unusedVariables false
namespace Go.Pw
open Go.Proofs
theorem YC71 : Tryd.prog.cellsOf 71 = 2 := by kernel_rfl
theorem YD : Tryd.prog.depth ≠ 0 := by
  have h : (Tryd.prog.depth == 0) = false := by kernel_rfl
  simpa using h
theorem YSL : sameLayout Tryd.prog Tryd.prog.depth 71 71 = true := by kernel_rfl
theorem blds_check {w0 w : World} {s : PHeap} {H : List Res} {b i : Nat} {hs : List (Value × Value)} {pv v : Value} (hi : hs[i]? = some (pv, v)) (hp : selfAt b i pv) (hS : St w0 s (.box b 71 (flatB hs) :: H) w) :
    Calls Tryd.prog 61 #[.pointer (some ⟨b, i * 2, none⟩)] w fun e w' => ∃ u, e = .returned u ∧ St w0 s (.box b 71 (flatB (hs.set i (.pointer (some ⟨b, i * 2, none⟩), v))) :: H) w' := by
  obtain ⟨j, hj, hj0⟩ := YI71
  obtain ⟨g0, g1⟩ := flatB_get hi
  have hlt := (List.getElem?_eq_some_iff.1 hi).1
  have hfl := flatB_len hs
  refine calls_of_W Tryd.func61 rfl rfl ?_
  refine W_seq ?_
  refine W_region ?_
  refine WL_step rfl rfl (Exec.move (v := .pointer (some ⟨b, i * 2, none⟩)) rfl rfl ?_)
  refine WL_step rfl rfl (Exec.nilCheck_ptr rfl rfl ?_)
  refine WL_step rfl rfl (Exec.field YF0 rfl rfl rfl ?_)
  refine WL_step rfl rfl (Exec.load_box hS YA68 rfl rfl g0 ?_)
  rcases hp with rfl | rfl
  · refine WL_step rfl rfl (Exec.ptr_eql_nil Tryd.underlying68 rfl rfl rfl ?_)
    refine WL_nil (at_normal ?_)
    refine W_true rfl ?_
    refine W_region ?_
    refine WL_step rfl rfl (Exec.move (v := .pointer (some ⟨b, i * 2, none⟩)) rfl rfl ?_)
    refine WL_step rfl rfl (Exec.move (v := .pointer (some ⟨b, i * 2, none⟩)) rfl rfl ?_)
    refine WL_step rfl rfl (Exec.to_unsafe hS Tryd.underlying68 Tryd.underlying109 hj hj0 (by omega) rfl rfl ?_)
    refine WL_step rfl rfl (Exec.no_escape (fn := Tryd.f70) rfl rfl Tryd.func70 YN70 (by kernel_rfl) (by kernel_rfl) (by kernel_rfl) rfl ?_)
    refine WL_step rfl rfl (Exec.from_unsafe hS Tryd.underlying109 Tryd.underlying68 hj (by rw [hfl, YC71, Nat.mul_div_cancel _ (by decide)]; exact lies_row YD YC71 YSL hlt) rfl rfl ?_)
    refine WL_step rfl rfl (Exec.nilCheck_ptr rfl rfl ?_)
    refine WL_step rfl rfl (Exec.field YF0 rfl rfl rfl ?_)
    refine WL_step rfl rfl (Exec.store_box (ds := [.pointer (some ⟨b, i * 2, none⟩)]) (es := flatB (hs.set i (.pointer (some ⟨b, i * 2, none⟩), v))) hS YA68 rfl rfl rfl rfl (by intro v hv; simp at hv; subst hv; rfl) (by simp only [List.length_singleton]; omega) (flatB_set0 _ hi) ?_)
    intro w' hS'
    refine WL_nil ?_
    exact ⟨_, retG0 rfl, hS'⟩
  · refine WL_step rfl rfl (Exec.ptr_eql_nil Tryd.underlying68 rfl rfl rfl ?_)
    refine WL_nil (at_normal ?_)
    refine W_false rfl ?_
    refine W_seq ?_
    refine W_region ?_
    refine WL_step rfl rfl (Exec.move (v := .pointer (some ⟨b, i * 2, none⟩)) rfl rfl ?_)
    refine WL_step rfl rfl (Exec.nilCheck_ptr rfl rfl ?_)
    refine WL_step rfl rfl (Exec.field YF0 rfl rfl rfl ?_)
    refine WL_step rfl rfl (Exec.load_box hS YA68 rfl rfl g0 ?_)
    refine WL_step rfl rfl (Exec.move (v := .pointer (some ⟨b, i * 2, none⟩)) rfl rfl ?_)
    refine WL_step rfl rfl (Exec.ptr_neq_self Tryd.underlying68 hj rfl rfl rfl ?_)
    refine WL_nil (at_normal ?_)
    refine W_false rfl ?_
    refine W_skip ?_
    refine ⟨_, retG0 rfl, ?_⟩
    have : hs.set i (.pointer (some ⟨b, i * 2, none⟩), v) = hs := by
      apply List.ext_getElem?
      intro q
      by_cases e : i = q
      · subst e; rw [List.getElem?_set_self hlt, hi]
      · rw [List.getElem?_set_ne e]
    rw [this]
    exact hS
theorem blds_write_sim {w0 w : World} {s : PHeap} {H : List Res} {g n : Nat} {oss r : List (Option (List Int))} {l : Int} {q : ByteArray} (hm : bldW oss l q = some r) (hS : St w0 s (.blds 71 5 g n oss :: H) w) :
    Calls Tryd.prog 40 #[.pointer (some ⟨g, 0 + l.toNat * 2, none⟩), .string q] w fun e w' => ∃ u, e = .returned u ∧ (u = .tuple #[.int .i64 (q.size : Int), .nilIface] ∧ St w0 s (.blds 71 5 g n r :: H) w') := by
  obtain ⟨xs, zs, h0, hx, hz, rfl⟩ := bldW_some hm
  generalize l.toNat = i at hx
  rw [Nat.zero_add]
  obtain ⟨hs, pv, v, h1, h2, h3, hi, hp, hS1⟩ := hS.blds_at hx
  have hlt := (List.getElem?_eq_some_iff.1 hi).1
  refine calls_of_W Tryd.func40 rfl rfl ?_
  refine W_seq ?_
  refine W_region ?_
  refine WL_step rfl rfl (Exec.assign (v := .int .i64 0) rfl rfl ?_)
  refine WL_step rfl rfl (Exec.assign (v := .nilIface) rfl rfl ?_)
  refine WL_nil (at_normal ?_)
  refine W_seq ?_
  refine W_region ?_
  refine WL_step rfl rfl (Exec.move (v := .pointer (some ⟨g, i * 2, none⟩)) rfl rfl ?_)
  refine WL_step rfl rfl (Exec.call rfl rfl Tryd.func61 rfl YN61 (args_cons rfl args_nil) ((blds_check hi hp hS1).mono ?_))
  rintro _ w2 ⟨u, rfl, hS2⟩
  refine ⟨_, rfl, ?_⟩
  have hi2 : (hs.set i (Value.pointer (some ⟨g, i * 2, none⟩), v))[i]? = some (.pointer (some ⟨g, i * 2, none⟩), v) := by rw [List.getElem?_set_self hlt]
  obtain ⟨_, g1⟩ := flatB_get hi2
  have hfl := flatB_len (hs.set i (Value.pointer (some ⟨g, i * 2, none⟩), v))
  rw [List.length_set] at hfl
  refine WL_nil (at_normal ?_)
  refine W_seq ?_
  refine W_region ?_
  refine WL_step rfl rfl (Exec.move (v := .pointer (some ⟨g, i * 2, none⟩)) rfl rfl ?_)
  refine WL_step rfl rfl (Exec.move (v := .pointer (some ⟨g, i * 2, none⟩)) rfl rfl ?_)
  refine WL_step rfl rfl (Exec.nilCheck_ptr rfl rfl ?_)
  refine WL_step rfl rfl (Exec.field YF1 rfl rfl rfl ?_)
  refine WL_step rfl rfl (Exec.load_box hS2 YA69 rfl rfl g1 ?_)
  refine WL_step rfl rfl (Exec.move (v := .string q) rfl rfl ?_)
  refine WL_step rfl rfl (Exec.append_str (hS2.perm (.swap _ _ _)) YS69 Tryd.underlying9 YZ5 rfl rfl rfl hz ?_)
  intro v' w3 hS3
  have hv' : v'.oneCell' = true := hS3.arr_one
  have hc' : v'.cells = #[v'] := by cases v' <;> simp_all [Value.cells, Value.oneCell']
  refine WL_step rfl rfl (Exec.nilCheck_ptr rfl rfl ?_)
  refine WL_step rfl rfl (Exec.field YF1 rfl rfl rfl ?_)
  refine WL_step rfl rfl (Exec.store_box (v := v') (ds := [v']) (es := flatB ((hs.set i (Value.pointer (some ⟨g, i * 2, none⟩), v)).set i (Value.pointer (some ⟨g, i * 2, none⟩), v'))) (hS3.perm (.swap _ _ _)) YA69 rfl rfl rfl hc' (by intro v hv; simp at hv; subst hv; exact hv') (by simp only [List.length_singleton]; omega) (flatB_set1 v' hi2) ?_)
  intro w4 hS4
  refine WL_nil (at_normal ?_)
  refine W_seq ?_
  refine W_region ?_
  refine WL_step rfl rfl (Exec.move (v := .string q) rfl rfl ?_)
  refine WL_step rfl rfl (Exec.len_str Tryd.underlying9 rfl rfl ?_)
  refine WL_step rfl rfl (Exec.assign (v := .int .i64 (q.size : Int)) rfl rfl ?_)
  refine WL_step rfl rfl (Exec.assign (v := .nilIface) rfl rfl ?_)
  refine WL_nil (at_normal ?_)
  refine W_ret ?_
  rw [List.set_set] at hS4
  exact ⟨_, ret2 rfl, rfl, St.blds_put h1 h2 h3 hi (.inr rfl) hS4⟩
theorem blds_string_sim {w0 w : World} {s : PHeap} {H : List Res} {g n : Nat} {oss r : List (Option (List Int))} {l : Int} {q : ByteArray} (hm : bldS oss l = some (q, r)) (hS : St w0 s (.blds 71 5 g n oss :: H) w) :
    Calls Tryd.prog 42 #[.pointer (some ⟨g, 0 + l.toNat * 2, none⟩)] w fun e w' => ∃ u, e = .returned u ∧ (u = .string q ∧ St w0 s (.blds 71 5 g n r :: H) w') := by
  obtain ⟨xs, h0, hx, hq, rfl⟩ := bldS_some hm
  generalize l.toNat = i at hx
  rw [Nat.zero_add]
  obtain ⟨hs, pv, v, h1, h2, h3, hi, hp, hS1⟩ := hS.blds_at hx
  obtain ⟨_, g1⟩ := flatB_get hi
  have hx0 := (strOf_some hq).1
  refine calls_of_W Tryd.func42 rfl rfl ?_
  refine W_seq ?_
  refine W_region ?_
  refine WL_step rfl rfl (Exec.assign (v := .string ⟨#[]⟩) rfl rfl ?_)
  refine WL_nil (at_normal ?_)
  refine W_seq ?_
  refine W_dl (n0 := 12) (.q 0 (.q 1 (.q 2 (.q 3 (.q 5 (.q 6 (.q 7 (.q 8 (.q 9 (.e 4 [5, 6, 7, 8, 9] (.e 10 [] (.q 11 .done)))))))))))) YM (by kernel_rfl) (by kernel_rfl) ?_
  have hS2 := hS1.drew
  have hA := hS2.perm (.swap _ _ _)
  refine DL_q rfl rfl (Exec.move (v := .pointer (some ⟨g, i * 2, none⟩)) rfl rfl ⟨rfl, ?_⟩)
  refine DL_q rfl rfl (Exec.nilCheck_ptr rfl rfl ⟨rfl, ?_⟩)
  refine DL_q rfl rfl (Exec.field YF1 rfl rfl rfl ⟨rfl, ?_⟩)
  refine DL_q rfl rfl (Exec.load_box hS2 YA69 rfl rfl g1 ⟨rfl, ?_⟩)
  refine DL_q rfl rfl (Exec.move (v := .pointer (some ⟨g, i * 2, none⟩)) rfl rfl ⟨rfl, ?_⟩)
  refine DL_q rfl rfl (Exec.nilCheck_ptr rfl rfl ⟨rfl, ?_⟩)
  refine DL_q rfl rfl (Exec.field YF1 rfl rfl rfl ⟨rfl, ?_⟩)
  refine DL_q rfl rfl (Exec.load_box hS2 YA69 rfl rfl g1 ⟨rfl, ?_⟩)
  refine DL_q rfl rfl (Exec.len_arr hA YS69 rfl rfl ⟨rfl, ?_⟩)
  refine DL_e rfl rfl (Exec.slice_data hA hx0 rfl rfl ?_)
  intro gg cap hv
  refine ⟨(ag_cons (ag_r rfl rfl (Exec.move (v := .pointer (some ⟨g, i * 2, none⟩)) rfl rfl ⟨rfl, rfl⟩)) (ag_cons (ag_r rfl rfl (Exec.nilCheck_ptr rfl rfl ⟨rfl, rfl⟩)) (ag_cons (ag_r rfl rfl (Exec.field YF1 rfl rfl rfl ⟨rfl, rfl⟩)) (ag_cons (ag_r rfl rfl (Exec.load_box hS2 YA69 rfl rfl g1 ⟨rfl, rfl⟩)) (ag_cons (ag_r rfl rfl (Exec.len_arr hA YS69 rfl rfl ⟨rfl, rfl⟩)) ag_nil))))), ?_⟩
  refine DL_e rfl rfl (Exec.unsafe_string hA hv Tryd.underlying98 YC5 rfl rfl rfl hq ?_)
  intro w' hS3
  refine ⟨ag_nil, ?_⟩
  refine DL_q rfl rfl (Exec.assign (v := .string q) rfl rfl ⟨rfl, ?_⟩)
  refine WL_nil (at_normal ?_)
  refine W_ret ?_
  exact ⟨_, ret1 rfl, rfl, St.blds_gone h1 h2 h3 hS3⟩
end Go.Pw
