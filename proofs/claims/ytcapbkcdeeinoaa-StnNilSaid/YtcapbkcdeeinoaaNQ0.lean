/-
  StnNil returns true for every input, and the input reads as it did: no conditions.
-/
import Derived.Test.YtcapbkcdeeinoaaL7
import Derived.Test.YtcapbkcdeeinoaaN0
import Derived.Test.YtcapbkcdeeinoaaNT1
import Derived.Test.YtcapbkcdeeinoaaRows
namespace Go.Pw
open Go.Proofs Go.Proofs.Ytcapbkcdeeinoaa Go.ChangeShapes Go.WideShapes Go.ChangeAt Go.RowKit

theorem StnNil_ok (b : Bound) (p : Int) (times : List Int) : law54_StnNil_p b p times = some true := by
  suffices Ok (law54_StnNil_p b p times) (fun r => r = true) by obtain ⟨r, h1, h2⟩ := this; rw [h1, h2]
  have e1 : stn_Network_Distance_nil_t p p = (0, some 3) := by unfold stn_Network_Distance_nil_t; rfl
  have e1' : ∀ q r, stn_Network_Distance_nil_t q r = (0, some 3) := by intro q r; unfold stn_Network_Distance_nil_t; rfl
  have e2 : stn_Network_Earliest_nil_t p = (0, some 3) := by unfold stn_Network_Earliest_nil_t; rw [e1']; rfl
  have e3 : stn_Network_Latest_nil_t p = (0, some 3) := by unfold stn_Network_Latest_nil_t; rw [e1']; rfl
  have e4 : stn_Network_Times_nil_t = ([], some 3) := by unfold stn_Network_Times_nil_t; rfl
  have e5 : stn_Network_Add_nil_t b = some 3 := by unfold stn_Network_Add_nil_t; rfl
  have e6 : stn_Network_Holds_nil_t times = false := by unfold stn_Network_Holds_nil_t; rfl
  unfold law54_StnNil_p
  refine Ok.bind (Ok.step awake_ok (Ok.ite (fun h => by cases h) fun _ => Ok.ret ?_))
  refine Ok.ite (fun _ => Ok.step awake_ok (Ok.ret rfl)) fun _ => ?_
  rw [e1, e2, e3, e4, e5, e6]
  refine Ok.ctl (fun _ _ => True) (fun _ => False) trivial ?_ (fun _ h => h.elim) (fun _ _ => Ok.ret rfl)
  intro i _ hi _
  refine Ok.step (a := some 3) ?_ ?_
  · rw [idx_nat]
    match i, hi with
    | 0, _ => rfl
    | 1, _ => rfl
    | 2, _ => rfl
    | 3, _ => rfl
    | 4, _ => rfl
  · rw [Is_ok]
    exact Ok.ret trivial

theorem own0 : ownKnob Try.prog.godebug = none := by kernel_rfl
theorem laid0 : laidOutB Try.prog = true := by kernel_rfl
theorem opensBound : Opens Try.prog 32 encBound (fun b => (Lit.int .i64 b.A).wf = true ∧ (Lit.int .i64 b.B).wf = true ∧ (Lit.int .i64 b.Most).wf = true) :=
  Opens.struct (fun t => ⟨t.1, t.2.1, t.2.2⟩) Try.underlying32 (by kernel_rfl) (fun _ => rfl)
    (FOpens.cons rfl (by kernel_rfl) (Opens.int Try.underlying3) rfl (FOpens.cons rfl (by kernel_rfl) (Opens.int Try.underlying3) rfl (FOpens.one rfl (by kernel_rfl) (Opens.int Try.underlying3))))

set_option maxRecDepth 100000 in
theorem StnNil_lifted (os : Os) (started : os.Started) (H : Type) (enc : TypeId × Value → H) :
    ReturnsInHanded {} Try.checked os 8 .any (Rows.stnNilSpec.pre6 enc Try.prog Try.f8 Rows.stnNilRow.domain false) (Rows.stnNilSpec.post enc Try.prog Try.f8 false true false false) := by
  refine returnsInHanded_of_change (C := Try.checked) own0 started (by kernel_rfl) Try.func8
    (ChangeSpec.witness6 (enc := enc) (C := Try.checked) false ⟨#[], #[.agg #[.int .i64 0, .int .i64 0, .int .i64 0], .int .i64 0, .slice none 0 0], []⟩ 8 (by kernel_rfl) (by kernel_rfl) (by kernel_rfl) (by kernel_rfl)) ?_
  intro W base args ds gs before hval0 hW hcnd _
  have hval : ∀ (j : Nat) t v, Try.f8.params[j]? = some t → args[j]? = some v → Value.okWide Try.prog W .any base t v := hval0
  have hW' := hW
  obtain ⟨p, q, hA0, hV, rfl, hfz, hnd⟩ := hW
  have hA : DataW.TrodAll enc Try.prog W 0 (fun _ => true) true Try.f8.params.toList args.toList ds p := hA0
  rw [Try.params8] at hA hval
  obtain ⟨v0, v1, v2, d0, d1, d2, p0, p1, p2, rfl, rfl, rfl, h0, h1, h2⟩ := trodAll_three hA
  obtain ⟨rfl, rfl⟩ := trodVars_none hV
  simp only [List.append_nil] at hW'
  have hlt : ∀ x ∈ p0 ++ p1 ++ p2, x.block < W.heap.size := fun x hx => by simpa using hW'.lt x hx
  obtain ⟨b, hb0, _⟩ := arg_agg opensBound (.inl ⟨_, Try.underlying32⟩) rfl (hval 0 32 v0 rfl rfl) h0
  have hb1 := encBound_val.1 hb0
  subst hb1
  obtain ⟨n, rfl, _⟩ := arg_int Try.underlying3 (hval 1 3 v1 rfl rfl) h1
  obtain ⟨ts, hts, _, _⟩ := arg_slice (E := encInt .i64) Try.underlying49 (by kernel_rfl) (Opens.int Try.underlying3) (hval 2 49 v2 rfl rfl) h2
  refine (law54_StnNil_sim (StnNil_ok b n ts) (St.start W) hts).mono ?_
  rintro _ W' ⟨_, rfl, s', hle, hS', rfl⟩
  have hb := below_of_St hS' hle
  exact ⟨_, rfl, ⟨_, _, _, [], _, [], hW', trodAll_mk1 (shut_bool Try.underlying4 true),
    trodAll_mk3 (Below.trod laid0 (by kernel_rfl) (of_decide_eq_true (by kernel_rfl)) h0 hb fun x hx => hlt x (by simp [hx]))
      (Below.trod laid0 (by kernel_rfl) (of_decide_eq_true (by kernel_rfl)) h1 hb fun x hx => hlt x (by simp [hx]))
      (Below.trod laid0 (by kernel_rfl) (of_decide_eq_true (by kernel_rfl)) h2 hb fun x hx => hlt x (by simp [hx])), rfl, hb.frame _, fun h => by cases h⟩⟩

theorem StnNil_said : Rows.StnNilSaid :=
  OpenClaim.holds_of_wide 8 Try.f8 rfl rfl rfl rfl rfl rfl rfl ⟨rfl, rfl, rfl, rfl, rfl⟩ rfl rfl rfl rfl rfl (by kernel_rfl) Try.func8 (by kernel_rfl)
    (of_decide_eq_true (by kernel_rfl)) (by unfold Func.isWrapper; first | (rw [if_pos (by decide +kernel)]; kernel_rfl) | (rw [if_neg (by decide +kernel)]; exact ⟨rfl, rfl⟩))
    (fun os started H enc _ => StnNil_lifted os started H enc)
end Go.Pw
namespace Go.Proofs.Ytcapbkcdeeinoaa
theorem stnNil_holds : Rows.StnNilSaid := Go.Pw.StnNil_said
end Go.Proofs.Ytcapbkcdeeinoaa
