/- -/
import Derived.Test.YtalfjlihddgooaaGreatDoorLH
import Derived.Test.YtalfjlihddgooaaGreatDoorW11
import Derived.Test.YtalfjlihddgooaaGreatDoorWlLw
import Derived.Test.YtalfjlihddgooaaGreatDoorWlJd
import Derived.Test.YtalfjlihddgooaaGreatDoorWlJe
import Derived.Test.YtalfjlihddgooaaGreatDoorTie
import Derived.Test.YtalfjlihddgooaaGreatDoorCards
import Derived.LaidMore
import Derived.MakeChecks
import Derived.Lib.LaidTab
import Derived.Lib.LaidU8
import Derived.SevenTiedAt
namespace Go.Pw
open Go.Proofs Go.Proofs.YtalfjlihddgooaaGreatDoor Go.ChangeShapes Go.WideShapes Go.ChangeAt Go.RowKit
theorem own0:ownKnob Tryz.prog.godebug=none:=by kernel_rfl
theorem Qgk:G5 Tryz.prog 82 Gd (fun b=>((Lit.int .i64 b.Var).wf=true)∧((Lit.int .i64 b.Val).wf=true)) :=
 G5.struct (fun t=>⟨t.1,t.2⟩) Tryz.underlying82 (by kernel_rfl) (fun _=>rfl)
  (GB.cons rfl (by kernel_rfl) (G5.int Tryz.underlying3) rfl (GB.one rfl (by kernel_rfl) (G5.int Tryz.underlying3)))
theorem Quc:G5 Tryz.prog 85 Gw (fun b=>(b.Name.size<=maxLen)∧((Lit.int .i64 b.Duration).wf=true)∧(b.Start.length<=maxLen∧∀y23 ∈ b.Start,((Lit.int .i64 y23.Var).wf=true)∧((Lit.int .i64 y23.Val).wf=true))∧(b.Over.length<=maxLen∧∀y23 ∈ b.Over,((Lit.int .i64 y23.Var).wf=true)∧((Lit.int .i64 y23.Val).wf=true))∧(b.End.length<=maxLen∧∀y23 ∈ b.End,((Lit.int .i64 y23.Var).wf=true)∧((Lit.int .i64 y23.Val).wf=true))∧(b.AtStart.length<=maxLen∧∀y23 ∈ b.AtStart,((Lit.int .i64 y23.Var).wf=true)∧((Lit.int .i64 y23.Val).wf=true))∧(b.AtEnd.length<=maxLen∧∀y23 ∈ b.AtEnd,((Lit.int .i64 y23.Var).wf=true)∧((Lit.int .i64 y23.Val).wf=true))) :=
 G5.struct (fun t=>⟨t.1,t.2.1,t.2.2.1,t.2.2.2.1,t.2.2.2.2.1,t.2.2.2.2.2.1,t.2.2.2.2.2.2⟩) Tryz.underlying85 (by kernel_rfl) (fun _=>rfl)
  (GB.cons rfl (by kernel_rfl) (Qrc Tryz.underlying9) rfl (GB.cons rfl (by kernel_rfl) (G5.int Tryz.underlying3) rfl (GB.cons rfl (by kernel_rfl) (G5.slice Tryz.underlying23 (by kernel_rfl) Qgk) rfl (GB.cons rfl (by kernel_rfl) (G5.slice Tryz.underlying23 (by kernel_rfl) Qgk) rfl (GB.cons rfl (by kernel_rfl) (G5.slice Tryz.underlying23 (by kernel_rfl) Qgk) rfl (GB.cons rfl (by kernel_rfl) (G5.slice Tryz.underlying23 (by kernel_rfl) Qgk) rfl (GB.one rfl (by kernel_rfl) (G5.slice Tryz.underlying23 (by kernel_rfl) Qgk))))))))
theorem Que:G5 Tryz.prog 26 GE (fun b=>(b.Vars.length<=maxLen∧∀y22 ∈ b.Vars,(Lit.int .i64 y22).wf=true)∧(b.Init.length<=maxLen∧∀y22 ∈ b.Init,(Lit.int .i64 y22).wf=true)∧(b.Goal.length<=maxLen∧∀y23 ∈ b.Goal,((Lit.int .i64 y23.Var).wf=true)∧((Lit.int .i64 y23.Val).wf=true))∧(b.Jobs.length<=maxLen∧∀y24 ∈ b.Jobs,(y24.Name.size<=maxLen)∧((Lit.int .i64 y24.Duration).wf=true)∧(y24.Start.length<=maxLen∧∀y23 ∈ y24.Start,((Lit.int .i64 y23.Var).wf=true)∧((Lit.int .i64 y23.Val).wf=true))∧(y24.Over.length<=maxLen∧∀y23 ∈ y24.Over,((Lit.int .i64 y23.Var).wf=true)∧((Lit.int .i64 y23.Val).wf=true))∧(y24.End.length<=maxLen∧∀y23 ∈ y24.End,((Lit.int .i64 y23.Var).wf=true)∧((Lit.int .i64 y23.Val).wf=true))∧(y24.AtStart.length<=maxLen∧∀y23 ∈ y24.AtStart,((Lit.int .i64 y23.Var).wf=true)∧((Lit.int .i64 y23.Val).wf=true))∧(y24.AtEnd.length<=maxLen∧∀y23 ∈ y24.AtEnd,((Lit.int .i64 y23.Var).wf=true)∧((Lit.int .i64 y23.Val).wf=true)))) :=
 G5.struct (fun t=>⟨t.1,t.2.1,t.2.2.1,t.2.2.2⟩) Tryz.underlying26 (by kernel_rfl) (fun _=>rfl)
  (GB.cons rfl (by kernel_rfl) (G5.slice Tryz.underlying22 (by kernel_rfl) (G5.int Tryz.underlying3)) rfl (GB.cons rfl (by kernel_rfl) (G5.slice Tryz.underlying22 (by kernel_rfl) (G5.int Tryz.underlying3)) rfl (GB.cons rfl (by kernel_rfl) (G5.slice Tryz.underlying23 (by kernel_rfl) Qgk) rfl (GB.one rfl (by kernel_rfl) (G5.slice Tryz.underlying24 (by kernel_rfl) Quc)))))
theorem Qud:G5 Tryz.prog 43 Gg (fun b=>((Lit.int .i64 b.At).wf=true)∧((Lit.int .i64 b.Job).wf=true)) :=
 G5.struct (fun t=>⟨t.1,t.2⟩) Tryz.underlying43 (by kernel_rfl) (fun _=>rfl)
  (GB.cons rfl (by kernel_rfl) (G5.int Tryz.underlying3) rfl (GB.one rfl (by kernel_rfl) (G5.int Tryz.underlying3)))
set_option maxRecDepth 100000 in
theorem Qut (os:Os) (started:os.Started) (H:Type) (enc:TypeId×Value->H) :
  ReturnsInHanded {} Tryz.checked os 3 .any (fun w args=>(Rows.wholeScheduleSpec.pre enc Tryz.prog Tryz.f3 [] false w args∧laidMetH Tryz.prog Rows.wholeScheduleRow.laid w)∧sizedMet enc Tryz.prog Tryz.f3 (OpenSpec.ofChange Rows.wholeScheduleSpec) false w args)
   (Rows.wholeScheduleSpec.post enc Tryz.prog Tryz.f3 false true false false):=by
 refine returnsInHanded_of_change_and (C:=Tryz.checked) (X:=fun w _=>laidMetH Tryz.prog Rows.wholeScheduleRow.laid w) (fun _ _ _ hh h=>h.of_heap hh) own0 started (by kernel_rfl) Tryz.func3
  (ChangeSpec.witness_shaped (enc:=enc) (C:=Tryz.checked) (os:=os) (X:=fun w _=>laidMetH Tryz.prog Rows.wholeScheduleRow.laid w) false (Qvw os) #[Value.agg #[Value.slice none 0 0,Value.slice none 0 0,Value.slice none 0 0,Value.slice none 0 0],Value.slice none 0 0,Value.int .u8 (0)] 8 rfl (World.shaped_of_RefB (by kernel_rfl) (by kernel_rfl)) (by kernel_rfl) (by kernel_rfl) (by kernel_rfl) (QxN os _)) ?_
 intro W base args ds gs before hval0 hW hcnd _ hL _
 have hval:∀(j:Nat) t v,Tryz.f3.params[j]?=some t->args[j]?=some v->Value.okWide Tryz.prog W .any base t v:=hval0
 have hW':=hW
 obtain ⟨p,q,hA0,hV,rfl,hfz,hnd⟩:=hW
 have hA:DataW.TrodAll enc Tryz.prog W 0 (fun _=>true) true Tryz.f3.params.toList args.toList ds p:=hA0
 rw [Tryz.params3] at hA hval
 obtain ⟨v0,v1,v2,d0,d1,d2,p0,p1,p2,rfl,rfl,rfl,h0,h1,h2⟩:=trodAll_three hA
 obtain ⟨rfl,rfl⟩:=trodVars_none hV
 simp only [List.append_nil] at hW'
 have hlt:∀x ∈ p0++p1++p2,x.block<W.heap.size:=fun x hx=>by simpa using hW'.lt x hx
 obtain ⟨x0,b0,w0⟩:=QuP Que (.inl ⟨_,Tryz.underlying26⟩) rfl (hval 0 26 v0 rfl rfl) h0
 have e0:=Qfs.1 b0
 obtain ⟨u0_0,u0_1,u0_2,u0_3,rfl,r0_0,r0_1,r0_2,r0_3⟩:=e0
 obtain ⟨x1,a1,l1,w1⟩:=QqY (E:=Gg) Tryz.underlying27 (by kernel_rfl) Qud (hval 1 27 v1 rfl rfl) h1
 obtain ⟨x2,rfl,w2⟩:=QuO Tryz.underlying5 (hval 2 5 v2 rfl rfl) h2
 refine (QcB QqM (Qqt x0 x1 x2 (fun j hj=>by have:=(w0.2.2.2.2 j hj).1;simp only [maxLen] at this;omega) (Qx7 w2)) (St.start W) r0_0 r0_1 r0_2 r0_3 a1).mono ?_
 rintro _ W' ⟨_,rfl,s',hle,hS',rfl⟩
 have hb:=Qo0 hS' hle
 exact ⟨_,Z,⟨_,_,_,[],_,[],hW',trodAll_mk1 (shut_bool Tryz.underlying4 true),
  trodAll_mk3 (Below.trod QrH (by kernel_rfl) (of_decide_eq_true (by kernel_rfl)) h0 hb fun x hx=>hlt x (by simp [hx])) (Below.trod QrH (by kernel_rfl) (of_decide_eq_true (by kernel_rfl)) h1 hb fun x hx=>hlt x (by simp [hx])) (Below.trod QrH (by kernel_rfl) (of_decide_eq_true (by kernel_rfl)) h2 hb fun x hx=>hlt x (by simp [hx])),rfl,hb.frame _,fun h=>by cases h⟩⟩
theorem QxJ {P:Program} (h:P.funcs.any Func.goes=false) (f:FuncId):P.goes f=false:=by
 have hall:∀g:FuncId,(P.funcs[g]?).any Func.goes=false:=by
  intro g
  cases e:P.funcs[g]? with
  |none=>rfl
  |some fn =>
   obtain ⟨i,hi⟩:=Array.getElem?_eq_some_iff.1 e
   have:=Array.any_eq_false.1 h g i
   rw [hi] at this
   simpa using this
 unfold Program.goes
 rw [h,Bool.and_false,Bool.or_false]
 simp [hall]
theorem goes1 {P:Program} (h:P.funcs.any Func.goes=false) (s:String):false=P.goesAt .entering s:=by
 unfold Program.goesAt Program.goesFrom
 cases P.funcNamed s <;> simp [QxJ h]
theorem said0:Rows.WholeScheduleSaid :=
 OpenClaim.holds_of_wide 3 Tryz.f3 rfl rfl rfl rfl rfl rfl rfl ⟨rfl,rfl,rfl,rfl,rfl⟩ rfl rfl rfl rfl rfl (by kernel_rfl) Tryz.func3 QuX
  (of_decide_eq_true (by kernel_rfl)) (by unfold Func.isWrapper;first |(rw [if_pos (by decide +kernel)];kernel_rfl) |(rw [if_neg (by decide +kernel)];exact ⟨rfl,rfl⟩))
  (fun os started H enc _=>Qut os started H enc)
end Go.Pw
namespace Go.Proofs.YtalfjlihddgooaaGreatDoor
theorem wholeSchedule_holds:Rows.WholeScheduleCardSaid :=
 Claim7.holds_tied_plain_at .later [] [.data, .data, .data, .data, .pinned] true (true, "bf56551abe651553be3bd976c248496d49a7208471a9a03f8b1e8d5c591c08ed") true Go.Pw.said0 (fun _ h=>by cases h) (by kernel_rfl) (fun _ h=>by cases h) wholeSchedule_row_tie rfl ⟨rfl,rfl⟩ (by kernel_rfl) rfl
  (fun f fn hf hfn=>by
   obtain rfl:f=3:=Option.some.inj ((show Tryz.prog.funcNamed "stratagem/stratagemtop.WholeSchedule" =some 3 by kernel_rfl).symm.trans hf) |>.symm
   obtain rfl:fn=Tryz.f3:=(Option.some.inj (Tryz.func3.symm.trans hfn)).symm
   exact ⟨by kernel_rfl,fun j t ht=>by
    rw [Tryz.params3] at ht
    have hm:t ∈ [26,27,5]:=by simpa using Array.mem_of_getElem? ht
    have hall:([26,27,5].all fun u=>!Tryz.prog.wantsStandIn u)=true:=by kernel_rfl
    exact (show Tryz.prog.wantsStandIn t=false by simpa using List.all_eq_true.1 hall t hm)⟩)
  (Go.Pw.goes1 (P:=Tryz.prog) (by kernel_rfl) _)
end Go.Proofs.YtalfjlihddgooaaGreatDoor
