/-
  What the functions compute, in plain Lean (printed by my generator).
-/
import Derived.Test.YtoofdhjblbnppaaGreatL6
import Derived.Test.YtoofdhjblbnppaaGreatL21
import Derived.Test.YtoofdhjblbnppaaGreatL11
import Derived.Test.YtoofdhjblbnppaaGreatL14
import Derived.Test.YtoofdhjblbnppaaGreatL16
import Derived.Test.YtoofdhjblbnppaaGreatL31
import Derived.Test.YtoofdhjblbnppaaGreatL34
import Derived.Test.YtoofdhjblbnppaaGreatL41
set_option maxRecDepth 100000
set_option maxHeartbeats 4000000
set_option linter.unusedVariables false
namespace Go.Pw
structure Fact where
  Var : Int
  Val : Int
def encFact : Enc Fact := Enc.iso ((encInt .i64).pair (encInt .i64)) (fun b => (b.Var, b.Val))
theorem encFact_val {s : PHeap} {v : Value} {b : Fact} : encFact.val s v b ↔ v = .agg #[.int .i64 (b.Var), .int .i64 (b.Val)] := by
  simp only [Enc.iso, Enc.pair, Enc.val, encFact, encInt, if_true, oneCell]
  constructor
  · rintro ⟨cs, rfl, h⟩
    obtain ⟨cs⟩ := cs
    simp only [] at h
    obtain ⟨_, _, rfl, rfl, rfl⟩ := h
    rfl
  · rintro rfl
    exact ⟨_, rfl, ⟨[.int .i64 (b.Var)], [.int .i64 (b.Val)], rfl, rfl, rfl⟩⟩
structure Job where
  Name : ByteArray
  Duration : Int
  Start : (List Fact)
  Over : (List Fact)
  End : (List Fact)
  AtStart : (List Fact)
  AtEnd : (List Fact)
def encJob : Enc Job := Enc.iso (encStr.pair ((encInt .i64).pair ((encSlice encFact).pair ((encSlice encFact).pair ((encSlice encFact).pair ((encSlice encFact).pair (encSlice encFact))))))) (fun b => (b.Name, b.Duration, b.Start, b.Over, b.End, b.AtStart, b.AtEnd))
theorem encJob_val {s : PHeap} {v : Value} {b : Job} : encJob.val s v b ↔ ∃ u1, ∃ u2, ∃ u3, ∃ u4, ∃ u5, v = .agg #[.string (b.Name), .int .i64 (b.Duration), u1, u2, u3, u4, u5] ∧ SliceRep encFact s u1 (b.Start) ∧ SliceRep encFact s u2 (b.Over) ∧ SliceRep encFact s u3 (b.End) ∧ SliceRep encFact s u4 (b.AtStart) ∧ SliceRep encFact s u5 (b.AtEnd) := by
  simp only [Enc.iso, Enc.pair, Enc.val, encInt, encJob, encSlice, encStr, if_true, oneCell]
  constructor
  · rintro ⟨cs, rfl, h⟩
    obtain ⟨cs⟩ := cs
    simp only [] at h
    obtain ⟨_, _, rfl, rfl, ⟨_, _, rfl, rfl, ⟨_, _, rfl, ⟨w1, rfl, h1⟩, ⟨_, _, rfl, ⟨w2, rfl, h2⟩, ⟨_, _, rfl, ⟨w3, rfl, h3⟩, ⟨_, _, rfl, ⟨w4, rfl, h4⟩, ⟨w5, rfl, h5⟩⟩⟩⟩⟩⟩⟩ := h
    exact ⟨w1, w2, w3, w4, w5, rfl, h1, h2, h3, h4, h5⟩
  · rintro ⟨w1, w2, w3, w4, w5, rfl, h1, h2, h3, h4, h5⟩
    exact ⟨_, rfl, ⟨[.string (b.Name)], [.int .i64 (b.Duration), w1, w2, w3, w4, w5], rfl, rfl, ⟨[.int .i64 (b.Duration)], [w1, w2, w3, w4, w5], rfl, rfl, ⟨[w1], [w2, w3, w4, w5], rfl, ⟨w1, rfl, h1⟩, ⟨[w2], [w3, w4, w5], rfl, ⟨w2, rfl, h2⟩, ⟨[w3], [w4, w5], rfl, ⟨w3, rfl, h3⟩, ⟨[w4], [w5], rfl, ⟨w4, rfl, h4⟩, ⟨w5, rfl, h5⟩⟩⟩⟩⟩⟩⟩⟩
structure Temporal where
  Vars : (List Int)
  Init : (List Int)
  Goal : (List Fact)
  Jobs : (List Job)
def encTemporal : Enc Temporal := Enc.iso ((encSlice (encInt .i64)).pair ((encSlice (encInt .i64)).pair ((encSlice encFact).pair (encSlice encJob)))) (fun b => (b.Vars, b.Init, b.Goal, b.Jobs))
theorem encTemporal_val {s : PHeap} {v : Value} {b : Temporal} : encTemporal.val s v b ↔ ∃ u1, ∃ u2, ∃ u3, ∃ u4, v = .agg #[u1, u2, u3, u4] ∧ SliceRep (encInt .i64) s u1 (b.Vars) ∧ SliceRep (encInt .i64) s u2 (b.Init) ∧ SliceRep encFact s u3 (b.Goal) ∧ SliceRep encJob s u4 (b.Jobs) := by
  simp only [Enc.iso, Enc.pair, Enc.val, encSlice, encTemporal, if_true]
  constructor
  · rintro ⟨cs, rfl, h⟩
    obtain ⟨cs⟩ := cs
    simp only [] at h
    obtain ⟨_, _, rfl, ⟨w1, rfl, h1⟩, ⟨_, _, rfl, ⟨w2, rfl, h2⟩, ⟨_, _, rfl, ⟨w3, rfl, h3⟩, ⟨w4, rfl, h4⟩⟩⟩⟩ := h
    exact ⟨w1, w2, w3, w4, rfl, h1, h2, h3, h4⟩
  · rintro ⟨w1, w2, w3, w4, rfl, h1, h2, h3, h4⟩
    exact ⟨_, rfl, ⟨[w1], [w2, w3, w4], rfl, ⟨w1, rfl, h1⟩, ⟨[w2], [w3, w4], rfl, ⟨w2, rfl, h2⟩, ⟨[w3], [w4], rfl, ⟨w3, rfl, h3⟩, ⟨w4, rfl, h4⟩⟩⟩⟩⟩
structure Launch where
  At : Int
  Job : Int
def encLaunch : Enc Launch := Enc.iso ((encInt .i64).pair (encInt .i64)) (fun b => (b.At, b.Job))
theorem encLaunch_val {s : PHeap} {v : Value} {b : Launch} : encLaunch.val s v b ↔ v = .agg #[.int .i64 (b.At), .int .i64 (b.Job)] := by
  simp only [Enc.iso, Enc.pair, Enc.val, encInt, encLaunch, if_true, oneCell]
  constructor
  · rintro ⟨cs, rfl, h⟩
    obtain ⟨cs⟩ := cs
    simp only [] at h
    obtain ⟨_, _, rfl, rfl, rfl⟩ := h
    rfl
  · rintro rfl
    exact ⟨_, rfl, ⟨[.int .i64 (b.At)], [.int .i64 (b.Job)], rfl, rfl, rfl⟩⟩
noncomputable def law57_delivery_p  : Option (Temporal) :=
  some (⟨[2, 2], [0, 0], [(⟨1, 1⟩ : Fact)], [(⟨⟨#[108, 111, 97, 100]⟩, 2, [], [], [], [], [(⟨0, 1⟩ : Fact)]⟩ : Job), (⟨⟨#[100, 114, 105, 118, 101]⟩, 3, [(⟨0, 1⟩ : Fact)], [], [], [], [(⟨1, 1⟩ : Fact)]⟩ : Job), (⟨⟨#[114, 101, 115, 116]⟩, 1, [], [], [], [], []⟩ : Job)]⟩ : Temporal)
def law57_delivery_t  : Temporal :=
  (⟨[2, 2], [0, 0], [(⟨1, 1⟩ : Fact)], [(⟨⟨#[108, 111, 97, 100]⟩, 2, [], [], [], [], [(⟨0, 1⟩ : Fact)]⟩ : Job), (⟨⟨#[100, 114, 105, 118, 101]⟩, 3, [(⟨0, 1⟩ : Fact)], [], [], [], [(⟨1, 1⟩ : Fact)]⟩ : Job), (⟨⟨#[114, 101, 115, 116]⟩, 1, [], [], [], [], []⟩ : Job)]⟩ : Temporal)
theorem law57_delivery_tot  : law57_delivery_p  = some (law57_delivery_t ) := by
  unfold law57_delivery_p law57_delivery_t
  (repeat' split) <;> rfl
attribute [irreducible] law57_delivery_t
noncomputable def temporal_lists_p (c : Temporal) : Option ((List (List Fact))) :=
  (forS (fun d => fun (b : (List (List Fact))) => (idx c.Jobs (d : Int)).bind fun a =>
  (app 24 b [a.Start, a.Over, a.End, a.AtStart, a.AtEnd]).bind fun e =>
  some e) (c.Jobs.length) 0 [c.Goal]).bind (fun (b : (List (List Fact))) => some b)
noncomputable def temporal_Check_c1_p (a : (List Fact)) : Option (Bool) :=
  some (decide (64 < (a.length : Int)))
def temporal_Check_c1_t (a : (List Fact)) : Bool :=
  (decide (64 < (a.length : Int)))
theorem temporal_Check_c1_tot (a : (List Fact)) : temporal_Check_c1_p a = some (temporal_Check_c1_t a) := by
  unfold temporal_Check_c1_p temporal_Check_c1_t
  (repeat' split) <;> rfl
attribute [irreducible] temporal_Check_c1_t
noncomputable def slices_IndexFunc_apiFact_Check_c1_p (b : (List (List Fact))) : Option (Int) :=
  ctl (forC (R := (Int)) (fun a => fun (_ : Unit) => (idx b (a : Int)).bind fun c =>
  if (temporal_Check_c1_t c) then (some (Ctl.ret (a : Int)))
  else (some (Ctl.next ()))) (b.length) 0 ()) (fun r => some r) (fun (_ : Unit) => some (-1))
noncomputable def slices_ContainsFunc_apiFact_Check_c1_p (a : (List (List Fact))) : Option (Bool) :=
  (slices_IndexFunc_apiFact_Check_c1_p a).bind <| fun (b : Int) =>
  some (decide (0 ≤ b))
noncomputable def task_Proper_p (c : (List Int)) (a : (List Int)) : Option (Bool) :=
  if !decide ((a.length : Int) = (c.length : Int)) then (some false)
  else (ctl (forC (R := (Bool)) (fun b => fun (_ : Unit) => (idx a (b : Int)).bind fun d =>
  (if decide (d < 0) then (some true)
  else ((idx c (b : Int)).bind fun e =>
  some (decide (e ≤ d)))).bind (fun (f : Bool) => if f then (some (Ctl.ret false))
  else (some (Ctl.next ())))) (a.length) 0 ()) (fun r => some r) (fun (_ : Unit) => some true))
noncomputable def task_Facts_p (c : (List Int)) (b : (List Fact)) : Option (Bool) :=
  ctl (forC (R := (Bool)) (fun d => fun (e : Int) => (idx b (d : Int)).bind fun a =>
  (if decide (a.Var ≤ e) then (some true)
  else (if decide ((c.length : Int) ≤ a.Var) then (some true)
  else (if decide (a.Val < 0) then (some true)
  else ((idx c a.Var).bind fun f =>
  some (decide (f ≤ a.Val)))))).bind (fun (g : Bool) => if g then (some (Ctl.ret false))
  else (some (Ctl.next a.Var)))) (b.length) 0 (-1)) (fun r => some r) (fun (h : Int) => some true)
noncomputable def temporal_Check_c2_p (b : (List Fact)) (a : Temporal) : Option (Bool) :=
  (task_Facts_p a.Vars b).bind <| fun (c : Bool) =>
  some (!c)
noncomputable def slices_IndexFunc_apiFact_Check_c2_p (b : (List (List Fact))) (c : Temporal) : Option (Int) :=
  ctl (forC (R := (Int)) (fun a => fun (_ : Unit) => (idx b (a : Int)).bind fun d =>
  (temporal_Check_c2_p d c).bind <| fun (e : Bool) =>
  if e then (some (Ctl.ret (a : Int)))
  else (some (Ctl.next ()))) (b.length) 0 ()) (fun r => some r) (fun (_ : Unit) => some (-1))
noncomputable def slices_ContainsFunc_apiFact_Check_c2_p (b : (List (List Fact))) (a : Temporal) : Option (Bool) :=
  (slices_IndexFunc_apiFact_Check_c2_p b a).bind <| fun (c : Int) =>
  some (decide (0 ≤ c))
noncomputable def temporal_named_p (a : ByteArray) : Option (Bool) :=
  (must (decide ((a.size : Int) ≤ 9223372036854775807))).bind fun e =>
  ctl (forC (R := (Bool)) (fun c => fun (_ : Unit) => ((idx (bytesOf a) (c : Int)).bind fun b =>
  if decide (b < 32) then (some true)
  else (some (decide (126 < b)))).bind (fun (d : Bool) => if d then (some (Ctl.ret false))
  else (some (Ctl.next ())))) ((a.size : Int).toNat) 0 ()) (fun r => some r) (fun (_ : Unit) => some (decide ((a.size : Int) ≤ 256)))
noncomputable def temporal_Check_p (a : Temporal) : Option ((Option Int)) :=
  (temporal_lists_p a).bind <| fun (d : (List (List Fact))) =>
  (if decide (64 < (a.Vars.length : Int)) then (some true)
  else (if decide (24 < (a.Jobs.length : Int)) then (some true)
  else ((slices_ContainsFunc_apiFact_Check_c1_p d).bind <| fun (i : Bool) =>
  some i))).bind (fun (m : Bool) => if m then (some (some 5))
  else (ctl (forC (R := ((Option Int))) (fun e => fun (_ : Unit) => (idx a.Vars (e : Int)).bind fun b =>
  if ((decide (b < 1)) || decide (64 < b)) then (some (Ctl.ret (some 1)))
  else (some (Ctl.next ()))) (a.Vars.length) 0 ()) (fun r => some r) (fun (_ : Unit) => ctl (forC (R := ((Option Int))) (fun f => fun (_ : Unit) => (idx a.Jobs (f : Int)).bind fun c =>
  if ((decide (c.Duration < 1)) || decide (62 < c.Duration)) then (some (Ctl.ret (some 1)))
  else (some (Ctl.next ()))) (a.Jobs.length) 0 ()) (fun r => some r) (fun (_ : Unit) => ((task_Proper_p a.Vars a.Init).bind <| fun (j : Bool) =>
  if !j then (some true)
  else ((slices_ContainsFunc_apiFact_Check_c2_p d a).bind <| fun (k : Bool) =>
  some k)).bind (fun (n : Bool) => if n then (some (some 2))
  else (ctl (forC (R := ((Option Int))) (fun g => fun (_ : Unit) => (idx a.Jobs (g : Int)).bind fun h =>
  (temporal_named_p h.Name).bind <| fun (l : Bool) =>
  if !l then (some (Ctl.ret (some 8)))
  else (some (Ctl.next ()))) (a.Jobs.length) 0 ()) (fun r => some r) (fun (_ : Unit) => some none)))))))
noncomputable def temporal_accept_p (c : Temporal) (b : (List Launch)) : Option ((Option Int)) :=
  (temporal_Check_p c).bind <| fun (d : (Option Int)) =>
  if d.isSome then (some d)
  else (if decide (4096 < (b.length : Int)) then (some (some 5))
  else (ctl (forC (R := ((Option Int))) (fun e => fun (_ : Unit) => (idx b (e : Int)).bind fun a =>
  if ((decide (a.Job < 0)) || ((decide ((c.Jobs.length : Int) ≤ a.Job)) || ((decide (a.At < 0)) || decide (1048576 < a.At)))) then (some (Ctl.ret (some 1)))
  else (some (Ctl.next ()))) (b.length) 0 ()) (fun r => some r) (fun (_ : Unit) => some none)))
structure temporal_happening where
  job : Int
  end_ : Bool
def enctemporal_happening : Enc temporal_happening := Enc.iso ((encInt .i64).pair encBool) (fun b => (b.job, b.end_))
theorem enctemporal_happening_val {s : PHeap} {v : Value} {b : temporal_happening} : enctemporal_happening.val s v b ↔ v = .agg #[.int .i64 (b.job), .bool (b.end_)] := by
  simp only [Enc.iso, Enc.pair, Enc.val, encBool, encInt, enctemporal_happening, if_true, oneCell]
  constructor
  · rintro ⟨cs, rfl, h⟩
    obtain ⟨cs⟩ := cs
    simp only [] at h
    obtain ⟨_, _, rfl, rfl, rfl⟩ := h
    rfl
  · rintro rfl
    exact ⟨_, rfl, ⟨[.int .i64 (b.job)], [.bool (b.end_)], rfl, rfl, rfl⟩⟩
noncomputable def temporal_end_p (b : Temporal) (a : Launch) : Option (Int) :=
  (idx b.Jobs a.Job).bind fun c =>
  some (IntKind.i64.wrap (a.At + c.Duration))
noncomputable def sortInts_p (xs : List Int) : Option (List Int) := if xs.length < 4611686018427387904 then some (xs.mergeSort fun x y => decide (x ≤ y)) else none
noncomputable def temporal_happenings_p (p : Temporal) (d : (List Launch)) : Option ((List (Int × (List temporal_happening))) × (List Int)) :=
  (forS (fun g => fun (a : (List (Int × (List temporal_happening)))) => (idx d (g : Int)).bind fun b =>
  (hmapGet a b.At).bind fun n =>
  (app 16 n [(⟨b.Job, false⟩ : temporal_happening)]).bind fun h =>
  (hmapPut a b.At h).bind fun e =>
  (temporal_end_p p b).bind <| fun (f : Int) =>
  (hmapGet e f).bind fun o =>
  (app 16 o [(⟨b.Job, true⟩ : temporal_happening)]).bind fun i =>
  (hmapPut e f i).bind fun l =>
  some l) (d.length) 0 ([] : (List (Int × (List temporal_happening))))).bind (fun (a : (List (Int × (List temporal_happening)))) => rangeK (a.map Prod.fst) fun m => (foldK (fun q => fun (c : (List Int)) => (app 8 c [q]).bind fun j =>
  some j) m []).bind (fun (c : (List Int)) => (sortInts_p c).bind <| fun (k : (List Int)) =>
  some (a, k)))
noncomputable def temporal_overlaps_p (g : Temporal) (a : (List Launch)) (b : Int) : Option (Bool) :=
  ctl (forC (R := (Bool)) (fun d => fun (_ : Unit) => (idx a (d : Int)).bind fun f =>
  if !decide (f.At = b) then (some (Ctl.next ()))
  else (ctl (forC (R := (Bool)) (fun e => fun (_ : Unit) => (idx a (e : Int)).bind fun c =>
  (if !decide ((d : Int) = (e : Int)) then (if decide (f.Job = c.Job) then (if decide (c.At ≤ b) then ((temporal_end_p g c).bind <| fun (h : Int) =>
  some (decide (b ≤ h)))
  else (some false))
  else (some false))
  else (some false)).bind (fun (i : Bool) => if i then (some (Ctl.ret true))
  else (some (Ctl.next ())))) (a.length) 0 ()) (fun r => some (Ctl.ret r)) (fun (_ : Unit) => some (Ctl.next ())))) (a.length) 0 ()) (fun r => some r) (fun (_ : Unit) => some false)
noncomputable def temporal_writes_p (b : Temporal) (a : temporal_happening) : Option ((List Fact)) :=
  if a.end_ then ((idx b.Jobs a.job).bind fun c =>
  some c.AtEnd)
  else ((idx b.Jobs a.job).bind fun d =>
  some d.AtStart)
noncomputable def temporal_meet_c1_c1_p (b : Fact) (a : Fact) : Option (Bool) :=
  some (decide (a.Var = b.Var))
def temporal_meet_c1_c1_t (b : Fact) (a : Fact) : Bool :=
  (decide (a.Var = b.Var))
theorem temporal_meet_c1_c1_tot (b : Fact) (a : Fact) : temporal_meet_c1_c1_p b a = some (temporal_meet_c1_c1_t b a) := by
  unfold temporal_meet_c1_c1_p temporal_meet_c1_c1_t
  (repeat' split) <;> rfl
attribute [irreducible] temporal_meet_c1_c1_t
noncomputable def slices_IndexFunc_apiFact_meet_c1_c1_p (b : (List Fact)) (c : Fact) : Option (Int) :=
  ctl (forC (R := (Int)) (fun a => fun (_ : Unit) => (idx b (a : Int)).bind fun d =>
  if (temporal_meet_c1_c1_t d c) then (some (Ctl.ret (a : Int)))
  else (some (Ctl.next ()))) (b.length) 0 ()) (fun r => some r) (fun (_ : Unit) => some (-1))
noncomputable def slices_ContainsFunc_apiFact_meet_c1_c1_p (b : (List Fact)) (a : Fact) : Option (Bool) :=
  (slices_IndexFunc_apiFact_meet_c1_c1_p b a).bind <| fun (c : Int) =>
  some (decide (0 ≤ c))
noncomputable def temporal_meet_c1_p (b : Fact) (a : (List Fact)) : Option (Bool) :=
  (slices_ContainsFunc_apiFact_meet_c1_c1_p a b).bind <| fun (c : Bool) =>
  some c
noncomputable def slices_IndexFunc_apiFact_meet_c1_p (b : (List Fact)) (c : (List Fact)) : Option (Int) :=
  ctl (forC (R := (Int)) (fun a => fun (_ : Unit) => (idx b (a : Int)).bind fun d =>
  (temporal_meet_c1_p d c).bind <| fun (e : Bool) =>
  if e then (some (Ctl.ret (a : Int)))
  else (some (Ctl.next ()))) (b.length) 0 ()) (fun r => some r) (fun (_ : Unit) => some (-1))
noncomputable def slices_ContainsFunc_apiFact_meet_c1_p (b : (List Fact)) (a : (List Fact)) : Option (Bool) :=
  (slices_IndexFunc_apiFact_meet_c1_p b a).bind <| fun (c : Int) =>
  some (decide (0 ≤ c))
noncomputable def temporal_meet_p (a : (List Fact)) (b : (List Fact)) : Option (Bool) :=
  (slices_ContainsFunc_apiFact_meet_c1_p a b).bind <| fun (c : Bool) =>
  some c
noncomputable def temporal_reads_p (b : Temporal) (a : temporal_happening) : Option ((List Fact)) :=
  if a.end_ then ((idx b.Jobs a.job).bind fun c =>
  some c.End)
  else ((idx b.Jobs a.job).bind fun d =>
  some d.Start)
noncomputable def temporal_interfere_p (a : Temporal) (b : temporal_happening) (c : temporal_happening) : Option (Bool) :=
  ((temporal_writes_p a b).bind <| fun (d : (List Fact)) =>
  (temporal_writes_p a c).bind <| fun (e : (List Fact)) =>
  (temporal_meet_p d e).bind <| fun (f : Bool) =>
  if f then (some true)
  else ((temporal_reads_p a c).bind <| fun (g : (List Fact)) =>
  (temporal_meet_p d g).bind <| fun (h : Bool) =>
  if h then (some true)
  else ((temporal_reads_p a b).bind <| fun (i : (List Fact)) =>
  (temporal_meet_p i e).bind <| fun (j : Bool) =>
  some j))).bind (fun (k : Bool) => some k)
noncomputable def task_Holds_p (b : (List Fact)) (c : (List Int)) : Option (Bool) :=
  ctl (forC (R := (Bool)) (fun d => fun (_ : Unit) => (idx b (d : Int)).bind fun a =>
  (if decide (a.Var < 0) then (some true)
  else (if decide ((c.length : Int) ≤ a.Var) then (some true)
  else ((idx c a.Var).bind fun e =>
  some (!decide (e = a.Val))))).bind (fun (f : Bool) => if f then (some (Ctl.ret false))
  else (some (Ctl.next ())))) (b.length) 0 ()) (fun r => some r) (fun (_ : Unit) => some true)
noncomputable def slices_Clone_int_p (b : (List Int)) : Option ((List Int)) :=
  (app 8 [] b).bind fun a =>
  some a
noncomputable def temporal_after_p (h : Temporal) (o : (List Int)) (g : (List temporal_happening)) : Option ((List Int)) :=
  (slices_Clone_int_p o).bind <| fun (q : (List Int)) =>
  (forS (fun j => fun (c : (List Int)) => (idx [true, false] (j : Int)).bind fun p =>
  (forS (fun k => fun (d : (List Int)) => (forS (fun l => fun (a : (List Int)) => (idx g (l : Int)).bind fun e =>
  if ((!decide (e.job = (k : Int))) || !(e.end_ == p)) then (some a)
  else ((temporal_writes_p h e).bind <| fun (i : (List Fact)) =>
  (forS (fun m => fun (b : (List Int)) => (idx i (m : Int)).bind fun f =>
  (idx b f.Var).bind fun r =>
  (setI b f.Var f.Val).bind fun n =>
  some n) (i.length) 0 a).bind (fun (b : (List Int)) => some b))) (g.length) 0 d).bind (fun (a : (List Int)) => some a)) (h.Jobs.length) 0 c).bind (fun (d : (List Int)) => some d)) ([true, false].length) 0 q).bind (fun (c : (List Int)) => some c)
noncomputable def temporal_tick_p (b : Temporal) (e : (List Launch)) (c : Int) (g : (List Int)) (a : (List temporal_happening)) : Option ((List Int) × (Option Int)) :=
  (temporal_overlaps_p b e c).bind <| fun (p : Bool) =>
  if p then (some ([], some 18))
  else (ctl (forC (R := ((List Int) × (Option Int))) (fun d => fun (_ : Unit) => (must (decide ((d : Int) ≤ 9223372036854775807))).bind fun x =>
  ctl (forC (R := ((List Int) × (Option Int))) (fun i => fun (_ : Unit) => (idx a (d : Int)).bind fun l =>
  (idx a (i : Int)).bind fun m =>
  (temporal_interfere_p b l m).bind <| fun (q : Bool) =>
  if q then (some (Ctl.ret ([], some 17)))
  else (some (Ctl.next ()))) ((d : Int).toNat) 0 ()) (fun r => some (Ctl.ret r)) (fun (_ : Unit) => some (Ctl.next ()))) (a.length) 0 ()) (fun r => some r) (fun (_ : Unit) => ctl (forC (R := ((List Int) × (Option Int))) (fun j => fun (_ : Unit) => (idx a (j : Int)).bind fun n =>
  (temporal_reads_p b n).bind <| fun (s : (List Fact)) =>
  (task_Holds_p s g).bind <| fun (t : Bool) =>
  if !t then (some (Ctl.ret ([], some 12)))
  else (some (Ctl.next ()))) (a.length) 0 ()) (fun r => some r) (fun (_ : Unit) => (temporal_after_p b g a).bind <| fun (h : (List Int)) =>
  ctl (forC (R := ((List Int) × (Option Int))) (fun k => fun (_ : Unit) => (idx e (k : Int)).bind fun f =>
  (if decide (f.At ≤ c) then ((temporal_end_p b f).bind <| fun (u : Int) =>
  if decide (c < u) then ((idx b.Jobs f.Job).bind fun o =>
  (task_Holds_p o.Over h).bind <| fun (v : Bool) =>
  some (!v))
  else (some false))
  else (some false)).bind (fun (w : Bool) => if w then (some (Ctl.ret ([], some 16)))
  else (some (Ctl.next ())))) (e.length) 0 ()) (fun r => some r) (fun (_ : Unit) => some (h, none)))))
noncomputable def temporal_makespan_p (d : Temporal) (b : (List Launch)) : Option (Int) :=
  (forS (fun c => fun (a : Int) => (idx b (c : Int)).bind fun e =>
  (temporal_end_p d e).bind <| fun (f : Int) =>
  some (max a f)) (b.length) 0 0).bind (fun (a : Int) => some a)
noncomputable def temporal_Validate_p (a : Temporal) (b : (List Launch)) : Option (Int × (Option Int)) :=
  (temporal_accept_p a b).bind <| fun (d : (Option Int)) =>
  if d.isSome then (some (0, d))
  else ((temporal_happenings_p a b).bind <| un2 fun (k : (List (Int × (List temporal_happening)))) (e : (List Int)) =>
  ctl (forC (R := (Int × (Option Int))) (fun g => fun (i : (List Int)) => (idx e (g : Int)).bind fun c =>
  (hmapGet k c).bind fun h =>
  (temporal_tick_p a b c i h).bind <| un2 fun (l : (List Int)) (f : (Option Int)) =>
  if f.isSome then (some (Ctl.ret (0, f)))
  else (some (Ctl.next l))) (e.length) 0 a.Init) (fun r => some r) (fun (j : (List Int)) => (task_Holds_p a.Goal j).bind <| fun (m : Bool) =>
  if !m then (some (0, some 13))
  else ((temporal_makespan_p a b).bind <| fun (n : Int) =>
  some (n, none))))
noncomputable def slices_Clone_apiLaunch_p (b : (List Launch)) : Option ((List Launch)) :=
  (app 16 [] b).bind fun a =>
  some a
noncomputable def cmp_isNaN_int_p (a : Int) : Option (Bool) :=
  some (!decide (a = a))
def cmp_isNaN_int_t (a : Int) : Bool :=
  (!decide (a = a))
theorem cmp_isNaN_int_tot (a : Int) : cmp_isNaN_int_p a = some (cmp_isNaN_int_t a) := by
  unfold cmp_isNaN_int_p cmp_isNaN_int_t
  (repeat' split) <;> rfl
attribute [irreducible] cmp_isNaN_int_t
noncomputable def cmp_Compare_int_p (b : Int) (a : Int) : Option (Int) :=
  if (cmp_isNaN_int_t b) then (if (cmp_isNaN_int_t a) then (some 0)
  else (some (-1)))
  else (if (cmp_isNaN_int_t a) then (some 1)
  else (if decide (b < a) then (some (-1))
  else (if decide (a < b) then (some 1)
  else (some 0))))
def cmp_Compare_int_t (b : Int) (a : Int) : Int :=
  if (cmp_isNaN_int_t b) then (if (cmp_isNaN_int_t a) then (0)
  else ((-1)))
  else (if (cmp_isNaN_int_t a) then (1)
  else (if decide (b < a) then ((-1))
  else (if decide (a < b) then (1)
  else (0))))
theorem cmp_Compare_int_tot (a : Int) (b : Int) : cmp_Compare_int_p a b = some (cmp_Compare_int_t a b) := by
  unfold cmp_Compare_int_p cmp_Compare_int_t
  (repeat' split) <;> rfl
attribute [irreducible] cmp_Compare_int_t
noncomputable def cmp_Or_int_p (a : (List Int)) : Option (Int) :=
  ctl (forC (R := (Int)) (fun c => fun (_ : Unit) => (idx a (c : Int)).bind fun b =>
  if !decide (b = 0) then (some (Ctl.ret b))
  else (some (Ctl.next ()))) (a.length) 0 ()) (fun r => some r) (fun (_ : Unit) => some 0)
noncomputable def schedule_read_c1_p (a : Launch) (b : Launch) : Option (Int) :=
  (cmp_Or_int_p [(cmp_Compare_int_t a.At b.At), (cmp_Compare_int_t a.Job b.Job)]).bind <| fun (c : Int) =>
  some c
def cmpL (a b : Launch) : Int := if cmpI a.At b.At ≠ 0 then cmpI a.At b.At else cmpI a.Job b.Job
noncomputable def sortLaunch_p (xs : List Launch) : Option (List Launch) := if xs.length < 4611686018427387904 then some (xs.mergeSort fun x y => !decide (cmpL y x < 0)) else none
noncomputable def schedule_start_p (a : Int) : Option (Int) :=
  some (IntKind.i64.wrap ((IntKind.i64.wrap (2 * a)) + 1))
def schedule_start_t (a : Int) : Int :=
  (IntKind.i64.wrap ((IntKind.i64.wrap (2 * a)) + 1))
theorem schedule_start_tot (a : Int) : schedule_start_p a = some (schedule_start_t a) := by
  unfold schedule_start_p schedule_start_t
  (repeat' split) <;> rfl
attribute [irreducible] schedule_start_t
structure schedule_happening where
  point : Int
  at_ : Int
  job : Int
  end_ : Bool
def encschedule_happening : Enc schedule_happening := Enc.iso ((encInt .i64).pair ((encInt .i64).pair ((encInt .i64).pair encBool))) (fun b => (b.point, b.at_, b.job, b.end_))
theorem encschedule_happening_val {s : PHeap} {v : Value} {b : schedule_happening} : encschedule_happening.val s v b ↔ v = .agg #[.int .i64 (b.point), .int .i64 (b.at_), .int .i64 (b.job), .bool (b.end_)] := by
  simp only [Enc.iso, Enc.pair, Enc.val, encBool, encInt, encschedule_happening, if_true, oneCell]
  constructor
  · rintro ⟨cs, rfl, h⟩
    obtain ⟨cs⟩ := cs
    simp only [] at h
    obtain ⟨_, _, rfl, rfl, ⟨_, _, rfl, rfl, ⟨_, _, rfl, rfl, rfl⟩⟩⟩ := h
    rfl
  · rintro rfl
    exact ⟨_, rfl, ⟨[.int .i64 (b.point)], [.int .i64 (b.at_), .int .i64 (b.job), .bool (b.end_)], rfl, rfl, ⟨[.int .i64 (b.at_)], [.int .i64 (b.job), .bool (b.end_)], rfl, rfl, ⟨[.int .i64 (b.job)], [.bool (b.end_)], rfl, rfl, rfl⟩⟩⟩⟩
noncomputable def schedule_end_p (a : Int) : Option (Int) :=
  some (IntKind.i64.wrap ((IntKind.i64.wrap (2 * a)) + 2))
def schedule_end_t (a : Int) : Int :=
  (IntKind.i64.wrap ((IntKind.i64.wrap (2 * a)) + 2))
theorem schedule_end_tot (a : Int) : schedule_end_p a = some (schedule_end_t a) := by
  unfold schedule_end_p schedule_end_t
  (repeat' split) <;> rfl
attribute [irreducible] schedule_end_t
structure schedule_plan where
  t : Temporal
  launches : (List Launch)
  starts : (List schedule_happening)
  ends : (List schedule_happening)
noncomputable def schedule_read_p (e : Temporal) (d : (List Launch)) : Option ((Option schedule_plan) × (Option Int)) :=
  (temporal_Validate_p e d).bind <| un2 fun (m : Int) (h : (Option Int)) =>
  if h.isSome then (some (none, h))
  else (if decide (63 < (d.length : Int)) then (some (none, some 5))
  else ((slices_Clone_apiLaunch_p d).bind <| fun (l : (List Launch)) =>
  (sortLaunch_p l).bind <| fun (c : (List Launch)) =>
  (forS (fun b => un2 fun (f : (List schedule_happening)) (g : (List schedule_happening)) => (idx c (b : Int)).bind fun a =>
  (app 32 f [(⟨(schedule_start_t (b : Int)), a.At, a.Job, false⟩ : schedule_happening)]).bind fun i =>
  (idx e.Jobs a.Job).bind fun k =>
  (app 32 g [(⟨(schedule_end_t (b : Int)), IntKind.i64.wrap (a.At + k.Duration), a.Job, true⟩ : schedule_happening)]).bind fun j =>
  some (i, j)) (c.length) 0 ([], [])).bind (un2 fun (f : (List schedule_happening)) (g : (List schedule_happening)) => some (some (⟨e, c, f, g⟩ : schedule_plan), none))))
structure Arr2_schedulehappening where
  a0 : schedule_happening
  a1 : schedule_happening
def encArr2_schedulehappening : Enc Arr2_schedulehappening := Enc.iso (encschedule_happening.pair encschedule_happening) (fun b => (b.a0, b.a1))
theorem encArr2_schedulehappening_val {s : PHeap} {v : Value} {b : Arr2_schedulehappening} : encArr2_schedulehappening.val s v b ↔ v = .agg #[.int .i64 (b.a0.point), .int .i64 (b.a0.at_), .int .i64 (b.a0.job), .bool (b.a0.end_), .int .i64 (b.a1.point), .int .i64 (b.a1.at_), .int .i64 (b.a1.job), .bool (b.a1.end_)] := by
  simp only [Enc.iso, Enc.pair, Enc.val, encArr2_schedulehappening, encBool, encInt, encschedule_happening, if_true, oneCell]
  constructor
  · rintro ⟨cs, rfl, h⟩
    obtain ⟨cs⟩ := cs
    simp only [] at h
    obtain ⟨_, _, rfl, ⟨_, _, rfl, rfl, ⟨_, _, rfl, rfl, ⟨_, _, rfl, rfl, rfl⟩⟩⟩, ⟨_, _, rfl, rfl, ⟨_, _, rfl, rfl, ⟨_, _, rfl, rfl, rfl⟩⟩⟩⟩ := h
    rfl
  · rintro rfl
    exact ⟨_, rfl, ⟨[.int .i64 (b.a0.point), .int .i64 (b.a0.at_), .int .i64 (b.a0.job), .bool (b.a0.end_)], [.int .i64 (b.a1.point), .int .i64 (b.a1.at_), .int .i64 (b.a1.job), .bool (b.a1.end_)], rfl, ⟨[.int .i64 (b.a0.point)], [.int .i64 (b.a0.at_), .int .i64 (b.a0.job), .bool (b.a0.end_)], rfl, rfl, ⟨[.int .i64 (b.a0.at_)], [.int .i64 (b.a0.job), .bool (b.a0.end_)], rfl, rfl, ⟨[.int .i64 (b.a0.job)], [.bool (b.a0.end_)], rfl, rfl, rfl⟩⟩⟩, ⟨[.int .i64 (b.a1.point)], [.int .i64 (b.a1.at_), .int .i64 (b.a1.job), .bool (b.a1.end_)], rfl, rfl, ⟨[.int .i64 (b.a1.at_)], [.int .i64 (b.a1.job), .bool (b.a1.end_)], rfl, rfl, ⟨[.int .i64 (b.a1.job)], [.bool (b.a1.end_)], rfl, rfl, rfl⟩⟩⟩⟩⟩
noncomputable def temporal_Interfere_p (a : Temporal) (b : Int) (c : Int) (e : Bool) (f : Bool) : Option (Bool × (Option Int)) :=
  (temporal_Check_p a).bind <| fun (d : (Option Int)) =>
  if d.isSome then (some (false, d))
  else (if ((decide (b < 0)) || ((decide ((a.Jobs.length : Int) ≤ b)) || ((decide (c < 0)) || decide ((a.Jobs.length : Int) ≤ c)))) then (some (false, some 1))
  else ((temporal_interfere_p a (⟨b, e⟩ : temporal_happening) (⟨c, f⟩ : temporal_happening)).bind <| fun (g : Bool) =>
  some (g, none)))
structure Bound where
  A : Int
  B : Int
  Most : Int
def encBound : Enc Bound := Enc.iso ((encInt .i64).pair ((encInt .i64).pair (encInt .i64))) (fun b => (b.A, b.B, b.Most))
theorem encBound_val {s : PHeap} {v : Value} {b : Bound} : encBound.val s v b ↔ v = .agg #[.int .i64 (b.A), .int .i64 (b.B), .int .i64 (b.Most)] := by
  simp only [Enc.iso, Enc.pair, Enc.val, encBound, encInt, if_true, oneCell]
  constructor
  · rintro ⟨cs, rfl, h⟩
    obtain ⟨cs⟩ := cs
    simp only [] at h
    obtain ⟨_, _, rfl, rfl, ⟨_, _, rfl, rfl, rfl⟩⟩ := h
    rfl
  · rintro rfl
    exact ⟨_, rfl, ⟨[.int .i64 (b.A)], [.int .i64 (b.B), .int .i64 (b.Most)], rfl, rfl, ⟨[.int .i64 (b.B)], [.int .i64 (b.Most)], rfl, rfl, rfl⟩⟩⟩
noncomputable def schedule_after_p (c : Int) (b : Int) (a : Int) : Option (Bound) :=
  some (⟨c, b, IntKind.i64.wrap (0 - a)⟩ : Bound)
def schedule_after_t (c : Int) (b : Int) (a : Int) : Bound :=
  (⟨c, b, IntKind.i64.wrap (0 - a)⟩ : Bound)
theorem schedule_after_tot (c : Int) (b : Int) (a : Int) : schedule_after_p c b a = some (schedule_after_t c b a) := by
  unfold schedule_after_p schedule_after_t
  (repeat' split) <;> rfl
attribute [irreducible] schedule_after_t
noncomputable def schedule_plan_orders_p (b : schedule_plan) : Option ((List Bound) × (Option Int)) :=
  ctl (forC (R := ((List Bound) × (Option Int))) (fun h => fun (s : (List Bound)) => ctl (whileC (R := ((List Bound) × (Option Int))) (un2 fun (c : Int) (j : (List Bound)) => if decide (c < (b.launches.length : Int)) then ((idx b.starts (h : Int)).bind fun d =>
  (idx b.starts c).bind fun e =>
  (idx b.ends c).bind fun f =>
  (idx b.ends (h : Int)).bind fun g =>
  ctl (forC (R := ((List Bound) × (Option Int))) (fun l => fun (i : (List Bound)) => (idx [(⟨d, e⟩ : Arr2_schedulehappening), (⟨d, f⟩ : Arr2_schedulehappening), (⟨g, e⟩ : Arr2_schedulehappening), (⟨g, f⟩ : Arr2_schedulehappening)] (l : Int)).bind fun a =>
  (temporal_Interfere_p b.t a.a0.job a.a1.job a.a0.end_ a.a1.end_).bind <| un2 fun (v : Bool) (k : (Option Int)) =>
  if k.isSome then (some (Ctl.ret ([], k)))
  else (if !v then (some (Ctl.next i))
  else ((if decide (a.a0.at_ < a.a1.at_) then ((app 24 i [(schedule_after_t a.a1.point a.a0.point 1)]).bind fun m =>
  some m)
  else ((app 24 i [(schedule_after_t a.a0.point a.a1.point 1)]).bind fun n =>
  some n)).bind (fun (o : (List Bound)) => some (Ctl.next o))))) ([(⟨d, e⟩ : Arr2_schedulehappening), (⟨d, f⟩ : Arr2_schedulehappening), (⟨g, e⟩ : Arr2_schedulehappening), (⟨g, f⟩ : Arr2_schedulehappening)].length) 0 j) (fun r => some (Ctl.ret r)) (fun (p : (List Bound)) => some (Ctl.next (IntKind.i64.wrap (c + 1), p))))
  else (some (Ctl.brk (c, j)))) (IntKind.i64.wrap ((h : Int) + 1), s)) (fun r => some (Ctl.ret r)) (un2 fun (w : Int) (q : (List Bound)) => some (Ctl.next q))) (b.launches.length) 0 []) (fun r => some r) (fun (u : (List Bound)) => some (u, none))
noncomputable def schedule_plan_durations_p (c : schedule_plan) : Option ((List Bound)) :=
  (forS (fun a => fun (b : (List Bound)) => (idx c.launches (a : Int)).bind fun f =>
  (idx c.t.Jobs f.Job).bind fun d =>
  (app 24 b [(schedule_after_t (schedule_start_t (a : Int)) 0 0), (schedule_after_t (schedule_end_t (a : Int)) (schedule_start_t (a : Int)) d.Duration), (⟨(schedule_start_t (a : Int)), (schedule_end_t (a : Int)), d.Duration⟩ : Bound)]).bind fun e =>
  some e) (c.launches.length) 0 []).bind (fun (b : (List Bound)) => some b)
noncomputable def schedule_plan_writes_c1_c1_p (b : Fact) (a : Fact) : Option (Bool) :=
  some (decide (a.Var = b.Var))
def schedule_plan_writes_c1_c1_t (b : Fact) (a : Fact) : Bool :=
  (decide (a.Var = b.Var))
theorem schedule_plan_writes_c1_c1_tot (b : Fact) (a : Fact) : schedule_plan_writes_c1_c1_p b a = some (schedule_plan_writes_c1_c1_t b a) := by
  unfold schedule_plan_writes_c1_c1_p schedule_plan_writes_c1_c1_t
  (repeat' split) <;> rfl
attribute [irreducible] schedule_plan_writes_c1_c1_t
noncomputable def slices_IndexFunc_apiFact_writes_c1_c1_p (b : (List Fact)) (c : Fact) : Option (Int) :=
  ctl (forC (R := (Int)) (fun a => fun (_ : Unit) => (idx b (a : Int)).bind fun d =>
  if (schedule_plan_writes_c1_c1_t d c) then (some (Ctl.ret (a : Int)))
  else (some (Ctl.next ()))) (b.length) 0 ()) (fun r => some r) (fun (_ : Unit) => some (-1))
noncomputable def slices_ContainsFunc_apiFact_writes_c1_c1_p (b : (List Fact)) (a : Fact) : Option (Bool) :=
  (slices_IndexFunc_apiFact_writes_c1_c1_p b a).bind <| fun (c : Int) =>
  some (decide (0 ≤ c))
noncomputable def schedule_plan_writes_c1_p (b : Fact) (a : (List Fact)) : Option (Bool) :=
  (slices_ContainsFunc_apiFact_writes_c1_c1_p a b).bind <| fun (c : Bool) =>
  some c
noncomputable def slices_IndexFunc_apiFact_writes_c1_p (b : (List Fact)) (c : (List Fact)) : Option (Int) :=
  ctl (forC (R := (Int)) (fun a => fun (_ : Unit) => (idx b (a : Int)).bind fun d =>
  (schedule_plan_writes_c1_p d c).bind <| fun (e : Bool) =>
  if e then (some (Ctl.ret (a : Int)))
  else (some (Ctl.next ()))) (b.length) 0 ()) (fun r => some r) (fun (_ : Unit) => some (-1))
noncomputable def slices_ContainsFunc_apiFact_writes_c1_p (b : (List Fact)) (a : (List Fact)) : Option (Bool) :=
  (slices_IndexFunc_apiFact_writes_c1_p b a).bind <| fun (c : Int) =>
  some (decide (0 ≤ c))
noncomputable def schedule_plan_writes_p (e : schedule_plan) (a : schedule_happening) (d : (List Fact)) : Option (Bool) :=
  (idx e.t.Jobs a.job).bind fun b =>
  (if a.end_ then (some b.AtEnd)
  else (some b.AtStart)).bind (fun (c : (List Fact)) => (slices_ContainsFunc_apiFact_writes_c1_p c d).bind <| fun (f : Bool) =>
  some f)
noncomputable def schedule_plan_overs_p (a : schedule_plan) : Option ((List Bound)) :=
  (forS (fun b => fun (g : (List Bound)) => (idx a.launches (b : Int)).bind fun p =>
  (forS (fun f => fun (e : (List Bound)) => if decide ((f : Int) = (b : Int)) then (some e)
  else ((idx a.starts (f : Int)).bind fun h =>
  (idx a.ends (f : Int)).bind fun i =>
  (forS (fun j => fun (c : (List Bound)) => (idx [h, i] (j : Int)).bind fun d =>
  (idx a.t.Jobs p.Job).bind fun q =>
  (schedule_plan_writes_p a d q.Over).bind <| fun (u : Bool) =>
  (if !u then (some c)
  else ((idx a.starts (b : Int)).bind fun r =>
  (if decide (d.at_ ≤ r.at_) then ((app 24 c [(schedule_after_t (schedule_start_t (b : Int)) d.point 0)]).bind fun k =>
  some k)
  else ((idx a.ends (b : Int)).bind fun s =>
  (if decide (s.at_ ≤ d.at_) then ((app 24 c [(schedule_after_t d.point (schedule_end_t (b : Int)) 0)]).bind fun l =>
  some l)
  else (some c)).bind (fun (m : (List Bound)) => some m))).bind (fun (n : (List Bound)) => some n))).bind (fun (o : (List Bound)) => some o)) ([h, i].length) 0 e).bind (fun (c : (List Bound)) => some c))) (a.launches.length) 0 g).bind (fun (e : (List Bound)) => some e)) (a.launches.length) 0 []).bind (fun (g : (List Bound)) => some g)
noncomputable def schedule_plan_repeats_p (b : schedule_plan) : Option ((List Bound)) :=
  (forS (fun c => fun (e : (List Bound)) => (idx b.launches (c : Int)).bind fun h =>
  ctl (whileC (R := ((List Bound))) (un2 fun (a : Int) (d : (List Bound)) => if decide (a < (b.launches.length : Int)) then ((idx b.launches a).bind fun i =>
  if decide (i.Job = h.Job) then ((app 24 d [(schedule_after_t (schedule_start_t a) (schedule_end_t (c : Int)) 1)]).bind fun f =>
  some (Ctl.brk (a, f)))
  else (some (Ctl.next (IntKind.i64.wrap (a + 1), d))))
  else (some (Ctl.brk (a, d)))) (IntKind.i64.wrap ((c : Int) + 1), e)) (fun r => none) (un2 fun (j : Int) (g : (List Bound)) => some g)) (b.launches.length) 0 []).bind (fun (e : (List Bound)) => some e)
noncomputable def schedule_plan_bounds_p (a : schedule_plan) : Option ((List Bound) × (Option Int)) :=
  (schedule_plan_orders_p a).bind <| un2 fun (f : (List Bound)) (b : (Option Int)) =>
  if b.isSome then (some ([], b))
  else ((schedule_plan_durations_p a).bind <| fun (g : (List Bound)) =>
  (app 24 g f).bind fun c =>
  (schedule_plan_overs_p a).bind <| fun (h : (List Bound)) =>
  (app 24 c h).bind fun d =>
  (schedule_plan_repeats_p a).bind <| fun (i : (List Bound)) =>
  (app 24 d i).bind fun e =>
  some (e, none))
structure stn_Network where
  d : (List (List Int))
noncomputable def stn_New_p (b : Int) : Option ((Option stn_Network) × (Option Int)) :=
  if ((decide (b < 1)) || decide (128 < b)) then (some (none, some 1))
  else ((must (decide (b ≤ 9223372036854775807))).bind fun j =>
  (forS (fun f => fun (d : (List (List Int))) => (mk 8 0 b).bind fun e =>
  (forS (fun c => fun (a : (List Int)) => (if !decide ((c : Int) = (f : Int)) then ((idx a (c : Int)).bind fun k =>
  (setI a (c : Int) 1125899906842624).bind fun g =>
  some g)
  else (some a)).bind (fun (h : (List Int)) => some h)) (e.length) 0 e).bind (fun (a : (List Int)) => (app 24 d [a]).bind fun i =>
  some i)) (b.toNat) 0 []).bind (fun (d : (List (List Int))) => some (some (⟨d⟩ : stn_Network), none)))
noncomputable def stn_Network_point_p (b : stn_Network) (a : Int) : Option (Bool) :=
  some ((decide (0 ≤ a)) && decide (a < (b.d.length : Int)))
def stn_Network_point_t (b : stn_Network) (a : Int) : Bool :=
  ((decide (0 ≤ a)) && decide (a < (b.d.length : Int)))
theorem stn_Network_point_tot (a : stn_Network) (b : Int) : stn_Network_point_p a b = some (stn_Network_point_t a b) := by
  unfold stn_Network_point_p stn_Network_point_t
  (repeat' split) <;> rfl
attribute [irreducible] stn_Network_point_t
noncomputable def stn_Network_Add_p (b : stn_Network) (a : Bound) : Option ((Option Int) × (List (List Int))) :=
  (if !(stn_Network_point_t b a.A) then (some true)
  else (if !(stn_Network_point_t b a.B) then (some true)
  else (if decide (a.Most < (-1099511627776)) then (some true)
  else (some (decide (1099511627776 < a.Most)))))).bind (fun (u : Bool) => if u then (some (some 1, b.d))
  else ((idx b.d a.B).bind fun o =>
  (idx o a.A).bind fun j =>
  if ((decide (j < 1125899906842624)) && decide ((IntKind.i64.wrap (j + a.Most)) < 0)) then (some (some 21, b.d))
  else ((forS (fun f => fun (c : (List (List Int))) => (idx c (f : Int)).bind fun p =>
  (idx p a.A).bind fun r =>
  if decide (1125899906842624 ≤ r) then (some c)
  else ((idx c a.B).bind fun i =>
  (must (decide (i.length ≤ 9223372036854775807))).bind fun v =>
  (forS (fun g => fun (e : (List (List Int))) => (idx e a.B).bind fun q =>
  (idx q (g : Int)).bind fun k =>
  (if decide (k < 1125899906842624) then ((idx e (f : Int)).bind fun h =>
  (idx h (g : Int)).bind fun s =>
  (idx h a.A).bind fun t =>
  (setI h (g : Int) (min s (IntKind.i64.wrap ((IntKind.i64.wrap (t + a.Most)) + k)))).bind fun l =>
  (setI e (f : Int) l).bind fun m =>
  some m)
  else (some e)).bind (fun (n : (List (List Int))) => some n)) (i.length) 0 c).bind (fun (e : (List (List Int))) => some e))) (b.d.length) 0 b.d).bind (fun (c : (List (List Int))) => some (none, c)))))
noncomputable def stn_Network_Add_nil_p (a : Bound) : Option ((Option Int)) :=
  some (some 3)
def stn_Network_Add_nil_t (a : Bound) : (Option Int) :=
  (some 3)
theorem stn_Network_Add_nil_tot (a : Bound) : stn_Network_Add_nil_p a = some (stn_Network_Add_nil_t a) := by
  unfold stn_Network_Add_nil_p stn_Network_Add_nil_t
  (repeat' split) <;> rfl
attribute [irreducible] stn_Network_Add_nil_t
noncomputable def schedule_plan_network_p (c : schedule_plan) : Option ((Option stn_Network) × (Option Int)) :=
  (schedule_plan_bounds_p c).bind <| un2 fun (a : (List Bound)) (f : (Option Int)) =>
  if f.isSome then (some (none, f))
  else ((stn_New_p (IntKind.i64.wrap ((IntKind.i64.wrap (2 * (c.launches.length : Int))) + 1))).bind <| un2 fun (n : (Option stn_Network)) (b : (Option Int)) =>
  optC n (if b.isSome then (some (none, b))
  else (ctl (forC (R := ((Option stn_Network) × (Option Int))) (fun i => fun (_ : Unit) => (idx a (i : Int)).bind fun e =>
  if (stn_Network_Add_nil_t e).isSome then (some (Ctl.ret (none, (stn_Network_Add_nil_t e))))
  else (some (Ctl.next ()))) (a.length) 0 ()) (fun r => some r) (fun (_ : Unit) => some (none, none)))) (fun h => if b.isSome then (some (none, b))
  else (ctl (forC (R := ((Option stn_Network) × (Option Int))) (fun j => fun (k : (List (List Int))) => (idx a (j : Int)).bind fun o =>
  (stn_Network_Add_p (⟨k⟩ : stn_Network) o).bind <| un2 fun (g : (Option Int)) (l : (List (List Int))) =>
  if g.isSome then (some (Ctl.ret (none, g)))
  else (some (Ctl.next l))) (a.length) 0 h.d) (fun r => some r) (fun (m : (List (List Int))) => some (some (⟨m⟩ : stn_Network), none)))))
noncomputable def stn_Network_Distance_p (a : stn_Network) (b : Int) (c : Int) : Option (Int × (Option Int)) :=
  if ((!(stn_Network_point_t a b)) || !(stn_Network_point_t a c)) then (some (0, some 1))
  else ((idx a.d b).bind fun e =>
  (idx e c).bind fun f =>
  some (f, none))
noncomputable def stn_Network_Earliest_p (c : stn_Network) (d : Int) : Option (Int × (Option Int)) :=
  (stn_Network_Distance_p c d 0).bind <| un2 fun (a : Int) (b : (Option Int)) =>
  if b.isSome then (some (0, b))
  else (if decide (1125899906842624 ≤ a) then (some (0, some 3))
  else (some (IntKind.i64.wrap (0 - a), none)))
noncomputable def schedule_plan_shift_p (b : schedule_plan) (e : stn_Network) : Option ((List Launch) × (Option Int)) :=
  ctl (forC (R := ((List Launch) × (Option Int))) (fun a => fun (f : (List Launch)) => (idx b.launches (a : Int)).bind fun h =>
  (stn_Network_Earliest_p e (schedule_start_t (a : Int))).bind <| un2 fun (i : Int) (c : (Option Int)) =>
  if c.isSome then (some (Ctl.ret ([], c)))
  else ((app 16 f [(⟨i, h.Job⟩ : Launch)]).bind fun d =>
  some (Ctl.next d))) (b.launches.length) 0 []) (fun r => some r) (fun (g : (List Launch)) => some (g, none))
noncomputable def stn_Network_Distance_nil_p (a : Int) (b : Int) : Option (Int × (Option Int)) :=
  some (0, some 3)
def stn_Network_Distance_nil_t (a : Int) (b : Int) : Int × (Option Int) :=
  (0, some 3)
theorem stn_Network_Distance_nil_tot (a : Int) (b : Int) : stn_Network_Distance_nil_p a b = some (stn_Network_Distance_nil_t a b) := by
  unfold stn_Network_Distance_nil_p stn_Network_Distance_nil_t
  (repeat' split) <;> rfl
attribute [irreducible] stn_Network_Distance_nil_t
noncomputable def stn_Network_Earliest_nil_p (a : Int) : Option (Int × (Option Int)) :=
  if ((stn_Network_Distance_nil_t a 0).2).isSome then (some (0, (stn_Network_Distance_nil_t a 0).2))
  else (if decide (1125899906842624 ≤ ((stn_Network_Distance_nil_t a 0).1)) then (some (0, some 3))
  else (some (IntKind.i64.wrap (0 - ((stn_Network_Distance_nil_t a 0).1)), none)))
def stn_Network_Earliest_nil_t (a : Int) : Int × (Option Int) :=
  if ((stn_Network_Distance_nil_t a 0).2).isSome then ((0, (stn_Network_Distance_nil_t a 0).2))
  else (if decide (1125899906842624 ≤ ((stn_Network_Distance_nil_t a 0).1)) then ((0, some 3))
  else ((IntKind.i64.wrap (0 - ((stn_Network_Distance_nil_t a 0).1)), none)))
theorem stn_Network_Earliest_nil_tot (a : Int) : stn_Network_Earliest_nil_p a = some (stn_Network_Earliest_nil_t a) := by
  unfold stn_Network_Earliest_nil_p stn_Network_Earliest_nil_t
  (repeat' split) <;> rfl
attribute [irreducible] stn_Network_Earliest_nil_t
noncomputable def schedule_plan_shift_nil_p (b : schedule_plan) : Option ((List Launch) × (Option Int)) :=
  ctl (forC (R := ((List Launch) × (Option Int))) (fun a => fun (d : (List Launch)) => (idx b.launches (a : Int)).bind fun f =>
  if ((stn_Network_Earliest_nil_t (schedule_start_t (a : Int))).2).isSome then (some (Ctl.ret ([], (stn_Network_Earliest_nil_t (schedule_start_t (a : Int))).2)))
  else ((app 16 d [(⟨(stn_Network_Earliest_nil_t (schedule_start_t (a : Int))).1, f.Job⟩ : Launch)]).bind fun c =>
  some (Ctl.next c))) (b.launches.length) 0 []) (fun r => some r) (fun (e : (List Launch)) => some (e, none))
noncomputable def schedule_Shift_p (h : Temporal) (e : (List Launch)) : Option ((List Launch) × (Option Int)) :=
  (schedule_read_p h e).bind <| un2 fun (f : (Option schedule_plan)) (a : (Option Int)) =>
  optC f (if a.isSome then (some ([], a))
  else (none)) (fun c => if a.isSome then (some ([], a))
  else ((schedule_plan_network_p c).bind <| un2 fun (g : (Option stn_Network)) (b : (Option Int)) =>
  optC g (if b.isSome then (some ([], b))
  else ((schedule_plan_shift_nil_p c).bind <| un2 fun (i : (List Launch)) (j : (Option Int)) =>
  some (i, j))) (fun d => if b.isSome then (some ([], b))
  else ((schedule_plan_shift_p c d).bind <| un2 fun (k : (List Launch)) (l : (Option Int)) =>
  some (k, l)))))
noncomputable def stn_Network_Latest_p (c : stn_Network) (d : Int) : Option (Int × (Option Int)) :=
  (stn_Network_Distance_p c 0 d).bind <| un2 fun (a : Int) (b : (Option Int)) =>
  if b.isSome then (some (0, b))
  else (if decide (1125899906842624 ≤ a) then (some (0, some 3))
  else (some (a, none)))
noncomputable def stn_Network_Latest_nil_p (a : Int) : Option (Int × (Option Int)) :=
  if ((stn_Network_Distance_nil_t 0 a).2).isSome then (some (0, (stn_Network_Distance_nil_t 0 a).2))
  else (if decide (1125899906842624 ≤ ((stn_Network_Distance_nil_t 0 a).1)) then (some (0, some 3))
  else (some ((stn_Network_Distance_nil_t 0 a).1, none)))
def stn_Network_Latest_nil_t (a : Int) : Int × (Option Int) :=
  if ((stn_Network_Distance_nil_t 0 a).2).isSome then ((0, (stn_Network_Distance_nil_t 0 a).2))
  else (if decide (1125899906842624 ≤ ((stn_Network_Distance_nil_t 0 a).1)) then ((0, some 3))
  else (((stn_Network_Distance_nil_t 0 a).1, none)))
theorem stn_Network_Latest_nil_tot (a : Int) : stn_Network_Latest_nil_p a = some (stn_Network_Latest_nil_t a) := by
  unfold stn_Network_Latest_nil_p stn_Network_Latest_nil_t
  (repeat' split) <;> rfl
attribute [irreducible] stn_Network_Latest_nil_t
noncomputable def schedule_Slack_p (j : Temporal) (ac : (List Launch)) : Option ((List Int) × (Option Int)) :=
  (schedule_read_p j ac).bind <| un2 fun (ah : (Option schedule_plan)) (f : (Option Int)) =>
  optC ah (if f.isSome then (some ([], f))
  else (none)) (fun h => if f.isSome then (some ([], f))
  else ((schedule_plan_network_p h).bind <| un2 fun (ai : (Option stn_Network)) (g : (Option Int)) =>
  optC ai (if g.isSome then (some ([], g))
  else ((schedule_plan_shift_nil_p h).bind <| un2 fun (a : (List Launch)) (p : (Option Int)) =>
  if p.isSome then (some ([], p))
  else ((forS (fun u => fun (e : Int) => (idx a (u : Int)).bind fun n =>
  (idx j.Jobs n.Job).bind fun aj =>
  some (max e (IntKind.i64.wrap (n.At + aj.Duration)))) (a.length) 0 0).bind (fun (e : Int) => ctl (forC (R := ((List Int) × (Option Int))) (fun l => fun (_ : Unit) => if (stn_Network_Add_nil_t (⟨0, (schedule_end_t (l : Int)), e⟩ : Bound)).isSome then (some (Ctl.ret ([], (stn_Network_Add_nil_t (⟨0, (schedule_end_t (l : Int)), e⟩ : Bound)))))
  else (some (Ctl.next ()))) (a.length) 0 ()) (fun r => some r) (fun (_ : Unit) => ctl (forC (R := ((List Int) × (Option Int))) (fun c => fun (ad : (List Int)) => (idx a (c : Int)).bind fun ak =>
  if ((stn_Network_Latest_nil_t (schedule_start_t (c : Int))).2).isSome then (some (Ctl.ret ([], (stn_Network_Latest_nil_t (schedule_start_t (c : Int))).2)))
  else ((app 8 ad [IntKind.i64.wrap (((stn_Network_Latest_nil_t (schedule_start_t (c : Int))).1) - ak.At)]).bind fun x =>
  some (Ctl.next x))) (a.length) 0 []) (fun r => some r) (fun (ae : (List Int)) => some (ae, none))))))) (fun k => if g.isSome then (some ([], g))
  else ((schedule_plan_shift_p h k).bind <| un2 fun (b : (List Launch)) (q : (Option Int)) =>
  if q.isSome then (some ([], q))
  else ((forS (fun v => fun (i : Int) => (idx b (v : Int)).bind fun o =>
  (idx j.Jobs o.Job).bind fun al =>
  some (max i (IntKind.i64.wrap (o.At + al.Duration)))) (b.length) 0 0).bind (fun (i : Int) => ctl (forC (R := ((List Int) × (Option Int))) (fun w => fun (y : (List (List Int))) => (stn_Network_Add_p (⟨y⟩ : stn_Network) (⟨0, (schedule_end_t (w : Int)), i⟩ : Bound)).bind <| un2 fun (s : (Option Int)) (z : (List (List Int))) =>
  if s.isSome then (some (Ctl.ret ([], s)))
  else (some (Ctl.next z))) (b.length) 0 k.d) (fun r => some r) (fun (aa : (List (List Int))) => ctl (forC (R := ((List Int) × (Option Int))) (fun m => fun (af : (List Int)) => (idx b (m : Int)).bind fun am =>
  (stn_Network_Latest_p (⟨aa⟩ : stn_Network) (schedule_start_t (m : Int))).bind <| un2 fun (an : Int) (t : (Option Int)) =>
  if t.isSome then (some (Ctl.ret ([], t)))
  else ((app 8 af [IntKind.i64.wrap (an - am.At)]).bind fun ab =>
  some (Ctl.next ab))) (b.length) 0 []) (fun r => some r) (fun (ag : (List Int)) => some (ag, none)))))))))
noncomputable def law57_equal_p (a : (List Launch)) (b : (List Launch)) : Option (Bool) :=
  if !decide ((a.length : Int) = (b.length : Int)) then (some false)
  else (ctl (forC (R := (Bool)) (fun c => fun (_ : Unit) => (idx a (c : Int)).bind fun d =>
  (idx b (c : Int)).bind fun e =>
  if !(eqs [d.At, d.Job] [e.At, e.Job]) then (some (Ctl.ret false))
  else (some (Ctl.next ()))) (a.length) 0 ()) (fun r => some r) (fun (_ : Unit) => some true))
noncomputable def base_Ints_p (a : (List Int)) (b : (List Int)) : Option (Bool) :=
  if !decide ((a.length : Int) = (b.length : Int)) then (some false)
  else (ctl (forC (R := (Bool)) (fun c => fun (_ : Unit) => (idx a (c : Int)).bind fun d =>
  (idx b (c : Int)).bind fun e =>
  if !decide (d = e) then (some (Ctl.ret false))
  else (some (Ctl.next ()))) (a.length) 0 ()) (fun r => some r) (fun (_ : Unit) => some true))
noncomputable def law57_awake_p  : Option (Bool) :=
  (schedule_Shift_p law57_delivery_t [(⟨4, 0⟩ : Launch), (⟨5, 2⟩ : Launch), (⟨10, 1⟩ : Launch)]).bind <| un2 fun (a : (List Launch)) (b : (Option Int)) =>
  (schedule_Slack_p law57_delivery_t [(⟨4, 0⟩ : Launch), (⟨5, 2⟩ : Launch), (⟨10, 1⟩ : Launch)]).bind <| un2 fun (c : (List Int)) (d : (Option Int)) =>
  (if b.isNone then (if d.isNone then ((law57_equal_p a [(⟨0, 0⟩ : Launch), (⟨0, 2⟩ : Launch), (⟨3, 1⟩ : Launch)]).bind <| fun (e : Bool) =>
  if e then ((base_Ints_p c [0, 5, 0]).bind <| fun (f : Bool) =>
  some f)
  else (some false))
  else (some false))
  else (some false)).bind (fun (g : Bool) => some g)
noncomputable def law57_few_p (b : Temporal) (d : (List Launch)) : Option (Bool) :=
  if ((decide (70 < (b.Vars.length : Int))) || ((decide (30 < (b.Jobs.length : Int))) || ((decide (12 < (d.length : Int))) || decide (80 < (b.Goal.length : Int))))) then (some false)
  else (ctl (forC (R := (Bool)) (fun c => fun (_ : Unit) => (idx b.Jobs (c : Int)).bind fun a =>
  if ((decide (100 < (IntKind.i64.wrap ((IntKind.i64.wrap ((IntKind.i64.wrap ((IntKind.i64.wrap ((a.Start.length : Int) + (a.Over.length : Int))) + (a.End.length : Int))) + (a.AtStart.length : Int))) + (a.AtEnd.length : Int))))) || decide (300 < (a.Name.size : Int))) then (some (Ctl.ret false))
  else (some (Ctl.next ()))) (b.Jobs.length) 0 ()) (fun r => some r) (fun (_ : Unit) => some true))
noncomputable def ref56_Sorted_p (i : (List Launch)) : Option ((List Launch)) :=
  (app 16 [] i).bind fun f =>
  (forS (fun h => fun (c : (List Launch)) => ctl (whileC (R := ((List Launch))) (un2 fun (a : Int) (b : (List Launch)) => (if decide (0 < a) then ((idx b a).bind fun d =>
  (idx b (IntKind.i64.wrap (a - 1))).bind fun e =>
  if decide (d.At < e.At) then (some true)
  else (if decide (d.At = e.At) then (some (decide (d.Job < e.Job)))
  else (some false)))
  else (some false)).bind (fun (n : Bool) => if n then ((idx b (IntKind.i64.wrap (a - 1))).bind fun l =>
  (idx b a).bind fun m =>
  (setI b a l).bind fun g =>
  (idx g (IntKind.i64.wrap (a - 1))).bind fun p =>
  (setI g (IntKind.i64.wrap (a - 1)) m).bind fun j =>
  some (Ctl.next (IntKind.i64.wrap (a - 1), j)))
  else (some (Ctl.brk (a, b))))) ((h : Int), c)) (fun r => none) (un2 fun (o : Int) (k : (List Launch)) => some k)) (f.length) 0 f).bind (fun (c : (List Launch)) => some c)
noncomputable def ref57_point_p (a : Int) (b : Bool) : Option (Int) :=
  if b then (some (IntKind.i64.wrap ((IntKind.i64.wrap (2 * a)) + 2)))
  else (some (IntKind.i64.wrap ((IntKind.i64.wrap (2 * a)) + 1)))
def ref57_point_t (a : Int) (b : Bool) : Int :=
  if b then ((IntKind.i64.wrap ((IntKind.i64.wrap (2 * a)) + 2)))
  else ((IntKind.i64.wrap ((IntKind.i64.wrap (2 * a)) + 1)))
theorem ref57_point_tot (b : Int) (a : Bool) : ref57_point_p b a = some (ref57_point_t b a) := by
  unfold ref57_point_p ref57_point_t
  (repeat' split) <;> rfl
attribute [irreducible] ref57_point_t
noncomputable def ref57_after_p (c : Int) (b : Int) (a : Int) : Option (Bound) :=
  some (⟨c, b, IntKind.i64.wrap (0 - a)⟩ : Bound)
def ref57_after_t (c : Int) (b : Int) (a : Int) : Bound :=
  (⟨c, b, IntKind.i64.wrap (0 - a)⟩ : Bound)
theorem ref57_after_tot (c : Int) (b : Int) (a : Int) : ref57_after_p c b a = some (ref57_after_t c b a) := by
  unfold ref57_after_p ref57_after_t
  (repeat' split) <;> rfl
attribute [irreducible] ref57_after_t
structure Arr2_bool where
  a0 : Bool
  a1 : Bool
def encArr2_bool : Enc Arr2_bool := Enc.iso (encBool.pair encBool) (fun b => (b.a0, b.a1))
theorem encArr2_bool_val {s : PHeap} {v : Value} {b : Arr2_bool} : encArr2_bool.val s v b ↔ v = .agg #[.bool (b.a0), .bool (b.a1)] := by
  simp only [Enc.iso, Enc.pair, Enc.val, encArr2_bool, encBool, if_true, oneCell]
  constructor
  · rintro ⟨cs, rfl, h⟩
    obtain ⟨cs⟩ := cs
    simp only [] at h
    obtain ⟨_, _, rfl, rfl, rfl⟩ := h
    rfl
  · rintro rfl
    exact ⟨_, rfl, ⟨[.bool (b.a0)], [.bool (b.a1)], rfl, rfl, rfl⟩⟩
noncomputable def ref55_Writes_p (a : Job) (b : Bool) : Option ((List Fact)) :=
  if b then (some a.AtEnd)
  else (some a.AtStart)
def ref55_Writes_t (a : Job) (b : Bool) : (List Fact) :=
  if b then (a.AtEnd)
  else (a.AtStart)
theorem ref55_Writes_tot (b : Job) (a : Bool) : ref55_Writes_p b a = some (ref55_Writes_t b a) := by
  unfold ref55_Writes_p ref55_Writes_t
  (repeat' split) <;> rfl
attribute [irreducible] ref55_Writes_t
noncomputable def ref55_Reads_p (a : Job) (b : Bool) : Option ((List Fact)) :=
  if b then (some a.End)
  else (some a.Start)
def ref55_Reads_t (a : Job) (b : Bool) : (List Fact) :=
  if b then (a.End)
  else (a.Start)
theorem ref55_Reads_tot (b : Job) (a : Bool) : ref55_Reads_p b a = some (ref55_Reads_t b a) := by
  unfold ref55_Reads_p ref55_Reads_t
  (repeat' split) <;> rfl
attribute [irreducible] ref55_Reads_t
noncomputable def ref55_meet_p (a : (List Fact)) (b : (List Fact)) : Option (Bool) :=
  ctl (forC (R := (Bool)) (fun c => fun (_ : Unit) => (idx a (c : Int)).bind fun e =>
  ctl (forC (R := (Bool)) (fun d => fun (_ : Unit) => (idx b (d : Int)).bind fun f =>
  if decide (e.Var = f.Var) then (some (Ctl.ret true))
  else (some (Ctl.next ()))) (b.length) 0 ()) (fun r => some (Ctl.ret r)) (fun (_ : Unit) => some (Ctl.next ()))) (a.length) 0 ()) (fun r => some r) (fun (_ : Unit) => some false)
noncomputable def ref55_Interfere_p (a : Job) (b : Job) (c : Bool) (d : Bool) : Option (Bool) :=
  ((ref55_meet_p (ref55_Writes_t a c) (ref55_Reads_t b d)).bind <| fun (e : Bool) =>
  if e then (some true)
  else ((ref55_meet_p (ref55_Writes_t a c) (ref55_Writes_t b d)).bind <| fun (f : Bool) =>
  if f then (some true)
  else ((ref55_meet_p (ref55_Reads_t a c) (ref55_Writes_t b d)).bind <| fun (g : Bool) =>
  some g))).bind (fun (h : Bool) => some h)
noncomputable def ref55_End_p (b : Temporal) (a : Launch) : Option (Int) :=
  (idx b.Jobs a.Job).bind fun c =>
  some (IntKind.i64.wrap (a.At + c.Duration))
noncomputable def ref57_at_p (c : Temporal) (a : Launch) (b : Bool) : Option (Int) :=
  if b then ((ref55_End_p c a).bind <| fun (d : Int) =>
  some d)
  else (some a.At)
noncomputable def ref57_common_p (a : (List Fact)) (b : (List Fact)) : Option (Bool) :=
  ctl (forC (R := (Bool)) (fun c => fun (_ : Unit) => (idx a (c : Int)).bind fun e =>
  ctl (forC (R := (Bool)) (fun d => fun (_ : Unit) => (idx b (d : Int)).bind fun f =>
  if decide (e.Var = f.Var) then (some (Ctl.ret true))
  else (some (Ctl.next ()))) (b.length) 0 ()) (fun r => some (Ctl.ret r)) (fun (_ : Unit) => some (Ctl.next ()))) (a.length) 0 ()) (fun r => some r) (fun (_ : Unit) => some false)
noncomputable def ref57_Network_p (b : Temporal) (an : (List Launch)) : Option ((List Bound) × Int) :=
  (ref56_Sorted_p an).bind <| fun (a : (List Launch)) =>
  (forS (fun d => fun (t : (List Bound)) => (idx a (d : Int)).bind fun ao =>
  (idx b.Jobs ao.Job).bind fun x =>
  (app 24 t [(ref57_after_t (ref57_point_t (d : Int) false) 0 0), (ref57_after_t (ref57_point_t (d : Int) true) (ref57_point_t (d : Int) false) x.Duration), (⟨(ref57_point_t (d : Int) false), (ref57_point_t (d : Int) true), x.Duration⟩ : Bound)]).bind fun ac =>
  some ac) (a.length) 0 []).bind (fun (t : (List Bound)) => (forS (fun j => fun (n : (List Bound)) => (idx a (j : Int)).bind fun y =>
  ctl (whileC (R := ((List Bound) × Int)) (un2 fun (e : Int) (w : (List Bound)) => if decide (e < (a.length : Int)) then ((forS (fun aa => fun (h : (List Bound)) => (idx [(⟨false, false⟩ : Arr2_bool), (⟨false, true⟩ : Arr2_bool), (⟨true, false⟩ : Arr2_bool), (⟨true, true⟩ : Arr2_bool)] (aa : Int)).bind fun c =>
  (idx b.Jobs y.Job).bind fun ap =>
  (idx a e).bind fun z =>
  (idx b.Jobs z.Job).bind fun aq =>
  (ref55_Interfere_p ap aq c.a0 c.a1).bind <| fun (ax : Bool) =>
  if !ax then (some h)
  else ((ref57_at_p b y c.a0).bind <| fun (ay : Int) =>
  (ref57_at_p b z c.a1).bind <| fun (az : Int) =>
  (if decide (ay < az) then ((app 24 h [(ref57_after_t (ref57_point_t e c.a1) (ref57_point_t (j : Int) c.a0) 1)]).bind fun ad =>
  some ad)
  else ((app 24 h [(ref57_after_t (ref57_point_t (j : Int) c.a0) (ref57_point_t e c.a1) 1)]).bind fun ae =>
  some ae)).bind (fun (af : (List Bound)) => some af))) ([(⟨false, false⟩ : Arr2_bool), (⟨false, true⟩ : Arr2_bool), (⟨true, false⟩ : Arr2_bool), (⟨true, true⟩ : Arr2_bool)].length) 0 w).bind (fun (h : (List Bound)) => some (Ctl.next (IntKind.i64.wrap (e + 1), h))))
  else (some (Ctl.brk (e, w)))) (IntKind.i64.wrap ((j : Int) + 1), n)) (fun r => none) (un2 fun (a7 : Int) (ag : (List Bound)) => some ag)) (a.length) 0 t).bind (fun (n : (List Bound)) => (forS (fun k => fun (o : (List Bound)) => (idx a (k : Int)).bind fun u =>
  (forS (fun l => fun (p : (List Bound)) => (idx a (l : Int)).bind fun v =>
  (forS (fun ab => fun (g : (List Bound)) => (idx [false, true] (ab : Int)).bind fun i =>
  (if decide ((k : Int) = (l : Int)) then (some true)
  else ((idx b.Jobs v.Job).bind fun ar =>
  (idx b.Jobs u.Job).bind fun au =>
  (ref57_common_p (ref55_Writes_t ar i) au.Over).bind <| fun (a2 : Bool) =>
  some (!a2))).bind (fun (a6 : Bool) => if a6 then (some g)
  else ((ref57_at_p b v i).bind <| fun (a3 : Int) =>
  (if decide (a3 ≤ u.At) then ((app 24 g [(ref57_after_t (ref57_point_t (k : Int) false) (ref57_point_t (l : Int) i) 0)]).bind fun ah =>
  some ah)
  else ((ref57_at_p b v i).bind <| fun (a4 : Int) =>
  (ref55_End_p b u).bind <| fun (a5 : Int) =>
  (if decide (a5 ≤ a4) then ((app 24 g [(ref57_after_t (ref57_point_t (l : Int) i) (ref57_point_t (k : Int) true) 0)]).bind fun ai =>
  some ai)
  else (some g)).bind (fun (aj : (List Bound)) => some aj))).bind (fun (ak : (List Bound)) => some ak)))) ([false, true].length) 0 p).bind (fun (g : (List Bound)) => some g)) (a.length) 0 o).bind (fun (p : (List Bound)) => some p)) (a.length) 0 n).bind (fun (o : (List Bound)) => (forS (fun m => fun (q : (List Bound)) => (idx a (m : Int)).bind fun av =>
  ctl (whileC (R := ((List Bound) × Int)) (un2 fun (f : Int) (s : (List Bound)) => if decide (f < (a.length : Int)) then ((idx a f).bind fun aw =>
  if decide (aw.Job = av.Job) then ((app 24 s [(ref57_after_t (ref57_point_t f false) (ref57_point_t (m : Int) true) 1)]).bind fun al =>
  some (Ctl.brk (f, al)))
  else (some (Ctl.next (IntKind.i64.wrap (f + 1), s))))
  else (some (Ctl.brk (f, s)))) (IntKind.i64.wrap ((m : Int) + 1), q)) (fun r => none) (un2 fun (a8 : Int) (am : (List Bound)) => some am)) (a.length) 0 o).bind (fun (q : (List Bound)) => some (q, IntKind.i64.wrap ((IntKind.i64.wrap (2 * (a.length : Int))) + 1))))))
noncomputable def ref54_Distances_p (a : Int) (m : (List Bound)) : Option ((List (List Int)) × Bool) :=
  (must (decide (a ≤ 9223372036854775807))).bind fun av =>
  (forS (fun c => fun (k : (List (List Int))) => (mk 8 0 a).bind fun u =>
  (app 24 k [u]).bind fun v =>
  (must (decide (a ≤ 9223372036854775807))).bind fun aw =>
  (forS (fun n => fun (d : (List (List Int))) => (idx d (c : Int)).bind fun p =>
  (idx p (n : Int)).bind fun a1 =>
  (setI p (n : Int) 1125899906842624).bind fun w =>
  (setI d (c : Int) w).bind fun x =>
  some x) (a.toNat) 0 v).bind (fun (d : (List (List Int))) => (idx d (c : Int)).bind fun q =>
  (idx q (c : Int)).bind fun a2 =>
  (setI q (c : Int) 0).bind fun y =>
  (setI d (c : Int) y).bind fun z =>
  some z)) (a.toNat) 0 []).bind (fun (k : (List (List Int))) => (forS (fun t => fun (h : (List (List Int))) => (idx m (t : Int)).bind fun e =>
  (idx h e.A).bind fun s =>
  (idx s e.B).bind fun al =>
  (setI s e.B (min al e.Most)).bind fun aa =>
  (setI h e.A aa).bind fun ab =>
  some ab) (m.length) 0 k).bind (fun (h : (List (List Int))) => (must (decide (a ≤ 9223372036854775807))).bind fun ax =>
  ctl (forC (R := ((List (List Int)) × Bool)) (fun f => fun (ac : (List (List Int))) => (must (decide (a ≤ 9223372036854775807))).bind fun ay =>
  (forS (fun j => fun (i : (List (List Int))) => (must (decide (a ≤ 9223372036854775807))).bind fun az =>
  (forS (fun g => fun (b : (List (List Int))) => ((idx b (j : Int)).bind fun ah =>
  (idx ah (f : Int)).bind fun am =>
  if decide (am < 1125899906842624) then ((idx b (f : Int)).bind fun ai =>
  (idx ai (g : Int)).bind fun an =>
  some (decide (an < 1125899906842624)))
  else (some false)).bind (fun (au : Bool) => (if au then ((idx b (j : Int)).bind fun l =>
  (idx l (g : Int)).bind fun ao =>
  (idx l (f : Int)).bind fun ap =>
  (idx b (f : Int)).bind fun aj =>
  (idx aj (g : Int)).bind fun aq =>
  (setI l (g : Int) (min ao (IntKind.i64.wrap (ap + aq)))).bind fun ad =>
  (setI b (j : Int) ad).bind fun ae =>
  some ae)
  else (some b)).bind (fun (af : (List (List Int))) => some af))) (a.toNat) 0 i).bind (fun (b : (List (List Int))) => some b)) (a.toNat) 0 ac).bind (fun (i : (List (List Int))) => (must (decide (a ≤ 9223372036854775807))).bind fun a0 =>
  ctl (forC (R := ((List (List Int)) × Bool)) (fun o => fun (_ : Unit) => (idx i (o : Int)).bind fun ak =>
  (idx ak (o : Int)).bind fun ar =>
  if decide (ar < 0) then (some (Ctl.ret ([], false)))
  else (some (Ctl.next ()))) (a.toNat) 0 ()) (fun r => some (Ctl.ret r)) (fun (_ : Unit) => some (Ctl.next i)))) (a.toNat) 0 h) (fun r => some r) (fun (ag : (List (List Int))) => some (ag, true))))
noncomputable def ref57_Shift_p (f : Temporal) (c : (List Launch)) : Option ((List Launch)) :=
  (ref57_Network_p f c).bind <| un2 fun (j : (List Bound)) (k : Int) =>
  (ref54_Distances_p k j).bind <| un2 fun (l : (List (List Int))) (m : Bool) =>
  (ref56_Sorted_p c).bind <| fun (d : (List Launch)) =>
  (forS (fun b => fun (a : (List Launch)) => (idx d (b : Int)).bind fun g =>
  (idx l (ref57_point_t (b : Int) false)).bind fun h =>
  (idx h 0).bind fun i =>
  (app 16 a [(⟨IntKind.i64.wrap (0 - i), g.Job⟩ : Launch)]).bind fun e =>
  some e) (d.length) 0 []).bind (fun (a : (List Launch)) => some a)
noncomputable def ref55_Makespan_p (d : Temporal) (b : (List Launch)) : Option (Int) :=
  (forS (fun c => fun (a : Int) => (idx b (c : Int)).bind fun e =>
  (ref55_End_p d e).bind <| fun (f : Int) =>
  some (max a f)) (b.length) 0 0).bind (fun (a : Int) => some a)
noncomputable def ref57_Slack_p (d : Temporal) (f : (List Launch)) : Option ((List Int)) :=
  (ref57_Network_p d f).bind <| un2 fun (m : (List Bound)) (n : Int) =>
  (ref57_Shift_p d f).bind <| fun (a : (List Launch)) =>
  (ref55_Makespan_p d a).bind <| fun (o : Int) =>
  (forS (fun g => fun (b : (List Bound)) => (app 24 b [(⟨0, (ref57_point_t (g : Int) true), o⟩ : Bound)]).bind fun h =>
  some h) (a.length) 0 m).bind (fun (b : (List Bound)) => (ref54_Distances_p n b).bind <| un2 fun (p : (List (List Int))) (q : Bool) =>
  (forS (fun e => fun (c : (List Int)) => (idx a (e : Int)).bind fun j =>
  (idx p 0).bind fun k =>
  (idx k (ref57_point_t (e : Int) false)).bind fun l =>
  (app 8 c [IntKind.i64.wrap (l - j.At)]).bind fun i =>
  some i) (a.length) 0 []).bind (fun (c : (List Int)) => some c))
noncomputable def law57_ScheduleShifts_p (t1 : Temporal) (l10 : (List Launch)) : Option (Bool) :=
  ((law57_awake_p).bind <| fun (a : Bool) =>
  if !a then (some true)
  else ((law57_few_p t1 l10).bind <| fun (b : Bool) =>
  some (!b))).bind (fun (m : Bool) => if m then ((law57_awake_p).bind <| fun (c : Bool) =>
  some c)
  else ((temporal_Validate_p t1 l10).bind <| un2 fun (o : Int) (d : (Option Int)) =>
  if d.isSome then (some true)
  else ((schedule_Shift_p t1 l10).bind <| un2 fun (e : (List Launch)) (f : (Option Int)) =>
  (schedule_Slack_p t1 l10).bind <| un2 fun (g : (List Int)) (h : (Option Int)) =>
  (if f.isNone then (if h.isNone then ((ref57_Shift_p t1 l10).bind <| fun (i : (List Launch)) =>
  (law57_equal_p e i).bind <| fun (j : Bool) =>
  if j then ((ref57_Slack_p t1 l10).bind <| fun (k : (List Int)) =>
  (base_Ints_p g k).bind <| fun (l : Bool) =>
  some l)
  else (some false))
  else (some false))
  else (some false)).bind (fun (n : Bool) => some n))))
end Go.Pw
