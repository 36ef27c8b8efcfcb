/-
  What the functions compute, in plain Lean (printed by my generator).
-/
import Derived.Test.YthbgcahoknmmmaaGreatL6
import Derived.Test.YthbgcahoknmmmaaGreatL21
import Derived.Test.YthbgcahoknmmmaaGreatL11
import Derived.Test.YthbgcahoknmmmaaGreatL14
import Derived.Test.YthbgcahoknmmmaaGreatL16
import Derived.Test.YthbgcahoknmmmaaGreatL31
import Derived.Test.YthbgcahoknmmmaaGreatL34
import Derived.Test.YthbgcahoknmmmaaGreatL41
set_option maxRecDepth 100000
set_option maxHeartbeats 4000000
set_option linter.unusedVariables false
namespace Go.Pw
structure Fact where
  Var : Int
  Val : Int
def encFact : Enc Fact := Enc.iso ((encInt .i64).pair (encInt .i64)) (fun b => (b.Var, b.Val))
theorem encFact_val {s : PHeap} {v : Value} {b : Fact} : encFact.val s v b ↔ v = .agg #[.int .i64 (b.Var), .int .i64 (b.Val)] := by
  simp only [Enc.iso, Enc.pair, Enc.val, encFact, encInt, if_true, oneCell]
  constructor
  · rintro ⟨cs, rfl, h⟩
    obtain ⟨cs⟩ := cs
    simp only [] at h
    obtain ⟨_, _, rfl, rfl, rfl⟩ := h
    rfl
  · rintro rfl
    exact ⟨_, rfl, ⟨[.int .i64 (b.Var)], [.int .i64 (b.Val)], rfl, rfl, rfl⟩⟩
structure Job where
  Name : ByteArray
  Duration : Int
  Start : (List Fact)
  Over : (List Fact)
  End : (List Fact)
  AtStart : (List Fact)
  AtEnd : (List Fact)
def encJob : Enc Job := Enc.iso (encStr.pair ((encInt .i64).pair ((encSlice encFact).pair ((encSlice encFact).pair ((encSlice encFact).pair ((encSlice encFact).pair (encSlice encFact))))))) (fun b => (b.Name, b.Duration, b.Start, b.Over, b.End, b.AtStart, b.AtEnd))
theorem encJob_val {s : PHeap} {v : Value} {b : Job} : encJob.val s v b ↔ ∃ u1, ∃ u2, ∃ u3, ∃ u4, ∃ u5, v = .agg #[.string (b.Name), .int .i64 (b.Duration), u1, u2, u3, u4, u5] ∧ SliceRep encFact s u1 (b.Start) ∧ SliceRep encFact s u2 (b.Over) ∧ SliceRep encFact s u3 (b.End) ∧ SliceRep encFact s u4 (b.AtStart) ∧ SliceRep encFact s u5 (b.AtEnd) := by
  simp only [Enc.iso, Enc.pair, Enc.val, encInt, encJob, encSlice, encStr, if_true, oneCell]
  constructor
  · rintro ⟨cs, rfl, h⟩
    obtain ⟨cs⟩ := cs
    simp only [] at h
    obtain ⟨_, _, rfl, rfl, ⟨_, _, rfl, rfl, ⟨_, _, rfl, ⟨w1, rfl, h1⟩, ⟨_, _, rfl, ⟨w2, rfl, h2⟩, ⟨_, _, rfl, ⟨w3, rfl, h3⟩, ⟨_, _, rfl, ⟨w4, rfl, h4⟩, ⟨w5, rfl, h5⟩⟩⟩⟩⟩⟩⟩ := h
    exact ⟨w1, w2, w3, w4, w5, rfl, h1, h2, h3, h4, h5⟩
  · rintro ⟨w1, w2, w3, w4, w5, rfl, h1, h2, h3, h4, h5⟩
    exact ⟨_, rfl, ⟨[.string (b.Name)], [.int .i64 (b.Duration), w1, w2, w3, w4, w5], rfl, rfl, ⟨[.int .i64 (b.Duration)], [w1, w2, w3, w4, w5], rfl, rfl, ⟨[w1], [w2, w3, w4, w5], rfl, ⟨w1, rfl, h1⟩, ⟨[w2], [w3, w4, w5], rfl, ⟨w2, rfl, h2⟩, ⟨[w3], [w4, w5], rfl, ⟨w3, rfl, h3⟩, ⟨[w4], [w5], rfl, ⟨w4, rfl, h4⟩, ⟨w5, rfl, h5⟩⟩⟩⟩⟩⟩⟩⟩
structure Temporal where
  Vars : (List Int)
  Init : (List Int)
  Goal : (List Fact)
  Jobs : (List Job)
def encTemporal : Enc Temporal := Enc.iso ((encSlice (encInt .i64)).pair ((encSlice (encInt .i64)).pair ((encSlice encFact).pair (encSlice encJob)))) (fun b => (b.Vars, b.Init, b.Goal, b.Jobs))
theorem encTemporal_val {s : PHeap} {v : Value} {b : Temporal} : encTemporal.val s v b ↔ ∃ u1, ∃ u2, ∃ u3, ∃ u4, v = .agg #[u1, u2, u3, u4] ∧ SliceRep (encInt .i64) s u1 (b.Vars) ∧ SliceRep (encInt .i64) s u2 (b.Init) ∧ SliceRep encFact s u3 (b.Goal) ∧ SliceRep encJob s u4 (b.Jobs) := by
  simp only [Enc.iso, Enc.pair, Enc.val, encSlice, encTemporal, if_true]
  constructor
  · rintro ⟨cs, rfl, h⟩
    obtain ⟨cs⟩ := cs
    simp only [] at h
    obtain ⟨_, _, rfl, ⟨w1, rfl, h1⟩, ⟨_, _, rfl, ⟨w2, rfl, h2⟩, ⟨_, _, rfl, ⟨w3, rfl, h3⟩, ⟨w4, rfl, h4⟩⟩⟩⟩ := h
    exact ⟨w1, w2, w3, w4, rfl, h1, h2, h3, h4⟩
  · rintro ⟨w1, w2, w3, w4, rfl, h1, h2, h3, h4⟩
    exact ⟨_, rfl, ⟨[w1], [w2, w3, w4], rfl, ⟨w1, rfl, h1⟩, ⟨[w2], [w3, w4], rfl, ⟨w2, rfl, h2⟩, ⟨[w3], [w4], rfl, ⟨w3, rfl, h3⟩, ⟨w4, rfl, h4⟩⟩⟩⟩⟩
structure Launch where
  At : Int
  Job : Int
def encLaunch : Enc Launch := Enc.iso ((encInt .i64).pair (encInt .i64)) (fun b => (b.At, b.Job))
theorem encLaunch_val {s : PHeap} {v : Value} {b : Launch} : encLaunch.val s v b ↔ v = .agg #[.int .i64 (b.At), .int .i64 (b.Job)] := by
  simp only [Enc.iso, Enc.pair, Enc.val, encInt, encLaunch, if_true, oneCell]
  constructor
  · rintro ⟨cs, rfl, h⟩
    obtain ⟨cs⟩ := cs
    simp only [] at h
    obtain ⟨_, _, rfl, rfl, rfl⟩ := h
    rfl
  · rintro rfl
    exact ⟨_, rfl, ⟨[.int .i64 (b.At)], [.int .i64 (b.Job)], rfl, rfl, rfl⟩⟩
noncomputable def law58_lamp_p  : Option (Temporal) :=
  some (⟨[2], [0], [(⟨0, 0⟩ : Fact)], [(⟨⟨#[108, 105, 103, 104, 116]⟩, 3, [(⟨0, 0⟩ : Fact)], [(⟨0, 1⟩ : Fact)], [], [(⟨0, 1⟩ : Fact)], [(⟨0, 0⟩ : Fact)]⟩ : Job), (⟨⟨#[100, 97, 114, 107]⟩, 1, [], [], [], [(⟨0, 0⟩ : Fact)], []⟩ : Job)]⟩ : Temporal)
def law58_lamp_t  : Temporal :=
  (⟨[2], [0], [(⟨0, 0⟩ : Fact)], [(⟨⟨#[108, 105, 103, 104, 116]⟩, 3, [(⟨0, 0⟩ : Fact)], [(⟨0, 1⟩ : Fact)], [], [(⟨0, 1⟩ : Fact)], [(⟨0, 0⟩ : Fact)]⟩ : Job), (⟨⟨#[100, 97, 114, 107]⟩, 1, [], [], [], [(⟨0, 0⟩ : Fact)], []⟩ : Job)]⟩ : Temporal)
theorem law58_lamp_tot  : law58_lamp_p  = some (law58_lamp_t ) := by
  unfold law58_lamp_p law58_lamp_t
  (repeat' split) <;> rfl
attribute [irreducible] law58_lamp_t
noncomputable def temporal_lists_p (c : Temporal) : Option ((List (List Fact))) :=
  (forS (fun d => fun (b : (List (List Fact))) => (idx c.Jobs (d : Int)).bind fun a =>
  (app 24 b [a.Start, a.Over, a.End, a.AtStart, a.AtEnd]).bind fun e =>
  some e) (c.Jobs.length) 0 [c.Goal]).bind (fun (b : (List (List Fact))) => some b)
noncomputable def temporal_Check_c1_p (a : (List Fact)) : Option (Bool) :=
  some (decide (64 < (a.length : Int)))
def temporal_Check_c1_t (a : (List Fact)) : Bool :=
  (decide (64 < (a.length : Int)))
theorem temporal_Check_c1_tot (a : (List Fact)) : temporal_Check_c1_p a = some (temporal_Check_c1_t a) := by
  unfold temporal_Check_c1_p temporal_Check_c1_t
  (repeat' split) <;> rfl
attribute [irreducible] temporal_Check_c1_t
noncomputable def slices_IndexFunc_apiFact_Check_c1_p (b : (List (List Fact))) : Option (Int) :=
  ctl (forC (R := (Int)) (fun a => fun (_ : Unit) => (idx b (a : Int)).bind fun c =>
  if (temporal_Check_c1_t c) then (some (Ctl.ret (a : Int)))
  else (some (Ctl.next ()))) (b.length) 0 ()) (fun r => some r) (fun (_ : Unit) => some (-1))
noncomputable def slices_ContainsFunc_apiFact_Check_c1_p (a : (List (List Fact))) : Option (Bool) :=
  (slices_IndexFunc_apiFact_Check_c1_p a).bind <| fun (b : Int) =>
  some (decide (0 ≤ b))
noncomputable def task_Proper_p (c : (List Int)) (a : (List Int)) : Option (Bool) :=
  if !decide ((a.length : Int) = (c.length : Int)) then (some false)
  else (ctl (forC (R := (Bool)) (fun b => fun (_ : Unit) => (idx a (b : Int)).bind fun d =>
  (if decide (d < 0) then (some true)
  else ((idx c (b : Int)).bind fun e =>
  some (decide (e ≤ d)))).bind (fun (f : Bool) => if f then (some (Ctl.ret false))
  else (some (Ctl.next ())))) (a.length) 0 ()) (fun r => some r) (fun (_ : Unit) => some true))
noncomputable def task_Facts_p (c : (List Int)) (b : (List Fact)) : Option (Bool) :=
  ctl (forC (R := (Bool)) (fun d => fun (e : Int) => (idx b (d : Int)).bind fun a =>
  (if decide (a.Var ≤ e) then (some true)
  else (if decide ((c.length : Int) ≤ a.Var) then (some true)
  else (if decide (a.Val < 0) then (some true)
  else ((idx c a.Var).bind fun f =>
  some (decide (f ≤ a.Val)))))).bind (fun (g : Bool) => if g then (some (Ctl.ret false))
  else (some (Ctl.next a.Var)))) (b.length) 0 (-1)) (fun r => some r) (fun (h : Int) => some true)
noncomputable def temporal_Check_c2_p (b : (List Fact)) (a : Temporal) : Option (Bool) :=
  (task_Facts_p a.Vars b).bind <| fun (c : Bool) =>
  some (!c)
noncomputable def slices_IndexFunc_apiFact_Check_c2_p (b : (List (List Fact))) (c : Temporal) : Option (Int) :=
  ctl (forC (R := (Int)) (fun a => fun (_ : Unit) => (idx b (a : Int)).bind fun d =>
  (temporal_Check_c2_p d c).bind <| fun (e : Bool) =>
  if e then (some (Ctl.ret (a : Int)))
  else (some (Ctl.next ()))) (b.length) 0 ()) (fun r => some r) (fun (_ : Unit) => some (-1))
noncomputable def slices_ContainsFunc_apiFact_Check_c2_p (b : (List (List Fact))) (a : Temporal) : Option (Bool) :=
  (slices_IndexFunc_apiFact_Check_c2_p b a).bind <| fun (c : Int) =>
  some (decide (0 ≤ c))
noncomputable def temporal_named_p (a : ByteArray) : Option (Bool) :=
  (must (decide ((a.size : Int) ≤ 9223372036854775807))).bind fun e =>
  ctl (forC (R := (Bool)) (fun c => fun (_ : Unit) => ((idx (bytesOf a) (c : Int)).bind fun b =>
  if decide (b < 32) then (some true)
  else (some (decide (126 < b)))).bind (fun (d : Bool) => if d then (some (Ctl.ret false))
  else (some (Ctl.next ())))) ((a.size : Int).toNat) 0 ()) (fun r => some r) (fun (_ : Unit) => some (decide ((a.size : Int) ≤ 256)))
noncomputable def temporal_Check_p (a : Temporal) : Option ((Option Int)) :=
  (temporal_lists_p a).bind <| fun (d : (List (List Fact))) =>
  (if decide (64 < (a.Vars.length : Int)) then (some true)
  else (if decide (24 < (a.Jobs.length : Int)) then (some true)
  else ((slices_ContainsFunc_apiFact_Check_c1_p d).bind <| fun (i : Bool) =>
  some i))).bind (fun (m : Bool) => if m then (some (some 5))
  else (ctl (forC (R := ((Option Int))) (fun e => fun (_ : Unit) => (idx a.Vars (e : Int)).bind fun b =>
  if ((decide (b < 1)) || decide (64 < b)) then (some (Ctl.ret (some 1)))
  else (some (Ctl.next ()))) (a.Vars.length) 0 ()) (fun r => some r) (fun (_ : Unit) => ctl (forC (R := ((Option Int))) (fun f => fun (_ : Unit) => (idx a.Jobs (f : Int)).bind fun c =>
  if ((decide (c.Duration < 1)) || decide (62 < c.Duration)) then (some (Ctl.ret (some 1)))
  else (some (Ctl.next ()))) (a.Jobs.length) 0 ()) (fun r => some r) (fun (_ : Unit) => ((task_Proper_p a.Vars a.Init).bind <| fun (j : Bool) =>
  if !j then (some true)
  else ((slices_ContainsFunc_apiFact_Check_c2_p d a).bind <| fun (k : Bool) =>
  some k)).bind (fun (n : Bool) => if n then (some (some 2))
  else (ctl (forC (R := ((Option Int))) (fun g => fun (_ : Unit) => (idx a.Jobs (g : Int)).bind fun h =>
  (temporal_named_p h.Name).bind <| fun (l : Bool) =>
  if !l then (some (Ctl.ret (some 8)))
  else (some (Ctl.next ()))) (a.Jobs.length) 0 ()) (fun r => some r) (fun (_ : Unit) => some none)))))))
noncomputable def temporal_accept_p (c : Temporal) (b : (List Launch)) : Option ((Option Int)) :=
  (temporal_Check_p c).bind <| fun (d : (Option Int)) =>
  if d.isSome then (some d)
  else (if decide (4096 < (b.length : Int)) then (some (some 5))
  else (ctl (forC (R := ((Option Int))) (fun e => fun (_ : Unit) => (idx b (e : Int)).bind fun a =>
  if ((decide (a.Job < 0)) || ((decide ((c.Jobs.length : Int) ≤ a.Job)) || ((decide (a.At < 0)) || decide (1048576 < a.At)))) then (some (Ctl.ret (some 1)))
  else (some (Ctl.next ()))) (b.length) 0 ()) (fun r => some r) (fun (_ : Unit) => some none)))
structure temporal_happening where
  job : Int
  end_ : Bool
def enctemporal_happening : Enc temporal_happening := Enc.iso ((encInt .i64).pair encBool) (fun b => (b.job, b.end_))
theorem enctemporal_happening_val {s : PHeap} {v : Value} {b : temporal_happening} : enctemporal_happening.val s v b ↔ v = .agg #[.int .i64 (b.job), .bool (b.end_)] := by
  simp only [Enc.iso, Enc.pair, Enc.val, encBool, encInt, enctemporal_happening, if_true, oneCell]
  constructor
  · rintro ⟨cs, rfl, h⟩
    obtain ⟨cs⟩ := cs
    simp only [] at h
    obtain ⟨_, _, rfl, rfl, rfl⟩ := h
    rfl
  · rintro rfl
    exact ⟨_, rfl, ⟨[.int .i64 (b.job)], [.bool (b.end_)], rfl, rfl, rfl⟩⟩
noncomputable def temporal_end_p (b : Temporal) (a : Launch) : Option (Int) :=
  (idx b.Jobs a.Job).bind fun c =>
  some (IntKind.i64.wrap (a.At + c.Duration))
noncomputable def sortInts_p (xs : List Int) : Option (List Int) := if xs.length < 4611686018427387904 then some (xs.mergeSort fun x y => decide (x ≤ y)) else none
noncomputable def temporal_happenings_p (p : Temporal) (d : (List Launch)) : Option ((List (Int × (List temporal_happening))) × (List Int)) :=
  (forS (fun g => fun (a : (List (Int × (List temporal_happening)))) => (idx d (g : Int)).bind fun b =>
  (hmapGet a b.At).bind fun n =>
  (app 16 n [(⟨b.Job, false⟩ : temporal_happening)]).bind fun h =>
  (hmapPut a b.At h).bind fun e =>
  (temporal_end_p p b).bind <| fun (f : Int) =>
  (hmapGet e f).bind fun o =>
  (app 16 o [(⟨b.Job, true⟩ : temporal_happening)]).bind fun i =>
  (hmapPut e f i).bind fun l =>
  some l) (d.length) 0 ([] : (List (Int × (List temporal_happening))))).bind (fun (a : (List (Int × (List temporal_happening)))) => rangeK (a.map Prod.fst) fun m => (foldK (fun q => fun (c : (List Int)) => (app 8 c [q]).bind fun j =>
  some j) m []).bind (fun (c : (List Int)) => (sortInts_p c).bind <| fun (k : (List Int)) =>
  some (a, k)))
noncomputable def temporal_overlaps_p (g : Temporal) (a : (List Launch)) (b : Int) : Option (Bool) :=
  ctl (forC (R := (Bool)) (fun d => fun (_ : Unit) => (idx a (d : Int)).bind fun f =>
  if !decide (f.At = b) then (some (Ctl.next ()))
  else (ctl (forC (R := (Bool)) (fun e => fun (_ : Unit) => (idx a (e : Int)).bind fun c =>
  (if !decide ((d : Int) = (e : Int)) then (if decide (f.Job = c.Job) then (if decide (c.At ≤ b) then ((temporal_end_p g c).bind <| fun (h : Int) =>
  some (decide (b ≤ h)))
  else (some false))
  else (some false))
  else (some false)).bind (fun (i : Bool) => if i then (some (Ctl.ret true))
  else (some (Ctl.next ())))) (a.length) 0 ()) (fun r => some (Ctl.ret r)) (fun (_ : Unit) => some (Ctl.next ())))) (a.length) 0 ()) (fun r => some r) (fun (_ : Unit) => some false)
noncomputable def temporal_writes_p (b : Temporal) (a : temporal_happening) : Option ((List Fact)) :=
  if a.end_ then ((idx b.Jobs a.job).bind fun c =>
  some c.AtEnd)
  else ((idx b.Jobs a.job).bind fun d =>
  some d.AtStart)
noncomputable def temporal_meet_c1_c1_p (b : Fact) (a : Fact) : Option (Bool) :=
  some (decide (a.Var = b.Var))
def temporal_meet_c1_c1_t (b : Fact) (a : Fact) : Bool :=
  (decide (a.Var = b.Var))
theorem temporal_meet_c1_c1_tot (b : Fact) (a : Fact) : temporal_meet_c1_c1_p b a = some (temporal_meet_c1_c1_t b a) := by
  unfold temporal_meet_c1_c1_p temporal_meet_c1_c1_t
  (repeat' split) <;> rfl
attribute [irreducible] temporal_meet_c1_c1_t
noncomputable def slices_IndexFunc_apiFact_meet_c1_c1_p (b : (List Fact)) (c : Fact) : Option (Int) :=
  ctl (forC (R := (Int)) (fun a => fun (_ : Unit) => (idx b (a : Int)).bind fun d =>
  if (temporal_meet_c1_c1_t d c) then (some (Ctl.ret (a : Int)))
  else (some (Ctl.next ()))) (b.length) 0 ()) (fun r => some r) (fun (_ : Unit) => some (-1))
noncomputable def slices_ContainsFunc_apiFact_meet_c1_c1_p (b : (List Fact)) (a : Fact) : Option (Bool) :=
  (slices_IndexFunc_apiFact_meet_c1_c1_p b a).bind <| fun (c : Int) =>
  some (decide (0 ≤ c))
noncomputable def temporal_meet_c1_p (b : Fact) (a : (List Fact)) : Option (Bool) :=
  (slices_ContainsFunc_apiFact_meet_c1_c1_p a b).bind <| fun (c : Bool) =>
  some c
noncomputable def slices_IndexFunc_apiFact_meet_c1_p (b : (List Fact)) (c : (List Fact)) : Option (Int) :=
  ctl (forC (R := (Int)) (fun a => fun (_ : Unit) => (idx b (a : Int)).bind fun d =>
  (temporal_meet_c1_p d c).bind <| fun (e : Bool) =>
  if e then (some (Ctl.ret (a : Int)))
  else (some (Ctl.next ()))) (b.length) 0 ()) (fun r => some r) (fun (_ : Unit) => some (-1))
noncomputable def slices_ContainsFunc_apiFact_meet_c1_p (b : (List Fact)) (a : (List Fact)) : Option (Bool) :=
  (slices_IndexFunc_apiFact_meet_c1_p b a).bind <| fun (c : Int) =>
  some (decide (0 ≤ c))
noncomputable def temporal_meet_p (a : (List Fact)) (b : (List Fact)) : Option (Bool) :=
  (slices_ContainsFunc_apiFact_meet_c1_p a b).bind <| fun (c : Bool) =>
  some c
noncomputable def temporal_reads_p (b : Temporal) (a : temporal_happening) : Option ((List Fact)) :=
  if a.end_ then ((idx b.Jobs a.job).bind fun c =>
  some c.End)
  else ((idx b.Jobs a.job).bind fun d =>
  some d.Start)
noncomputable def temporal_interfere_p (a : Temporal) (b : temporal_happening) (c : temporal_happening) : Option (Bool) :=
  ((temporal_writes_p a b).bind <| fun (d : (List Fact)) =>
  (temporal_writes_p a c).bind <| fun (e : (List Fact)) =>
  (temporal_meet_p d e).bind <| fun (f : Bool) =>
  if f then (some true)
  else ((temporal_reads_p a c).bind <| fun (g : (List Fact)) =>
  (temporal_meet_p d g).bind <| fun (h : Bool) =>
  if h then (some true)
  else ((temporal_reads_p a b).bind <| fun (i : (List Fact)) =>
  (temporal_meet_p i e).bind <| fun (j : Bool) =>
  some j))).bind (fun (k : Bool) => some k)
noncomputable def task_Holds_p (b : (List Fact)) (c : (List Int)) : Option (Bool) :=
  ctl (forC (R := (Bool)) (fun d => fun (_ : Unit) => (idx b (d : Int)).bind fun a =>
  (if decide (a.Var < 0) then (some true)
  else (if decide ((c.length : Int) ≤ a.Var) then (some true)
  else ((idx c a.Var).bind fun e =>
  some (!decide (e = a.Val))))).bind (fun (f : Bool) => if f then (some (Ctl.ret false))
  else (some (Ctl.next ())))) (b.length) 0 ()) (fun r => some r) (fun (_ : Unit) => some true)
noncomputable def slices_Clone_int_p (b : (List Int)) : Option ((List Int)) :=
  (app 8 [] b).bind fun a =>
  some a
noncomputable def temporal_after_p (h : Temporal) (o : (List Int)) (g : (List temporal_happening)) : Option ((List Int)) :=
  (slices_Clone_int_p o).bind <| fun (q : (List Int)) =>
  (forS (fun j => fun (c : (List Int)) => (idx [true, false] (j : Int)).bind fun p =>
  (forS (fun k => fun (d : (List Int)) => (forS (fun l => fun (a : (List Int)) => (idx g (l : Int)).bind fun e =>
  if ((!decide (e.job = (k : Int))) || !(e.end_ == p)) then (some a)
  else ((temporal_writes_p h e).bind <| fun (i : (List Fact)) =>
  (forS (fun m => fun (b : (List Int)) => (idx i (m : Int)).bind fun f =>
  (idx b f.Var).bind fun r =>
  (setI b f.Var f.Val).bind fun n =>
  some n) (i.length) 0 a).bind (fun (b : (List Int)) => some b))) (g.length) 0 d).bind (fun (a : (List Int)) => some a)) (h.Jobs.length) 0 c).bind (fun (d : (List Int)) => some d)) ([true, false].length) 0 q).bind (fun (c : (List Int)) => some c)
noncomputable def temporal_tick_p (b : Temporal) (e : (List Launch)) (c : Int) (g : (List Int)) (a : (List temporal_happening)) : Option ((List Int) × (Option Int)) :=
  (temporal_overlaps_p b e c).bind <| fun (p : Bool) =>
  if p then (some ([], some 18))
  else (ctl (forC (R := ((List Int) × (Option Int))) (fun d => fun (_ : Unit) => (must (decide ((d : Int) ≤ 9223372036854775807))).bind fun x =>
  ctl (forC (R := ((List Int) × (Option Int))) (fun i => fun (_ : Unit) => (idx a (d : Int)).bind fun l =>
  (idx a (i : Int)).bind fun m =>
  (temporal_interfere_p b l m).bind <| fun (q : Bool) =>
  if q then (some (Ctl.ret ([], some 17)))
  else (some (Ctl.next ()))) ((d : Int).toNat) 0 ()) (fun r => some (Ctl.ret r)) (fun (_ : Unit) => some (Ctl.next ()))) (a.length) 0 ()) (fun r => some r) (fun (_ : Unit) => ctl (forC (R := ((List Int) × (Option Int))) (fun j => fun (_ : Unit) => (idx a (j : Int)).bind fun n =>
  (temporal_reads_p b n).bind <| fun (s : (List Fact)) =>
  (task_Holds_p s g).bind <| fun (t : Bool) =>
  if !t then (some (Ctl.ret ([], some 12)))
  else (some (Ctl.next ()))) (a.length) 0 ()) (fun r => some r) (fun (_ : Unit) => (temporal_after_p b g a).bind <| fun (h : (List Int)) =>
  ctl (forC (R := ((List Int) × (Option Int))) (fun k => fun (_ : Unit) => (idx e (k : Int)).bind fun f =>
  (if decide (f.At ≤ c) then ((temporal_end_p b f).bind <| fun (u : Int) =>
  if decide (c < u) then ((idx b.Jobs f.Job).bind fun o =>
  (task_Holds_p o.Over h).bind <| fun (v : Bool) =>
  some (!v))
  else (some false))
  else (some false)).bind (fun (w : Bool) => if w then (some (Ctl.ret ([], some 16)))
  else (some (Ctl.next ())))) (e.length) 0 ()) (fun r => some r) (fun (_ : Unit) => some (h, none)))))
noncomputable def temporal_makespan_p (d : Temporal) (b : (List Launch)) : Option (Int) :=
  (forS (fun c => fun (a : Int) => (idx b (c : Int)).bind fun e =>
  (temporal_end_p d e).bind <| fun (f : Int) =>
  some (max a f)) (b.length) 0 0).bind (fun (a : Int) => some a)
noncomputable def temporal_Validate_p (a : Temporal) (b : (List Launch)) : Option (Int × (Option Int)) :=
  (temporal_accept_p a b).bind <| fun (d : (Option Int)) =>
  if d.isSome then (some (0, d))
  else ((temporal_happenings_p a b).bind <| un2 fun (k : (List (Int × (List temporal_happening)))) (e : (List Int)) =>
  ctl (forC (R := (Int × (Option Int))) (fun g => fun (i : (List Int)) => (idx e (g : Int)).bind fun c =>
  (hmapGet k c).bind fun h =>
  (temporal_tick_p a b c i h).bind <| un2 fun (l : (List Int)) (f : (Option Int)) =>
  if f.isSome then (some (Ctl.ret (0, f)))
  else (some (Ctl.next l))) (e.length) 0 a.Init) (fun r => some r) (fun (j : (List Int)) => (task_Holds_p a.Goal j).bind <| fun (m : Bool) =>
  if !m then (some (0, some 13))
  else ((temporal_makespan_p a b).bind <| fun (n : Int) =>
  some (n, none))))
noncomputable def simulate_invalid_p (a : (Option Int)) : Option (Bool) :=
  some ((decide (a = some 18)) || ((decide (a = some 17)) || ((decide (a = some 12)) || ((decide (a = some 16)) || decide (a = some 13)))))
def simulate_invalid_t (a : (Option Int)) : Bool :=
  ((decide (a = some 18)) || ((decide (a = some 17)) || ((decide (a = some 12)) || ((decide (a = some 16)) || decide (a = some 13)))))
theorem simulate_invalid_tot (a : (Option Int)) : simulate_invalid_p a = some (simulate_invalid_t a) := by
  unfold simulate_invalid_p simulate_invalid_t
  (repeat' split) <;> rfl
attribute [irreducible] simulate_invalid_t
structure simulate_Event where
  At : Int
  Launch : Int
  End : Bool
def encsimulate_Event : Enc simulate_Event := Enc.iso ((encInt .i64).pair ((encInt .i64).pair encBool)) (fun b => (b.At, b.Launch, b.End))
theorem encsimulate_Event_val {s : PHeap} {v : Value} {b : simulate_Event} : encsimulate_Event.val s v b ↔ v = .agg #[.int .i64 (b.At), .int .i64 (b.Launch), .bool (b.End)] := by
  simp only [Enc.iso, Enc.pair, Enc.val, encBool, encInt, encsimulate_Event, if_true, oneCell]
  constructor
  · rintro ⟨cs, rfl, h⟩
    obtain ⟨cs⟩ := cs
    simp only [] at h
    obtain ⟨_, _, rfl, rfl, ⟨_, _, rfl, rfl, rfl⟩⟩ := h
    rfl
  · rintro rfl
    exact ⟨_, rfl, ⟨[.int .i64 (b.At)], [.int .i64 (b.Launch), .bool (b.End)], rfl, rfl, ⟨[.int .i64 (b.Launch)], [.bool (b.End)], rfl, rfl, rfl⟩⟩⟩
structure simulate_Problem where
  At : Int
  Kind : Int
  Launch : Int
  Other : Int
  Var : Int
def encsimulate_Problem : Enc simulate_Problem := Enc.iso ((encInt .i64).pair ((encInt .i64).pair ((encInt .i64).pair ((encInt .i64).pair (encInt .i64))))) (fun b => (b.At, b.Kind, b.Launch, b.Other, b.Var))
theorem encsimulate_Problem_val {s : PHeap} {v : Value} {b : simulate_Problem} : encsimulate_Problem.val s v b ↔ v = .agg #[.int .i64 (b.At), .int .i64 (b.Kind), .int .i64 (b.Launch), .int .i64 (b.Other), .int .i64 (b.Var)] := by
  simp only [Enc.iso, Enc.pair, Enc.val, encInt, encsimulate_Problem, if_true, oneCell]
  constructor
  · rintro ⟨cs, rfl, h⟩
    obtain ⟨cs⟩ := cs
    simp only [] at h
    obtain ⟨_, _, rfl, rfl, ⟨_, _, rfl, rfl, ⟨_, _, rfl, rfl, ⟨_, _, rfl, rfl, rfl⟩⟩⟩⟩ := h
    rfl
  · rintro rfl
    exact ⟨_, rfl, ⟨[.int .i64 (b.At)], [.int .i64 (b.Kind), .int .i64 (b.Launch), .int .i64 (b.Other), .int .i64 (b.Var)], rfl, rfl, ⟨[.int .i64 (b.Kind)], [.int .i64 (b.Launch), .int .i64 (b.Other), .int .i64 (b.Var)], rfl, rfl, ⟨[.int .i64 (b.Launch)], [.int .i64 (b.Other), .int .i64 (b.Var)], rfl, rfl, ⟨[.int .i64 (b.Other)], [.int .i64 (b.Var)], rfl, rfl, rfl⟩⟩⟩⟩⟩
structure simulate_Report where
  Events : (List simulate_Event)
  States : (List (List Int))
  Problems : (List simulate_Problem)
  Makespan : Int
structure simulate_run where
  t : Temporal
  l : (List Launch)
  out : simulate_Report
noncomputable def simulate_run_end_p (a : simulate_run) (c : Int) : Option (Int) :=
  (idx a.l c).bind fun b =>
  (idx a.t.Jobs b.Job).bind fun d =>
  some (IntKind.i64.wrap (b.At + d.Duration))
noncomputable def cmp_isNaN_int_p (a : Int) : Option (Bool) :=
  some (!decide (a = a))
def cmp_isNaN_int_t (a : Int) : Bool :=
  (!decide (a = a))
theorem cmp_isNaN_int_tot (a : Int) : cmp_isNaN_int_p a = some (cmp_isNaN_int_t a) := by
  unfold cmp_isNaN_int_p cmp_isNaN_int_t
  (repeat' split) <;> rfl
attribute [irreducible] cmp_isNaN_int_t
noncomputable def cmp_Compare_int_p (b : Int) (a : Int) : Option (Int) :=
  if (cmp_isNaN_int_t b) then (if (cmp_isNaN_int_t a) then (some 0)
  else (some (-1)))
  else (if (cmp_isNaN_int_t a) then (some 1)
  else (if decide (b < a) then (some (-1))
  else (if decide (a < b) then (some 1)
  else (some 0))))
def cmp_Compare_int_t (b : Int) (a : Int) : Int :=
  if (cmp_isNaN_int_t b) then (if (cmp_isNaN_int_t a) then (0)
  else ((-1)))
  else (if (cmp_isNaN_int_t a) then (1)
  else (if decide (b < a) then ((-1))
  else (if decide (a < b) then (1)
  else (0))))
theorem cmp_Compare_int_tot (a : Int) (b : Int) : cmp_Compare_int_p a b = some (cmp_Compare_int_t a b) := by
  unfold cmp_Compare_int_p cmp_Compare_int_t
  (repeat' split) <;> rfl
attribute [irreducible] cmp_Compare_int_t
noncomputable def simulate_rank_p (a : Bool) : Option (Int) :=
  if a then (some 0)
  else (some 1)
def simulate_rank_t (a : Bool) : Int :=
  if a then (0)
  else (1)
theorem simulate_rank_tot (a : Bool) : simulate_rank_p a = some (simulate_rank_t a) := by
  unfold simulate_rank_p simulate_rank_t
  (repeat' split) <;> rfl
attribute [irreducible] simulate_rank_t
noncomputable def cmp_Or_int_p (a : (List Int)) : Option (Int) :=
  ctl (forC (R := (Int)) (fun c => fun (_ : Unit) => (idx a (c : Int)).bind fun b =>
  if !decide (b = 0) then (some (Ctl.ret b))
  else (some (Ctl.next ()))) (a.length) 0 ()) (fun r => some r) (fun (_ : Unit) => some 0)
noncomputable def simulate_run_events_c1_p (a : simulate_Event) (b : simulate_Event) : Option (Int) :=
  (cmp_Or_int_p [(cmp_Compare_int_t a.At b.At), (cmp_Compare_int_t (simulate_rank_t a.End) (simulate_rank_t b.End)), (cmp_Compare_int_t a.Launch b.Launch)]).bind <| fun (c : Int) =>
  some c
def rkE (a : simulate_Event) : Int := if a.End then 0 else 1
def cmpV (a b : simulate_Event) : Int := if cmpI a.At b.At ≠ 0 then cmpI a.At b.At else if cmpI (rkE a) (rkE b) ≠ 0 then cmpI (rkE a) (rkE b) else cmpI a.Launch b.Launch
noncomputable def sortEvent_p (xs : List simulate_Event) : Option (List simulate_Event) := if xs.length < 4611686018427387904 then some (xs.mergeSort fun x y => !decide (cmpV y x < 0)) else none
noncomputable def simulate_run_events_p (a : simulate_run) : Option (Int × (List simulate_Event)) :=
  (forS (fun b => un2 fun (c : Int) (d : (List simulate_Event)) => (idx a.l (b : Int)).bind fun g =>
  (simulate_run_end_p (⟨a.t, a.l, (⟨d, a.out.States, a.out.Problems, c⟩ : simulate_Report)⟩ : simulate_run) (b : Int)).bind <| fun (h : Int) =>
  (app 24 d [(⟨g.At, (b : Int), false⟩ : simulate_Event), (⟨h, (b : Int), true⟩ : simulate_Event)]).bind fun e =>
  (simulate_run_end_p (⟨a.t, a.l, (⟨e, a.out.States, a.out.Problems, c⟩ : simulate_Report)⟩ : simulate_run) (b : Int)).bind <| fun (i : Int) =>
  some (max c i, e)) (a.l.length) 0 (a.out.Makespan, a.out.Events)).bind (un2 fun (c : Int) (d : (List simulate_Event)) => (sortEvent_p d).bind <| fun (f : (List simulate_Event)) =>
  some (c, f))
noncomputable def simulate_run_end_43_p (a : simulate_run) (c : Int) : Option (Int) :=
  (idx a.l c).bind fun b =>
  (idx a.t.Jobs b.Job).bind fun d =>
  some (IntKind.i64.wrap (b.At + d.Duration))
noncomputable def simulate_run_report_p (g : simulate_run) (a : Int) (b : Int) (d : Int) (e : Int) (f : Int) : Option ((List simulate_Problem)) :=
  (app 40 g.out.Problems [(⟨a, b, d, e, f⟩ : simulate_Problem)]).bind fun c =>
  some c
noncomputable def simulate_run_overlaps_p (a : simulate_run) (c : Int) : Option ((List simulate_Problem)) :=
  (forS (fun d => fun (g : (List simulate_Problem)) => (idx a.l (d : Int)).bind fun h =>
  (forS (fun b => fun (e : (List simulate_Problem)) => (idx a.l (b : Int)).bind fun f =>
  (if decide (h.At = c) then (if !decide ((b : Int) = (d : Int)) then (if decide (h.Job = f.Job) then (if decide (f.At < c) then ((simulate_run_end_43_p (⟨a.t, a.l, (⟨a.out.Events, a.out.States, e, a.out.Makespan⟩ : simulate_Report)⟩ : simulate_run) (b : Int)).bind <| fun (k : Int) =>
  if decide (c ≤ k) then (some true)
  else (if decide (f.At = c) then (some (decide ((b : Int) < (d : Int))))
  else (some false)))
  else (if decide (f.At = c) then (some (decide ((b : Int) < (d : Int))))
  else (some false)))
  else (some false))
  else (some false))
  else (some false)).bind (fun (m : Bool) => (if m then ((simulate_run_report_p (⟨a.t, a.l, (⟨a.out.Events, a.out.States, e, a.out.Makespan⟩ : simulate_Report)⟩ : simulate_run) c 18 (d : Int) (b : Int) (-1)).bind <| fun (i : (List simulate_Problem)) =>
  some i)
  else (some e)).bind (fun (j : (List simulate_Problem)) => some j))) (a.l.length) 0 g).bind (fun (e : (List simulate_Problem)) => some e)) (a.l.length) 0 a.out.Problems).bind (fun (g : (List simulate_Problem)) => some g)
noncomputable def simulate_run_job_p (a : simulate_run) (b : simulate_Event) : Option (Job) :=
  (idx a.l b.Launch).bind fun c =>
  (idx a.t.Jobs c.Job).bind fun d =>
  some d
noncomputable def simulate_happening_p (a : Job) (b : Bool) : Option ((List Fact) × (List Fact)) :=
  if b then (some (a.End, a.AtEnd))
  else (some (a.Start, a.AtStart))
def simulate_happening_t (a : Job) (b : Bool) : (List Fact) × (List Fact) :=
  if b then ((a.End, a.AtEnd))
  else ((a.Start, a.AtStart))
theorem simulate_happening_tot (b : Job) (a : Bool) : simulate_happening_p b a = some (simulate_happening_t b a) := by
  unfold simulate_happening_p simulate_happening_t
  (repeat' split) <;> rfl
attribute [irreducible] simulate_happening_t
noncomputable def simulate_shared_p (d : (List Fact)) (e : (List Fact)) : Option (Int) :=
  (forS (fun f => fun (b : Int) => (idx d (f : Int)).bind fun c =>
  (forS (fun g => fun (a : Int) => (idx e (g : Int)).bind fun i =>
  (if ((decide (c.Var = i.Var)) && ((decide (a < 0)) || decide (c.Var < a))) then (some c.Var)
  else (some a)).bind (fun (h : Int) => some h)) (e.length) 0 b).bind (fun (a : Int) => some a)) (d.length) 0 (-1)).bind (fun (b : Int) => some b)
noncomputable def simulate_meeting_p (b : Job) (d : Bool) (c : Job) (e : Bool) : Option (Int) :=
  (simulate_shared_p ((simulate_happening_t b d).2) ((simulate_happening_t c e).2)).bind <| fun (g : Int) =>
  (simulate_shared_p ((simulate_happening_t b d).2) ((simulate_happening_t c e).1)).bind <| fun (h : Int) =>
  (simulate_shared_p ((simulate_happening_t c e).2) ((simulate_happening_t b d).1)).bind <| fun (i : Int) =>
  (forS (fun j => fun (a : Int) => (idx [g, h, i] (j : Int)).bind fun f =>
  (if ((decide (0 ≤ f)) && ((decide (a < 0)) || decide (f < a))) then (some f)
  else (some a)).bind (fun (k : Int) => some k)) ([g, h, i].length) 0 (-1)).bind (fun (a : Int) => some a)
noncomputable def simulate_missing_p (b : (List Fact)) (g : (List Int)) : Option ((List Fact)) :=
  (forS (fun d => fun (a : (List Fact)) => (idx b (d : Int)).bind fun c =>
  (task_Holds_p [c] g).bind <| fun (h : Bool) =>
  (if !h then ((app 16 a [c]).bind fun e =>
  some e)
  else (some a)).bind (fun (f : (List Fact)) => some f)) (b.length) 0 []).bind (fun (a : (List Fact)) => some a)
noncomputable def slices_Clone_simulateEvent_p (b : (List simulate_Event)) : Option ((List simulate_Event)) :=
  (app 24 [] b).bind fun a =>
  some a
noncomputable def simulate_run_write_c1_p (a : simulate_Event) (b : simulate_Event) (c : simulate_run) : Option (Int) :=
  (idx c.l a.Launch).bind fun d =>
  (idx c.l b.Launch).bind fun e =>
  (cmp_Or_int_p [(cmp_Compare_int_t (simulate_rank_t a.End) (simulate_rank_t b.End)), (cmp_Compare_int_t d.Job e.Job)]).bind <| fun (f : Int) =>
  some f
noncomputable def slices_insertionSortCmpFunc_simulateEvent_o_write_c1_p (i : (List simulate_Event)) (d : Int) (g : Int) (h : simulate_run) : Option ((List simulate_Event)) :=
  ctl (whileC (R := ((List simulate_Event))) (un2 fun (c : Int) (e : (List simulate_Event)) => if decide (c < g) then (ctl (whileC (R := ((List simulate_Event))) (un2 fun (a : Int) (b : (List simulate_Event)) => (if decide (d < a) then ((idx b a).bind fun m =>
  (idx b (IntKind.i64.wrap (a - 1))).bind fun n =>
  (simulate_run_write_c1_p m n h).bind <| fun (q : Int) =>
  some (decide (q < 0)))
  else (some false)).bind (fun (s : Bool) => if s then ((idx b (IntKind.i64.wrap (a - 1))).bind fun o =>
  (idx b a).bind fun p =>
  (setI b a o).bind fun f =>
  (idx f (IntKind.i64.wrap (a - 1))).bind fun v =>
  (setI f (IntKind.i64.wrap (a - 1)) p).bind fun j =>
  some (Ctl.next (IntKind.i64.wrap (a - 1), j)))
  else (some (Ctl.brk (a, b))))) (c, e)) (fun r => some (Ctl.ret r)) (un2 fun (u : Int) (k : (List simulate_Event)) => some (Ctl.next (IntKind.i64.wrap (c + 1), k))))
  else (some (Ctl.brk (c, e)))) (IntKind.i64.wrap (d + 1), i)) (fun r => some r) (un2 fun (t : Int) (l : (List simulate_Event)) => some l)
noncomputable def slices_swapRangeCmpFunc_simulateEvent_o_write_c1_p (f : (List simulate_Event)) (d : Int) (c : Int) (i : Int) (l : simulate_run) : Option ((List simulate_Event)) :=
  ctl (whileC (R := ((List simulate_Event))) (un2 fun (a : Int) (b : (List simulate_Event)) => if decide (a < i) then ((idx b (IntKind.i64.wrap (c + a))).bind fun j =>
  (idx b (IntKind.i64.wrap (d + a))).bind fun k =>
  (setI b (IntKind.i64.wrap (d + a)) j).bind fun e =>
  (idx e (IntKind.i64.wrap (c + a))).bind fun n =>
  (setI e (IntKind.i64.wrap (c + a)) k).bind fun g =>
  some (Ctl.next (IntKind.i64.wrap (a + 1), g)))
  else (some (Ctl.brk (a, b)))) (0, f)) (fun r => some r) (un2 fun (m : Int) (h : (List simulate_Event)) => some h)
noncomputable def slices_rotateCmpFunc_simulateEvent_o_write_c1_p (i : (List simulate_Event)) (g : Int) (c : Int) (h : Int) (d : simulate_run) : Option ((List simulate_Event)) :=
  ctl (whileC (R := ((List simulate_Event))) (un3 fun (a : Int) (b : Int) (e : (List simulate_Event)) => if !decide (a = b) then ((if decide (b < a) then ((slices_swapRangeCmpFunc_simulateEvent_o_write_c1_p e (IntKind.i64.wrap (c - a)) c b d).bind <| fun (l : (List simulate_Event)) =>
  some (IntKind.i64.wrap (a - b), b, l))
  else ((slices_swapRangeCmpFunc_simulateEvent_o_write_c1_p e (IntKind.i64.wrap (c - a)) (IntKind.i64.wrap ((IntKind.i64.wrap (c + b)) - a)) a d).bind <| fun (m : (List simulate_Event)) =>
  some (a, IntKind.i64.wrap (b - a), m))).bind (un3 fun (j : Int) (k : Int) (n : (List simulate_Event)) => some (Ctl.next (j, k, n))))
  else (some (Ctl.brk (a, b, e)))) (IntKind.i64.wrap (c - g), IntKind.i64.wrap (h - c), i)) (fun r => some r) (un3 fun (f : Int) (q : Int) (o : (List simulate_Event)) => (slices_swapRangeCmpFunc_simulateEvent_o_write_c1_p o (IntKind.i64.wrap (c - f)) c f d).bind <| fun (p : (List simulate_Event)) =>
  some p)
noncomputable def slices_symMergeCmpFunc_simulateEvent_o_write_c1_p : Nat → (List simulate_Event) → Int → Int → Int → simulate_run → Option ((List simulate_Event))
  | 0, _, _, _, _, _ => none
  | fu + 1, d, a, c, b, j =>
  if decide ((IntKind.i64.wrap (c - a)) = 1) then (ctl (whileC (R := ((List simulate_Event))) (un2 fun (k : Int) (m : Int) => if decide (k < m) then ((idx d (IntKind.i64.wrap ((IntKind.u64.wrap (IntKind.i64.wrap (k + m))).fdiv (2 ^ 1)))).bind fun an =>
  (idx d a).bind fun ao =>
  (simulate_run_write_c1_p an ao j).bind <| fun (az : Int) =>
  (if decide (az < 0) then (some (IntKind.i64.wrap ((IntKind.i64.wrap ((IntKind.u64.wrap (IntKind.i64.wrap (k + m))).fdiv (2 ^ 1))) + 1), m))
  else (some (k, IntKind.i64.wrap ((IntKind.u64.wrap (IntKind.i64.wrap (k + m))).fdiv (2 ^ 1))))).bind (un2 fun (v : Int) (z : Int) => some (Ctl.next (v, z))))
  else (some (Ctl.brk (k, m)))) (c, b)) (fun r => some r) (un2 fun (w : Int) (a2 : Int) => ctl (whileC (R := ((List simulate_Event))) (un2 fun (f : Int) (o : (List simulate_Event)) => if decide (f < (IntKind.i64.wrap (w - 1))) then ((idx o (IntKind.i64.wrap (f + 1))).bind fun ap =>
  (idx o f).bind fun aq =>
  (setI o f ap).bind fun q =>
  (idx q (IntKind.i64.wrap (f + 1))).bind fun a7 =>
  (setI q (IntKind.i64.wrap (f + 1)) aq).bind fun ab =>
  some (Ctl.next (IntKind.i64.wrap (f + 1), ab)))
  else (some (Ctl.brk (f, o)))) (a, d)) (fun r => some r) (un2 fun (a4 : Int) (ac : (List simulate_Event)) => some ac)))
  else (if decide ((IntKind.i64.wrap (b - c)) = 1) then (ctl (whileC (R := ((List simulate_Event))) (un2 fun (l : Int) (n : Int) => if decide (l < n) then ((idx d c).bind fun ar =>
  (idx d (IntKind.i64.wrap ((IntKind.u64.wrap (IntKind.i64.wrap (l + n))).fdiv (2 ^ 1)))).bind fun au =>
  (simulate_run_write_c1_p ar au j).bind <| fun (a0 : Int) =>
  (if !(decide (a0 < 0)) then (some (IntKind.i64.wrap ((IntKind.i64.wrap ((IntKind.u64.wrap (IntKind.i64.wrap (l + n))).fdiv (2 ^ 1))) + 1), n))
  else (some (l, IntKind.i64.wrap ((IntKind.u64.wrap (IntKind.i64.wrap (l + n))).fdiv (2 ^ 1))))).bind (un2 fun (x : Int) (aa : Int) => some (Ctl.next (x, aa))))
  else (some (Ctl.brk (l, n)))) (a, c)) (fun r => some r) (un2 fun (y : Int) (a3 : Int) => ctl (whileC (R := ((List simulate_Event))) (un2 fun (g : Int) (p : (List simulate_Event)) => if decide (y < g) then ((idx p (IntKind.i64.wrap (g - 1))).bind fun av =>
  (idx p g).bind fun aw =>
  (setI p g av).bind fun s =>
  (idx s (IntKind.i64.wrap (g - 1))).bind fun a8 =>
  (setI s (IntKind.i64.wrap (g - 1)) aw).bind fun ad =>
  some (Ctl.next (IntKind.i64.wrap (g - 1), ad)))
  else (some (Ctl.brk (g, p)))) (c, d)) (fun r => some r) (un2 fun (a5 : Int) (ae : (List simulate_Event)) => some ae)))
  else ((if decide ((IntKind.i64.wrap ((IntKind.u64.wrap (IntKind.i64.wrap (a + b))).fdiv (2 ^ 1))) < c) then (some (IntKind.i64.wrap ((IntKind.i64.wrap ((IntKind.i64.wrap ((IntKind.u64.wrap (IntKind.i64.wrap (a + b))).fdiv (2 ^ 1))) + c)) - b), IntKind.i64.wrap ((IntKind.u64.wrap (IntKind.i64.wrap (a + b))).fdiv (2 ^ 1))))
  else (some (a, c))).bind (un2 fun (al : Int) (aj : Int) => ctl (whileC (R := ((List simulate_Event))) (un2 fun (i : Int) (h : Int) => if decide (i < h) then ((idx d (IntKind.i64.wrap ((IntKind.i64.wrap ((IntKind.i64.wrap ((IntKind.i64.wrap ((IntKind.u64.wrap (IntKind.i64.wrap (a + b))).fdiv (2 ^ 1))) + c)) - 1)) - (IntKind.i64.wrap ((IntKind.u64.wrap (IntKind.i64.wrap (i + h))).fdiv (2 ^ 1)))))).bind fun ax =>
  (idx d (IntKind.i64.wrap ((IntKind.u64.wrap (IntKind.i64.wrap (i + h))).fdiv (2 ^ 1)))).bind fun ay =>
  (simulate_run_write_c1_p ax ay j).bind <| fun (a1 : Int) =>
  (if !(decide (a1 < 0)) then (some (IntKind.i64.wrap ((IntKind.i64.wrap ((IntKind.u64.wrap (IntKind.i64.wrap (i + h))).fdiv (2 ^ 1))) + 1), h))
  else (some (i, IntKind.i64.wrap ((IntKind.u64.wrap (IntKind.i64.wrap (i + h))).fdiv (2 ^ 1))))).bind (un2 fun (am : Int) (ak : Int) => some (Ctl.next (am, ak))))
  else (some (Ctl.brk (i, h)))) (al, aj)) (fun r => some r) (un2 fun (e : Int) (a6 : Int) => (if ((decide (e < c)) && decide (c < (IntKind.i64.wrap ((IntKind.i64.wrap ((IntKind.i64.wrap ((IntKind.u64.wrap (IntKind.i64.wrap (a + b))).fdiv (2 ^ 1))) + c)) - e)))) then ((slices_rotateCmpFunc_simulateEvent_o_write_c1_p d e c (IntKind.i64.wrap ((IntKind.i64.wrap ((IntKind.i64.wrap ((IntKind.u64.wrap (IntKind.i64.wrap (a + b))).fdiv (2 ^ 1))) + c)) - e)) j).bind <| fun (af : (List simulate_Event)) =>
  some af)
  else (some d)).bind (fun (t : (List simulate_Event)) => (if ((decide (a < e)) && decide (e < (IntKind.i64.wrap ((IntKind.u64.wrap (IntKind.i64.wrap (a + b))).fdiv (2 ^ 1))))) then ((slices_symMergeCmpFunc_simulateEvent_o_write_c1_p fu t a e (IntKind.i64.wrap ((IntKind.u64.wrap (IntKind.i64.wrap (a + b))).fdiv (2 ^ 1))) j).bind <| fun (ag : (List simulate_Event)) =>
  some ag)
  else (some t)).bind (fun (u : (List simulate_Event)) => (if ((decide ((IntKind.i64.wrap ((IntKind.u64.wrap (IntKind.i64.wrap (a + b))).fdiv (2 ^ 1))) < (IntKind.i64.wrap ((IntKind.i64.wrap ((IntKind.i64.wrap ((IntKind.u64.wrap (IntKind.i64.wrap (a + b))).fdiv (2 ^ 1))) + c)) - e)))) && decide ((IntKind.i64.wrap ((IntKind.i64.wrap ((IntKind.i64.wrap ((IntKind.u64.wrap (IntKind.i64.wrap (a + b))).fdiv (2 ^ 1))) + c)) - e)) < b)) then ((slices_symMergeCmpFunc_simulateEvent_o_write_c1_p fu u (IntKind.i64.wrap ((IntKind.u64.wrap (IntKind.i64.wrap (a + b))).fdiv (2 ^ 1))) (IntKind.i64.wrap ((IntKind.i64.wrap ((IntKind.i64.wrap ((IntKind.u64.wrap (IntKind.i64.wrap (a + b))).fdiv (2 ^ 1))) + c)) - e)) b j).bind <| fun (ah : (List simulate_Event)) =>
  some ah)
  else (some u)).bind (fun (ai : (List simulate_Event)) => some ai)))))))
noncomputable def slices_stableCmpFunc_simulateEvent_o_write_c1_p (fu : Nat) (n : (List simulate_Event)) (b : Int) (e : simulate_run) : Option ((List simulate_Event)) :=
  ctl (whileC (R := ((List simulate_Event))) (un3 fun (h : Int) (c : Int) (i : (List simulate_Event)) => if decide (c ≤ b) then ((slices_insertionSortCmpFunc_simulateEvent_o_write_c1_p i h c e).bind <| fun (o : (List simulate_Event)) =>
  some (Ctl.next (c, IntKind.i64.wrap (c + 20), o)))
  else (some (Ctl.brk (h, c, i)))) (0, 20, n)) (fun r => some r) (un3 fun (m : Int) (w : Int) (p : (List simulate_Event)) => (slices_insertionSortCmpFunc_simulateEvent_o_write_c1_p p m b e).bind <| fun (q : (List simulate_Event)) =>
  ctl (whileC (R := ((List simulate_Event))) (un2 fun (a : Int) (j : (List simulate_Event)) => if decide (a < b) then (ctl (whileC (R := ((List simulate_Event))) (un3 fun (f : Int) (d : Int) (k : (List simulate_Event)) => if decide (d ≤ b) then ((slices_symMergeCmpFunc_simulateEvent_o_write_c1_p fu k f (IntKind.i64.wrap (f + a)) d e).bind <| fun (s : (List simulate_Event)) =>
  some (Ctl.next (d, IntKind.i64.wrap (d + (IntKind.i64.wrap (2 * a))), s)))
  else (some (Ctl.brk (f, d, k)))) (0, IntKind.i64.wrap (2 * a), j)) (fun r => some (Ctl.ret r)) (un3 fun (g : Int) (x : Int) (l : (List simulate_Event)) => (if decide ((IntKind.i64.wrap (g + a)) < b) then ((slices_symMergeCmpFunc_simulateEvent_o_write_c1_p fu l g (IntKind.i64.wrap (g + a)) b e).bind <| fun (t : (List simulate_Event)) =>
  some t)
  else (some l)).bind (fun (u : (List simulate_Event)) => some (Ctl.next (IntKind.i64.wrap (a * 2), u)))))
  else (some (Ctl.brk (a, j)))) (20, q)) (fun r => some r) (un2 fun (y : Int) (v : (List simulate_Event)) => some v))
noncomputable def slices_SortStableFunc_simulateEvent_o_write_c1_p (fu : Nat) (a : (List simulate_Event)) (b : simulate_run) : Option ((List simulate_Event)) :=
  (slices_stableCmpFunc_simulateEvent_o_write_c1_p fu a (a.length : Int) b).bind <| fun (c : (List simulate_Event)) =>
  some c
noncomputable def simulate_run_write_p (fu : Nat) (f : simulate_run) (l : (List Int)) (j : (List simulate_Event)) : Option ((List Int)) :=
  (slices_Clone_simulateEvent_p j).bind <| fun (m : (List simulate_Event)) =>
  (slices_SortStableFunc_simulateEvent_o_write_c1_p fu m f).bind <| fun (e : (List simulate_Event)) =>
  (slices_Clone_int_p l).bind <| fun (n : (List Int)) =>
  (forS (fun h => fun (b : (List Int)) => (idx e (h : Int)).bind fun c =>
  (simulate_run_job_p f c).bind <| fun (g : Job) =>
  (forS (fun i => fun (a : (List Int)) => (idx ((simulate_happening_t g c.End).2) (i : Int)).bind fun d =>
  (idx a d.Var).bind fun o =>
  (setI a d.Var d.Val).bind fun k =>
  some k) (((simulate_happening_t g c.End).2).length) 0 b).bind (fun (a : (List Int)) => some a)) (e.length) 0 n).bind (fun (b : (List Int)) => some b)
noncomputable def simulate_run_tick_p (fu : Nat) (a : simulate_run) (d : Int) (b : (List simulate_Event)) (r : (List Int)) : Option ((List Int) × (List (List Int)) × (List simulate_Problem)) :=
  (simulate_run_overlaps_p a d).bind <| fun (ab : (List simulate_Problem)) =>
  (forS (fun q => fun (h : (List simulate_Problem)) => (idx b (q : Int)).bind fun k =>
  (cut b (IntKind.i64.wrap ((q : Int) + 1)) (b.length : Int)).bind fun p =>
  (forS (fun x => fun (c : (List simulate_Problem)) => (idx p (x : Int)).bind fun m =>
  (simulate_run_job_p (⟨a.t, a.l, (⟨a.out.Events, a.out.States, c, a.out.Makespan⟩ : simulate_Report)⟩ : simulate_run) k).bind <| fun (ak : Job) =>
  (simulate_run_job_p (⟨a.t, a.l, (⟨a.out.Events, a.out.States, c, a.out.Makespan⟩ : simulate_Report)⟩ : simulate_run) m).bind <| fun (al : Job) =>
  (simulate_meeting_p ak k.End al m.End).bind <| fun (u : Int) =>
  (if decide (0 ≤ u) then ((simulate_run_report_p (⟨a.t, a.l, (⟨a.out.Events, a.out.States, c, a.out.Makespan⟩ : simulate_Report)⟩ : simulate_run) d 17 k.Launch m.Launch u).bind <| fun (ac : (List simulate_Problem)) =>
  some ac)
  else (some c)).bind (fun (ad : (List simulate_Problem)) => some ad)) (p.length) 0 h).bind (fun (c : (List simulate_Problem)) => some c)) (b.length) 0 ab).bind (fun (h : (List simulate_Problem)) => (forS (fun y => fun (e : (List simulate_Problem)) => (idx b (y : Int)).bind fun n =>
  (simulate_run_job_p (⟨a.t, a.l, (⟨a.out.Events, a.out.States, e, a.out.Makespan⟩ : simulate_Report)⟩ : simulate_run) n).bind <| fun (am : Job) =>
  (simulate_missing_p ((simulate_happening_t am n.End).1) r).bind <| fun (v : (List Fact)) =>
  (forS (fun z => fun (i : (List simulate_Problem)) => (idx v (z : Int)).bind fun ah =>
  (simulate_run_report_p (⟨a.t, a.l, (⟨a.out.Events, a.out.States, i, a.out.Makespan⟩ : simulate_Report)⟩ : simulate_run) d 12 n.Launch (-1) ah.Var).bind <| fun (ae : (List simulate_Problem)) =>
  some ae) (v.length) 0 e).bind (fun (i : (List simulate_Problem)) => some i)) (b.length) 0 h).bind (fun (e : (List simulate_Problem)) => (simulate_run_write_p fu (⟨a.t, a.l, (⟨a.out.Events, a.out.States, e, a.out.Makespan⟩ : simulate_Report)⟩ : simulate_run) r b).bind <| fun (o : (List Int)) =>
  (forS (fun g => fun (f : (List simulate_Problem)) => (idx a.l (g : Int)).bind fun s =>
  (if decide (d < s.At) then (some true)
  else ((simulate_run_end_43_p (⟨a.t, a.l, (⟨a.out.Events, a.out.States, f, a.out.Makespan⟩ : simulate_Report)⟩ : simulate_run) (g : Int)).bind <| fun (an : Int) =>
  some (decide (an ≤ d)))).bind (fun (ao : Bool) => if ao then (some f)
  else ((idx a.t.Jobs s.Job).bind fun ai =>
  (simulate_missing_p ai.Over o).bind <| fun (w : (List Fact)) =>
  (forS (fun aa => fun (j : (List simulate_Problem)) => (idx w (aa : Int)).bind fun aj =>
  (simulate_run_report_p (⟨a.t, a.l, (⟨a.out.Events, a.out.States, j, a.out.Makespan⟩ : simulate_Report)⟩ : simulate_run) d 16 (g : Int) (-1) aj.Var).bind <| fun (af : (List simulate_Problem)) =>
  some af) (w.length) 0 f).bind (fun (j : (List simulate_Problem)) => some j)))) (a.l.length) 0 e).bind (fun (f : (List simulate_Problem)) => (app 24 a.out.States [o]).bind fun ag =>
  some (o, ag, f))))
noncomputable def simulate_Run_p (fu : Nat) (c : Temporal) (f : (List Launch)) : Option ((Option Int) × simulate_Report) :=
  (temporal_Validate_p c f).bind <| un2 fun (al : Int) (j : (Option Int)) =>
  if (j.isSome && !(simulate_invalid_t j)) then (some (j, (⟨[], [], [], 0⟩ : simulate_Report)))
  else ((simulate_run_events_p (⟨c, f, (⟨([] : (List simulate_Event)), ([] : (List (List Int))), ([] : (List simulate_Problem)), 0⟩ : simulate_Report)⟩ : simulate_run)).bind <| un2 fun (g : Int) (u : (List simulate_Event)) =>
  (slices_Clone_int_p c.Init).bind <| fun (ag : (List Int)) =>
  ctl (whileC (R := ((Option Int) × simulate_Report)) (un5 fun (o : (List Int)) (b : Int) (a : (List simulate_Event)) (m : (List (List Int))) (n : (List simulate_Problem)) => if decide (b < (a.length : Int)) then (ctl (whileC (R := ((Option Int) × simulate_Report)) (fun (d : Int) => (if decide (d < (a.length : Int)) then ((idx a d).bind fun ab =>
  (idx a b).bind fun ac =>
  some (decide (ab.At = ac.At)))
  else (some false)).bind (fun (aj : Bool) => if aj then (some (Ctl.next (IntKind.i64.wrap (d + 1))))
  else (some (Ctl.brk d)))) b) (fun r => some (Ctl.ret r)) (fun (l : Int) => (idx a b).bind fun ad =>
  (cut a b l).bind fun s =>
  (simulate_run_tick_p fu (⟨c, f, (⟨a, m, n, g⟩ : simulate_Report)⟩ : simulate_run) ad.At s o).bind <| un3 fun (ah : (List Int)) (v : (List (List Int))) (w : (List simulate_Problem)) =>
  some (Ctl.next (ah, l, a, v, w))))
  else (some (Ctl.brk (o, b, a, m, n)))) (ag, 0, u, ([] : (List (List Int))), ([] : (List simulate_Problem)))) (fun r => some r) (un5 fun (aa : (List Int)) (ak : Int) (q : (List simulate_Event)) (h : (List (List Int))) (x : (List simulate_Problem)) => (simulate_missing_p c.Goal aa).bind <| fun (p : (List Fact)) =>
  (forS (fun t => fun (i : (List simulate_Problem)) => (idx p (t : Int)).bind fun ae =>
  (simulate_run_report_p (⟨c, f, (⟨q, h, i, g⟩ : simulate_Report)⟩ : simulate_run) g 13 (-1) (-1) ae.Var).bind <| fun (y : (List simulate_Problem)) =>
  some y) (p.length) 0 x).bind (fun (i : (List simulate_Problem)) => (forS (fun k => fun (e : (List (List Int))) => (idx e (k : Int)).bind fun af =>
  (slices_Clone_int_p af).bind <| fun (ai : (List Int)) =>
  (setI e (k : Int) ai).bind fun z =>
  some z) (h.length) 0 h).bind (fun (e : (List (List Int))) => some (none, (⟨q, e, i, g⟩ : simulate_Report))))))
noncomputable def law58_awake_p (fu : Nat) : Option (Bool) :=
  (simulate_Run_p fu law58_lamp_t [(⟨0, 0⟩ : Launch), (⟨1, 1⟩ : Launch)]).bind <| un2 fun (c : (Option Int)) (b : simulate_Report) =>
  (if c.isNone then (if decide (b.Makespan = 3) then (if decide ((b.Events.length : Int) = 4) then (if decide ((b.States.length : Int) = 4) then (if decide ((b.Problems.length : Int) = 2) then ((idx b.Problems 0).bind fun a =>
  some (eqs [a.At, a.Kind, a.Launch, a.Other, a.Var] [1, 16, 0, (-1), 0]))
  else (some false))
  else (some false))
  else (some false))
  else (some false))
  else (some false)).bind (fun (d : Bool) => some d)
noncomputable def law58_few_p (b : Temporal) (d : (List Launch)) : Option (Bool) :=
  if ((decide (70 < (b.Vars.length : Int))) || ((decide (30 < (b.Jobs.length : Int))) || ((decide (20 < (d.length : Int))) || decide (80 < (b.Goal.length : Int))))) then (some false)
  else (ctl (forC (R := (Bool)) (fun c => fun (_ : Unit) => (idx b.Jobs (c : Int)).bind fun a =>
  if ((decide (100 < (IntKind.i64.wrap ((IntKind.i64.wrap ((IntKind.i64.wrap ((IntKind.i64.wrap ((a.Start.length : Int) + (a.Over.length : Int))) + (a.End.length : Int))) + (a.AtStart.length : Int))) + (a.AtEnd.length : Int))))) || decide (300 < (a.Name.size : Int))) then (some (Ctl.ret false))
  else (some (Ctl.next ()))) (b.Jobs.length) 0 ()) (fun r => some r) (fun (_ : Unit) => some true))
noncomputable def ref55_lists_p (c : Temporal) : Option ((List (List Fact))) :=
  (forS (fun d => fun (b : (List (List Fact))) => (idx c.Jobs (d : Int)).bind fun a =>
  (app 24 b [a.Start, a.Over, a.End, a.AtStart, a.AtEnd]).bind fun e =>
  some e) (c.Jobs.length) 0 [c.Goal]).bind (fun (b : (List (List Fact))) => some b)
noncomputable def base_State_p (c : (List Int)) (a : (List Int)) : Option (Bool) :=
  if !decide ((a.length : Int) = (c.length : Int)) then (some false)
  else (ctl (forC (R := (Bool)) (fun b => fun (_ : Unit) => ((idx a (b : Int)).bind fun d =>
  if decide (d < 0) then (some true)
  else ((idx c (b : Int)).bind fun e =>
  some (decide (e ≤ d)))).bind (fun (f : Bool) => if f then (some (Ctl.ret false))
  else (some (Ctl.next ())))) (a.length) 0 ()) (fun r => some r) (fun (_ : Unit) => some true))
noncomputable def base_Proper_p (d : (List Int)) (b : (List Fact)) : Option (Bool) :=
  ctl (forC (R := (Bool)) (fun c => fun (_ : Unit) => (idx b (c : Int)).bind fun a =>
  (if decide (a.Var < 0) then (some true)
  else (if decide ((d.length : Int) ≤ a.Var) then (some true)
  else (if decide (a.Val < 0) then (some true)
  else ((idx d a.Var).bind fun e =>
  if decide (e ≤ a.Val) then (some true)
  else (if decide (0 < (c : Int)) then ((idx b (IntKind.i64.wrap ((c : Int) - 1))).bind fun f =>
  some (decide (a.Var ≤ f.Var)))
  else (some false)))))).bind (fun (g : Bool) => if g then (some (Ctl.ret false))
  else (some (Ctl.next ())))) (b.length) 0 ()) (fun r => some r) (fun (_ : Unit) => some true)
noncomputable def ref55_named_p (a : ByteArray) : Option (Bool) :=
  (must (decide ((a.size : Int) ≤ 9223372036854775807))).bind fun e =>
  ctl (forC (R := (Bool)) (fun c => fun (_ : Unit) => ((idx (bytesOf a) (c : Int)).bind fun b =>
  if decide (b < 32) then (some true)
  else (some (decide (126 < b)))).bind (fun (d : Bool) => if d then (some (Ctl.ret false))
  else (some (Ctl.next ())))) ((a.size : Int).toNat) 0 ()) (fun r => some r) (fun (_ : Unit) => some (decide ((a.size : Int) ≤ 256)))
noncomputable def ref55_Check_p (a : Temporal) : Option (Int) :=
  if ((decide (64 < (a.Vars.length : Int))) || decide (24 < (a.Jobs.length : Int))) then (some 5)
  else ((ref55_lists_p a).bind <| fun (d : (List (List Fact))) =>
  ctl (forC (R := (Int)) (fun f => fun (_ : Unit) => (idx d (f : Int)).bind fun k =>
  if decide (64 < (k.length : Int)) then (some (Ctl.ret 5))
  else (some (Ctl.next ()))) (d.length) 0 ()) (fun r => some r) (fun (_ : Unit) => ctl (forC (R := (Int)) (fun g => fun (_ : Unit) => (idx a.Vars (g : Int)).bind fun b =>
  if ((decide (b < 1)) || decide (64 < b)) then (some (Ctl.ret 1))
  else (some (Ctl.next ()))) (a.Vars.length) 0 ()) (fun r => some r) (fun (_ : Unit) => ctl (forC (R := (Int)) (fun h => fun (_ : Unit) => (idx a.Jobs (h : Int)).bind fun c =>
  if ((decide (c.Duration < 1)) || decide (62 < c.Duration)) then (some (Ctl.ret 1))
  else (some (Ctl.next ()))) (a.Jobs.length) 0 ()) (fun r => some r) (fun (_ : Unit) => (base_State_p a.Vars a.Init).bind <| fun (n : Bool) =>
  if !n then (some 2)
  else ((ref55_lists_p a).bind <| fun (e : (List (List Fact))) =>
  ctl (forC (R := (Int)) (fun i => fun (_ : Unit) => (idx e (i : Int)).bind fun l =>
  (base_Proper_p a.Vars l).bind <| fun (o : Bool) =>
  if !o then (some (Ctl.ret 2))
  else (some (Ctl.next ()))) (e.length) 0 ()) (fun r => some r) (fun (_ : Unit) => ctl (forC (R := (Int)) (fun j => fun (_ : Unit) => (idx a.Jobs (j : Int)).bind fun m =>
  (ref55_named_p m.Name).bind <| fun (p : Bool) =>
  if !p then (some (Ctl.ret 8))
  else (some (Ctl.next ()))) (a.Jobs.length) 0 ()) (fun r => some r) (fun (_ : Unit) => some 0)))))))
noncomputable def base_Num_p (a : (Option Int)) : Option (Int) :=
  if a.isNone then (some 0)
  else (if a.isSome then (some (a.getD 0))
  else (some (-1)))
def base_Num_t (a : (Option Int)) : Int :=
  if a.isNone then (0)
  else (if a.isSome then ((a.getD 0))
  else ((-1)))
theorem base_Num_tot (a : (Option Int)) : base_Num_p a = some (base_Num_t a) := by
  unfold base_Num_p base_Num_t
  (repeat' split) <;> rfl
attribute [irreducible] base_Num_t
noncomputable def ref55_Launches_p (d : Temporal) (b : (List Launch)) : Option (Int) :=
  if decide (4096 < (b.length : Int)) then (some 5)
  else (ctl (forC (R := (Int)) (fun c => fun (_ : Unit) => (idx b (c : Int)).bind fun a =>
  if ((decide (a.Job < 0)) || ((decide ((d.Jobs.length : Int) ≤ a.Job)) || ((decide (a.At < 0)) || decide (1048576 < a.At)))) then (some (Ctl.ret 1))
  else (some (Ctl.next ()))) (b.length) 0 ()) (fun r => some r) (fun (_ : Unit) => some 0))
noncomputable def ref55_End_p (b : Temporal) (a : Launch) : Option (Int) :=
  (idx b.Jobs a.Job).bind fun c =>
  some (IntKind.i64.wrap (a.At + c.Duration))
noncomputable def ref55_Makespan_p (d : Temporal) (b : (List Launch)) : Option (Int) :=
  (forS (fun c => fun (a : Int) => (idx b (c : Int)).bind fun e =>
  (ref55_End_p d e).bind <| fun (f : Int) =>
  some (max a f)) (b.length) 0 0).bind (fun (a : Int) => some a)
noncomputable def ref55_Ticks_p (m : Temporal) (e : (List Launch)) : Option ((List Int)) :=
  ctl (whileC (R := ((List Int))) (un2 fun (f : (List Int)) (k : Int) => (forS (fun h => fun (a : Int) => (idx e (h : Int)).bind fun c =>
  (ref55_End_p m c).bind <| fun (g : Int) =>
  (forS (fun i => fun (b : Int) => (idx [c.At, g] (i : Int)).bind fun d =>
  (if ((decide (k < d)) && ((decide (b < 0)) || decide (d < b))) then (some d)
  else (some b)).bind (fun (l : Int) => some l)) ([c.At, g].length) 0 a).bind (fun (b : Int) => some b)) (e.length) 0 (-1)).bind (fun (a : Int) => if decide (a < 0) then (some (Ctl.ret f))
  else ((app 8 f [a]).bind fun j =>
  some (Ctl.next (j, a))))) ([], (-1))) (fun r => some r) (un2 fun (o : (List Int)) (n : Int) => none)
structure ref55_Happening where
  Launch : Int
  End : Bool
def encref55_Happening : Enc ref55_Happening := Enc.iso ((encInt .i64).pair encBool) (fun b => (b.Launch, b.End))
theorem encref55_Happening_val {s : PHeap} {v : Value} {b : ref55_Happening} : encref55_Happening.val s v b ↔ v = .agg #[.int .i64 (b.Launch), .bool (b.End)] := by
  simp only [Enc.iso, Enc.pair, Enc.val, encBool, encInt, encref55_Happening, if_true, oneCell]
  constructor
  · rintro ⟨cs, rfl, h⟩
    obtain ⟨cs⟩ := cs
    simp only [] at h
    obtain ⟨_, _, rfl, rfl, rfl⟩ := h
    rfl
  · rintro rfl
    exact ⟨_, rfl, ⟨[.int .i64 (b.Launch)], [.bool (b.End)], rfl, rfl, rfl⟩⟩
noncomputable def ref55_At_p (g : Temporal) (f : (List Launch)) (h : Int) : Option ((List ref55_Happening)) :=
  (forS (fun j => fun (c : (List ref55_Happening)) => (idx [true, false] (j : Int)).bind fun i =>
  (forS (fun k => fun (b : (List ref55_Happening)) => (forS (fun e => fun (a : (List ref55_Happening)) => (idx f (e : Int)).bind fun d =>
  (if decide (d.Job = (k : Int)) then (if i then ((ref55_End_p g d).bind <| fun (n : Int) =>
  if decide (n = h) then (some true)
  else (some false))
  else (some (decide (d.At = h))))
  else (some false)).bind (fun (o : Bool) => (if o then ((app 16 a [(⟨(e : Int), i⟩ : ref55_Happening)]).bind fun l =>
  some l)
  else (some a)).bind (fun (m : (List ref55_Happening)) => some m))) (f.length) 0 b).bind (fun (a : (List ref55_Happening)) => some a)) (g.Jobs.length) 0 c).bind (fun (b : (List ref55_Happening)) => some b)) ([true, false].length) 0 []).bind (fun (c : (List ref55_Happening)) => some c)
noncomputable def ref55_Writes_p (a : Job) (b : Bool) : Option ((List Fact)) :=
  if b then (some a.AtEnd)
  else (some a.AtStart)
def ref55_Writes_t (a : Job) (b : Bool) : (List Fact) :=
  if b then (a.AtEnd)
  else (a.AtStart)
theorem ref55_Writes_tot (b : Job) (a : Bool) : ref55_Writes_p b a = some (ref55_Writes_t b a) := by
  unfold ref55_Writes_p ref55_Writes_t
  (repeat' split) <;> rfl
attribute [irreducible] ref55_Writes_t
noncomputable def ref55_After_p (f : Temporal) (e : (List Launch)) (n : Int) (m : (List Int)) : Option ((List Int)) :=
  (app 8 [] m).bind fun k =>
  (ref55_At_p f e n).bind <| fun (h : (List ref55_Happening)) =>
  (forS (fun i => fun (b : (List Int)) => (idx h (i : Int)).bind fun c =>
  (idx e c.Launch).bind fun o =>
  (idx f.Jobs o.Job).bind fun g =>
  (forS (fun j => fun (a : (List Int)) => (idx (ref55_Writes_t g c.End) (j : Int)).bind fun d =>
  (idx a d.Var).bind fun p =>
  (setI a d.Var d.Val).bind fun l =>
  some l) ((ref55_Writes_t g c.End).length) 0 b).bind (fun (a : (List Int)) => some a)) (h.length) 0 k).bind (fun (b : (List Int)) => some b)
structure ref58_Event where
  At : Int
  Launch : Int
  End : Bool
def encref58_Event : Enc ref58_Event := Enc.iso ((encInt .i64).pair ((encInt .i64).pair encBool)) (fun b => (b.At, b.Launch, b.End))
theorem encref58_Event_val {s : PHeap} {v : Value} {b : ref58_Event} : encref58_Event.val s v b ↔ v = .agg #[.int .i64 (b.At), .int .i64 (b.Launch), .bool (b.End)] := by
  simp only [Enc.iso, Enc.pair, Enc.val, encBool, encInt, encref58_Event, if_true, oneCell]
  constructor
  · rintro ⟨cs, rfl, h⟩
    obtain ⟨cs⟩ := cs
    simp only [] at h
    obtain ⟨_, _, rfl, rfl, ⟨_, _, rfl, rfl, rfl⟩⟩ := h
    rfl
  · rintro rfl
    exact ⟨_, rfl, ⟨[.int .i64 (b.At)], [.int .i64 (b.Launch), .bool (b.End)], rfl, rfl, ⟨[.int .i64 (b.Launch)], [.bool (b.End)], rfl, rfl, rfl⟩⟩⟩
noncomputable def ref58_events_p (k : Temporal) (a : (List Launch)) (d : Int) : Option ((List ref58_Event)) :=
  (forS (fun e => fun (c : (List ref58_Event)) => (idx a (e : Int)).bind fun l =>
  (ref55_End_p k l).bind <| fun (n : Int) =>
  (if decide (n = d) then ((app 24 c [(⟨d, (e : Int), true⟩ : ref58_Event)]).bind fun g =>
  some g)
  else (some c)).bind (fun (h : (List ref58_Event)) => some h)) (a.length) 0 []).bind (fun (c : (List ref58_Event)) => (forS (fun f => fun (b : (List ref58_Event)) => (idx a (f : Int)).bind fun m =>
  (if decide (m.At = d) then ((app 24 b [(⟨d, (f : Int), false⟩ : ref58_Event)]).bind fun i =>
  some i)
  else (some b)).bind (fun (j : (List ref58_Event)) => some j)) (a.length) 0 c).bind (fun (b : (List ref58_Event)) => some b))
structure ref58_Problem where
  At : Int
  Kind : Int
  Launch : Int
  Other : Int
  Var : Int
def encref58_Problem : Enc ref58_Problem := Enc.iso ((encInt .i64).pair ((encInt .i64).pair ((encInt .i64).pair ((encInt .i64).pair (encInt .i64))))) (fun b => (b.At, b.Kind, b.Launch, b.Other, b.Var))
theorem encref58_Problem_val {s : PHeap} {v : Value} {b : ref58_Problem} : encref58_Problem.val s v b ↔ v = .agg #[.int .i64 (b.At), .int .i64 (b.Kind), .int .i64 (b.Launch), .int .i64 (b.Other), .int .i64 (b.Var)] := by
  simp only [Enc.iso, Enc.pair, Enc.val, encInt, encref58_Problem, if_true, oneCell]
  constructor
  · rintro ⟨cs, rfl, h⟩
    obtain ⟨cs⟩ := cs
    simp only [] at h
    obtain ⟨_, _, rfl, rfl, ⟨_, _, rfl, rfl, ⟨_, _, rfl, rfl, ⟨_, _, rfl, rfl, rfl⟩⟩⟩⟩ := h
    rfl
  · rintro rfl
    exact ⟨_, rfl, ⟨[.int .i64 (b.At)], [.int .i64 (b.Kind), .int .i64 (b.Launch), .int .i64 (b.Other), .int .i64 (b.Var)], rfl, rfl, ⟨[.int .i64 (b.Kind)], [.int .i64 (b.Launch), .int .i64 (b.Other), .int .i64 (b.Var)], rfl, rfl, ⟨[.int .i64 (b.Launch)], [.int .i64 (b.Other), .int .i64 (b.Var)], rfl, rfl, ⟨[.int .i64 (b.Other)], [.int .i64 (b.Var)], rfl, rfl, rfl⟩⟩⟩⟩⟩
noncomputable def ref58_touches_p (a : (List Fact)) (c : Int) : Option (Bool) :=
  ctl (forC (R := (Bool)) (fun b => fun (_ : Unit) => (idx a (b : Int)).bind fun d =>
  if decide (d.Var = c) then (some (Ctl.ret true))
  else (some (Ctl.next ()))) (a.length) 0 ()) (fun r => some r) (fun (_ : Unit) => some false)
noncomputable def ref55_Reads_p (a : Job) (b : Bool) : Option ((List Fact)) :=
  if b then (some a.End)
  else (some a.Start)
def ref55_Reads_t (a : Job) (b : Bool) : (List Fact) :=
  if b then (a.End)
  else (a.Start)
theorem ref55_Reads_tot (b : Job) (a : Bool) : ref55_Reads_p b a = some (ref55_Reads_t b a) := by
  unfold ref55_Reads_p ref55_Reads_t
  (repeat' split) <;> rfl
attribute [irreducible] ref55_Reads_t
noncomputable def ref58_shared_p (g : Temporal) (d : Job) (b : Job) (e : Bool) (c : Bool) : Option (Int) :=
  ctl (forC (R := (Int)) (fun a => fun (_ : Unit) => ((ref58_touches_p (ref55_Writes_t d e) (a : Int)).bind <| fun (h : Bool) =>
  if h then ((ref58_touches_p (ref55_Writes_t b c) (a : Int)).bind <| fun (i : Bool) =>
  if i then (some true)
  else ((ref58_touches_p (ref55_Reads_t b c) (a : Int)).bind <| fun (j : Bool) =>
  some j))
  else (some false)).bind (fun (f : Bool) => (if f then (some true)
  else ((ref58_touches_p (ref55_Writes_t b c) (a : Int)).bind <| fun (k : Bool) =>
  if k then ((ref58_touches_p (ref55_Reads_t d e) (a : Int)).bind <| fun (l : Bool) =>
  some l)
  else (some false))).bind (fun (m : Bool) => if m then (some (Ctl.ret (a : Int)))
  else (some (Ctl.next ()))))) (g.Vars.length) 0 ()) (fun r => some r) (fun (_ : Unit) => some (-1))
noncomputable def ref58_lacking_p (c : (List Fact)) (g : (List Int)) : Option ((List Int)) :=
  (forS (fun d => fun (a : (List Int)) => (idx c (d : Int)).bind fun b =>
  (idx g b.Var).bind fun h =>
  (if !decide (h = b.Val) then ((app 8 a [b.Var]).bind fun e =>
  some e)
  else (some a)).bind (fun (f : (List Int)) => some f)) (c.length) 0 []).bind (fun (a : (List Int)) => some a)
noncomputable def ref58_problems_p (c : Temporal) (b : (List Launch)) (a : Int) (ab : (List Int)) (aa : (List Int)) : Option ((List ref58_Problem)) :=
  (forS (fun f => fun (o : (List ref58_Problem)) => (idx b (f : Int)).bind fun w =>
  (forS (fun g => fun (h : (List ref58_Problem)) => (idx b (g : Int)).bind fun e =>
  (if decide (w.At = a) then (if decide (w.Job = e.Job) then (if decide (e.At < a) then ((ref55_End_p c e).bind <| fun (ax : Int) =>
  if decide (a ≤ ax) then (some true)
  else (if decide (e.At = a) then (some (decide ((g : Int) < (f : Int))))
  else (some false)))
  else (if decide (e.At = a) then (some (decide ((g : Int) < (f : Int))))
  else (some false)))
  else (some false))
  else (some false)).bind (fun (az : Bool) => (if az then ((app 40 h [(⟨a, 18, (f : Int), (g : Int), (-1)⟩ : ref58_Problem)]).bind fun ag =>
  some ag)
  else (some h)).bind (fun (ah : (List ref58_Problem)) => some ah))) (b.length) 0 o).bind (fun (h : (List ref58_Problem)) => some h)) (b.length) 0 []).bind (fun (o : (List ref58_Problem)) => (ref58_events_p c b a).bind <| fun (d : (List ref58_Event)) =>
  (forS (fun u => fun (k : (List ref58_Problem)) => (idx d (u : Int)).bind fun p =>
  (cut d (IntKind.i64.wrap ((u : Int) + 1)) (d.length : Int)).bind fun t =>
  (forS (fun ac => fun (i : (List ref58_Problem)) => (idx t (ac : Int)).bind fun q =>
  (idx b p.Launch).bind fun am =>
  (idx c.Jobs am.Job).bind fun an =>
  (idx b q.Launch).bind fun ao =>
  (idx c.Jobs ao.Job).bind fun ap =>
  (ref58_shared_p c an ap p.End q.End).bind <| fun (x : Int) =>
  (if decide (0 ≤ x) then ((app 40 i [(⟨a, 17, p.Launch, q.Launch, x⟩ : ref58_Problem)]).bind fun ai =>
  some ai)
  else (some i)).bind (fun (aj : (List ref58_Problem)) => some aj)) (t.length) 0 k).bind (fun (i : (List ref58_Problem)) => some i)) (d.length) 0 o).bind (fun (k : (List ref58_Problem)) => (forS (fun ad => fun (l : (List ref58_Problem)) => (idx d (ad : Int)).bind fun r =>
  (idx b r.Launch).bind fun aq =>
  (idx c.Jobs aq.Job).bind fun ar =>
  (ref58_lacking_p (ref55_Reads_t ar r.End) ab).bind <| fun (y : (List Int)) =>
  (forS (fun ae => fun (m : (List ref58_Problem)) => (idx y (ae : Int)).bind fun au =>
  (app 40 m [(⟨a, 12, r.Launch, (-1), au⟩ : ref58_Problem)]).bind fun ak =>
  some ak) (y.length) 0 l).bind (fun (m : (List ref58_Problem)) => some m)) (d.length) 0 k).bind (fun (l : (List ref58_Problem)) => (forS (fun v => fun (j : (List ref58_Problem)) => (idx b (v : Int)).bind fun s =>
  (if decide (a < s.At) then (some true)
  else ((ref55_End_p c s).bind <| fun (ay : Int) =>
  some (decide (ay ≤ a)))).bind (fun (a0 : Bool) => if a0 then (some j)
  else ((idx c.Jobs s.Job).bind fun av =>
  (ref58_lacking_p av.Over aa).bind <| fun (z : (List Int)) =>
  (forS (fun af => fun (n : (List ref58_Problem)) => (idx z (af : Int)).bind fun aw =>
  (app 40 n [(⟨a, 16, (v : Int), (-1), aw⟩ : ref58_Problem)]).bind fun al =>
  some al) (z.length) 0 j).bind (fun (n : (List ref58_Problem)) => some n)))) (b.length) 0 l).bind (fun (j : (List ref58_Problem)) => some j))))
structure ref58_Report where
  Events : (List ref58_Event)
  States : (List (List Int))
  Problems : (List ref58_Problem)
  Makespan : Int
noncomputable def ref58_Run_p (a : Temporal) (b : (List Launch)) : Option (Int × ref58_Report) :=
  (ref55_Launches_p a b).bind <| fun (j : Int) =>
  if !decide (j = 0) then (some (j, (⟨[], [], [], 0⟩ : ref58_Report)))
  else ((ref55_Makespan_p a b).bind <| fun (k : Int) =>
  (ref55_Ticks_p a b).bind <| fun (l : (List Int)) =>
  (forS (fun n => un4 fun (c : (List Int)) (g : (List ref58_Event)) (h : (List (List Int))) (i : (List ref58_Problem)) => (idx l (n : Int)).bind fun e =>
  (ref55_After_p a b e c).bind <| fun (f : (List Int)) =>
  (ref58_events_p a b e).bind <| fun (u : (List ref58_Event)) =>
  (app 24 g u).bind fun p =>
  (app 24 h [f]).bind fun q =>
  (ref58_problems_p a b e c f).bind <| fun (v : (List ref58_Problem)) =>
  (app 40 i v).bind fun r =>
  some (f, p, q, r)) (l.length) 0 (a.Init, [], [], [])).bind (un4 fun (c : (List Int)) (g : (List ref58_Event)) (h : (List (List Int))) (i : (List ref58_Problem)) => (ref58_lacking_p a.Goal c).bind <| fun (m : (List Int)) =>
  (forS (fun o => fun (d : (List ref58_Problem)) => (idx m (o : Int)).bind fun t =>
  (app 40 d [(⟨k, 13, (-1), (-1), t⟩ : ref58_Problem)]).bind fun s =>
  some s) (m.length) 0 i).bind (fun (d : (List ref58_Problem)) => some (0, (⟨g, h, d, k⟩ : ref58_Report)))))
noncomputable def base_Ints_p (a : (List Int)) (b : (List Int)) : Option (Bool) :=
  if !decide ((a.length : Int) = (b.length : Int)) then (some false)
  else (ctl (forC (R := (Bool)) (fun c => fun (_ : Unit) => (idx a (c : Int)).bind fun d =>
  (idx b (c : Int)).bind fun e =>
  if !decide (d = e) then (some (Ctl.ret false))
  else (some (Ctl.next ()))) (a.length) 0 ()) (fun r => some r) (fun (_ : Unit) => some true))
noncomputable def ref58_Same_p (a : (List (List Int))) (b : (List (List Int))) : Option (Bool) :=
  if !decide ((a.length : Int) = (b.length : Int)) then (some false)
  else (ctl (forC (R := (Bool)) (fun c => fun (_ : Unit) => (idx a (c : Int)).bind fun d =>
  (idx b (c : Int)).bind fun e =>
  (base_Ints_p d e).bind <| fun (f : Bool) =>
  if !f then (some (Ctl.ret false))
  else (some (Ctl.next ()))) (a.length) 0 ()) (fun r => some r) (fun (_ : Unit) => some true))
noncomputable def law58_SimulateRuns_p (fu : Nat) (t1 : Temporal) (l10 : (List Launch)) : Option (Bool) :=
  ((law58_awake_p fu).bind <| fun (k : Bool) =>
  if !k then (some true)
  else ((law58_few_p t1 l10).bind <| fun (l : Bool) =>
  some (!l))).bind (fun (p : Bool) => if p then ((law58_awake_p fu).bind <| fun (m : Bool) =>
  some m)
  else ((simulate_Run_p fu t1 l10).bind <| un2 fun (i : (Option Int)) (a : simulate_Report) =>
  (ref55_Check_p t1).bind <| fun (j : Int) =>
  if !decide (j = 0) then (some ((decide ((a.Events.length : Int) = 0)) && ((decide ((a.States.length : Int) = 0)) && ((decide ((a.Problems.length : Int) = 0)) && ((decide (a.Makespan = 0)) && decide ((base_Num_t i) = j))))))
  else ((ref58_Run_p t1 l10).bind <| un2 fun (n : Int) (b : ref58_Report) =>
  (if !decide ((base_Num_t i) = n) then (some true)
  else (if !decide (a.Makespan = b.Makespan) then (some true)
  else (if !decide ((a.Events.length : Int) = (b.Events.length : Int)) then (some true)
  else (if !decide ((a.Problems.length : Int) = (b.Problems.length : Int)) then (some true)
  else ((ref58_Same_p a.States b.States).bind <| fun (o : Bool) =>
  some (!o)))))).bind (fun (q : Bool) => if q then (some false)
  else (ctl (forC (R := (Bool)) (fun g => fun (_ : Unit) => (idx a.Events (g : Int)).bind fun e =>
  ((idx b.Events (g : Int)).bind fun f =>
  if !decide (e.At = f.At) then (some true)
  else (if !decide (e.Launch = f.Launch) then (some true)
  else (some (!(e.End == f.End))))).bind (fun (s : Bool) => if s then (some (Ctl.ret false))
  else (some (Ctl.next ())))) (a.Events.length) 0 ()) (fun r => some r) (fun (_ : Unit) => ctl (forC (R := (Bool)) (fun h => fun (_ : Unit) => (idx a.Problems (h : Int)).bind fun c =>
  (idx b.Problems (h : Int)).bind fun d =>
  if ((!decide (c.At = d.At)) || ((!decide (c.Kind = d.Kind)) || ((!decide (c.Launch = d.Launch)) || ((!decide (c.Other = d.Other)) || !decide (c.Var = d.Var))))) then (some (Ctl.ret false))
  else (some (Ctl.next ()))) (a.Problems.length) 0 ()) (fun r => some r) (fun (_ : Unit) => some true)))))))
structure Arr2_int where
  a0 : Int
  a1 : Int
end Go.Pw
