/-
  The statement on distances, in plain Lean.
-/
import Derived.Test.YtdhfofhginfdnaaTrG
import Derived.Test.YtdhfofhginfdnaaTrF
set_option maxHeartbeats 4000000
set_option linter.unusedSimpArgs false
set_option linter.unusedVariables false
namespace Go.Pw
theorem refCosts_ok {x : System} (hv : VSys x) : Ok (ref44_Costs_p x) (SP (ArcOf x false) (fun i => (i : Int) = x.Init) x.States.toNat) := by
  have hws := hv.ws
  have i0 := hv.i0; have i1 := hv.i1; have s1 := hv.s1; have s2 := hv.s2; have he := hv.e
  obtain ⟨k, hk⟩ : ∃ k : Nat, x.Init = (k : Int) := ⟨x.Init.toNat, by omega⟩
  obtain ⟨n, hn⟩ : ∃ n : Nat, x.States = (n : Int) := ⟨x.States.toNat, by omega⟩
  have hnn : x.States.toNat = n := by omega
  rw [hnn] at hws ⊢
  unfold ref44_Costs_p
  rw [hn, hk]
  refine Ok.step (mk_ok (by omega) (by omega)) ?_
  have hkn : k < n := by omega
  have hget : idx (List.replicate n false) (k : Int) = some false := by rw [idx_nat]; simp [hkn]
  refine Ok.step hget (Ok.step (setI_nat (by simp; exact hkn)) ?_)
  have hloop := forS_list x.Edges (fun d => [(⟨d.To, d.Label, d.From⟩ : Edge)]) (s0 := []) (B := fun i37229 => fun (z37283 : (List Edge)) => (idx x.Edges (i37229 : Int)).bind fun x37369 =>
    (app 24 z37283 [(⟨x37369.To, x37369.Label, x37369.From⟩ : Edge)]).bind fun l37396 => some l37396) (by
      intro i d s hd hs
      have hsl : s.length ≤ 65536 := by rw [hs, List.nil_append, flat_one, List.length_map, List.length_take]; omega
      simp only [idx_nat, hd, Option.bind_some]
      rw [app_ok (by simp; omega)]
      rfl)
  rw [List.nil_append, flat_one] at hloop
  rw [hloop]
  simp only [Option.bind_some]
  have hy : WS n (⟨(n : Int), 0, x.Costs, x.Edges.map (fun d => (⟨d.To, d.Label, d.From⟩ : Edge)), (List.replicate n false).set k true⟩ : System) := by
    refine ⟨rfl, by omega, by simp, by simp; omega, fun d hd => ?_⟩
    obtain ⟨d', hd', rfl⟩ := List.mem_map.1 hd
    obtain ⟨f, t, l, rfl, hf, ht, c, hc, c0, c1⟩ := hws.edge d' hd'
    exact ⟨t, f, l, rfl, ht, hf, c, hc, c0, c1⟩
  obtain ⟨r, hr, hsp⟩ := refDist_ok hy
  rw [hr]
  refine Ok.ret ?_
  have hA : ArcOf (⟨(n : Int), 0, x.Costs, x.Edges.map (fun d => (⟨d.To, d.Label, d.From⟩ : Edge)), (List.replicate n false).set k true⟩ : System) true = ArcOf x false := by
    funext v u w
    apply propext
    simp only [ArcOf, if_true, Bool.false_eq_true, if_false]
    constructor
    · rintro ⟨d, hd, l, hl, hw, h1, h2⟩
      obtain ⟨d', hd', rfl⟩ := List.mem_map.1 hd
      exact ⟨d', hd', l, hl, hw, h1, h2⟩
    · rintro ⟨d, hd, l, hl, hw, h1, h2⟩
      exact ⟨_, List.mem_map.2 ⟨d, hd, rfl⟩, l, hl, hw, h1, h2⟩
  rw [hA] at hsp
  refine hsp.congr fun i => ?_
  unfold gsrc
  simp only
  by_cases e : i = k
  · subst e; simp [hkn]
  · rw [List.getElem?_set_ne (Ne.symm e)]
    simp only [List.getElem?_replicate]
    constructor
    · intro hh; split at hh <;> cases hh
    · intro hh; omega
theorem aokT {x : System} (hv : VSys x) : AOK (ArcOf x true) (gsrc x) x.States.toNat := hv.ws.aok true fun i hi => by
  have := (List.getElem?_eq_some_iff.1 hi).1
  have := hv.g
  omega
theorem aokF {x : System} (hv : VSys x) : AOK (ArcOf x false) (fun i => (i : Int) = x.Init) x.States.toNat := hv.ws.aok false fun i hi => by
  have := hv.i0; have := hv.i1
  omega
end Go.Pw
