/-
  The walks (printed by my generator).
-/
import Derived.Test.YtcapbkcdeeinoaaWP
import Derived.Test.YtcapbkcdeeinoaaProg
import Derived.KernelRfl
set_option maxRecDepth 100000
set_option linter.unusedVariables false
namespace Go.Pw
open Go.Proofs
theorem C30 : Try.prog.concrete 30 = true := by kernel_rfl

theorem S49 : tySlice Try.prog 49 = some (3, 1, 8) := by kernel_rfl

theorem Z3 : tyZero Try.prog 3 = some (Value.int .i64 (0)) := by kernel_rfl

theorem A3 : tyAgg Try.prog 3 = some (false, 1) := by kernel_rfl

theorem F63_0 : tyField Try.prog 63 0 = some 0 := by kernel_rfl

theorem A61 : tyAgg Try.prog 61 = some (false, 1) := by kernel_rfl

theorem S61 : tySlice Try.prog 61 = some (49, 1, 24) := by kernel_rfl

theorem Z49 : tyZero Try.prog 49 = some (Value.slice none 0 0) := by kernel_rfl

theorem N10 : (Try.f10.name == "runtime.NumGoroutine") = false := by kernel_rfl

theorem stn_New_sim {w0 w : World} {s : PHeap} {H : List Res} {n17 : Int}  {r : (Option stn_Network) × (Option Int)} (hm : stn_New_p n17 = some r) (hS : St w0 s (H) w)  :
    Calls Try.prog 10 #[Value.int .i64 (n17)] w fun e w' => ∃ v, e = .returned v ∧ ((un2 fun (p_d926 : (Option stn_Network)) (y927 : (Option Int)) => (∃ d926 : stn_Network, p_d926 = some d926 ∧ ∃ (s931 : PHeap) (b928 : Nat) (v929 : Value) (hs930 : List Value), PHeap.le s s931 ∧ St w0 s931 (Res.box b928 63 [v929] :: Res.arr encRaw 49 v929 hs930 :: Res.rows (encInt .i64) 3 hs930 d926.d :: H) w' ∧ v = Value.tuple #[Value.pointer (some ⟨b928, 0, none⟩), errV 30 (y927)]) ∨ (p_d926 = none ∧ ∃ (s932 : PHeap) , PHeap.le s s932 ∧ St w0 s932 (H) w' ∧ v = Value.tuple #[Value.pointer none, errV 30 (y927)])) r) := by
  unfold stn_New_p at hm
  refine calls_of_W Try.func10 rfl rfl ?_
  refine W_seq ?_
  refine W_region ?_
  refine WL_step rfl rfl (Exec.assign (v := Value.pointer none) rfl rfl ?_)
  refine WL_step rfl rfl (Exec.assign (v := errV 30 (none)) rfl rfl ?_)
  refine WL_nil (at_normal ?_)
  refine W_seq ?_
  refine W_seq ?_
  refine W_mid (M := fun f' w' => ∃ (s934 : PHeap) , PHeap.le s s934 ∧ St w0 s934 (H) w' ∧ f' 0 = Value.int .i64 (n17) ∧ f' 13 = Value.bool (((decide (n17 < 1)) || decide (128 < n17)))) ?_ ?_
  · refine W_region ?_
    refine WL_step rfl rfl (Exec.move (v := Value.int .i64 (n17)) rfl rfl ?_)
    refine WL_step rfl rfl (Exec.lss rfl rfl rfl ?_)
    refine WL_step rfl rfl (Exec.move (v := Value.bool (decide (n17 < 1))) rfl rfl ?_)
    by_cases hc935 : (decide (n17 < 1)) = true
    · refine WL_pass rfl (yield_of rfl (congrArg Value.bool hc935)) rfl rfl ?_
      refine WL_pass rfl (yield_of rfl (congrArg Value.bool hc935)) rfl rfl ?_
      refine WL_step rfl rfl (Exec.pick_t (v := Value.bool (true)) rfl (congrArg Value.bool hc935) rfl ?_)
      refine WL_nil (at_normal ?_)
      exact ⟨s, (PHeap.le_refl _), hS, rfl, (congrArg Value.bool (or_t hc935)).symm⟩
    · replace hc935 := not_true hc935
      refine WL_run rfl (yield_of rfl (congrArg Value.bool hc935)) rfl (Exec.move (v := Value.int .i64 (n17)) rfl rfl ?_)
      refine WL_run rfl (yield_of rfl (congrArg Value.bool hc935)) rfl (Exec.gtr rfl rfl rfl ?_)
      refine WL_step rfl rfl (Exec.pick_f (v := Value.bool (decide (128 < n17))) rfl (congrArg Value.bool hc935) rfl ?_)
      refine WL_nil (at_normal ?_)
      exact ⟨s, (PHeap.le_refl _), hS, rfl, (congrArg Value.bool (or_f hc935)).symm⟩
  · intro f936 w937 hM938
    obtain ⟨s939, l940, hS941, p942, p943⟩ := hM938
    refine (at_normal ?_)
    rcases ite_some hm with ⟨hc944, hm⟩ | ⟨hc944, hm⟩
    · refine W_cond_t p943 hc944 ?_
      refine W_seq ?_
      refine W_region ?_
      refine WL_step rfl rfl (Exec.makeInterface C30 rfl rfl ?_)
      refine WL_step rfl rfl (Exec.assign (v := Value.pointer none) rfl rfl ?_)
      refine WL_step rfl rfl (Exec.assign (v := errV 30 (some 1)) rfl rfl ?_)
      refine WL_nil (at_normal ?_)
      refine W_ret (at_ret ?_)
      have e946 := Option.some.inj hm
      subst r
      refine ⟨_, ret2 rfl, ?_⟩
      refine (Or.inr ⟨rfl, ?_⟩); exact ⟨s939, l940, hS941, (tup2 rfl rfl)⟩
    · refine W_cond_f p943 hc944 ?_
      replace hc944 := not_true hc944
      refine W_skip (at_normal ?_)
      refine W_seq ?_
      refine W_region ?_
      refine WL_step rfl rfl (Exec.build rfl parts_nil (v := Value.agg #[Value.slice none 0 0]) (fun _ => by kernel_rfl) ?_)
      refine WL_step rfl rfl (Exec.box (cs := [Value.slice none 0 0]) hS941 rfl rfl rfl ?_)
      intro b950 w951 hS952
      refine WL_step rfl rfl (Exec.assign (v := Value.pointer (some ⟨b950, 0, none⟩)) rfl rfl ?_)
      refine WL_nil (at_normal ?_)
      refine W_seq ?_
      refine W_seq ?_
      refine W_region ?_
      refine WL_step rfl rfl (Exec.move (v := Value.int .i64 (n17)) rfl p942 ?_)
      refine WL_step rfl rfl (Exec.move (v := Value.int .i64 (0)) rfl rfl ?_)
      refine WL_nil (at_normal ?_)
      obtain ⟨u953, q954, hm⟩ := bind_some hm
      obtain ⟨z1233, hB1526, hm⟩ := bind_some hm
      refine W_block (W_forS (fun k' s' f' w' => (fun (z1233 : (List (List Int))) => ∃ (s1527 : PHeap) (v1234 : Value) (hs1235 : List Value), PHeap.le s939 s1527 ∧ St w0 s1527 (Res.box b950 63 [v1234] :: Res.arr encRaw 49 v1234 hs1235 :: Res.rows (encInt .i64) 3 hs1235 z1233 :: H) w' ∧ f' 0 = Value.int .i64 (n17) ∧ f' 4 = Value.pointer (some ⟨b950, 0, none⟩) ∧ f' 17 = Value.int .i64 (n17) ∧ f' 18 = Value.int .i64 (k' : Int)) s') hB1526 ?_ ?_ ?_)
      · have hS1528 := (hS952.rows_nil (encInt .i64) 3).nilArr encRaw 49
        have hS1529 := (hS1528).f2
        exact ⟨s939, (Value.slice none 0 0), [], (PHeap.le_refl _), hS1529, p942, rfl, rfl, rfl⟩
      · intro i955 z1233 s1531 f1532 w1533 hi1534 hI1535 hm1536
        obtain ⟨s1537, v1234, hs1235, l1538, hS1539, p1540, p1541, p1542, x1543⟩ := hI1535
        refine W_seq ?_
        refine W_region ?_
        refine WL_step rfl rfl (Exec.lss rfl x1543 p1542 ?_)
        refine WL_nil (at_normal ?_)
        refine W_seq ?_
        refine W_true (congrArg Value.bool (decide_eq_true (by omega))) ?_
        refine W_skip (at_normal ?_)
        refine W_seq ?_
        refine W_block ?_
        refine W_seq ?_
        refine W_region ?_
        refine WL_step rfl rfl (Exec.move (v := Value.int .i64 ((i955 : Int))) rfl x1543 ?_)
        refine WL_step rfl rfl (Exec.assign (v := Value.int .i64 ((i955 : Int))) rfl rfl ?_)
        refine WL_nil (at_normal ?_)
        refine W_seq ?_
        refine W_region ?_
        refine WL_step rfl rfl (Exec.move (v := Value.int .i64 (n17)) rfl p1540 ?_)
        obtain ⟨l1549, q1550, hm1536⟩ := bind_some hm1536
        refine WL_step rfl rfl (Exec.make (E := (encInt .i64)) hS1539 S49 Z3 rfl rfl rfl rfl q1550 ?_)
        intro v1551 w1552 hS1553
        refine WL_step rfl rfl (Exec.assign (v := v1551) rfl rfl ?_)
        refine WL_nil (at_normal ?_)
        refine W_seq ?_
        refine W_seq ?_
        refine W_region ?_
        refine WL_step rfl rfl (Exec.move (v := v1551) rfl rfl ?_)
        refine WL_step rfl rfl (Exec.len_arr (hS1553) S49 rfl rfl ?_)
        refine WL_step rfl rfl (Exec.move (v := Value.int .i64 (0)) rfl rfl ?_)
        refine WL_nil (at_normal ?_)
        obtain ⟨l1622, hB1691, hm1536⟩ := bind_some hm1536
        refine W_block (W_forS (fun k' s' f' w' => (fun (l1622 : (List Int)) => ∃ (s1692 : PHeap) , PHeap.le s1537 s1692 ∧ St w0 s1692 (Res.box b950 63 [v1234] :: Res.arr (encInt .i64) 3 v1551 l1622 :: Res.arr encRaw 49 v1234 hs1235 :: Res.rows (encInt .i64) 3 hs1235 z1233 :: H) w' ∧ f' 0 = Value.int .i64 (n17) ∧ f' 4 = Value.pointer (some ⟨b950, 0, none⟩) ∧ f' 5 = Value.int .i64 ((i955 : Int)) ∧ f' 6 = v1551 ∧ f' 17 = Value.int .i64 (n17) ∧ f' 18 = Value.int .i64 ((i955 : Int)) ∧ f' 24 = Value.int .i64 ((l1549.length : Int)) ∧ f' 25 = Value.int .i64 (k' : Int)) s') hB1691 ?_ ?_ ?_)
        · have hS1693 := ((hS1553).f3).f3
          have hS1694 := (hS1693).f2
          have hS1695 := (hS1694).f3
          exact ⟨s1537, (PHeap.le_refl _), hS1695, p1540, p1541, rfl, rfl, p1542, x1543, rfl, rfl⟩
        · intro i1554 l1622 s1697 f1698 w1699 hi1700 hI1701 hm1702
          obtain ⟨s1703, l1704, hS1705, p1706, p1707, p1708, p1709, p1710, p1711, p1712, x1713⟩ := hI1701
          refine W_seq ?_
          refine W_region ?_
          refine WL_step rfl rfl (Exec.lss rfl x1713 p1712 ?_)
          refine WL_nil (at_normal ?_)
          refine W_seq ?_
          refine W_true (congrArg Value.bool (decide_eq_true (by omega))) ?_
          refine W_skip (at_normal ?_)
          refine W_seq ?_
          refine W_block ?_
          refine W_seq ?_
          refine W_region ?_
          refine WL_step rfl rfl (Exec.move (v := Value.int .i64 ((i1554 : Int))) rfl x1713 ?_)
          refine WL_step rfl rfl (Exec.assign (v := Value.int .i64 ((i1554 : Int))) rfl rfl ?_)
          refine WL_nil (at_normal ?_)
          refine W_seq ?_
          refine W_region ?_
          refine WL_step rfl rfl (Exec.move (v := Value.int .i64 ((i1554 : Int))) rfl rfl ?_)
          refine WL_step rfl rfl (Exec.move (v := Value.int .i64 ((i955 : Int))) rfl p1708 ?_)
          refine WL_step rfl rfl (Exec.neq rfl rfl rfl ?_)
          refine WL_nil (at_normal ?_)
          obtain ⟨l1734, ht1735, hm1702⟩ := bind_some hm1702
          refine W_mid (M := fun f' w' => (fun (l1734 : (List Int)) => ∃ (s1736 : PHeap) , PHeap.le s1703 s1736 ∧ St w0 s1736 (Res.box b950 63 [v1234] :: Res.arr (encInt .i64) 3 v1551 l1734 :: Res.arr encRaw 49 v1234 hs1235 :: Res.rows (encInt .i64) 3 hs1235 z1233 :: H) w' ∧ f' 0 = Value.int .i64 (n17) ∧ f' 4 = Value.pointer (some ⟨b950, 0, none⟩) ∧ f' 5 = Value.int .i64 ((i955 : Int)) ∧ f' 6 = v1551 ∧ f' 17 = Value.int .i64 (n17) ∧ f' 18 = Value.int .i64 ((i955 : Int)) ∧ f' 24 = Value.int .i64 ((l1549.length : Int)) ∧ f' 25 = Value.int .i64 ((i1554 : Int))) l1734) ?_ ?_
          · rcases ite_some ht1735 with ⟨hc1737, ht1735⟩ | ⟨hc1737, ht1735⟩
            · refine W_cond_t rfl hc1737 ?_
              refine W_region ?_
              refine WL_step rfl rfl (Exec.move (v := v1551) rfl p1709 ?_)
              refine WL_step rfl rfl (Exec.move (v := Value.int .i64 ((i1554 : Int))) rfl rfl ?_)
              obtain ⟨x1748, q1749, ht1735⟩ := bind_some ht1735
              obtain ⟨g1750, c1751, e1752⟩ := ((hS1705).f1).arr_at q1749
              refine WL_step rfl rfl (Exec.index_slice S49 rfl e1752 rfl (idx_some q1749).1 (idx_some q1749).2.1 ?_)
              obtain ⟨l1753, q1754, ht1735⟩ := bind_some ht1735
              have hS1755 := (hS1705).f1
              refine WL_step rfl rfl (Exec.store_arr hS1755 e1752 A3 rfl rfl rfl rfl (encInt_val.2 rfl) q1754 ?_)
              intro w1756 hS1757
              refine WL_nil (at_normal ?_)
              have e1758 := Option.some.inj ht1735
              subst l1734
              have hS1759 := ((hS1757).f3).f3
              have hS1760 := (hS1759).f2
              have hS1761 := (hS1760).f3
              exact ⟨s1703, (PHeap.le_refl _), hS1761, p1706, p1707, p1708, p1709, p1710, p1711, p1712, x1713⟩
            · refine W_cond_f rfl hc1737 ?_
              replace hc1737 := not_true hc1737
              refine W_skip (at_normal ?_)
              have e1762 := Option.some.inj ht1735
              subst l1734
              have hS1763 := ((hS1705).f3).f3
              have hS1764 := (hS1763).f3
              have hS1765 := (hS1764).f3
              exact ⟨s1703, (PHeap.le_refl _), hS1765, p1706, p1707, p1708, p1709, p1710, p1711, p1712, x1713⟩
          · intro f1766 w1767 hM1768
            obtain ⟨s1769, l1770, hS1771, p1772, p1773, p1774, p1775, p1776, p1777, p1778, p1779⟩ := hM1768
            refine (ib_normal (at_normal ?_))
            refine W_region ?_
            refine WL_step rfl rfl (Exec.add rfl p1779 rfl ?_)
            refine WL_step rfl rfl (Exec.move (v := Value.int .i64 (IntKind.i64.wrap ((i1554 : Int) + 1))) rfl rfl ?_)
            refine WL_nil (at_normal ?_)
            have e1780 := Option.some.inj hm1702
            subst s1697
            have hS1781 := ((hS1771).f3).f3
            have hS1782 := (hS1781).f3
            have hS1783 := (hS1782).f3
            exact ⟨s1769, (PHeap.le.trans l1704 l1770), hS1783, p1772, p1773, p1774, p1775, p1776, p1777, p1778, (Eq.trans rfl (wrap_up hi1700 (hS1553).arr_le))⟩
        · intro f1784 w1785 hI1786
          obtain ⟨s1787, l1788, hS1789, p1790, p1791, p1792, p1793, p1794, p1795, p1796, x1797⟩ := hI1786
          refine W_seq ?_
          refine W_region ?_
          refine WL_step rfl rfl (Exec.lss rfl x1797 p1796 ?_)
          refine WL_nil (at_normal ?_)
          refine W_seq ?_
          refine W_false (congrArg Value.bool (decide_eq_false (by omega))) ?_
          refine W_exit (at_exit (at_exit (ib_here (at_normal ?_))))
          refine W_region ?_
          refine WL_step rfl rfl (Exec.move (v := Value.pointer (some ⟨b950, 0, none⟩)) rfl p1791 ?_)
          refine WL_step rfl rfl (Exec.move (v := Value.pointer (some ⟨b950, 0, none⟩)) rfl p1791 ?_)
          refine WL_step rfl rfl (Exec.nilCheck_ptr rfl rfl ?_)
          refine WL_step rfl rfl (Exec.field F63_0 rfl rfl rfl ?_)
          refine WL_step rfl rfl (Exec.load_box (hS1789) A61 rfl rfl rfl ?_)
          refine WL_step rfl rfl (Exec.move (v := v1551) rfl p1793 ?_)
          refine WL_step rfl rfl (Exec.buildSlice (Te := 49) (cs := [v1551]) hS1789 rfl (parts_cons (c := [v1551]) (cells_of rfl (cells_one ((hS1789).f1).arr_one)) parts_nil) (fun _ => by kernel_rfl) ?_)
          intro b1814 w1815 hS1816
          obtain ⟨l1817, q1818, hm1536⟩ := bind_some hm1536
          have hS1819 := (hS1816).f2
          have hS1820 := (hS1819).f1
          have hS1821 := ((hS1820).f4).f4
          have hS1822 := ((hS1821).f2).f1
          refine WL_step rfl rfl (Exec.append_grid (E := encRaw) (ys := [v1551]) hS1822 S61 Z49 rfl (by decide) rfl rfl rfl rfl (reps_one ⟨rfl, ((hS1822).f3).arr_one⟩) rfl rfl ((hS1822).f2).rows_len q1818 ?_)
          intro v1823 w1824 hS1825
          have hS1826 := ((hS1825).f1.f2.rows_push).f1
          rw [← (app_some q1818).2] at hS1826
          refine WL_step rfl rfl (Exec.nilCheck_ptr rfl rfl ?_)
          refine WL_step rfl rfl (Exec.field F63_0 rfl rfl rfl ?_)
          have hS1827 := (hS1826).f2
          refine WL_step rfl rfl (Exec.store_box (ds := [v1823]) (es := [v1823]) hS1827 A61 rfl rfl rfl (cells_one (((hS1827).f2).f2).arr_one) (one_cons (((hS1827).f2).f2).arr_one one_nil) (Nat.le_of_ble_eq_true rfl) rfl ?_)
          intro w1828 hS1829
          refine WL_nil (ib_normal (at_normal ?_))
          refine W_region ?_
          refine WL_step rfl rfl (Exec.add rfl p1795 rfl ?_)
          refine WL_step rfl rfl (Exec.move (v := Value.int .i64 (IntKind.i64.wrap ((i955 : Int) + 1))) rfl rfl ?_)
          refine WL_nil (at_normal ?_)
          have e1830 := Option.some.inj hm1536
          subst s1531
          have hS1831 := ((hS1829).f2).f2
          have hS1832 := (hS1831).f2
          exact ⟨s1787, v1823, (hs1235 ++ [v1551]), (PHeap.le.trans l1538 l1788), hS1832, p1790, p1791, p1794, (Eq.trans rfl (wrap_up hi1534 (by have h := must_some q954; simp at h; simp only [maxLen]; omega)))⟩
      · intro f1833 w1834 hI1835
        obtain ⟨s1836, v1234, hs1235, l1837, hS1838, p1839, p1840, p1841, x1842⟩ := hI1835
        refine W_seq ?_
        refine W_region ?_
        refine WL_step rfl rfl (Exec.lss rfl x1842 p1841 ?_)
        refine WL_nil (at_normal ?_)
        refine W_seq ?_
        refine W_false (congrArg Value.bool (decide_eq_false (by omega))) ?_
        refine W_exit (at_exit (at_exit (ib_here (at_normal ?_))))
        refine W_seq ?_
        refine W_region ?_
        refine WL_step rfl rfl (Exec.move (v := Value.pointer (some ⟨b950, 0, none⟩)) rfl p1840 ?_)
        refine WL_step rfl rfl (Exec.assign (v := Value.pointer (some ⟨b950, 0, none⟩)) rfl rfl ?_)
        refine WL_step rfl rfl (Exec.assign (v := errV 30 (none)) rfl rfl ?_)
        refine WL_nil (at_normal ?_)
        refine W_ret ?_
        have e1844 := Option.some.inj hm
        subst r
        refine ⟨_, ret2 rfl, ?_⟩
        have hS1845 := ((hS1838).f2).f2
        have hS1846 := (hS1845).f2
        refine (Or.inl ⟨_, rfl, ?_⟩); exact ⟨s1836, b950, v1234, hs1235, (PHeap.le.trans l940 l1837), hS1846, (tup2 rfl rfl)⟩

theorem S22 : tySlice Try.prog 22 = some (32, 3, 24) := by kernel_rfl

theorem A32 : tyAgg Try.prog 32 = some (true, 3) := by kernel_rfl

theorem Z32 : tyZero Try.prog 32 = some (Value.agg #[Value.int .i64 (0), Value.int .i64 (0), Value.int .i64 (0)]) := by kernel_rfl

theorem F32_0 : tyField Try.prog 32 0 = some 0 := by kernel_rfl

theorem N26 : (Try.f26.name == "runtime.NumGoroutine") = false := by kernel_rfl

theorem stn_Network_point_sim {w0 w : World} {s : PHeap} {H : List Res} {n1937 : stn_Network} {p1941 : Int} {b1938 : Nat} {v1939 : Value} {hs1940 : List Value} {r : Bool} (hm : stn_Network_point_p n1937 p1941 = some r) (hS : St w0 s (Res.box b1938 63 [v1939] :: Res.arr encRaw 49 v1939 hs1940 :: Res.rows (encInt .i64) 3 hs1940 n1937.d :: H) w)  :
    Calls Try.prog 26 #[Value.pointer (some ⟨b1938, 0, none⟩), Value.int .i64 (p1941)] w fun e w' => ∃ v, e = .returned v ∧ ((fun (y1957 : Bool) => ∃ (s1958 : PHeap) , PHeap.le s s1958 ∧ St w0 s1958 (Res.box b1938 63 [v1939] :: Res.arr encRaw 49 v1939 hs1940 :: Res.rows (encInt .i64) 3 hs1940 n1937.d :: H) w' ∧ v = Value.bool (y1957)) r) := by
  unfold stn_Network_point_p at hm
  refine calls_of_W Try.func26 rfl rfl ?_
  refine W_seq ?_
  refine W_region ?_
  refine WL_step rfl rfl (Exec.assign (v := Value.bool (false)) rfl rfl ?_)
  refine WL_nil (at_normal ?_)
  refine W_seq ?_
  refine W_mid (M := fun f' w' => ∃ (s1960 : PHeap) , PHeap.le s s1960 ∧ St w0 s1960 (Res.box b1938 63 [v1939] :: Res.arr encRaw 49 v1939 hs1940 :: Res.rows (encInt .i64) 3 hs1940 n1937.d :: H) w' ∧ f' 4 = Value.bool (((decide (0 ≤ p1941)) && decide (p1941 < (n1937.d.length : Int))))) ?_ ?_
  · refine W_region ?_
    refine WL_step rfl rfl (Exec.move (v := Value.int .i64 (p1941)) rfl rfl ?_)
    refine WL_step rfl rfl (Exec.geq rfl rfl rfl ?_)
    refine WL_step rfl rfl (Exec.move (v := Value.bool (decide (0 ≤ p1941))) rfl rfl ?_)
    by_cases hc1961 : (decide (0 ≤ p1941)) = true
    · refine WL_run rfl (yield_of rfl (congrArg Value.bool hc1961)) rfl (Exec.move (v := Value.int .i64 (p1941)) rfl rfl ?_)
      refine WL_run rfl (yield_of rfl (congrArg Value.bool hc1961)) rfl (Exec.move (v := Value.pointer (some ⟨b1938, 0, none⟩)) rfl rfl ?_)
      refine WL_run rfl (yield_of rfl (congrArg Value.bool hc1961)) rfl (Exec.nilCheck_ptr rfl rfl ?_)
      refine WL_run rfl (yield_of rfl (congrArg Value.bool hc1961)) rfl (Exec.field F63_0 rfl rfl rfl ?_)
      refine WL_run rfl (yield_of rfl (congrArg Value.bool hc1961)) rfl (Exec.load_box (hS) A61 rfl rfl rfl ?_)
      refine WL_run rfl (yield_of rfl (congrArg Value.bool hc1961)) rfl (Exec.len_grid (((hS).f2).f2) (((hS).f2).f2).f1.rows_len S61 rfl rfl ?_)
      refine WL_run rfl (yield_of rfl (congrArg Value.bool hc1961)) rfl (Exec.lss rfl rfl rfl ?_)
      refine WL_step rfl rfl (Exec.pick_t (v := Value.bool (decide (p1941 < (n1937.d.length : Int)))) rfl (congrArg Value.bool hc1961) rfl ?_)
      refine WL_step rfl rfl (Exec.assign (v := Value.bool (decide (p1941 < (n1937.d.length : Int)))) rfl rfl ?_)
      refine WL_nil (at_normal ?_)
      have hS1962 := ((hS).f2).f2
      have hS1963 := (hS1962).f2
      exact ⟨s, (PHeap.le_refl _), hS1963, (congrArg Value.bool (and_t hc1961)).symm⟩
    · replace hc1961 := not_true hc1961
      refine WL_pass rfl (yield_of rfl (congrArg Value.bool hc1961)) rfl rfl ?_
      refine WL_pass rfl (yield_of rfl (congrArg Value.bool hc1961)) rfl rfl ?_
      refine WL_pass rfl (yield_of rfl (congrArg Value.bool hc1961)) rfl rfl ?_
      refine WL_pass rfl (yield_of rfl (congrArg Value.bool hc1961)) rfl rfl ?_
      refine WL_pass rfl (yield_of rfl (congrArg Value.bool hc1961)) rfl rfl ?_
      refine WL_pass rfl (yield_of rfl (congrArg Value.bool hc1961)) rfl rfl ?_
      refine WL_pass rfl (yield_of rfl (congrArg Value.bool hc1961)) rfl rfl ?_
      refine WL_step rfl rfl (Exec.pick_f (v := Value.bool (false)) rfl (congrArg Value.bool hc1961) rfl ?_)
      refine WL_step rfl rfl (Exec.assign (v := Value.bool (false)) rfl rfl ?_)
      refine WL_nil (at_normal ?_)
      have hS1964 := ((hS).f2).f2
      have hS1965 := (hS1964).f2
      exact ⟨s, (PHeap.le_refl _), hS1965, (congrArg Value.bool (and_f hc1961)).symm⟩
  · intro f1966 w1967 hM1968
    obtain ⟨s1969, l1970, hS1971, p1972⟩ := hM1968
    refine (at_normal ?_)
    refine W_ret ?_
    have e1974 := Option.some.inj hm
    subst r
    refine ⟨_, ret1 rfl, ?_⟩
    have hS1975 := ((hS1971).f2).f2
    have hS1976 := (hS1975).f2
    exact ⟨s1969, l1970, hS1976, p1972⟩

theorem F32_1 : tyField Try.prog 32 1 = some 1 := by kernel_rfl

theorem F32_2 : tyField Try.prog 32 2 = some 2 := by kernel_rfl

theorem hmix : Try.prog.follows .mixedOrders = true := by kernel_rfl

theorem A49 : tyAgg Try.prog 49 = some (false, 1) := by kernel_rfl

theorem N14 : (Try.f14.name == "runtime.NumGoroutine") = false := by kernel_rfl

theorem stn_Network_Add_sim {w0 w : World} {s : PHeap} {H : List Res} {n1926 : stn_Network} {b1930 : Bound} {b1927 : Nat} {v1928 : Value} {hs1929 : List Value} {r : (Option Int) × (List (List Int))} (hm : stn_Network_Add_p n1926 b1930 = some r) (hS : St w0 s (Res.box b1927 63 [v1928] :: Res.arr encRaw 49 v1928 hs1929 :: Res.rows (encInt .i64) 3 hs1929 n1926.d :: H) w)  :
    Calls Try.prog 14 #[Value.pointer (some ⟨b1927, 0, none⟩), Value.agg #[Value.int .i64 (b1930.A), Value.int .i64 (b1930.B), Value.int .i64 (b1930.Most)]] w fun e w' => ∃ v, e = .returned v ∧ ((un2 fun (y11196 : (Option Int)) (l11197 : (List (List Int))) => ∃ (s11198 : PHeap) , PHeap.le s s11198 ∧ St w0 s11198 (Res.box b1927 63 [v1928] :: Res.arr encRaw 49 v1928 hs1929 :: Res.rows (encInt .i64) 3 hs1929 l11197 :: H) w' ∧ v = errV 30 (y11196)) r) := by
  unfold stn_Network_Add_p at hm
  refine calls_of_W Try.func14 rfl rfl ?_
  refine W_seq ?_
  refine W_region ?_
  refine WL_step rfl rfl (Exec.box (cs := [Value.int .i64 (b1930.A), Value.int .i64 (b1930.B), Value.int .i64 (b1930.Most)]) hS rfl rfl rfl ?_)
  intro b11202 w11203 hS11204
  refine WL_step rfl rfl (Exec.assign (v := errV 30 (none)) rfl rfl ?_)
  refine WL_nil (at_normal ?_)
  refine W_seq ?_
  refine W_seq ?_
  refine W_region ?_
  refine WL_step rfl rfl (Exec.move (v := Value.pointer (some ⟨b1927, 0, none⟩)) rfl rfl ?_)
  refine WL_step rfl rfl (Exec.ptr_eql_nil Try.underlying24 rfl rfl rfl ?_)
  refine WL_nil (at_normal ?_)
  refine W_false rfl ?_
  refine W_skip (at_normal ?_)
  refine W_seq ?_
  refine W_seq ?_
  obtain ⟨z11220, ht11221, hm⟩ := bind_some hm
  refine W_mid (M := fun f' w' => (fun (z11220 : Bool) => ∃ (s11222 : PHeap) , PHeap.le s s11222 ∧ St w0 s11222 (Res.box b1927 63 [v1928] :: Res.arr encRaw 49 v1928 hs1929 :: Res.rows (encInt .i64) 3 hs1929 n1926.d :: Res.box b11202 32 [Value.int .i64 (b1930.A), Value.int .i64 (b1930.B), Value.int .i64 (b1930.Most)] :: H) w' ∧ f' 0 = Value.pointer (some ⟨b1927, 0, none⟩) ∧ f' 3 = Value.pointer (some ⟨b11202, 0, none⟩) ∧ f' 34 = Value.bool (z11220)) z11220) ?_ ?_
  · refine W_region ?_
    refine WL_step rfl rfl (Exec.move (v := Value.pointer (some ⟨b1927, 0, none⟩)) rfl rfl ?_)
    refine WL_step rfl rfl (Exec.field F32_0 rfl rfl rfl ?_)
    refine WL_step rfl rfl (Exec.load_box (hS11204) A3 rfl rfl rfl ?_)
    have hS11223 := ((hS11204).f3).f3
    have hS11224 := (hS11223).f3
    refine WL_step rfl rfl (Exec.call rfl rfl Try.func26 rfl N26 (args_cons rfl (args_cons rfl args_nil)) ((stn_Network_point_sim (stn_Network_point_tot n1926 b1930.A) hS11224 ).mono ?_))
    rintro _ w11225 ⟨_, rfl, ⟨s11226, l11227, hS11228, rfl⟩⟩
    refine ⟨_, rfl, ?_⟩
    refine WL_step rfl rfl (Exec.not rfl rfl ?_)
    refine WL_step rfl rfl (Exec.move (v := Value.bool (!(stn_Network_point_t n1926 b1930.A))) rfl rfl ?_)
    rcases ite_some ht11221 with ⟨hc11229, ht11221⟩ | ⟨hc11229, ht11221⟩
    · refine WL_pass rfl (yield_of rfl (congrArg Value.bool hc11229)) rfl rfl ?_
      refine WL_pass rfl (yield_of rfl (congrArg Value.bool hc11229)) rfl rfl ?_
      refine WL_pass rfl (yield_of rfl (congrArg Value.bool hc11229)) rfl rfl ?_
      refine WL_pass rfl (yield_of rfl (congrArg Value.bool hc11229)) rfl rfl ?_
      refine WL_pass rfl (yield_of rfl (congrArg Value.bool hc11229)) rfl rfl ?_
      refine WL_step rfl rfl (Exec.pick_t (v := Value.bool (true)) rfl (congrArg Value.bool hc11229) rfl ?_)
      refine WL_step rfl rfl (Exec.move (v := Value.bool (true)) rfl rfl ?_)
      refine WL_pass rfl (yield_of rfl rfl) rfl rfl ?_
      refine WL_pass rfl (yield_of rfl rfl) rfl rfl ?_
      refine WL_pass rfl (yield_of rfl rfl) rfl rfl ?_
      refine WL_step rfl rfl (Exec.pick_t (v := Value.bool (true)) rfl rfl rfl ?_)
      refine WL_step rfl rfl (Exec.move (v := Value.bool (true)) rfl rfl ?_)
      refine WL_pass rfl (yield_of rfl rfl) rfl rfl ?_
      refine WL_pass rfl (yield_of rfl rfl) rfl rfl ?_
      refine WL_pass rfl (yield_of rfl rfl) rfl rfl ?_
      refine WL_step rfl rfl (Exec.pick_t (v := Value.bool (true)) rfl rfl rfl ?_)
      refine WL_nil (at_normal ?_)
      have e11230 := Option.some.inj ht11221
      subst z11220
      have hS11231 := (hS11228).f3
      have hS11232 := ((hS11231).f3).f3
      have hS11233 := (hS11232).f3
      exact ⟨s11226, l11227, hS11233, rfl, rfl, rfl⟩
    · replace hc11229 := not_true hc11229
      refine WL_run rfl (yield_of rfl (congrArg Value.bool hc11229)) rfl (Exec.move (v := Value.pointer (some ⟨b1927, 0, none⟩)) rfl rfl ?_)
      refine WL_run rfl (yield_of rfl (congrArg Value.bool hc11229)) rfl (Exec.field F32_1 rfl rfl rfl ?_)
      refine WL_run rfl (yield_of rfl (congrArg Value.bool hc11229)) rfl (Exec.load_box ((hS11228).f3) A3 rfl rfl rfl ?_)
      have hS11234 := ((hS11228).f2).f2
      have hS11235 := (hS11234).f2
      refine WL_run rfl (yield_of rfl (congrArg Value.bool hc11229)) rfl (Exec.call rfl rfl Try.func26 rfl N26 (args_cons rfl (args_cons rfl args_nil)) ((stn_Network_point_sim (stn_Network_point_tot n1926 b1930.B) hS11235 ).mono ?_))
      rintro _ w11236 ⟨_, rfl, ⟨s11237, l11238, hS11239, rfl⟩⟩
      refine ⟨_, rfl, ?_⟩
      refine WL_run rfl (yield_of rfl (congrArg Value.bool hc11229)) rfl (Exec.not rfl rfl ?_)
      refine WL_step rfl rfl (Exec.pick_f (v := Value.bool (!(stn_Network_point_t n1926 b1930.B))) rfl (congrArg Value.bool hc11229) rfl ?_)
      refine WL_step rfl rfl (Exec.move (v := Value.bool (!(stn_Network_point_t n1926 b1930.B))) rfl rfl ?_)
      rcases ite_some ht11221 with ⟨hc11240, ht11221⟩ | ⟨hc11240, ht11221⟩
      · refine WL_pass rfl (yield_of rfl (congrArg Value.bool hc11240)) rfl rfl ?_
        refine WL_pass rfl (yield_of rfl (congrArg Value.bool hc11240)) rfl rfl ?_
        refine WL_pass rfl (yield_of rfl (congrArg Value.bool hc11240)) rfl rfl ?_
        refine WL_step rfl rfl (Exec.pick_t (v := Value.bool (true)) rfl (congrArg Value.bool hc11240) rfl ?_)
        refine WL_step rfl rfl (Exec.move (v := Value.bool (true)) rfl rfl ?_)
        refine WL_pass rfl (yield_of rfl rfl) rfl rfl ?_
        refine WL_pass rfl (yield_of rfl rfl) rfl rfl ?_
        refine WL_pass rfl (yield_of rfl rfl) rfl rfl ?_
        refine WL_step rfl rfl (Exec.pick_t (v := Value.bool (true)) rfl rfl rfl ?_)
        refine WL_nil (at_normal ?_)
        have e11241 := Option.some.inj ht11221
        subst z11220
        have hS11242 := (hS11239).f3
        have hS11243 := ((hS11242).f3).f3
        have hS11244 := (hS11243).f3
        exact ⟨s11237, (PHeap.le.trans l11227 l11238), hS11244, rfl, rfl, rfl⟩
      · replace hc11240 := not_true hc11240
        refine WL_run rfl (yield_of rfl (congrArg Value.bool hc11240)) rfl (Exec.field F32_2 rfl rfl rfl ?_)
        refine WL_run rfl (yield_of rfl (congrArg Value.bool hc11240)) rfl (Exec.load_box ((hS11239).f3) A3 rfl rfl rfl ?_)
        refine WL_run rfl (yield_of rfl (congrArg Value.bool hc11240)) rfl (Exec.lss rfl rfl rfl ?_)
        refine WL_step rfl rfl (Exec.pick_f (v := Value.bool (decide (b1930.Most < (-1099511627776)))) rfl (congrArg Value.bool hc11240) rfl ?_)
        refine WL_step rfl rfl (Exec.move (v := Value.bool (decide (b1930.Most < (-1099511627776)))) rfl rfl ?_)
        rcases ite_some ht11221 with ⟨hc11245, ht11221⟩ | ⟨hc11245, ht11221⟩
        · refine WL_pass rfl (yield_of rfl (congrArg Value.bool hc11245)) rfl rfl ?_
          refine WL_pass rfl (yield_of rfl (congrArg Value.bool hc11245)) rfl rfl ?_
          refine WL_pass rfl (yield_of rfl (congrArg Value.bool hc11245)) rfl rfl ?_
          refine WL_step rfl rfl (Exec.pick_t (v := Value.bool (true)) rfl (congrArg Value.bool hc11245) rfl ?_)
          refine WL_nil (at_normal ?_)
          have e11246 := Option.some.inj ht11221
          subst z11220
          have hS11247 := (hS11239).f3
          have hS11248 := ((hS11247).f3).f3
          have hS11249 := (hS11248).f3
          exact ⟨s11237, (PHeap.le.trans l11227 l11238), hS11249, rfl, rfl, rfl⟩
        · replace hc11245 := not_true hc11245
          refine WL_run rfl (yield_of rfl (congrArg Value.bool hc11245)) rfl (Exec.field F32_2 rfl rfl rfl ?_)
          refine WL_run rfl (yield_of rfl (congrArg Value.bool hc11245)) rfl (Exec.load_box ((hS11239).f3) A3 rfl rfl rfl ?_)
          refine WL_run rfl (yield_of rfl (congrArg Value.bool hc11245)) rfl (Exec.gtr rfl rfl rfl ?_)
          refine WL_step rfl rfl (Exec.pick_f (v := Value.bool (decide (1099511627776 < b1930.Most))) rfl (congrArg Value.bool hc11245) rfl ?_)
          refine WL_nil (at_normal ?_)
          have e11250 := Option.some.inj ht11221
          subst z11220
          have hS11251 := (hS11239).f3
          have hS11252 := ((hS11251).f3).f3
          have hS11253 := (hS11252).f3
          exact ⟨s11237, (PHeap.le.trans l11227 l11238), hS11253, rfl, rfl, rfl⟩
  · intro f11254 w11255 hM11256
    obtain ⟨s11257, l11258, hS11259, p11260, p11261, p11262⟩ := hM11256
    refine (at_normal ?_)
    rcases ite_some hm with ⟨hc11263, hm⟩ | ⟨hc11263, hm⟩
    · refine W_cond_t p11262 hc11263 ?_
      refine W_seq ?_
      refine W_region ?_
      refine WL_step rfl rfl (Exec.makeInterface C30 rfl rfl ?_)
      refine WL_step rfl rfl (Exec.assign (v := errV 30 (some 1)) rfl rfl ?_)
      refine WL_nil (at_normal ?_)
      refine W_ret (at_ret ?_)
      have e11265 := Option.some.inj hm
      subst r
      refine ⟨_, ret1 rfl, ?_⟩
      have hS11266 := ((hS11259).f3).drop
      have hS11267 := ((hS11266).f2).f2
      have hS11268 := (hS11267).f2
      exact ⟨s11257, l11258, hS11268, rfl⟩
    · refine W_cond_f p11262 hc11263 ?_
      replace hc11263 := not_true hc11263
      refine W_skip (at_normal ?_)
      refine W_seq ?_
      refine W_seq ?_
      obtain ⟨row11435, q11436, hm⟩ := bind_some hm
      obtain ⟨h11437, e11438, e11439, _⟩ := ((((hS11259).f2).f2).f1).rows_at q11436
      obtain ⟨g11440, c11441, e11442⟩ := (((hS11259).f2).f2).arr_at e11438
      obtain ⟨x11443, q11444, hm⟩ := bind_some hm
      obtain ⟨g11445, c11446, e11447⟩ := (((((hS11259).f2).f2).f1).rows_split e11439 (idx_some q11436).2.2).arr_at q11444
      refine W_drawn (n0 := 13) hmix (by kernel_rfl) [RP.eq (Value.pointer (some ⟨b1927, 0, none⟩)), RP.eq (Value.pointer (some ⟨b1927, 0, none⟩)), RP.eq (Value.pointer (some ⟨b1927, 0, none⟩)), RP.eq (v1928), RP.eq (Value.pointer (some ⟨b11202, 1, none⟩)), RP.eq (Value.int .i64 (b1930.B)), RP.eq (Value.pointer (some ⟨g11440, 0 + (b1930.B).toNat * 1, none⟩)), RP.eq (h11437), RP.eq (Value.pointer (some ⟨b11202, 0, none⟩)), RP.eq (Value.int .i64 (b1930.A)), RP.eq (Value.pointer (some ⟨g11445, 0 + (b1930.A).toNat * 1, none⟩)), RP.eq (Value.int .i64 (x11443)), RP.eq (Value.int .i64 (x11443))] hS11259 (HeadAll.cons ?_ (HeadAll.cons ?_ (HeadAll.cons ?_ (HeadAll.cons ?_ (HeadAll.cons ?_ (HeadAll.cons ?_ (HeadAll.cons ?_ (HeadAll.cons ?_ (HeadAll.cons ?_ (HeadAll.cons ?_ (HeadAll.cons ?_ (HeadAll.cons ?_ (HeadAll.cons ?_ (HeadAll.nil)))))))))))))) ?_
      · intro g11448 s11449 w11450 l11451 hS11452 fr11453 pre11454
        refine head_run rfl (Exec.move (v := Value.pointer (some ⟨b1927, 0, none⟩)) rfl (Eq.trans (fr11453 0 rfl) p11260) ?_)
        exact head_done hS11452 rfl
      · intro g11455 s11456 w11457 l11458 hS11459 fr11460 pre11461
        have p11462 : g11455 36 = (Value.pointer (some ⟨b1927, 0, none⟩)) := pre11461 0 _ rfl rfl
        refine head_run rfl (Exec.nilCheck_ptr rfl p11462 ?_)
        exact head_done hS11459 rfl
      · intro g11463 s11464 w11465 l11466 hS11467 fr11468 pre11469
        have p11470 : g11463 37 = (Value.pointer (some ⟨b1927, 0, none⟩)) := pre11469 0 _ rfl rfl
        refine head_run rfl (Exec.field F63_0 rfl p11470 rfl ?_)
        exact head_done hS11467 rfl
      · intro g11471 s11472 w11473 l11474 hS11475 fr11476 pre11477
        have p11478 : g11471 38 = (Value.pointer (some ⟨b1927, 0, none⟩)) := pre11477 0 _ rfl rfl
        refine head_run rfl (Exec.load_box (hS11475) A61 rfl p11478 rfl ?_)
        exact head_done hS11475 rfl
      · intro g11479 s11480 w11481 l11482 hS11483 fr11484 pre11485
        refine head_run rfl (Exec.field F32_1 rfl (Eq.trans (fr11484 3 rfl) p11261) rfl ?_)
        exact head_done hS11483 rfl
      · intro g11486 s11487 w11488 l11489 hS11490 fr11491 pre11492
        have p11493 : g11486 40 = (Value.pointer (some ⟨b11202, 1, none⟩)) := pre11492 0 _ rfl rfl
        refine head_run rfl (Exec.load_box ((hS11490).f3) A3 rfl p11493 rfl ?_)
        exact head_done hS11490 rfl
      · intro g11494 s11495 w11496 l11497 hS11498 fr11499 pre11500
        have p11501 : g11494 41 = (Value.int .i64 (b1930.B)) := pre11500 1 _ rfl rfl
        have p11502 : g11494 39 = (v1928) := pre11500 0 _ rfl rfl
        refine head_run rfl (Exec.index_slice S61 rfl (Eq.trans p11502 e11442) p11501 (idx_some e11438).1 (idx_some e11438).2.1 ?_)
        exact head_done hS11498 rfl
      · intro g11503 s11504 w11505 l11506 hS11507 fr11508 pre11509
        have p11510 : g11503 42 = (Value.pointer (some ⟨g11440, 0 + (b1930.B).toNat * 1, none⟩)) := pre11509 0 _ rfl rfl
        refine head_run rfl (Exec.load_arr (F := encRaw) (((hS11507).f2).f2) e11442 A49 rfl p11510 rfl e11438 (Sub.refl _) ?_)
        intro v11511 q11512
        exact head_done hS11507 (encRaw_val.1 q11512).1
      · intro g11513 s11514 w11515 l11516 hS11517 fr11518 pre11519
        refine head_run rfl (Exec.field F32_0 rfl (Eq.trans (fr11518 3 rfl) p11261) rfl ?_)
        exact head_done hS11517 rfl
      · intro g11520 s11521 w11522 l11523 hS11524 fr11525 pre11526
        have p11527 : g11520 44 = (Value.pointer (some ⟨b11202, 0, none⟩)) := pre11526 0 _ rfl rfl
        refine head_run rfl (Exec.load_box ((hS11524).f3) A3 rfl p11527 rfl ?_)
        exact head_done hS11524 rfl
      · intro g11528 s11529 w11530 l11531 hS11532 fr11533 pre11534
        have p11535 : g11528 43 = (h11437) := pre11534 0 _ rfl rfl
        have p11536 : g11528 45 = (Value.int .i64 (b1930.A)) := pre11534 1 _ rfl rfl
        refine head_run rfl (Exec.index_slice S49 rfl (Eq.trans p11535 e11447) p11536 (idx_some q11444).1 (idx_some q11444).2.1 ?_)
        exact head_done hS11532 rfl
      · intro g11537 s11538 w11539 l11540 hS11541 fr11542 pre11543
        have p11544 : g11537 46 = (Value.pointer (some ⟨g11445, 0 + (b1930.A).toNat * 1, none⟩)) := pre11543 0 _ rfl rfl
        refine head_run rfl (Exec.load_arr (F := (encInt .i64)) (((((hS11541).f2).f2).f1).rows_split e11439 (idx_some q11436).2.2) e11447 A3 rfl p11544 rfl q11444 (Sub.refl _) ?_)
        intro v11545 q11546
        exact head_done hS11541 (encInt_val.1 q11546)
      · intro g11547 s11548 w11549 l11550 hS11551 fr11552 pre11553
        have p11554 : g11547 47 = (Value.int .i64 (x11443)) := pre11553 0 _ rfl rfl
        refine head_run rfl (Exec.assign (v := Value.int .i64 (x11443)) rfl p11554 ?_)
        exact head_done hS11551 rfl
      · intro g11555 s11556 w11557 l11558 hS11559 fr11560 hR11561
        have p11562 : g11555 36 = (Value.pointer (some ⟨b1927, 0, none⟩)) := hR11561 0 rfl
        have p11563 : g11555 37 = (Value.pointer (some ⟨b1927, 0, none⟩)) := hR11561 1 rfl
        have p11564 : g11555 38 = (Value.pointer (some ⟨b1927, 0, none⟩)) := hR11561 2 rfl
        have p11565 : g11555 39 = (v1928) := hR11561 3 rfl
        have p11566 : g11555 40 = (Value.pointer (some ⟨b11202, 1, none⟩)) := hR11561 4 rfl
        have p11567 : g11555 41 = (Value.int .i64 (b1930.B)) := hR11561 5 rfl
        have p11568 : g11555 42 = (Value.pointer (some ⟨g11440, 0 + (b1930.B).toNat * 1, none⟩)) := hR11561 6 rfl
        have p11569 : g11555 43 = (h11437) := hR11561 7 rfl
        have p11570 : g11555 44 = (Value.pointer (some ⟨b11202, 0, none⟩)) := hR11561 8 rfl
        have p11571 : g11555 45 = (Value.int .i64 (b1930.A)) := hR11561 9 rfl
        have p11572 : g11555 46 = (Value.pointer (some ⟨g11445, 0 + (b1930.A).toNat * 1, none⟩)) := hR11561 10 rfl
        have p11573 : g11555 47 = (Value.int .i64 (x11443)) := hR11561 11 rfl
        have p11574 : g11555 5 = (Value.int .i64 (x11443)) := hR11561 12 rfl
        refine WL_nil (at_normal ?_)
        refine W_seq ?_
        refine W_mid (M := fun f' w' => ∃ (s11576 : PHeap) , PHeap.le s11556 s11576 ∧ St w0 s11576 (Res.box b1927 63 [v1928] :: Res.arr encRaw 49 v1928 hs1929 :: Res.rows (encInt .i64) 3 hs1929 n1926.d :: Res.box b11202 32 [Value.int .i64 (b1930.A), Value.int .i64 (b1930.B), Value.int .i64 (b1930.Most)] :: H) w' ∧ f' 0 = Value.pointer (some ⟨b1927, 0, none⟩) ∧ f' 3 = Value.pointer (some ⟨b11202, 0, none⟩) ∧ f' 56 = Value.bool (((decide (x11443 < 1125899906842624)) && decide ((IntKind.i64.wrap (x11443 + b1930.Most)) < 0)))) ?_ ?_
        · refine W_region ?_
          refine WL_step rfl rfl (Exec.move (v := Value.int .i64 (x11443)) rfl p11574 ?_)
          refine WL_step rfl rfl (Exec.lss rfl rfl rfl ?_)
          refine WL_step rfl rfl (Exec.move (v := Value.bool (decide (x11443 < 1125899906842624))) rfl rfl ?_)
          by_cases hc11577 : (decide (x11443 < 1125899906842624)) = true
          · refine WL_run rfl (yield_of rfl (congrArg Value.bool hc11577)) rfl (Exec.move (v := Value.int .i64 (x11443)) rfl p11574 ?_)
            refine WL_run rfl (yield_of rfl (congrArg Value.bool hc11577)) rfl (Exec.field F32_2 rfl (Eq.trans (fr11560 3 rfl) p11261) rfl ?_)
            refine WL_run rfl (yield_of rfl (congrArg Value.bool hc11577)) rfl (Exec.load_box ((hS11559).f3) A3 rfl rfl rfl ?_)
            refine WL_run rfl (yield_of rfl (congrArg Value.bool hc11577)) rfl (Exec.add rfl rfl rfl ?_)
            refine WL_run rfl (yield_of rfl (congrArg Value.bool hc11577)) rfl (Exec.lss rfl rfl rfl ?_)
            refine WL_step rfl rfl (Exec.pick_t (v := Value.bool (decide ((IntKind.i64.wrap (x11443 + b1930.Most)) < 0))) rfl (congrArg Value.bool hc11577) rfl ?_)
            refine WL_nil (at_normal ?_)
            have hS11578 := (hS11559).f3
            have hS11579 := ((hS11578).f3).f3
            have hS11580 := (hS11579).f3
            exact ⟨s11556, (PHeap.le_refl _), hS11580, (Eq.trans (fr11560 0 rfl) p11260), (Eq.trans (fr11560 3 rfl) p11261), (congrArg Value.bool (and_t hc11577)).symm⟩
          · replace hc11577 := not_true hc11577
            refine WL_pass rfl (yield_of rfl (congrArg Value.bool hc11577)) rfl rfl ?_
            refine WL_pass rfl (yield_of rfl (congrArg Value.bool hc11577)) rfl rfl ?_
            refine WL_pass rfl (yield_of rfl (congrArg Value.bool hc11577)) rfl rfl ?_
            refine WL_pass rfl (yield_of rfl (congrArg Value.bool hc11577)) rfl rfl ?_
            refine WL_pass rfl (yield_of rfl (congrArg Value.bool hc11577)) rfl rfl ?_
            refine WL_step rfl rfl (Exec.pick_f (v := Value.bool (false)) rfl (congrArg Value.bool hc11577) rfl ?_)
            refine WL_nil (at_normal ?_)
            have hS11581 := (hS11559).f3
            have hS11582 := ((hS11581).f3).f3
            have hS11583 := (hS11582).f3
            exact ⟨s11556, (PHeap.le_refl _), hS11583, (Eq.trans (fr11560 0 rfl) p11260), (Eq.trans (fr11560 3 rfl) p11261), (congrArg Value.bool (and_f hc11577)).symm⟩
        · intro f11584 w11585 hM11586
          obtain ⟨s11587, l11588, hS11589, p11590, p11591, p11592⟩ := hM11586
          refine (at_normal ?_)
          rcases ite_some hm with ⟨hc11593, hm⟩ | ⟨hc11593, hm⟩
          · refine W_cond_t p11592 hc11593 ?_
            refine W_seq ?_
            refine W_region ?_
            refine WL_step rfl rfl (Exec.makeInterface C30 rfl rfl ?_)
            refine WL_step rfl rfl (Exec.assign (v := errV 30 (some 21)) rfl rfl ?_)
            refine WL_nil (at_normal ?_)
            refine W_ret (at_ret ?_)
            have e11595 := Option.some.inj hm
            subst r
            refine ⟨_, ret1 rfl, ?_⟩
            have hS11596 := ((hS11589).f3).drop
            have hS11597 := ((hS11596).f2).f2
            have hS11598 := (hS11597).f2
            exact ⟨s11587, (PHeap.le.trans (PHeap.le.trans l11258 l11558) l11588), hS11598, rfl⟩
          · refine W_cond_f p11592 hc11593 ?_
            replace hc11593 := not_true hc11593
            refine W_skip (at_normal ?_)
            refine W_seq ?_
            refine W_seq ?_
            refine W_region ?_
            refine WL_step rfl rfl (Exec.move (v := Value.pointer (some ⟨b1927, 0, none⟩)) rfl p11590 ?_)
            refine WL_step rfl rfl (Exec.nilCheck_ptr rfl rfl ?_)
            refine WL_step rfl rfl (Exec.field F63_0 rfl rfl rfl ?_)
            refine WL_step rfl rfl (Exec.load_box (hS11589) A61 rfl rfl rfl ?_)
            refine WL_step rfl rfl (Exec.len_grid (((hS11589).f2).f2) (((hS11589).f2).f2).f1.rows_len S61 rfl rfl ?_)
            refine WL_step rfl rfl (Exec.move (v := Value.int .i64 (0)) rfl rfl ?_)
            refine WL_nil (at_normal ?_)
            obtain ⟨l14531, hB17464, hm⟩ := bind_some hm
            refine W_block (W_forS (fun k' s' f' w' => (fun (l14531 : (List (List Int))) => ∃ (s17465 : PHeap) , PHeap.le s11587 s17465 ∧ St w0 s17465 (Res.box b1927 63 [v1928] :: Res.arr encRaw 49 v1928 hs1929 :: Res.rows (encInt .i64) 3 hs1929 l14531 :: Res.box b11202 32 [Value.int .i64 (b1930.A), Value.int .i64 (b1930.B), Value.int .i64 (b1930.Most)] :: H) w' ∧ f' 0 = Value.pointer (some ⟨b1927, 0, none⟩) ∧ f' 3 = Value.pointer (some ⟨b11202, 0, none⟩) ∧ f' 61 = v1928 ∧ f' 62 = Value.int .i64 ((n1926.d.length : Int)) ∧ f' 63 = Value.int .i64 (k' : Int)) s') hB17464 ?_ ?_ ?_)
            · have hS17466 := (hS11589).f3
              have hS17467 := ((hS17466).f3).f3
              have hS17468 := (hS17467).f3
              exact ⟨s11587, (PHeap.le_refl _), hS17468, p11590, p11591, rfl, rfl, rfl⟩
            · intro i11599 l14531 s17470 f17471 w17472 hi17473 hI17474 hm17475
              obtain ⟨s17476, l17477, hS17478, p17479, p17480, p17481, p17482, x17483⟩ := hI17474
              refine W_seq ?_
              refine W_region ?_
              refine WL_step rfl rfl (Exec.lss rfl x17483 p17482 ?_)
              refine WL_nil (at_normal ?_)
              refine W_seq ?_
              refine W_true (congrArg Value.bool (decide_eq_true (by omega))) ?_
              refine W_skip (at_normal ?_)
              refine W_seq ?_
              refine W_block ?_
              refine W_seq ?_
              refine W_region ?_
              obtain ⟨row17494, q17495, hm17475⟩ := bind_some hm17475
              obtain ⟨h17496, e17497, e17498, _⟩ := ((((hS17478).f2).f2).f1).rows_at q17495
              obtain ⟨g17499, c17500, e17501⟩ := (((hS17478).f2).f2).arr_at e17497
              refine WL_step rfl rfl (Exec.index_slice S61 rfl (Eq.trans p17481 e17501) x17483 (idx_some e17497).1 (idx_some e17497).2.1 ?_)
              refine WL_step rfl rfl (Exec.load_arr (F := encRaw) (((hS17478).f2).f2) e17501 A49 rfl rfl rfl e17497 (Sub.refl _) ?_)
              intro v17502 q17503
              replace q17503 := (encRaw_val.1 q17503).1
              subst v17502
              refine WL_step rfl rfl (Exec.assign (v := h17496) rfl rfl ?_)
              refine WL_nil (at_normal ?_)
              refine W_seq ?_
              refine W_seq ?_
              refine W_region ?_
              refine WL_step rfl rfl (Exec.move (v := h17496) rfl rfl ?_)
              refine WL_step rfl rfl (Exec.field F32_0 rfl p17480 rfl ?_)
              refine WL_step rfl rfl (Exec.load_box ((hS17478).f3) A3 rfl rfl rfl ?_)
              obtain ⟨x17511, q17512, hm17475⟩ := bind_some hm17475
              obtain ⟨g17513, c17514, e17515⟩ := (((((hS17478).f2).f2).f1).rows_split e17498 (idx_some q17495).2.2).arr_at q17512
              refine WL_step rfl rfl (Exec.index_slice S49 rfl e17515 rfl (idx_some q17512).1 (idx_some q17512).2.1 ?_)
              refine WL_step rfl rfl (Exec.load_arr (F := (encInt .i64)) (((((hS17478).f2).f2).f1).rows_split e17498 (idx_some q17495).2.2) e17515 A3 rfl rfl rfl q17512 (Sub.refl _) ?_)
              intro v17516 q17517
              obtain rfl := encInt_val.1 q17517
              refine WL_step rfl rfl (Exec.geq rfl rfl rfl ?_)
              refine WL_nil (at_normal ?_)
              rcases ite_some hm17475 with ⟨hc17518, hm17475⟩ | ⟨hc17518, hm17475⟩
              · refine W_cond_t rfl hc17518 ?_
                refine W_exit (at_exit (ib_here (at_normal ?_)))
                refine W_region ?_
                refine WL_step rfl rfl (Exec.add rfl x17483 rfl ?_)
                refine WL_step rfl rfl (Exec.move (v := Value.int .i64 (IntKind.i64.wrap ((i11599 : Int) + 1))) rfl rfl ?_)
                refine WL_nil (at_normal ?_)
                have e17519 := Option.some.inj hm17475
                subst s17470
                have hS17520 := (hS17478).f3
                have hS17521 := ((hS17520).f3).f3
                have hS17522 := (hS17521).f3
                exact ⟨s17476, l17477, hS17522, p17479, p17480, p17481, p17482, (Eq.trans rfl (wrap_up hi17473 (by have h := (((hS11589).f2).f2).f1.rows_len; have h2 := (((hS11589).f2).f2).arr_le; omega)))⟩
              · refine W_cond_f rfl hc17518 ?_
                replace hc17518 := not_true hc17518
                refine W_skip (at_normal ?_)
                refine W_seq ?_
                obtain ⟨row17644, q17645, hm17475⟩ := bind_some hm17475
                obtain ⟨h17646, e17647, e17648, _⟩ := ((((hS17478).f2).f2).f1).rows_at q17645
                obtain ⟨g17649, c17650, e17651⟩ := (((hS17478).f2).f2).arr_at e17647
                refine W_drawn (n0 := 10) hmix (by kernel_rfl) [RP.eq (Value.pointer (some ⟨b1927, 0, none⟩)), RP.eq (Value.pointer (some ⟨b1927, 0, none⟩)), RP.eq (Value.pointer (some ⟨b1927, 0, none⟩)), RP.eq (v1928), RP.eq (Value.pointer (some ⟨b11202, 1, none⟩)), RP.eq (Value.int .i64 (b1930.B)), RP.eq (Value.pointer (some ⟨g17649, 0 + (b1930.B).toNat * 1, none⟩)), RP.eq (h17646), RP.eq (Value.int .i64 ((row17644.length : Int))), RP.eq (Value.int .i64 (0))] hS17478 (HeadAll.cons ?_ (HeadAll.cons ?_ (HeadAll.cons ?_ (HeadAll.cons ?_ (HeadAll.cons ?_ (HeadAll.cons ?_ (HeadAll.cons ?_ (HeadAll.cons ?_ (HeadAll.cons ?_ (HeadAll.cons ?_ (HeadAll.nil))))))))))) ?_
                · intro g17652 s17653 w17654 l17655 hS17656 fr17657 pre17658
                  refine head_run rfl (Exec.move (v := Value.pointer (some ⟨b1927, 0, none⟩)) rfl (Eq.trans (fr17657 0 rfl) p17479) ?_)
                  exact head_done hS17656 rfl
                · intro g17659 s17660 w17661 l17662 hS17663 fr17664 pre17665
                  have p17666 : g17659 73 = (Value.pointer (some ⟨b1927, 0, none⟩)) := pre17665 0 _ rfl rfl
                  refine head_run rfl (Exec.nilCheck_ptr rfl p17666 ?_)
                  exact head_done hS17663 rfl
                · intro g17667 s17668 w17669 l17670 hS17671 fr17672 pre17673
                  have p17674 : g17667 74 = (Value.pointer (some ⟨b1927, 0, none⟩)) := pre17673 0 _ rfl rfl
                  refine head_run rfl (Exec.field F63_0 rfl p17674 rfl ?_)
                  exact head_done hS17671 rfl
                · intro g17675 s17676 w17677 l17678 hS17679 fr17680 pre17681
                  have p17682 : g17675 75 = (Value.pointer (some ⟨b1927, 0, none⟩)) := pre17681 0 _ rfl rfl
                  refine head_run rfl (Exec.load_box (hS17679) A61 rfl p17682 rfl ?_)
                  exact head_done hS17679 rfl
                · intro g17683 s17684 w17685 l17686 hS17687 fr17688 pre17689
                  refine head_run rfl (Exec.field F32_1 rfl (Eq.trans (fr17688 3 rfl) p17480) rfl ?_)
                  exact head_done hS17687 rfl
                · intro g17690 s17691 w17692 l17693 hS17694 fr17695 pre17696
                  have p17697 : g17690 77 = (Value.pointer (some ⟨b11202, 1, none⟩)) := pre17696 0 _ rfl rfl
                  refine head_run rfl (Exec.load_box ((hS17694).f3) A3 rfl p17697 rfl ?_)
                  exact head_done hS17694 rfl
                · intro g17698 s17699 w17700 l17701 hS17702 fr17703 pre17704
                  have p17705 : g17698 76 = (v1928) := pre17704 0 _ rfl rfl
                  have p17706 : g17698 78 = (Value.int .i64 (b1930.B)) := pre17704 1 _ rfl rfl
                  refine head_run rfl (Exec.index_slice S61 rfl (Eq.trans p17705 e17651) p17706 (idx_some e17647).1 (idx_some e17647).2.1 ?_)
                  exact head_done hS17702 rfl
                · intro g17707 s17708 w17709 l17710 hS17711 fr17712 pre17713
                  have p17714 : g17707 79 = (Value.pointer (some ⟨g17649, 0 + (b1930.B).toNat * 1, none⟩)) := pre17713 0 _ rfl rfl
                  refine head_run rfl (Exec.load_arr (F := encRaw) (((hS17711).f2).f2) e17651 A49 rfl p17714 rfl e17647 (Sub.refl _) ?_)
                  intro v17715 q17716
                  exact head_done hS17711 (encRaw_val.1 q17716).1
                · intro g17717 s17718 w17719 l17720 hS17721 fr17722 pre17723
                  have p17724 : g17717 80 = (h17646) := pre17723 0 _ rfl rfl
                  refine head_run rfl (Exec.len_arr (((((hS17721).f2).f2).f1).rows_split e17648 (idx_some q17645).2.2) S49 rfl p17724 ?_)
                  exact head_done hS17721 rfl
                · intro g17725 s17726 w17727 l17728 hS17729 fr17730 pre17731
                  refine head_run rfl (Exec.move (v := Value.int .i64 (0)) rfl rfl ?_)
                  exact head_done hS17729 rfl
                · intro g17732 s17733 w17734 l17735 hS17736 fr17737 hR17738
                  have p17739 : g17732 73 = (Value.pointer (some ⟨b1927, 0, none⟩)) := hR17738 0 rfl
                  have p17740 : g17732 74 = (Value.pointer (some ⟨b1927, 0, none⟩)) := hR17738 1 rfl
                  have p17741 : g17732 75 = (Value.pointer (some ⟨b1927, 0, none⟩)) := hR17738 2 rfl
                  have p17742 : g17732 76 = (v1928) := hR17738 3 rfl
                  have p17743 : g17732 77 = (Value.pointer (some ⟨b11202, 1, none⟩)) := hR17738 4 rfl
                  have p17744 : g17732 78 = (Value.int .i64 (b1930.B)) := hR17738 5 rfl
                  have p17745 : g17732 79 = (Value.pointer (some ⟨g17649, 0 + (b1930.B).toNat * 1, none⟩)) := hR17738 6 rfl
                  have p17746 : g17732 80 = (h17646) := hR17738 7 rfl
                  have p17747 : g17732 81 = (Value.int .i64 ((row17644.length : Int))) := hR17738 8 rfl
                  have p17748 : g17732 82 = (Value.int .i64 (0)) := hR17738 9 rfl
                  refine WL_nil (at_normal ?_)
                  obtain ⟨u17749, q17750, hm17475⟩ := bind_some hm17475
                  obtain ⟨l18626, hB19502, hm17475⟩ := bind_some hm17475
                  refine W_block (W_forS (fun k' s' f' w' => (fun (l18626 : (List (List Int))) => ∃ (s19503 : PHeap) , PHeap.le s17733 s19503 ∧ St w0 s19503 (Res.box b1927 63 [v1928] :: Res.arr encRaw 49 v1928 hs1929 :: Res.rows (encInt .i64) 3 hs1929 l18626 :: Res.box b11202 32 [Value.int .i64 (b1930.A), Value.int .i64 (b1930.B), Value.int .i64 (b1930.Most)] :: H) w' ∧ f' 0 = Value.pointer (some ⟨b1927, 0, none⟩) ∧ f' 3 = Value.pointer (some ⟨b11202, 0, none⟩) ∧ f' 7 = h17496 ∧ f' 61 = v1928 ∧ f' 62 = Value.int .i64 ((n1926.d.length : Int)) ∧ f' 63 = Value.int .i64 ((i11599 : Int)) ∧ f' 80 = h17646 ∧ f' 81 = Value.int .i64 ((row17644.length : Int)) ∧ f' 82 = Value.int .i64 (k' : Int)) s') hB19502 ?_ ?_ ?_)
                  · have hS19504 := (hS17736).f3
                    have hS19505 := ((hS19504).f3).f3
                    have hS19506 := (hS19505).f3
                    exact ⟨s17733, (PHeap.le_refl _), hS19506, (Eq.trans (fr17737 0 rfl) p17479), (Eq.trans (fr17737 3 rfl) p17480), (fr17737 7 rfl), (Eq.trans (fr17737 61 rfl) p17481), (Eq.trans (fr17737 62 rfl) p17482), (Eq.trans (fr17737 63 rfl) x17483), p17746, p17747, p17748⟩
                  · intro i17751 l18626 s19508 f19509 w19510 hi19511 hI19512 hm19513
                    obtain ⟨s19514, l19515, hS19516, p19517, p19518, p19519, p19520, p19521, p19522, p19523, p19524, x19525⟩ := hI19512
                    refine W_seq ?_
                    refine W_region ?_
                    refine WL_step rfl rfl (Exec.lss rfl x19525 p19524 ?_)
                    refine WL_nil (at_normal ?_)
                    refine W_seq ?_
                    refine W_true (congrArg Value.bool (decide_eq_true (by omega))) ?_
                    refine W_skip (at_normal ?_)
                    refine W_seq ?_
                    refine W_block ?_
                    refine W_seq ?_
                    refine W_region ?_
                    refine WL_step rfl rfl (Exec.move (v := Value.int .i64 ((i17751 : Int))) rfl x19525 ?_)
                    obtain ⟨row19535, q19536, hm19513⟩ := bind_some hm19513
                    obtain ⟨x19537, q19538, hm19513⟩ := bind_some hm19513
                    obtain ⟨g19539, c19540, e19541⟩ := (((((hS19516).f2).f2).f1).rows_split e17648 (idx_some q19536).2.2).arr_at q19538
                    refine WL_step rfl rfl (Exec.index_slice S49 rfl (Eq.trans p19523 e19541) x19525 (idx_some q19538).1 (idx_some q19538).2.1 ?_)
                    refine WL_step rfl rfl (Exec.load_arr (F := (encInt .i64)) (((((hS19516).f2).f2).f1).rows_split e17648 (idx_some q19536).2.2) e19541 A3 rfl rfl rfl q19538 (Sub.refl _) ?_)
                    intro v19542 q19543
                    obtain rfl := encInt_val.1 q19543
                    refine WL_step rfl rfl (Exec.assign (v := Value.int .i64 ((i17751 : Int))) rfl rfl ?_)
                    refine WL_step rfl rfl (Exec.assign (v := Value.int .i64 (x19537)) rfl rfl ?_)
                    refine WL_nil (at_normal ?_)
                    refine W_seq ?_
                    refine W_region ?_
                    refine WL_step rfl rfl (Exec.move (v := Value.int .i64 (x19537)) rfl rfl ?_)
                    refine WL_step rfl rfl (Exec.lss rfl rfl rfl ?_)
                    refine WL_nil (at_normal ?_)
                    obtain ⟨l19958, ht19959, hm19513⟩ := bind_some hm19513
                    refine W_mid (M := fun f' w' => (fun (l19958 : (List (List Int))) => ∃ (s19960 : PHeap) , PHeap.le s19514 s19960 ∧ St w0 s19960 (Res.box b1927 63 [v1928] :: Res.arr encRaw 49 v1928 hs1929 :: Res.rows (encInt .i64) 3 hs1929 l19958 :: Res.box b11202 32 [Value.int .i64 (b1930.A), Value.int .i64 (b1930.B), Value.int .i64 (b1930.Most)] :: H) w' ∧ f' 0 = Value.pointer (some ⟨b1927, 0, none⟩) ∧ f' 3 = Value.pointer (some ⟨b11202, 0, none⟩) ∧ f' 7 = h17496 ∧ f' 61 = v1928 ∧ f' 62 = Value.int .i64 ((n1926.d.length : Int)) ∧ f' 63 = Value.int .i64 ((i11599 : Int)) ∧ f' 80 = h17646 ∧ f' 81 = Value.int .i64 ((row17644.length : Int)) ∧ f' 82 = Value.int .i64 ((i17751 : Int))) l19958) ?_ ?_
                    · rcases ite_some ht19959 with ⟨hc19961, ht19959⟩ | ⟨hc19961, ht19959⟩
                      · refine W_cond_t rfl hc19961 ?_
                        obtain ⟨row20181, q20182, ht19959⟩ := bind_some ht19959
                        obtain ⟨x20183, q20184, ht19959⟩ := bind_some ht19959
                        obtain ⟨g20185, c20186, e20187⟩ := (((((hS19516).f2).f2).f1).rows_split e17498 (idx_some q20182).2.2).arr_at q20184
                        obtain ⟨x20188, q20189, ht19959⟩ := bind_some ht19959
                        obtain ⟨g20190, c20191, e20192⟩ := (((((hS19516).f2).f2).f1).rows_split e17498 (idx_some q20182).2.2).arr_at q20189
                        obtain ⟨g20193, c20194, e20195⟩ := (((((hS19516).f2).f2).f1).rows_split e17498 (idx_some q20182).2.2).arr_at q20184
                        obtain ⟨l20196, q20197, ht19959⟩ := bind_some ht19959
                        obtain ⟨l20198, q20199, ht19959⟩ := bind_some ht19959
                        have hS20200 := ((hS19516).f2).f2
                        refine W_drawn (n0 := 18) hmix (by kernel_rfl) [RP.eq (h17496), RP.eq (Value.int .i64 ((i17751 : Int))), RP.eq (h17496), RP.eq (Value.int .i64 ((i17751 : Int))), RP.eq (Value.pointer (some ⟨g20185, 0 + ((i17751 : Int)).toNat * 1, none⟩)), RP.eq (Value.int .i64 (x20183)), RP.eq (h17496), RP.eq (Value.pointer (some ⟨b11202, 0, none⟩)), RP.eq (Value.int .i64 (b1930.A)), RP.eq (Value.pointer (some ⟨g20190, 0 + (b1930.A).toNat * 1, none⟩)), RP.eq (Value.int .i64 (x20188)), RP.eq (Value.pointer (some ⟨b11202, 2, none⟩)), RP.eq (Value.int .i64 (b1930.Most)), RP.eq (Value.int .i64 (IntKind.i64.wrap (x20188 + b1930.Most))), RP.eq (Value.int .i64 (x19537)), RP.eq (Value.int .i64 (IntKind.i64.wrap ((IntKind.i64.wrap (x20188 + b1930.Most)) + x19537))), RP.eq (Value.int .i64 (min x20183 (IntKind.i64.wrap ((IntKind.i64.wrap (x20188 + b1930.Most)) + x19537)))), RP.eq (Value.pointer (some ⟨g20193, 0 + ((i17751 : Int)).toNat * 1, none⟩))] hS20200 (HeadAll.cons ?_ (HeadAll.cons ?_ (HeadAll.cons ?_ (HeadAll.cons ?_ (HeadAll.cons ?_ (HeadAll.cons ?_ (HeadAll.cons ?_ (HeadAll.cons ?_ (HeadAll.cons ?_ (HeadAll.cons ?_ (HeadAll.cons ?_ (HeadAll.cons ?_ (HeadAll.cons ?_ (HeadAll.cons ?_ (HeadAll.cons ?_ (HeadAll.cons ?_ (HeadAll.cons ?_ (HeadAll.cons ?_ (HeadAll.nil))))))))))))))))))) ?_
                        · intro g20201 s20202 w20203 l20204 hS20205 fr20206 pre20207
                          refine head_run rfl (Exec.move (v := h17496) rfl (Eq.trans (fr20206 7 rfl) p19519) ?_)
                          exact head_done hS20205 rfl
                        · intro g20208 s20209 w20210 l20211 hS20212 fr20213 pre20214
                          refine head_run rfl (Exec.move (v := Value.int .i64 ((i17751 : Int))) rfl (fr20213 8 rfl) ?_)
                          exact head_done hS20212 rfl
                        · intro g20215 s20216 w20217 l20218 hS20219 fr20220 pre20221
                          refine head_run rfl (Exec.move (v := h17496) rfl (Eq.trans (fr20220 7 rfl) p19519) ?_)
                          exact head_done hS20219 rfl
                        · intro g20222 s20223 w20224 l20225 hS20226 fr20227 pre20228
                          refine head_run rfl (Exec.move (v := Value.int .i64 ((i17751 : Int))) rfl (fr20227 8 rfl) ?_)
                          exact head_done hS20226 rfl
                        · intro g20229 s20230 w20231 l20232 hS20233 fr20234 pre20235
                          have p20236 : g20229 91 = (h17496) := pre20235 0 _ rfl rfl
                          have p20237 : g20229 92 = (Value.int .i64 ((i17751 : Int))) := pre20235 1 _ rfl rfl
                          refine head_run rfl (Exec.index_slice S49 rfl (Eq.trans p20236 e20187) p20237 (idx_some q20184).1 (idx_some q20184).2.1 ?_)
                          exact head_done hS20233 rfl
                        · intro g20238 s20239 w20240 l20241 hS20242 fr20243 pre20244
                          have p20245 : g20238 93 = (Value.pointer (some ⟨g20185, 0 + ((i17751 : Int)).toNat * 1, none⟩)) := pre20244 0 _ rfl rfl
                          refine head_run rfl (Exec.load_arr (F := (encInt .i64)) (((hS20242).f1).rows_split e17498 (idx_some q20182).2.2) e20187 A3 rfl p20245 rfl q20184 (Sub.refl _) ?_)
                          intro v20246 q20247
                          exact head_done hS20242 (encInt_val.1 q20247)
                        · intro g20248 s20249 w20250 l20251 hS20252 fr20253 pre20254
                          refine head_run rfl (Exec.move (v := h17496) rfl (Eq.trans (fr20253 7 rfl) p19519) ?_)
                          exact head_done hS20252 rfl
                        · intro g20255 s20256 w20257 l20258 hS20259 fr20260 pre20261
                          refine head_run rfl (Exec.field F32_0 rfl (Eq.trans (fr20260 3 rfl) p19518) rfl ?_)
                          exact head_done hS20259 rfl
                        · intro g20262 s20263 w20264 l20265 hS20266 fr20267 pre20268
                          have p20269 : g20262 96 = (Value.pointer (some ⟨b11202, 0, none⟩)) := pre20268 0 _ rfl rfl
                          refine head_run rfl (Exec.load_box ((hS20266).f3) A3 rfl p20269 rfl ?_)
                          exact head_done hS20266 rfl
                        · intro g20270 s20271 w20272 l20273 hS20274 fr20275 pre20276
                          have p20277 : g20270 97 = (Value.int .i64 (b1930.A)) := pre20276 1 _ rfl rfl
                          have p20278 : g20270 95 = (h17496) := pre20276 0 _ rfl rfl
                          refine head_run rfl (Exec.index_slice S49 rfl (Eq.trans p20278 e20192) p20277 (idx_some q20189).1 (idx_some q20189).2.1 ?_)
                          exact head_done hS20274 rfl
                        · intro g20279 s20280 w20281 l20282 hS20283 fr20284 pre20285
                          have p20286 : g20279 98 = (Value.pointer (some ⟨g20190, 0 + (b1930.A).toNat * 1, none⟩)) := pre20285 0 _ rfl rfl
                          refine head_run rfl (Exec.load_arr (F := (encInt .i64)) (((hS20283).f1).rows_split e17498 (idx_some q20182).2.2) e20192 A3 rfl p20286 rfl q20189 (Sub.refl _) ?_)
                          intro v20287 q20288
                          exact head_done hS20283 (encInt_val.1 q20288)
                        · intro g20289 s20290 w20291 l20292 hS20293 fr20294 pre20295
                          refine head_run rfl (Exec.field F32_2 rfl (Eq.trans (fr20294 3 rfl) p19518) rfl ?_)
                          exact head_done hS20293 rfl
                        · intro g20296 s20297 w20298 l20299 hS20300 fr20301 pre20302
                          have p20303 : g20296 100 = (Value.pointer (some ⟨b11202, 2, none⟩)) := pre20302 0 _ rfl rfl
                          refine head_run rfl (Exec.load_box ((hS20300).f3) A3 rfl p20303 rfl ?_)
                          exact head_done hS20300 rfl
                        · intro g20304 s20305 w20306 l20307 hS20308 fr20309 pre20310
                          have p20311 : g20304 99 = (Value.int .i64 (x20188)) := pre20310 0 _ rfl rfl
                          have p20312 : g20304 101 = (Value.int .i64 (b1930.Most)) := pre20310 1 _ rfl rfl
                          refine head_run rfl (Exec.add rfl p20311 p20312 ?_)
                          exact head_done hS20308 rfl
                        · intro g20313 s20314 w20315 l20316 hS20317 fr20318 pre20319
                          refine head_run rfl (Exec.move (v := Value.int .i64 (x19537)) rfl (fr20318 9 rfl) ?_)
                          exact head_done hS20317 rfl
                        · intro g20320 s20321 w20322 l20323 hS20324 fr20325 pre20326
                          have p20327 : g20320 102 = (Value.int .i64 (IntKind.i64.wrap (x20188 + b1930.Most))) := pre20326 0 _ rfl rfl
                          have p20328 : g20320 103 = (Value.int .i64 (x19537)) := pre20326 1 _ rfl rfl
                          refine head_run rfl (Exec.add rfl p20327 p20328 ?_)
                          exact head_done hS20324 rfl
                        · intro g20329 s20330 w20331 l20332 hS20333 fr20334 pre20335
                          have p20336 : g20329 104 = (Value.int .i64 (IntKind.i64.wrap ((IntKind.i64.wrap (x20188 + b1930.Most)) + x19537))) := pre20335 1 _ rfl rfl
                          have p20337 : g20329 94 = (Value.int .i64 (x20183)) := pre20335 0 _ rfl rfl
                          refine head_run rfl (Exec.min2 rfl p20337 p20336 ?_)
                          exact head_done hS20333 rfl
                        · intro g20338 s20339 w20340 l20341 hS20342 fr20343 pre20344
                          have p20345 : g20338 89 = (h17496) := pre20344 0 _ rfl rfl
                          have p20346 : g20338 90 = (Value.int .i64 ((i17751 : Int))) := pre20344 1 _ rfl rfl
                          refine head_run rfl (Exec.index_slice S49 rfl (Eq.trans p20345 e20195) p20346 (idx_some q20184).1 (idx_some q20184).2.1 ?_)
                          exact head_done hS20342 rfl
                        · intro g20347 s20348 w20349 l20350 hS20351 fr20352 hR20353
                          have p20354 : g20347 89 = (h17496) := hR20353 0 rfl
                          have p20355 : g20347 90 = (Value.int .i64 ((i17751 : Int))) := hR20353 1 rfl
                          have p20356 : g20347 91 = (h17496) := hR20353 2 rfl
                          have p20357 : g20347 92 = (Value.int .i64 ((i17751 : Int))) := hR20353 3 rfl
                          have p20358 : g20347 93 = (Value.pointer (some ⟨g20185, 0 + ((i17751 : Int)).toNat * 1, none⟩)) := hR20353 4 rfl
                          have p20359 : g20347 94 = (Value.int .i64 (x20183)) := hR20353 5 rfl
                          have p20360 : g20347 95 = (h17496) := hR20353 6 rfl
                          have p20361 : g20347 96 = (Value.pointer (some ⟨b11202, 0, none⟩)) := hR20353 7 rfl
                          have p20362 : g20347 97 = (Value.int .i64 (b1930.A)) := hR20353 8 rfl
                          have p20363 : g20347 98 = (Value.pointer (some ⟨g20190, 0 + (b1930.A).toNat * 1, none⟩)) := hR20353 9 rfl
                          have p20364 : g20347 99 = (Value.int .i64 (x20188)) := hR20353 10 rfl
                          have p20365 : g20347 100 = (Value.pointer (some ⟨b11202, 2, none⟩)) := hR20353 11 rfl
                          have p20366 : g20347 101 = (Value.int .i64 (b1930.Most)) := hR20353 12 rfl
                          have p20367 : g20347 102 = (Value.int .i64 (IntKind.i64.wrap (x20188 + b1930.Most))) := hR20353 13 rfl
                          have p20368 : g20347 103 = (Value.int .i64 (x19537)) := hR20353 14 rfl
                          have p20369 : g20347 104 = (Value.int .i64 (IntKind.i64.wrap ((IntKind.i64.wrap (x20188 + b1930.Most)) + x19537))) := hR20353 15 rfl
                          have p20370 : g20347 105 = (Value.int .i64 (min x20183 (IntKind.i64.wrap ((IntKind.i64.wrap (x20188 + b1930.Most)) + x19537)))) := hR20353 16 rfl
                          have p20371 : g20347 106 = (Value.pointer (some ⟨g20193, 0 + ((i17751 : Int)).toNat * 1, none⟩)) := hR20353 17 rfl
                          refine WL_step rfl rfl (Exec.store_arr (((hS20351).f1).rows_split e17498 (idx_some q20182).2.2) e20195 A3 rfl p20371 rfl p20370 (encInt_val.2 rfl) q20197 ?_)
                          intro w20372 hS20373
                          have hS20374 := (hS20373).rows_back e17498 (setI_some q20199).2.1
                          rw [← (setI_some q20199).2.2] at hS20374
                          have hS20375 := (hS20374).f1
                          refine WL_nil (at_normal ?_)
                          have e20376 := Option.some.inj ht19959
                          subst l19958
                          have hS20377 := (hS20375).f3
                          have hS20378 := ((hS20377).f2).f2
                          have hS20379 := (hS20378).f3
                          exact ⟨s20348, l20350, hS20379, (Eq.trans (fr20352 0 rfl) p19517), (Eq.trans (fr20352 3 rfl) p19518), (Eq.trans (fr20352 7 rfl) p19519), (Eq.trans (fr20352 61 rfl) p19520), (Eq.trans (fr20352 62 rfl) p19521), (Eq.trans (fr20352 63 rfl) p19522), (Eq.trans (fr20352 80 rfl) p19523), (Eq.trans (fr20352 81 rfl) p19524), (Eq.trans (fr20352 82 rfl) x19525)⟩
                      · refine W_cond_f rfl hc19961 ?_
                        replace hc19961 := not_true hc19961
                        refine W_skip (at_normal ?_)
                        have e20380 := Option.some.inj ht19959
                        subst l19958
                        have hS20381 := (hS19516).f3
                        have hS20382 := ((hS20381).f3).f3
                        have hS20383 := (hS20382).f3
                        exact ⟨s19514, (PHeap.le_refl _), hS20383, p19517, p19518, p19519, p19520, p19521, p19522, p19523, p19524, x19525⟩
                    · intro f20384 w20385 hM20386
                      obtain ⟨s20387, l20388, hS20389, p20390, p20391, p20392, p20393, p20394, p20395, p20396, p20397, p20398⟩ := hM20386
                      refine (ib_normal (at_normal ?_))
                      refine W_region ?_
                      refine WL_step rfl rfl (Exec.add rfl p20398 rfl ?_)
                      refine WL_step rfl rfl (Exec.move (v := Value.int .i64 (IntKind.i64.wrap ((i17751 : Int) + 1))) rfl rfl ?_)
                      refine WL_nil (at_normal ?_)
                      have e20399 := Option.some.inj hm19513
                      subst s19508
                      have hS20400 := (hS20389).f3
                      have hS20401 := ((hS20400).f3).f3
                      have hS20402 := (hS20401).f3
                      exact ⟨s20387, (PHeap.le.trans l19515 l20388), hS20402, p20390, p20391, p20392, p20393, p20394, p20395, p20396, p20397, (Eq.trans rfl (wrap_up hi19511 (by have h := must_some q17750; simpa [maxLen] using h)))⟩
                  · intro f20403 w20404 hI20405
                    obtain ⟨s20406, l20407, hS20408, p20409, p20410, p20411, p20412, p20413, p20414, p20415, p20416, x20417⟩ := hI20405
                    refine W_seq ?_
                    refine W_region ?_
                    refine WL_step rfl rfl (Exec.lss rfl x20417 p20416 ?_)
                    refine WL_nil (at_normal ?_)
                    refine W_seq ?_
                    refine W_false (congrArg Value.bool (decide_eq_false (by omega))) ?_
                    refine W_exit (at_exit (at_exit (ib_here (ib_normal (at_normal ?_)))))
                    refine W_region ?_
                    refine WL_step rfl rfl (Exec.add rfl p20414 rfl ?_)
                    refine WL_step rfl rfl (Exec.move (v := Value.int .i64 (IntKind.i64.wrap ((i11599 : Int) + 1))) rfl rfl ?_)
                    refine WL_nil (at_normal ?_)
                    have e20418 := Option.some.inj hm17475
                    subst s17470
                    have hS20419 := (hS20408).f3
                    have hS20420 := ((hS20419).f3).f3
                    have hS20421 := (hS20420).f3
                    exact ⟨s20406, (PHeap.le.trans (PHeap.le.trans l17477 l17735) l20407), hS20421, p20409, p20410, p20412, p20413, (Eq.trans rfl (wrap_up hi17473 (by have h := (((hS11589).f2).f2).f1.rows_len; have h2 := (((hS11589).f2).f2).arr_le; omega)))⟩
            · intro f20422 w20423 hI20424
              obtain ⟨s20425, l20426, hS20427, p20428, p20429, p20430, p20431, x20432⟩ := hI20424
              refine W_seq ?_
              refine W_region ?_
              refine WL_step rfl rfl (Exec.lss rfl x20432 p20431 ?_)
              refine WL_nil (at_normal ?_)
              refine W_seq ?_
              refine W_false (congrArg Value.bool (decide_eq_false (by omega))) ?_
              refine W_exit (at_exit (at_exit (ib_here (at_normal ?_))))
              refine W_seq ?_
              refine W_region ?_
              refine WL_step rfl rfl (Exec.assign (v := errV 30 (none)) rfl rfl ?_)
              refine WL_nil (at_normal ?_)
              refine W_ret ?_
              have e20434 := Option.some.inj hm
              subst r
              refine ⟨_, ret1 rfl, ?_⟩
              have hS20435 := ((hS20427).f3).drop
              have hS20436 := ((hS20435).f2).f2
              have hS20437 := (hS20436).f2
              exact ⟨s20425, (PHeap.le.trans (PHeap.le.trans (PHeap.le.trans l11258 l11558) l11588) l20426), hS20437, rfl⟩

theorem N19 : (Try.f19.name == "runtime.NumGoroutine") = false := by kernel_rfl

theorem law54_made_sim {w0 w : World} {s : PHeap} {H : List Res} {n13 : Int} {bounds14 : (List Bound)} {v15 : Value} {r : (Option stn_Network) × Bool} (hm : law54_made_p n13 bounds14 = some r) (hS : St w0 s (H) w) (a16 : SliceRep encBound s v15 bounds14) :
    Calls Try.prog 19 #[Value.int .i64 (n13), v15] w fun e w' => ∃ v, e = .returned v ∧ ((un2 fun (p_d20667 : (Option stn_Network)) (y20668 : Bool) => (∃ d20667 : stn_Network, p_d20667 = some d20667 ∧ ∃ (s20672 : PHeap) (b20669 : Nat) (v20670 : Value) (hs20671 : List Value), PHeap.le s s20672 ∧ St w0 s20672 (Res.box b20669 63 [v20670] :: Res.arr encRaw 49 v20670 hs20671 :: Res.rows (encInt .i64) 3 hs20671 d20667.d :: H) w' ∧ v = Value.tuple #[Value.pointer (some ⟨b20669, 0, none⟩), Value.bool (y20668)]) ∨ (p_d20667 = none ∧ ∃ (s20673 : PHeap) , PHeap.le s s20673 ∧ St w0 s20673 (H) w' ∧ v = Value.tuple #[Value.pointer none, Value.bool (y20668)])) r) := by
  unfold law54_made_p at hm
  refine calls_of_W Try.func19 rfl rfl ?_
  refine W_seq ?_
  refine W_region ?_
  refine WL_step rfl rfl (Exec.assign (v := Value.pointer none) rfl rfl ?_)
  refine WL_step rfl rfl (Exec.assign (v := Value.bool (false)) rfl rfl ?_)
  refine WL_nil (at_normal ?_)
  refine W_seq ?_
  refine W_region ?_
  refine WL_step rfl rfl (Exec.move (v := Value.int .i64 (n13)) rfl rfl ?_)
  obtain ⟨t20692, q20693, hm⟩ := bind_some hm
  obtain ⟨pd20694, y20695⟩ := t20692
  replace hm := un2_eq hm
  refine WL_step rfl rfl (Exec.call rfl rfl Try.func10 rfl N10 (args_cons rfl args_nil) ((stn_New_sim q20693 hS ).mono ?_))
  rintro _ w20696 ⟨_, rfl, hp20697⟩
  refine ⟨_, rfl, ?_⟩
  rcases hp20697 with ⟨d20698, rfl, s20699, v20702, v20703, v20704, l20700, hS20701, rfl⟩ | ⟨rfl, s20706, l20707, hS20708, rfl⟩
  · replace hm := optC_some hm
    refine WL_step rfl rfl (Exec.move (v := Value.tuple #[Value.pointer (some ⟨v20702, 0, none⟩), errV 30 (y20695)]) rfl rfl ?_)
    refine WL_step rfl rfl (Exec.extract (v := Value.pointer (some ⟨v20702, 0, none⟩)) rfl rfl rfl ?_)
    refine WL_step rfl rfl (Exec.extract (v := errV 30 (y20695)) rfl rfl rfl ?_)
    refine WL_step rfl rfl (Exec.assign (v := Value.pointer (some ⟨v20702, 0, none⟩)) rfl rfl ?_)
    refine WL_step rfl rfl (Exec.assign (v := errV 30 (y20695)) rfl rfl ?_)
    refine WL_nil (at_normal ?_)
    refine W_seq ?_
    refine W_seq ?_
    refine W_mid (M := fun f' w' => ∃ (s20711 : PHeap) , PHeap.le s20699 s20711 ∧ St w0 s20711 (Res.box v20702 63 [v20703] :: Res.arr encRaw 49 v20703 v20704 :: Res.rows (encInt .i64) 3 v20704 d20698.d :: H) w' ∧ f' 1 = v15 ∧ f' 6 = Value.pointer (some ⟨v20702, 0, none⟩) ∧ f' 20 = Value.bool ((y20695.isSome && true))) ?_ ?_
    · refine W_region ?_
      refine WL_step rfl rfl (Exec.move (v := errV 30 (y20695)) rfl rfl ?_)
      refine WL_step rfl rfl (Exec.err_neq_nil (T := 30) Try.underlying26 rfl rfl rfl ?_)
      refine WL_step rfl rfl (Exec.move (v := Value.bool (y20695.isSome)) rfl rfl ?_)
      by_cases hc20712 : y20695.isSome = true
      · refine WL_pass rfl (yield_of rfl (congrArg Value.bool hc20712)) rfl rfl ?_
        refine WL_pass rfl (yield_of rfl (congrArg Value.bool hc20712)) rfl rfl ?_
        refine WL_step rfl rfl (Exec.pick_t (v := Value.bool (true)) rfl (congrArg Value.bool hc20712) rfl ?_)
        refine WL_nil (at_normal ?_)
        have hS20713 := ((hS20701).f2).f2
        have hS20714 := (hS20713).f2
        exact ⟨s20699, (PHeap.le_refl _), hS20714, rfl, rfl, (congrArg Value.bool (and_t hc20712)).symm⟩
      · replace hc20712 := not_true hc20712
        refine WL_run rfl (yield_of rfl (congrArg Value.bool hc20712)) rfl (Exec.move (v := Value.pointer (some ⟨v20702, 0, none⟩)) rfl rfl ?_)
        refine WL_run rfl (yield_of rfl (congrArg Value.bool hc20712)) rfl (Exec.ptr_eql_nil Try.underlying24 rfl rfl rfl ?_)
        refine WL_step rfl rfl (Exec.pick_f (v := Value.bool (false)) rfl (congrArg Value.bool hc20712) rfl ?_)
        refine WL_nil (at_normal ?_)
        have hS20715 := ((hS20701).f2).f2
        have hS20716 := (hS20715).f2
        exact ⟨s20699, (PHeap.le_refl _), hS20716, rfl, rfl, (congrArg Value.bool (and_f hc20712)).symm⟩
    · intro f20717 w20718 hM20719
      obtain ⟨s20720, l20721, hS20722, p20723, p20724, p20725⟩ := hM20719
      refine (at_normal ?_)
      rcases ite_some hm with ⟨hc20726, hm⟩ | ⟨hc20726, hm⟩
      · refine W_cond_t p20725 hc20726 ?_
        refine W_seq ?_
        refine W_region ?_
        refine WL_step rfl rfl (Exec.assign (v := Value.pointer none) rfl rfl ?_)
        refine WL_step rfl rfl (Exec.assign (v := Value.bool (false)) rfl rfl ?_)
        refine WL_nil (at_normal ?_)
        refine W_ret (at_ret ?_)
        have e20728 := Option.some.inj hm
        subst r
        refine ⟨_, ret2 rfl, ?_⟩
        have hS20729 := (hS20722).drop
        have hS20730 := ((hS20729).drop).drop
        refine (Or.inr ⟨rfl, ?_⟩); exact ⟨s20720, (PHeap.le.trans l20700 l20721), hS20730, (tup2 rfl rfl)⟩
      · refine W_cond_f p20725 hc20726 ?_
        replace hc20726 := not_true hc20726
        refine W_skip (at_normal ?_)
        refine W_seq ?_
        refine W_seq ?_
        refine W_region ?_
        refine WL_step rfl rfl (Exec.move (v := v15) rfl p20723 ?_)
        refine WL_step rfl rfl (Exec.len_rep S22 rfl rfl (a16.mono (PHeap.le.trans l20700 l20721)) ?_)
        refine WL_step rfl rfl (Exec.move (v := Value.int .i64 (0)) rfl rfl ?_)
        refine WL_nil (at_normal ?_)
        obtain ⟨c20874, hB20875, hr20876, hn20877, hb20878⟩ := ctl_some hm
        refine W_mid (M := fun f' w' => ∃ s', (c20874 = .next s' ∨ c20874 = .brk s') ∧ (fun (l20873 : (List (List Int))) => ∃ (s20880 : PHeap) , PHeap.le s20720 s20880 ∧ St w0 s20880 (Res.box v20702 63 [v20703] :: Res.arr encRaw 49 v20703 v20704 :: Res.rows (encInt .i64) 3 v20704 l20873 :: H) w' ∧ f' 6 = Value.pointer (some ⟨v20702, 0, none⟩) ∧ f' 21 = v15 ∧ f' 22 = Value.int .i64 ((bounds14.length : Int))) s') ?_ ?_
        · refine W_block (W_forC (fun k' s' f' w' => (fun (l20778 : (List (List Int))) => ∃ (s20879 : PHeap) , PHeap.le s20720 s20879 ∧ St w0 s20879 (Res.box v20702 63 [v20703] :: Res.arr encRaw 49 v20703 v20704 :: Res.rows (encInt .i64) 3 v20704 l20778 :: H) w' ∧ f' 6 = Value.pointer (some ⟨v20702, 0, none⟩) ∧ f' 21 = v15 ∧ f' 22 = Value.int .i64 ((bounds14.length : Int)) ∧ f' 23 = Value.int .i64 (k' : Int)) s') hB20875 ?_ ?_ ?_)
          · have hS20881 := ((hS20722).f2).f2
            have hS20882 := (hS20881).f2
            exact ⟨s20720, (PHeap.le_refl _), hS20882, p20724, rfl, rfl, rfl⟩
          · intro i20731 l20778 c20884 f20885 w20886 hi20890 hI20887 hm20888 hres20889
            obtain ⟨s20891, l20892, hS20893, p20894, p20895, p20896, x20897⟩ := hI20887
            refine W_seq ?_
            refine W_region ?_
            refine WL_step rfl rfl (Exec.lss rfl x20897 p20896 ?_)
            refine WL_nil (at_normal ?_)
            refine W_seq ?_
            refine W_true (congrArg Value.bool (decide_eq_true (by omega))) ?_
            refine W_skip (at_normal ?_)
            refine W_seq ?_
            refine W_block ?_
            refine W_seq ?_
            refine W_region ?_
            obtain ⟨x20910, q20911, hm20888⟩ := bind_some hm20888
            refine WL_step rfl rfl (Exec.index_rep S22 rfl p20895 x20897 (a16.mono (PHeap.le.trans (PHeap.le.trans l20700 l20721) l20892)) q20911 ?_)
            intro b20912 o20913 a20914
            refine WL_step rfl rfl (Exec.load_at (E := encBound) hS20893 A32 rfl rfl rfl a20914 ?_)
            intro v20915 q20916
            obtain rfl := encBound_val.1 q20916
            refine WL_step rfl rfl (Exec.alloc (cs := [Value.int .i64 (0), Value.int .i64 (0), Value.int .i64 (0)]) hS20893 Z32 rfl rfl ?_)
            intro b20917 w20918 hS20919
            refine WL_step rfl rfl (Exec.store_box (ds := [Value.int .i64 (x20910.A), Value.int .i64 (x20910.B), Value.int .i64 (x20910.Most)]) (es := [Value.int .i64 (x20910.A), Value.int .i64 (x20910.B), Value.int .i64 (x20910.Most)]) hS20919 A32 rfl rfl rfl rfl (one_cons rfl (one_cons rfl (one_cons rfl one_nil))) (Nat.le_of_ble_eq_true rfl) rfl ?_)
            intro w20920 hS20921
            refine WL_nil (at_normal ?_)
            refine W_seq ?_
            refine W_region ?_
            refine WL_step rfl rfl (Exec.move (v := Value.pointer (some ⟨v20702, 0, none⟩)) rfl p20894 ?_)
            refine WL_step rfl rfl (Exec.load_box_agg (ds := [Value.int .i64 (x20910.A), Value.int .i64 (x20910.B), Value.int .i64 (x20910.Most)]) (hS20921) A32 rfl rfl rfl ?_)
            obtain ⟨t20932, q20933, hm20888⟩ := bind_some hm20888
            obtain ⟨y20934, l20935⟩ := t20932
            replace hm20888 := un2_eq hm20888
            have hS20936 := ((hS20921).f3).f3
            have hS20937 := (hS20936).f3
            refine WL_step rfl rfl (Exec.call rfl rfl Try.func14 rfl N14 (args_cons rfl (args_cons rfl args_nil)) ((stn_Network_Add_sim q20933 hS20937 ).mono ?_))
            rintro _ w20938 ⟨_, rfl, ⟨s20939, l20940, hS20941, rfl⟩⟩
            refine ⟨_, rfl, ?_⟩
            refine WL_step rfl rfl (Exec.err_neq_nil (T := 30) Try.underlying26 rfl rfl rfl ?_)
            refine WL_nil (at_normal ?_)
            rcases ite_some hm20888 with ⟨hc20942, hm20888⟩ | ⟨hc20942, hm20888⟩
            · refine W_cond_t rfl hc20942 ?_
              refine W_seq ?_
              refine W_region ?_
              refine WL_step rfl rfl (Exec.assign (v := Value.pointer none) rfl rfl ?_)
              refine WL_step rfl rfl (Exec.assign (v := Value.bool (false)) rfl rfl ?_)
              refine WL_nil (at_normal ?_)
              refine W_ret (ib_ret (at_ret (at_ret (ib_ret (at_ret (at_ret ?_))))))
              have e20943 := Option.some.inj hm20888
              subst c20884
              have hq20944 := hr20876 _ (hres20889 (by intro _ h; cases h))
              have e20945 := Option.some.inj hq20944
              subst r
              refine ⟨_, ret2 rfl, ?_⟩
              have hS20946 := (hS20941).drop
              have hS20947 := ((hS20946).drop).drop
              have hS20948 := (hS20947).drop
              refine (Or.inr ⟨rfl, ?_⟩); exact ⟨s20939, (PHeap.le.trans (PHeap.le.trans (PHeap.le.trans l20700 l20721) l20892) l20940), hS20948, (tup2 rfl rfl)⟩
            · refine W_cond_f rfl hc20942 ?_
              replace hc20942 := not_true hc20942
              refine W_skip (ib_normal (at_normal ?_))
              refine W_region ?_
              refine WL_step rfl rfl (Exec.add rfl x20897 rfl ?_)
              refine WL_step rfl rfl (Exec.move (v := Value.int .i64 (IntKind.i64.wrap ((i20731 : Int) + 1))) rfl rfl ?_)
              refine WL_nil (at_normal ?_)
              have e20949 := Option.some.inj hm20888
              subst c20884
              have hS20950 := ((hS20941).f3).drop
              have hS20951 := ((hS20950).f2).f2
              have hS20952 := (hS20951).f2
              refine ⟨_, rfl, ?_⟩; exact ⟨s20939, (PHeap.le.trans l20892 l20940), hS20952, p20894, p20895, p20896, (Eq.trans rfl (wrap_up hi20890 (SliceRep.le (a16.mono (PHeap.le.trans l20700 l20721)))))⟩
          · intro l20778 f20953 w20954 hI20955 hres20956
            obtain ⟨s20957, l20958, hS20959, p20960, p20961, p20962, x20963⟩ := hI20955
            refine W_seq ?_
            refine W_region ?_
            refine WL_step rfl rfl (Exec.lss rfl x20963 p20962 ?_)
            refine WL_nil (at_normal ?_)
            refine W_seq ?_
            refine W_false (congrArg Value.bool (decide_eq_false (by omega))) ?_
            refine W_exit (at_exit (at_exit (ib_here (at_normal ?_))))
            have hS20964 := ((hS20959).f2).f2
            have hS20965 := (hS20964).f2
            refine ⟨_, .inl hres20956, ?_⟩; exact ⟨s20957, l20958, hS20965, p20960, p20961, p20962⟩
        · rintro f20966 w20967 ⟨l20873, hc20968, hM20969⟩
          have hm := hc20968.elim (hn20877 _) (hb20878 _)
          clear hc20968
          obtain ⟨s20970, l20971, hS20972, p20973, p20974, p20975⟩ := hM20969
          refine (at_normal ?_)
          refine W_seq ?_
          refine W_region ?_
          refine WL_step rfl rfl (Exec.move (v := Value.pointer (some ⟨v20702, 0, none⟩)) rfl p20973 ?_)
          refine WL_step rfl rfl (Exec.assign (v := Value.pointer (some ⟨v20702, 0, none⟩)) rfl rfl ?_)
          refine WL_step rfl rfl (Exec.assign (v := Value.bool (true)) rfl rfl ?_)
          refine WL_nil (at_normal ?_)
          refine W_ret ?_
          have e20977 := Option.some.inj hm
          subst r
          refine ⟨_, ret2 rfl, ?_⟩
          have hS20978 := ((hS20972).f2).f2
          have hS20979 := (hS20978).f2
          refine (Or.inl ⟨_, rfl, ?_⟩); exact ⟨s20970, v20702, v20703, v20704, (PHeap.le.trans (PHeap.le.trans l20700 l20721) l20971), hS20979, (tup2 rfl rfl)⟩
  · replace hm := optC_none hm
    refine WL_step rfl rfl (Exec.move (v := Value.tuple #[Value.pointer none, errV 30 (y20695)]) rfl rfl ?_)
    refine WL_step rfl rfl (Exec.extract (v := Value.pointer none) rfl rfl rfl ?_)
    refine WL_step rfl rfl (Exec.extract (v := errV 30 (y20695)) rfl rfl rfl ?_)
    refine WL_step rfl rfl (Exec.assign (v := Value.pointer none) rfl rfl ?_)
    refine WL_step rfl rfl (Exec.assign (v := errV 30 (y20695)) rfl rfl ?_)
    refine WL_nil (at_normal ?_)
    refine W_seq ?_
    refine W_seq ?_
    obtain ⟨t20981, ht20982, hm⟩ := bind_some hm
    refine W_mid (M := fun f' w' => (fun (_ : Unit) => ∃ (s20983 : PHeap) , PHeap.le s20706 s20983 ∧ St w0 s20983 (H) w' ∧ f' 1 = v15 ∧ f' 6 = Value.pointer none ∧ f' 20 = Value.bool (true)) t20981) ?_ ?_
    · refine W_region ?_
      refine WL_step rfl rfl (Exec.move (v := errV 30 (y20695)) rfl rfl ?_)
      refine WL_step rfl rfl (Exec.err_neq_nil (T := 30) Try.underlying26 rfl rfl rfl ?_)
      refine WL_step rfl rfl (Exec.move (v := Value.bool (y20695.isSome)) rfl rfl ?_)
      rcases ite_some ht20982 with ⟨hc20984, ht20982⟩ | ⟨hc20984, ht20982⟩
      · refine WL_pass rfl (yield_of rfl (congrArg Value.bool hc20984)) rfl rfl ?_
        refine WL_pass rfl (yield_of rfl (congrArg Value.bool hc20984)) rfl rfl ?_
        refine WL_step rfl rfl (Exec.pick_t (v := Value.bool (true)) rfl (congrArg Value.bool hc20984) rfl ?_)
        refine WL_nil (at_normal ?_)
        have e20985 := Option.some.inj ht20982
        subst t20981
        exact ⟨s20706, (PHeap.le_refl _), hS20708, rfl, rfl, rfl⟩
      · replace hc20984 := not_true hc20984
        refine WL_run rfl (yield_of rfl (congrArg Value.bool hc20984)) rfl (Exec.move (v := Value.pointer none) rfl rfl ?_)
        refine WL_run rfl (yield_of rfl (congrArg Value.bool hc20984)) rfl (Exec.ptr_eql_nil Try.underlying24 rfl rfl rfl ?_)
        refine WL_step rfl rfl (Exec.pick_f (v := Value.bool (true)) rfl (congrArg Value.bool hc20984) rfl ?_)
        refine WL_nil (at_normal ?_)
        have e20986 := Option.some.inj ht20982
        subst t20981
        exact ⟨s20706, (PHeap.le_refl _), hS20708, rfl, rfl, rfl⟩
    · intro f20987 w20988 hM20989
      obtain ⟨s20990, l20991, hS20992, p20993, p20994, p20995⟩ := hM20989
      refine (at_normal ?_)
      refine W_true p20995 ?_
      refine W_seq ?_
      refine W_region ?_
      refine WL_step rfl rfl (Exec.assign (v := Value.pointer none) rfl rfl ?_)
      refine WL_step rfl rfl (Exec.assign (v := Value.bool (false)) rfl rfl ?_)
      refine WL_nil (at_normal ?_)
      refine W_ret (at_ret ?_)
      have e20997 := Option.some.inj hm
      subst r
      refine ⟨_, ret2 rfl, ?_⟩
      refine (Or.inr ⟨rfl, ?_⟩); exact ⟨s20990, (PHeap.le.trans l20707 l20991), hS20992, (tup2 rfl rfl)⟩

theorem N15 : (Try.f15.name == "runtime.NumGoroutine") = false := by kernel_rfl

theorem stn_Network_Distance_sim {w0 w : World} {s : PHeap} {H : List Res} {n21054 : stn_Network} {a21058 : Int} {b21059 : Int} {b21055 : Nat} {v21056 : Value} {hs21057 : List Value} {r : Int × (Option Int)} (hm : stn_Network_Distance_p n21054 a21058 b21059 = some r) (hS : St w0 s (Res.box b21055 63 [v21056] :: Res.arr encRaw 49 v21056 hs21057 :: Res.rows (encInt .i64) 3 hs21057 n21054.d :: H) w)  :
    Calls Try.prog 15 #[Value.pointer (some ⟨b21055, 0, none⟩), Value.int .i64 (a21058), Value.int .i64 (b21059)] w fun e w' => ∃ v, e = .returned v ∧ ((un2 fun (y21137 : Int) (y21138 : (Option Int)) => ∃ (s21139 : PHeap) , PHeap.le s s21139 ∧ St w0 s21139 (Res.box b21055 63 [v21056] :: Res.arr encRaw 49 v21056 hs21057 :: Res.rows (encInt .i64) 3 hs21057 n21054.d :: H) w' ∧ v = Value.tuple #[Value.int .i64 (y21137), errV 30 (y21138)]) r) := by
  unfold stn_Network_Distance_p at hm
  refine calls_of_W Try.func15 rfl rfl ?_
  refine W_seq ?_
  refine W_region ?_
  refine WL_step rfl rfl (Exec.assign (v := Value.int .i64 (0)) rfl rfl ?_)
  refine WL_step rfl rfl (Exec.assign (v := errV 30 (none)) rfl rfl ?_)
  refine WL_nil (at_normal ?_)
  refine W_seq ?_
  refine W_seq ?_
  refine W_region ?_
  refine WL_step rfl rfl (Exec.move (v := Value.pointer (some ⟨b21055, 0, none⟩)) rfl rfl ?_)
  refine WL_step rfl rfl (Exec.ptr_eql_nil Try.underlying24 rfl rfl rfl ?_)
  refine WL_nil (at_normal ?_)
  refine W_false rfl ?_
  refine W_skip (at_normal ?_)
  refine W_seq ?_
  refine W_seq ?_
  refine W_mid (M := fun f' w' => ∃ (s21153 : PHeap) , PHeap.le s s21153 ∧ St w0 s21153 (Res.box b21055 63 [v21056] :: Res.arr encRaw 49 v21056 hs21057 :: Res.rows (encInt .i64) 3 hs21057 n21054.d :: H) w' ∧ f' 0 = Value.pointer (some ⟨b21055, 0, none⟩) ∧ f' 1 = Value.int .i64 (a21058) ∧ f' 2 = Value.int .i64 (b21059) ∧ f' 20 = Value.bool (((!(stn_Network_point_t n21054 a21058)) || !(stn_Network_point_t n21054 b21059)))) ?_ ?_
  · refine W_region ?_
    refine WL_step rfl rfl (Exec.move (v := Value.pointer (some ⟨b21055, 0, none⟩)) rfl rfl ?_)
    refine WL_step rfl rfl (Exec.move (v := Value.int .i64 (a21058)) rfl rfl ?_)
    have hS21154 := ((hS).f2).f2
    have hS21155 := (hS21154).f2
    refine WL_step rfl rfl (Exec.call rfl rfl Try.func26 rfl N26 (args_cons rfl (args_cons rfl args_nil)) ((stn_Network_point_sim (stn_Network_point_tot n21054 a21058) hS21155 ).mono ?_))
    rintro _ w21156 ⟨_, rfl, ⟨s21157, l21158, hS21159, rfl⟩⟩
    refine ⟨_, rfl, ?_⟩
    refine WL_step rfl rfl (Exec.not rfl rfl ?_)
    refine WL_step rfl rfl (Exec.move (v := Value.bool (!(stn_Network_point_t n21054 a21058))) rfl rfl ?_)
    by_cases hc21160 : (!(stn_Network_point_t n21054 a21058)) = true
    · refine WL_pass rfl (yield_of rfl (congrArg Value.bool hc21160)) rfl rfl ?_
      refine WL_pass rfl (yield_of rfl (congrArg Value.bool hc21160)) rfl rfl ?_
      refine WL_pass rfl (yield_of rfl (congrArg Value.bool hc21160)) rfl rfl ?_
      refine WL_pass rfl (yield_of rfl (congrArg Value.bool hc21160)) rfl rfl ?_
      refine WL_step rfl rfl (Exec.pick_t (v := Value.bool (true)) rfl (congrArg Value.bool hc21160) rfl ?_)
      refine WL_nil (at_normal ?_)
      have hS21161 := ((hS21159).f2).f2
      have hS21162 := (hS21161).f2
      exact ⟨s21157, l21158, hS21162, rfl, rfl, rfl, (congrArg Value.bool (or_t hc21160)).symm⟩
    · replace hc21160 := not_true hc21160
      refine WL_run rfl (yield_of rfl (congrArg Value.bool hc21160)) rfl (Exec.move (v := Value.pointer (some ⟨b21055, 0, none⟩)) rfl rfl ?_)
      refine WL_run rfl (yield_of rfl (congrArg Value.bool hc21160)) rfl (Exec.move (v := Value.int .i64 (b21059)) rfl rfl ?_)
      have hS21163 := ((hS21159).f2).f2
      have hS21164 := (hS21163).f2
      refine WL_run rfl (yield_of rfl (congrArg Value.bool hc21160)) rfl (Exec.call rfl rfl Try.func26 rfl N26 (args_cons rfl (args_cons rfl args_nil)) ((stn_Network_point_sim (stn_Network_point_tot n21054 b21059) hS21164 ).mono ?_))
      rintro _ w21165 ⟨_, rfl, ⟨s21166, l21167, hS21168, rfl⟩⟩
      refine ⟨_, rfl, ?_⟩
      refine WL_run rfl (yield_of rfl (congrArg Value.bool hc21160)) rfl (Exec.not rfl rfl ?_)
      refine WL_step rfl rfl (Exec.pick_f (v := Value.bool (!(stn_Network_point_t n21054 b21059))) rfl (congrArg Value.bool hc21160) rfl ?_)
      refine WL_nil (at_normal ?_)
      have hS21169 := ((hS21168).f2).f2
      have hS21170 := (hS21169).f2
      exact ⟨s21166, (PHeap.le.trans l21158 l21167), hS21170, rfl, rfl, rfl, (congrArg Value.bool (or_f hc21160)).symm⟩
  · intro f21171 w21172 hM21173
    obtain ⟨s21174, l21175, hS21176, p21177, p21178, p21179, p21180⟩ := hM21173
    refine (at_normal ?_)
    rcases ite_some hm with ⟨hc21181, hm⟩ | ⟨hc21181, hm⟩
    · refine W_cond_t p21180 hc21181 ?_
      refine W_seq ?_
      refine W_region ?_
      refine WL_step rfl rfl (Exec.makeInterface C30 rfl rfl ?_)
      refine WL_step rfl rfl (Exec.assign (v := Value.int .i64 (0)) rfl rfl ?_)
      refine WL_step rfl rfl (Exec.assign (v := errV 30 (some 1)) rfl rfl ?_)
      refine WL_nil (at_normal ?_)
      refine W_ret (at_ret ?_)
      have e21183 := Option.some.inj hm
      subst r
      refine ⟨_, ret2 rfl, ?_⟩
      have hS21184 := ((hS21176).f2).f2
      have hS21185 := (hS21184).f2
      exact ⟨s21174, l21175, hS21185, (tup2 rfl rfl)⟩
    · refine W_cond_f p21180 hc21181 ?_
      replace hc21181 := not_true hc21181
      refine W_skip (at_normal ?_)
      refine W_seq ?_
      refine W_region ?_
      refine WL_step rfl rfl (Exec.move (v := Value.pointer (some ⟨b21055, 0, none⟩)) rfl p21177 ?_)
      refine WL_step rfl rfl (Exec.nilCheck_ptr rfl rfl ?_)
      refine WL_step rfl rfl (Exec.field F63_0 rfl rfl rfl ?_)
      refine WL_step rfl rfl (Exec.load_box (hS21176) A61 rfl rfl rfl ?_)
      refine WL_step rfl rfl (Exec.move (v := Value.int .i64 (a21058)) rfl p21178 ?_)
      obtain ⟨row21203, q21204, hm⟩ := bind_some hm
      obtain ⟨h21205, e21206, e21207, _⟩ := ((((hS21176).f2).f2).f1).rows_at q21204
      obtain ⟨g21208, c21209, e21210⟩ := (((hS21176).f2).f2).arr_at e21206
      refine WL_step rfl rfl (Exec.index_slice S61 rfl e21210 rfl (idx_some e21206).1 (idx_some e21206).2.1 ?_)
      refine WL_step rfl rfl (Exec.load_arr (F := encRaw) (((hS21176).f2).f2) e21210 A49 rfl rfl rfl e21206 (Sub.refl _) ?_)
      intro v21211 q21212
      replace q21212 := (encRaw_val.1 q21212).1
      subst v21211
      refine WL_step rfl rfl (Exec.move (v := Value.int .i64 (b21059)) rfl p21179 ?_)
      obtain ⟨x21213, q21214, hm⟩ := bind_some hm
      obtain ⟨g21215, c21216, e21217⟩ := (((((hS21176).f2).f2).f1).rows_split e21207 (idx_some q21204).2.2).arr_at q21214
      refine WL_step rfl rfl (Exec.index_slice S49 rfl e21217 rfl (idx_some q21214).1 (idx_some q21214).2.1 ?_)
      refine WL_step rfl rfl (Exec.load_arr (F := (encInt .i64)) (((((hS21176).f2).f2).f1).rows_split e21207 (idx_some q21204).2.2) e21217 A3 rfl rfl rfl q21214 (Sub.refl _) ?_)
      intro v21218 q21219
      obtain rfl := encInt_val.1 q21219
      refine WL_step rfl rfl (Exec.assign (v := Value.int .i64 (x21213)) rfl rfl ?_)
      refine WL_step rfl rfl (Exec.assign (v := errV 30 (none)) rfl rfl ?_)
      refine WL_nil (at_normal ?_)
      refine W_ret ?_
      have e21221 := Option.some.inj hm
      subst r
      refine ⟨_, ret2 rfl, ?_⟩
      have hS21222 := ((hS21176).f2).f2
      have hS21223 := (hS21222).f2
      exact ⟨s21174, l21175, hS21223, (tup2 rfl rfl)⟩

theorem N16 : (Try.f16.name == "runtime.NumGoroutine") = false := by kernel_rfl

theorem stn_Network_Earliest_sim {w0 w : World} {s : PHeap} {H : List Res} {n21049 : stn_Network} {p21053 : Int} {b21050 : Nat} {v21051 : Value} {hs21052 : List Value} {r : Int × (Option Int)} (hm : stn_Network_Earliest_p n21049 p21053 = some r) (hS : St w0 s (Res.box b21050 63 [v21051] :: Res.arr encRaw 49 v21051 hs21052 :: Res.rows (encInt .i64) 3 hs21052 n21049.d :: H) w)  :
    Calls Try.prog 16 #[Value.pointer (some ⟨b21050, 0, none⟩), Value.int .i64 (p21053)] w fun e w' => ∃ v, e = .returned v ∧ ((un2 fun (y21247 : Int) (y21248 : (Option Int)) => ∃ (s21249 : PHeap) , PHeap.le s s21249 ∧ St w0 s21249 (Res.box b21050 63 [v21051] :: Res.arr encRaw 49 v21051 hs21052 :: Res.rows (encInt .i64) 3 hs21052 n21049.d :: H) w' ∧ v = Value.tuple #[Value.int .i64 (y21247), errV 30 (y21248)]) r) := by
  unfold stn_Network_Earliest_p at hm
  refine calls_of_W Try.func16 rfl rfl ?_
  refine W_seq ?_
  refine W_region ?_
  refine WL_step rfl rfl (Exec.assign (v := Value.int .i64 (0)) rfl rfl ?_)
  refine WL_step rfl rfl (Exec.assign (v := errV 30 (none)) rfl rfl ?_)
  refine WL_nil (at_normal ?_)
  refine W_seq ?_
  refine W_region ?_
  refine WL_step rfl rfl (Exec.move (v := Value.pointer (some ⟨b21050, 0, none⟩)) rfl rfl ?_)
  refine WL_step rfl rfl (Exec.move (v := Value.int .i64 (p21053)) rfl rfl ?_)
  obtain ⟨t21260, q21261, hm⟩ := bind_some hm
  obtain ⟨y21262, y21263⟩ := t21260
  replace hm := un2_eq hm
  have hS21264 := ((hS).f2).f2
  have hS21265 := (hS21264).f2
  refine WL_step rfl rfl (Exec.call rfl rfl Try.func15 rfl N15 (args_cons rfl (args_cons rfl (args_cons rfl args_nil))) ((stn_Network_Distance_sim q21261 hS21265 ).mono ?_))
  rintro _ w21266 ⟨_, rfl, ⟨s21267, l21268, hS21269, rfl⟩⟩
  refine ⟨_, rfl, ?_⟩
  refine WL_step rfl rfl (Exec.move (v := Value.tuple #[Value.int .i64 (y21262), errV 30 (y21263)]) rfl rfl ?_)
  refine WL_step rfl rfl (Exec.extract (v := Value.int .i64 (y21262)) rfl rfl rfl ?_)
  refine WL_step rfl rfl (Exec.extract (v := errV 30 (y21263)) rfl rfl rfl ?_)
  refine WL_step rfl rfl (Exec.assign (v := Value.int .i64 (y21262)) rfl rfl ?_)
  refine WL_step rfl rfl (Exec.assign (v := errV 30 (y21263)) rfl rfl ?_)
  refine WL_nil (at_normal ?_)
  refine W_seq ?_
  refine W_seq ?_
  refine W_region ?_
  refine WL_step rfl rfl (Exec.move (v := errV 30 (y21263)) rfl rfl ?_)
  refine WL_step rfl rfl (Exec.err_neq_nil (T := 30) Try.underlying26 rfl rfl rfl ?_)
  refine WL_nil (at_normal ?_)
  rcases ite_some hm with ⟨hc21270, hm⟩ | ⟨hc21270, hm⟩
  · refine W_cond_t rfl hc21270 ?_
    refine W_seq ?_
    refine W_region ?_
    refine WL_step rfl rfl (Exec.move (v := errV 30 (y21263)) rfl rfl ?_)
    refine WL_step rfl rfl (Exec.assign (v := Value.int .i64 (0)) rfl rfl ?_)
    refine WL_step rfl rfl (Exec.assign (v := errV 30 (y21263)) rfl rfl ?_)
    refine WL_nil (at_normal ?_)
    refine W_ret (at_ret ?_)
    have e21272 := Option.some.inj hm
    subst r
    refine ⟨_, ret2 rfl, ?_⟩
    have hS21273 := ((hS21269).f2).f2
    have hS21274 := (hS21273).f2
    exact ⟨s21267, l21268, hS21274, (tup2 rfl rfl)⟩
  · refine W_cond_f rfl hc21270 ?_
    replace hc21270 := not_true hc21270
    refine W_skip (at_normal ?_)
    refine W_seq ?_
    refine W_seq ?_
    refine W_region ?_
    refine WL_step rfl rfl (Exec.move (v := Value.int .i64 (y21262)) rfl rfl ?_)
    refine WL_step rfl rfl (Exec.geq rfl rfl rfl ?_)
    refine WL_nil (at_normal ?_)
    rcases ite_some hm with ⟨hc21275, hm⟩ | ⟨hc21275, hm⟩
    · refine W_cond_t rfl hc21275 ?_
      refine W_seq ?_
      refine W_region ?_
      refine WL_step rfl rfl (Exec.makeInterface C30 rfl rfl ?_)
      refine WL_step rfl rfl (Exec.assign (v := Value.int .i64 (0)) rfl rfl ?_)
      refine WL_step rfl rfl (Exec.assign (v := errV 30 (some 3)) rfl rfl ?_)
      refine WL_nil (at_normal ?_)
      refine W_ret (at_ret ?_)
      have e21277 := Option.some.inj hm
      subst r
      refine ⟨_, ret2 rfl, ?_⟩
      have hS21278 := ((hS21269).f2).f2
      have hS21279 := (hS21278).f2
      exact ⟨s21267, l21268, hS21279, (tup2 rfl rfl)⟩
    · refine W_cond_f rfl hc21275 ?_
      replace hc21275 := not_true hc21275
      refine W_skip (at_normal ?_)
      refine W_seq ?_
      refine W_region ?_
      refine WL_step rfl rfl (Exec.move (v := Value.int .i64 (y21262)) rfl rfl ?_)
      refine WL_step rfl rfl (Exec.neg rfl rfl ?_)
      refine WL_step rfl rfl (Exec.assign (v := Value.int .i64 (IntKind.i64.wrap (0 - y21262))) rfl rfl ?_)
      refine WL_step rfl rfl (Exec.assign (v := errV 30 (none)) rfl rfl ?_)
      refine WL_nil (at_normal ?_)
      refine W_ret ?_
      have e21281 := Option.some.inj hm
      subst r
      refine ⟨_, ret2 rfl, ?_⟩
      have hS21282 := ((hS21269).f2).f2
      have hS21283 := (hS21282).f2
      exact ⟨s21267, l21268, hS21283, (tup2 rfl rfl)⟩

theorem N22 : (Try.f22.name == "runtime.NumGoroutine") = false := by kernel_rfl

theorem stn_Network_Times_sim {w0 w : World} {s : PHeap} {H : List Res} {n21043 : stn_Network} {b21044 : Nat} {v21045 : Value} {hs21046 : List Value} {r : (List Int) × (Option Int)} (hm : stn_Network_Times_p n21043 = some r) (hS : St w0 s (Res.box b21044 63 [v21045] :: Res.arr encRaw 49 v21045 hs21046 :: Res.rows (encInt .i64) 3 hs21046 n21043.d :: H) w)  :
    Calls Try.prog 22 #[Value.pointer (some ⟨b21044, 0, none⟩)] w fun e w' => ∃ v, e = .returned v ∧ ((un2 fun (y21507 : (List Int)) (y21508 : (Option Int)) => ∃ (s21515 : PHeap) (v21514 : Value), PHeap.le s s21515 ∧ St w0 s21515 (Res.box b21044 63 [v21045] :: Res.arr encRaw 49 v21045 hs21046 :: Res.rows (encInt .i64) 3 hs21046 n21043.d :: H) w' ∧ v = Value.tuple #[v21514, errV 30 (y21508)] ∧ SliceRep (encInt .i64) s21515 v21514 y21507) r) := by
  unfold stn_Network_Times_p at hm
  refine calls_of_W Try.func22 rfl rfl ?_
  refine W_seq ?_
  refine W_region ?_
  refine WL_step rfl rfl (Exec.assign (v := Value.slice none 0 0) rfl rfl ?_)
  refine WL_step rfl rfl (Exec.assign (v := errV 30 (none)) rfl rfl ?_)
  refine WL_nil (at_normal ?_)
  refine W_seq ?_
  refine W_seq ?_
  refine W_region ?_
  refine WL_step rfl rfl (Exec.move (v := Value.pointer (some ⟨b21044, 0, none⟩)) rfl rfl ?_)
  refine WL_step rfl rfl (Exec.ptr_eql_nil Try.underlying24 rfl rfl rfl ?_)
  refine WL_nil (at_normal ?_)
  refine W_false rfl ?_
  refine W_skip (at_normal ?_)
  refine W_seq ?_
  refine W_region ?_
  refine WL_step rfl rfl (Exec.assign (v := Value.slice none 0 0) rfl rfl ?_)
  refine WL_nil (at_normal ?_)
  refine W_seq ?_
  refine W_seq ?_
  refine W_region ?_
  refine WL_step rfl rfl (Exec.move (v := Value.pointer (some ⟨b21044, 0, none⟩)) rfl rfl ?_)
  refine WL_step rfl rfl (Exec.nilCheck_ptr rfl rfl ?_)
  refine WL_step rfl rfl (Exec.field F63_0 rfl rfl rfl ?_)
  refine WL_step rfl rfl (Exec.load_box (hS) A61 rfl rfl rfl ?_)
  refine WL_step rfl rfl (Exec.len_grid (((hS).f2).f2) (((hS).f2).f2).f1.rows_len S61 rfl rfl ?_)
  refine WL_step rfl rfl (Exec.move (v := Value.int .i64 (0)) rfl rfl ?_)
  refine WL_nil (at_normal ?_)
  obtain ⟨c21649, hB21650, hr21651, hn21652, hb21653⟩ := ctl_some hm
  refine W_mid (M := fun f' w' => ∃ s', (c21649 = .next s' ∨ c21649 = .brk s') ∧ (fun (out21647 : (List Int)) => ∃ (s21655 : PHeap) (v21648 : Value), PHeap.le s s21655 ∧ St w0 s21655 (Res.box b21044 63 [v21045] :: Res.arr encRaw 49 v21045 hs21046 :: Res.rows (encInt .i64) 3 hs21046 n21043.d :: Res.arr (encInt .i64) 3 v21648 out21647 :: H) w' ∧ f' 0 = Value.pointer (some ⟨b21044, 0, none⟩) ∧ f' 4 = v21648 ∧ f' 15 = Value.int .i64 ((n21043.d.length : Int))) s') ?_ ?_
  · refine W_block (W_forC (fun k' s' f' w' => (fun (out21561 : (List Int)) => ∃ (s21654 : PHeap) (v21562 : Value), PHeap.le s s21654 ∧ St w0 s21654 (Res.box b21044 63 [v21045] :: Res.arr encRaw 49 v21045 hs21046 :: Res.rows (encInt .i64) 3 hs21046 n21043.d :: Res.arr (encInt .i64) 3 v21562 out21561 :: H) w' ∧ f' 0 = Value.pointer (some ⟨b21044, 0, none⟩) ∧ f' 4 = v21562 ∧ f' 15 = Value.int .i64 ((n21043.d.length : Int)) ∧ f' 16 = Value.int .i64 (k' : Int)) s') hB21650 ?_ ?_ ?_)
    · have hS21656 := hS.nilArr (encInt .i64) 3
      have hS21657 := ((hS21656).f3).f3
      have hS21658 := (hS21657).f3
      exact ⟨s, (Value.slice none 0 0), (PHeap.le_refl _), hS21658, rfl, rfl, rfl, rfl⟩
    · intro i21516 out21561 c21660 f21661 w21662 hi21666 hI21663 hm21664 hres21665
      obtain ⟨s21667, v21562, l21668, hS21669, p21670, p21671, p21672, x21673⟩ := hI21663
      refine W_seq ?_
      refine W_region ?_
      refine WL_step rfl rfl (Exec.lss rfl x21673 p21672 ?_)
      refine WL_nil (at_normal ?_)
      refine W_seq ?_
      refine W_true (congrArg Value.bool (decide_eq_true (by omega))) ?_
      refine W_skip (at_normal ?_)
      refine W_seq ?_
      refine W_block ?_
      refine W_seq ?_
      refine W_region ?_
      refine WL_step rfl rfl (Exec.move (v := Value.int .i64 ((i21516 : Int))) rfl x21673 ?_)
      refine WL_step rfl rfl (Exec.assign (v := Value.int .i64 ((i21516 : Int))) rfl rfl ?_)
      refine WL_nil (at_normal ?_)
      refine W_seq ?_
      refine W_region ?_
      refine WL_step rfl rfl (Exec.move (v := Value.pointer (some ⟨b21044, 0, none⟩)) rfl p21670 ?_)
      refine WL_step rfl rfl (Exec.move (v := Value.int .i64 ((i21516 : Int))) rfl rfl ?_)
      obtain ⟨t21684, q21685, hm21664⟩ := bind_some hm21664
      obtain ⟨y21686, y21687⟩ := t21684
      replace hm21664 := un2_eq hm21664
      have hS21688 := ((hS21669).f2).f2
      have hS21689 := (hS21688).f2
      refine WL_step rfl rfl (Exec.call rfl rfl Try.func16 rfl N16 (args_cons rfl (args_cons rfl args_nil)) ((stn_Network_Earliest_sim q21685 hS21689 ).mono ?_))
      rintro _ w21690 ⟨_, rfl, ⟨s21691, l21692, hS21693, rfl⟩⟩
      refine ⟨_, rfl, ?_⟩
      refine WL_step rfl rfl (Exec.move (v := Value.tuple #[Value.int .i64 (y21686), errV 30 (y21687)]) rfl rfl ?_)
      refine WL_step rfl rfl (Exec.extract (v := Value.int .i64 (y21686)) rfl rfl rfl ?_)
      refine WL_step rfl rfl (Exec.extract (v := errV 30 (y21687)) rfl rfl rfl ?_)
      refine WL_step rfl rfl (Exec.assign (v := Value.int .i64 (y21686)) rfl rfl ?_)
      refine WL_step rfl rfl (Exec.assign (v := errV 30 (y21687)) rfl rfl ?_)
      refine WL_nil (at_normal ?_)
      refine W_seq ?_
      refine W_seq ?_
      refine W_region ?_
      refine WL_step rfl rfl (Exec.move (v := errV 30 (y21687)) rfl rfl ?_)
      refine WL_step rfl rfl (Exec.err_neq_nil (T := 30) Try.underlying26 rfl rfl rfl ?_)
      refine WL_nil (at_normal ?_)
      rcases ite_some hm21664 with ⟨hc21694, hm21664⟩ | ⟨hc21694, hm21664⟩
      · refine W_cond_t rfl hc21694 ?_
        refine W_seq ?_
        refine W_region ?_
        refine WL_step rfl rfl (Exec.move (v := errV 30 (y21687)) rfl rfl ?_)
        refine WL_step rfl rfl (Exec.assign (v := Value.slice none 0 0) rfl rfl ?_)
        refine WL_step rfl rfl (Exec.assign (v := errV 30 (y21687)) rfl rfl ?_)
        refine WL_nil (at_normal ?_)
        refine W_ret (at_ret (ib_ret (at_ret (at_ret (ib_ret (at_ret (at_ret ?_)))))))
        have e21695 := Option.some.inj hm21664
        subst c21660
        have hq21696 := hr21651 _ (hres21665 (by intro _ h; cases h))
        have e21697 := Option.some.inj hq21696
        subst r
        refine ⟨_, ret2 rfl, ?_⟩
        have hS21698 := ((hS21693).f3).drop
        have hS21699 := ((hS21698).f2).f2
        have hS21700 := (hS21699).f2
        exact ⟨s21691, (Value.slice none 0 0), (PHeap.le.trans l21668 l21692), hS21700, (tup2 rfl rfl), (SliceRep.nil _ _)⟩
      · refine W_cond_f rfl hc21694 ?_
        replace hc21694 := not_true hc21694
        refine W_skip (at_normal ?_)
        refine W_region ?_
        refine WL_step rfl rfl (Exec.move (v := v21562) rfl p21671 ?_)
        refine WL_step rfl rfl (Exec.move (v := Value.int .i64 (y21686)) rfl rfl ?_)
        refine WL_step rfl rfl (Exec.buildSlice (Te := 3) (cs := [Value.int .i64 (y21686)]) hS21693 rfl (parts_cons (c := [Value.int .i64 (y21686)]) (cells_of rfl rfl) parts_nil) (fun _ => by kernel_rfl) ?_)
        intro b21710 w21711 hS21712
        obtain ⟨l21713, q21714, hm21664⟩ := bind_some hm21664
        have hS21715 := (hS21712).f4
        refine WL_step rfl rfl (Exec.append_box (E := (encInt .i64)) (ys := [y21686]) hS21715 S49 Z3 rfl (by decide) rfl rfl rfl rfl ⟨[Value.int .i64 (y21686)], [], rfl, rfl, rfl⟩ rfl q21714 ?_)
        intro v21716 w21717 hS21718
        refine WL_step rfl rfl (Exec.assign (v := v21716) rfl rfl ?_)
        refine WL_nil (ib_normal (at_normal ?_))
        refine W_region ?_
        refine WL_step rfl rfl (Exec.add rfl x21673 rfl ?_)
        refine WL_step rfl rfl (Exec.move (v := Value.int .i64 (IntKind.i64.wrap ((i21516 : Int) + 1))) rfl rfl ?_)
        refine WL_nil (at_normal ?_)
        have e21719 := Option.some.inj hm21664
        subst c21660
        have hS21720 := ((hS21718).f3).f3
        have hS21721 := (hS21720).f3
        refine ⟨_, rfl, ?_⟩; exact ⟨s21691, v21716, (PHeap.le.trans l21668 l21692), hS21721, p21670, rfl, p21672, (Eq.trans rfl (wrap_up hi21666 (by have h := (((hS).f2).f2).f1.rows_len; have h2 := (((hS).f2).f2).arr_le; omega)))⟩
    · intro out21561 f21722 w21723 hI21724 hres21725
      obtain ⟨s21726, v21562, l21727, hS21728, p21729, p21730, p21731, x21732⟩ := hI21724
      refine W_seq ?_
      refine W_region ?_
      refine WL_step rfl rfl (Exec.lss rfl x21732 p21731 ?_)
      refine WL_nil (at_normal ?_)
      refine W_seq ?_
      refine W_false (congrArg Value.bool (decide_eq_false (by omega))) ?_
      refine W_exit (at_exit (at_exit (ib_here (at_normal ?_))))
      have hS21733 := (hS21728).f3
      have hS21734 := ((hS21733).f3).f3
      have hS21735 := (hS21734).f3
      refine ⟨_, .inl hres21725, ?_⟩; exact ⟨s21726, v21562, l21727, hS21735, p21729, p21730, p21731⟩
  · rintro f21736 w21737 ⟨out21647, hc21738, hM21739⟩
    have hm := hc21738.elim (hn21652 _) (hb21653 _)
    clear hc21738
    obtain ⟨s21740, v21648, l21741, hS21742, p21743, p21744, p21745⟩ := hM21739
    refine (at_normal ?_)
    refine W_seq ?_
    refine W_region ?_
    refine WL_step rfl rfl (Exec.move (v := v21648) rfl p21744 ?_)
    refine WL_step rfl rfl (Exec.assign (v := v21648) rfl rfl ?_)
    refine WL_step rfl rfl (Exec.assign (v := errV 30 (none)) rfl rfl ?_)
    refine WL_nil (at_normal ?_)
    refine W_ret ?_
    have e21747 := Option.some.inj hm
    subst r
    refine ⟨_, ret2 rfl, ?_⟩
    have hS21748 := (hS21742).f3
    obtain ⟨s21749, l21750, hS21751, r21752⟩ := hS21748.freezeArr
    have hS21753 := ((hS21751).f2).f2
    have hS21754 := (hS21753).f2
    exact ⟨s21749, v21648, (PHeap.le.trans l21741 l21750), hS21754, (tup2 rfl rfl), r21752⟩

theorem N17 : (Try.f17.name == "runtime.NumGoroutine") = false := by kernel_rfl

theorem stn_Network_Latest_sim {w0 w : World} {s : PHeap} {H : List Res} {n21779 : stn_Network} {p21783 : Int} {b21780 : Nat} {v21781 : Value} {hs21782 : List Value} {r : Int × (Option Int)} (hm : stn_Network_Latest_p n21779 p21783 = some r) (hS : St w0 s (Res.box b21780 63 [v21781] :: Res.arr encRaw 49 v21781 hs21782 :: Res.rows (encInt .i64) 3 hs21782 n21779.d :: H) w)  :
    Calls Try.prog 17 #[Value.pointer (some ⟨b21780, 0, none⟩), Value.int .i64 (p21783)] w fun e w' => ∃ v, e = .returned v ∧ ((un2 fun (y21807 : Int) (y21808 : (Option Int)) => ∃ (s21809 : PHeap) , PHeap.le s s21809 ∧ St w0 s21809 (Res.box b21780 63 [v21781] :: Res.arr encRaw 49 v21781 hs21782 :: Res.rows (encInt .i64) 3 hs21782 n21779.d :: H) w' ∧ v = Value.tuple #[Value.int .i64 (y21807), errV 30 (y21808)]) r) := by
  unfold stn_Network_Latest_p at hm
  refine calls_of_W Try.func17 rfl rfl ?_
  refine W_seq ?_
  refine W_region ?_
  refine WL_step rfl rfl (Exec.assign (v := Value.int .i64 (0)) rfl rfl ?_)
  refine WL_step rfl rfl (Exec.assign (v := errV 30 (none)) rfl rfl ?_)
  refine WL_nil (at_normal ?_)
  refine W_seq ?_
  refine W_region ?_
  refine WL_step rfl rfl (Exec.move (v := Value.pointer (some ⟨b21780, 0, none⟩)) rfl rfl ?_)
  refine WL_step rfl rfl (Exec.move (v := Value.int .i64 (p21783)) rfl rfl ?_)
  obtain ⟨t21820, q21821, hm⟩ := bind_some hm
  obtain ⟨y21822, y21823⟩ := t21820
  replace hm := un2_eq hm
  have hS21824 := ((hS).f2).f2
  have hS21825 := (hS21824).f2
  refine WL_step rfl rfl (Exec.call rfl rfl Try.func15 rfl N15 (args_cons rfl (args_cons rfl (args_cons rfl args_nil))) ((stn_Network_Distance_sim q21821 hS21825 ).mono ?_))
  rintro _ w21826 ⟨_, rfl, ⟨s21827, l21828, hS21829, rfl⟩⟩
  refine ⟨_, rfl, ?_⟩
  refine WL_step rfl rfl (Exec.move (v := Value.tuple #[Value.int .i64 (y21822), errV 30 (y21823)]) rfl rfl ?_)
  refine WL_step rfl rfl (Exec.extract (v := Value.int .i64 (y21822)) rfl rfl rfl ?_)
  refine WL_step rfl rfl (Exec.extract (v := errV 30 (y21823)) rfl rfl rfl ?_)
  refine WL_step rfl rfl (Exec.assign (v := Value.int .i64 (y21822)) rfl rfl ?_)
  refine WL_step rfl rfl (Exec.assign (v := errV 30 (y21823)) rfl rfl ?_)
  refine WL_nil (at_normal ?_)
  refine W_seq ?_
  refine W_seq ?_
  refine W_region ?_
  refine WL_step rfl rfl (Exec.move (v := errV 30 (y21823)) rfl rfl ?_)
  refine WL_step rfl rfl (Exec.err_neq_nil (T := 30) Try.underlying26 rfl rfl rfl ?_)
  refine WL_nil (at_normal ?_)
  rcases ite_some hm with ⟨hc21830, hm⟩ | ⟨hc21830, hm⟩
  · refine W_cond_t rfl hc21830 ?_
    refine W_seq ?_
    refine W_region ?_
    refine WL_step rfl rfl (Exec.move (v := errV 30 (y21823)) rfl rfl ?_)
    refine WL_step rfl rfl (Exec.assign (v := Value.int .i64 (0)) rfl rfl ?_)
    refine WL_step rfl rfl (Exec.assign (v := errV 30 (y21823)) rfl rfl ?_)
    refine WL_nil (at_normal ?_)
    refine W_ret (at_ret ?_)
    have e21832 := Option.some.inj hm
    subst r
    refine ⟨_, ret2 rfl, ?_⟩
    have hS21833 := ((hS21829).f2).f2
    have hS21834 := (hS21833).f2
    exact ⟨s21827, l21828, hS21834, (tup2 rfl rfl)⟩
  · refine W_cond_f rfl hc21830 ?_
    replace hc21830 := not_true hc21830
    refine W_skip (at_normal ?_)
    refine W_seq ?_
    refine W_seq ?_
    refine W_region ?_
    refine WL_step rfl rfl (Exec.move (v := Value.int .i64 (y21822)) rfl rfl ?_)
    refine WL_step rfl rfl (Exec.geq rfl rfl rfl ?_)
    refine WL_nil (at_normal ?_)
    rcases ite_some hm with ⟨hc21835, hm⟩ | ⟨hc21835, hm⟩
    · refine W_cond_t rfl hc21835 ?_
      refine W_seq ?_
      refine W_region ?_
      refine WL_step rfl rfl (Exec.makeInterface C30 rfl rfl ?_)
      refine WL_step rfl rfl (Exec.assign (v := Value.int .i64 (0)) rfl rfl ?_)
      refine WL_step rfl rfl (Exec.assign (v := errV 30 (some 3)) rfl rfl ?_)
      refine WL_nil (at_normal ?_)
      refine W_ret (at_ret ?_)
      have e21837 := Option.some.inj hm
      subst r
      refine ⟨_, ret2 rfl, ?_⟩
      have hS21838 := ((hS21829).f2).f2
      have hS21839 := (hS21838).f2
      exact ⟨s21827, l21828, hS21839, (tup2 rfl rfl)⟩
    · refine W_cond_f rfl hc21835 ?_
      replace hc21835 := not_true hc21835
      refine W_skip (at_normal ?_)
      refine W_seq ?_
      refine W_region ?_
      refine WL_step rfl rfl (Exec.move (v := Value.int .i64 (y21822)) rfl rfl ?_)
      refine WL_step rfl rfl (Exec.assign (v := Value.int .i64 (y21822)) rfl rfl ?_)
      refine WL_step rfl rfl (Exec.assign (v := errV 30 (none)) rfl rfl ?_)
      refine WL_nil (at_normal ?_)
      refine W_ret ?_
      have e21841 := Option.some.inj hm
      subst r
      refine ⟨_, ret2 rfl, ?_⟩
      have hS21842 := ((hS21829).f2).f2
      have hS21843 := (hS21842).f2
      exact ⟨s21827, l21828, hS21843, (tup2 rfl rfl)⟩

theorem N23 : (Try.f23.name == "runtime.NumGoroutine") = false := by kernel_rfl

theorem base_Ints_sim {w0 w : World} {s : PHeap} {H : List Res} {a21873 : (List Int)} {b21876 : (List Int)} {v21874 : Value} {v21877 : Value} {r : Bool} (hm : base_Ints_p a21873 b21876 = some r) (hS : St w0 s (H) w) (a21875 : SliceRep (encInt .i64) s v21874 a21873) (a21878 : SliceRep (encInt .i64) s v21877 b21876) :
    Calls Try.prog 23 #[v21874, v21877] w fun e w' => ∃ v, e = .returned v ∧ ((fun (y22660 : Bool) => ∃ (s22661 : PHeap) , PHeap.le s s22661 ∧ St w0 s22661 (H) w' ∧ v = Value.bool (y22660)) r) := by
  unfold base_Ints_p at hm
  refine calls_of_W Try.func23 rfl rfl ?_
  refine W_seq ?_
  refine W_region ?_
  refine WL_step rfl rfl (Exec.assign (v := Value.bool (false)) rfl rfl ?_)
  refine WL_nil (at_normal ?_)
  refine W_seq ?_
  refine W_seq ?_
  refine W_region ?_
  refine WL_step rfl rfl (Exec.move (v := v21874) rfl rfl ?_)
  refine WL_step rfl rfl (Exec.len_rep S49 rfl rfl a21875 ?_)
  refine WL_step rfl rfl (Exec.move (v := v21877) rfl rfl ?_)
  refine WL_step rfl rfl (Exec.len_rep S49 rfl rfl a21878 ?_)
  refine WL_step rfl rfl (Exec.neq rfl rfl rfl ?_)
  refine WL_nil (at_normal ?_)
  rcases ite_some hm with ⟨hc22662, hm⟩ | ⟨hc22662, hm⟩
  · refine W_cond_t rfl hc22662 ?_
    refine W_seq ?_
    refine W_region ?_
    refine WL_step rfl rfl (Exec.assign (v := Value.bool (false)) rfl rfl ?_)
    refine WL_nil (at_normal ?_)
    refine W_ret (at_ret ?_)
    have e22664 := Option.some.inj hm
    subst r
    refine ⟨_, ret1 rfl, ?_⟩
    exact ⟨s, (PHeap.le_refl _), hS, rfl⟩
  · refine W_cond_f rfl hc22662 ?_
    replace hc22662 := not_true hc22662
    refine W_skip (at_normal ?_)
    refine W_seq ?_
    refine W_seq ?_
    refine W_region ?_
    refine WL_step rfl rfl (Exec.move (v := v21874) rfl rfl ?_)
    refine WL_step rfl rfl (Exec.len_rep S49 rfl rfl a21875 ?_)
    refine WL_step rfl rfl (Exec.move (v := Value.int .i64 (0)) rfl rfl ?_)
    refine WL_nil (at_normal ?_)
    obtain ⟨c23154, hB23155, hr23156, hn23157, hb23158⟩ := ctl_some hm
    refine W_mid (M := fun f' w' => ∃ s', (c23154 = .next s' ∨ c23154 = .brk s') ∧ (fun (_ : Unit) => ∃ (s23160 : PHeap) , PHeap.le s s23160 ∧ St w0 s23160 (H) w' ∧ f' 0 = v21874 ∧ f' 1 = v21877 ∧ f' 12 = Value.int .i64 ((a21873.length : Int))) s') ?_ ?_
    · refine W_block (W_forC (fun k' s' f' w' => (fun (_ : Unit) => ∃ (s23159 : PHeap) , PHeap.le s s23159 ∧ St w0 s23159 (H) w' ∧ f' 0 = v21874 ∧ f' 1 = v21877 ∧ f' 12 = Value.int .i64 ((a21873.length : Int)) ∧ f' 13 = Value.int .i64 (k' : Int)) s') hB23155 ?_ ?_ ?_)
      · exact ⟨s, (PHeap.le_refl _), hS, rfl, rfl, rfl, rfl⟩
      · intro i22665 t23168 c23162 f23163 w23164 hi23169 hI23165 hm23166 hres23167
        obtain ⟨s23170, l23171, hS23172, p23173, p23174, p23175, x23176⟩ := hI23165
        refine W_seq ?_
        refine W_region ?_
        refine WL_step rfl rfl (Exec.lss rfl x23176 p23175 ?_)
        refine WL_nil (at_normal ?_)
        refine W_seq ?_
        refine W_true (congrArg Value.bool (decide_eq_true (by omega))) ?_
        refine W_skip (at_normal ?_)
        refine W_seq ?_
        refine W_block ?_
        refine W_seq ?_
        refine W_region ?_
        refine WL_step rfl rfl (Exec.move (v := Value.int .i64 ((i22665 : Int))) rfl x23176 ?_)
        refine WL_step rfl rfl (Exec.assign (v := Value.int .i64 ((i22665 : Int))) rfl rfl ?_)
        refine WL_nil (at_normal ?_)
        refine W_seq ?_
        obtain ⟨x23302, q23303, hm23166⟩ := bind_some hm23166
        obtain ⟨x23304, q23305, hm23166⟩ := bind_some hm23166
        refine W_drawn (n0 := 9) hmix (by kernel_rfl) [RP.eq (v21874), RP.eq (Value.int .i64 ((i22665 : Int))), RP.at (encInt .i64) x23302, RP.eq (Value.int .i64 (x23302)), RP.eq (v21877), RP.eq (Value.int .i64 ((i22665 : Int))), RP.at (encInt .i64) x23304, RP.eq (Value.int .i64 (x23304)), RP.eq (Value.bool (!decide (x23302 = x23304)))] hS23172 (HeadAll.cons ?_ (HeadAll.cons ?_ (HeadAll.cons ?_ (HeadAll.cons ?_ (HeadAll.cons ?_ (HeadAll.cons ?_ (HeadAll.cons ?_ (HeadAll.cons ?_ (HeadAll.cons ?_ (HeadAll.nil)))))))))) ?_
        · intro g23306 s23307 w23308 l23309 hS23310 fr23311 pre23312
          refine head_run rfl (Exec.move (v := v21874) rfl (Eq.trans (fr23311 0 rfl) p23173) ?_)
          exact head_done hS23310 rfl
        · intro g23313 s23314 w23315 l23316 hS23317 fr23318 pre23319
          refine head_run rfl (Exec.move (v := Value.int .i64 ((i22665 : Int))) rfl (fr23318 5 rfl) ?_)
          exact head_done hS23317 rfl
        · intro g23320 s23321 w23322 l23323 hS23324 fr23325 pre23326
          have p23327 : g23320 16 = (v21874) := pre23326 0 _ rfl rfl
          have p23328 : g23320 17 = (Value.int .i64 ((i22665 : Int))) := pre23326 1 _ rfl rfl
          refine head_run rfl (Exec.index_rep S49 rfl p23327 p23328 (a21875.mono (PHeap.le.trans l23171 l23323)) q23303 ?_)
          intro b23329 o23330 a23331
          exact head_done hS23324 ⟨_, _, rfl, a23331⟩
        · intro g23332 s23333 w23334 l23335 hS23336 fr23337 pre23338
          obtain ⟨b23340, o23341, e23342, a23343⟩ := (show ∃ b off, g23332 18 = .pointer (some ⟨b, off, none⟩) ∧ At s23333 b off (encInt .i64) x23302 from pre23338 0 _ rfl rfl)
          refine head_run rfl (Exec.load_at (E := (encInt .i64)) hS23336 A3 rfl e23342 rfl a23343 ?_)
          intro v23344 q23345
          exact head_done hS23336 (encInt_val.1 q23345)
        · intro g23346 s23347 w23348 l23349 hS23350 fr23351 pre23352
          refine head_run rfl (Exec.move (v := v21877) rfl (Eq.trans (fr23351 1 rfl) p23174) ?_)
          exact head_done hS23350 rfl
        · intro g23353 s23354 w23355 l23356 hS23357 fr23358 pre23359
          refine head_run rfl (Exec.move (v := Value.int .i64 ((i22665 : Int))) rfl (fr23358 5 rfl) ?_)
          exact head_done hS23357 rfl
        · intro g23360 s23361 w23362 l23363 hS23364 fr23365 pre23366
          have p23367 : g23360 20 = (v21877) := pre23366 0 _ rfl rfl
          have p23368 : g23360 21 = (Value.int .i64 ((i22665 : Int))) := pre23366 1 _ rfl rfl
          refine head_run rfl (Exec.index_rep S49 rfl p23367 p23368 (a21878.mono (PHeap.le.trans l23171 l23363)) q23305 ?_)
          intro b23369 o23370 a23371
          exact head_done hS23364 ⟨_, _, rfl, a23371⟩
        · intro g23372 s23373 w23374 l23375 hS23376 fr23377 pre23378
          obtain ⟨b23380, o23381, e23382, a23383⟩ := (show ∃ b off, g23372 22 = .pointer (some ⟨b, off, none⟩) ∧ At s23373 b off (encInt .i64) x23304 from pre23378 0 _ rfl rfl)
          refine head_run rfl (Exec.load_at (E := (encInt .i64)) hS23376 A3 rfl e23382 rfl a23383 ?_)
          intro v23384 q23385
          exact head_done hS23376 (encInt_val.1 q23385)
        · intro g23386 s23387 w23388 l23389 hS23390 fr23391 pre23392
          have p23393 : g23386 19 = (Value.int .i64 (x23302)) := pre23392 0 _ rfl rfl
          have p23394 : g23386 23 = (Value.int .i64 (x23304)) := pre23392 1 _ rfl rfl
          refine head_run rfl (Exec.neq rfl p23393 p23394 ?_)
          exact head_done hS23390 rfl
        · intro g23395 s23396 w23397 l23398 hS23399 fr23400 hR23401
          have p23402 : g23395 16 = (v21874) := hR23401 0 rfl
          have p23403 : g23395 17 = (Value.int .i64 ((i22665 : Int))) := hR23401 1 rfl
          obtain ⟨b23405, o23406, e23407, a23408⟩ := (show ∃ b off, g23395 18 = .pointer (some ⟨b, off, none⟩) ∧ At s23396 b off (encInt .i64) x23302 from hR23401 2 rfl)
          have p23409 : g23395 19 = (Value.int .i64 (x23302)) := hR23401 3 rfl
          have p23410 : g23395 20 = (v21877) := hR23401 4 rfl
          have p23411 : g23395 21 = (Value.int .i64 ((i22665 : Int))) := hR23401 5 rfl
          obtain ⟨b23413, o23414, e23415, a23416⟩ := (show ∃ b off, g23395 22 = .pointer (some ⟨b, off, none⟩) ∧ At s23396 b off (encInt .i64) x23304 from hR23401 6 rfl)
          have p23417 : g23395 23 = (Value.int .i64 (x23304)) := hR23401 7 rfl
          have p23418 : g23395 24 = (Value.bool (!decide (x23302 = x23304))) := hR23401 8 rfl
          refine WL_nil (at_normal ?_)
          rcases ite_some hm23166 with ⟨hc23419, hm23166⟩ | ⟨hc23419, hm23166⟩
          · refine W_cond_t p23418 hc23419 ?_
            refine W_seq ?_
            refine W_region ?_
            refine WL_step rfl rfl (Exec.assign (v := Value.bool (false)) rfl rfl ?_)
            refine WL_nil (at_normal ?_)
            refine W_ret (ib_ret (at_ret (at_ret (ib_ret (at_ret (at_ret ?_))))))
            have e23420 := Option.some.inj hm23166
            subst c23162
            have hq23421 := hr23156 _ (hres23167 (by intro _ h; cases h))
            have e23422 := Option.some.inj hq23421
            subst r
            refine ⟨_, ret1 rfl, ?_⟩
            exact ⟨s23396, (PHeap.le.trans l23171 l23398), hS23399, rfl⟩
          · refine W_cond_f p23418 hc23419 ?_
            replace hc23419 := not_true hc23419
            refine W_skip (ib_normal (at_normal ?_))
            refine W_region ?_
            refine WL_step rfl rfl (Exec.add rfl (Eq.trans (fr23400 13 rfl) x23176) rfl ?_)
            refine WL_step rfl rfl (Exec.move (v := Value.int .i64 (IntKind.i64.wrap ((i22665 : Int) + 1))) rfl rfl ?_)
            refine WL_nil (at_normal ?_)
            have e23423 := Option.some.inj hm23166
            subst c23162
            refine ⟨_, rfl, ?_⟩; exact ⟨s23396, (PHeap.le.trans l23171 l23398), hS23399, (Eq.trans (fr23400 0 rfl) p23173), (Eq.trans (fr23400 1 rfl) p23174), (Eq.trans (fr23400 12 rfl) p23175), (Eq.trans rfl (wrap_up hi23169 (SliceRep.le a21875)))⟩
      · intro t23424 f23425 w23426 hI23427 hres23428
        obtain ⟨s23429, l23430, hS23431, p23432, p23433, p23434, x23435⟩ := hI23427
        refine W_seq ?_
        refine W_region ?_
        refine WL_step rfl rfl (Exec.lss rfl x23435 p23434 ?_)
        refine WL_nil (at_normal ?_)
        refine W_seq ?_
        refine W_false (congrArg Value.bool (decide_eq_false (by omega))) ?_
        refine W_exit (at_exit (at_exit (ib_here (at_normal ?_))))
        refine ⟨_, .inl hres23428, ?_⟩; exact ⟨s23429, l23430, hS23431, p23432, p23433, p23434⟩
    · rintro f23436 w23437 ⟨t23438, hc23439, hM23440⟩
      have hm := hc23439.elim (hn23157 _) (hb23158 _)
      clear hc23439
      obtain ⟨s23441, l23442, hS23443, p23444, p23445, p23446⟩ := hM23440
      refine (at_normal ?_)
      refine W_seq ?_
      refine W_region ?_
      refine WL_step rfl rfl (Exec.assign (v := Value.bool (true)) rfl rfl ?_)
      refine WL_nil (at_normal ?_)
      refine W_ret ?_
      have e23448 := Option.some.inj hm
      subst r
      refine ⟨_, ret1 rfl, ?_⟩
      exact ⟨s23441, l23442, hS23443, rfl⟩

theorem ZZ30 : (Try.prog.info? 30).map (·.zero) = some (some (.int .i64 0)) := by kernel_rfl

theorem N13 : (Try.f13.name == "runtime.NumGoroutine") = false := by kernel_rfl

theorem base_Num_sim {w0 w : World} {s : PHeap} {H : List Res} {e23460 : (Option Int)}  {r : Int} (hm : base_Num_p e23460 = some r) (hS : St w0 s (H) w)  :
    Calls Try.prog 13 #[errV 30 (e23460)] w fun e w' => ∃ v, e = .returned v ∧ ((fun (y23464 : Int) => ∃ (s23465 : PHeap) , PHeap.le s s23465 ∧ St w0 s23465 (H) w' ∧ v = Value.int .i64 (y23464)) r) := by
  unfold base_Num_p at hm
  refine calls_of_W Try.func13 rfl rfl ?_
  refine W_seq ?_
  refine W_region ?_
  refine WL_step rfl rfl (Exec.assign (v := Value.int .i64 (0)) rfl rfl ?_)
  refine WL_nil (at_normal ?_)
  refine W_seq ?_
  refine W_seq ?_
  refine W_region ?_
  refine WL_step rfl rfl (Exec.move (v := errV 30 (e23460)) rfl rfl ?_)
  refine WL_step rfl rfl (Exec.err_eql_nil (T := 30) Try.underlying26 rfl rfl rfl ?_)
  refine WL_nil (at_normal ?_)
  rcases ite_some hm with ⟨hc23466, hm⟩ | ⟨hc23466, hm⟩
  · refine W_cond_t rfl hc23466 ?_
    refine W_seq ?_
    refine W_region ?_
    refine WL_step rfl rfl (Exec.assign (v := Value.int .i64 (0)) rfl rfl ?_)
    refine WL_nil (at_normal ?_)
    refine W_ret (at_ret ?_)
    have e23468 := Option.some.inj hm
    subst r
    refine ⟨_, ret1 rfl, ?_⟩
    exact ⟨s, (PHeap.le_refl _), hS, rfl⟩
  · refine W_cond_f rfl hc23466 ?_
    replace hc23466 := not_true hc23466
    refine W_skip (at_normal ?_)
    refine W_seq ?_
    refine W_seq ?_
    refine W_region ?_
    refine WL_step rfl rfl (Exec.move (v := errV 30 (e23460)) rfl rfl ?_)
    refine WL_step rfl rfl (Exec.err_assert Try.underlying30 ZZ30 rfl rfl ?_)
    refine WL_step rfl rfl (Exec.move (v := Value.tuple #[Value.int .i64 (e23460.getD 0), Value.bool (e23460.isSome)]) rfl rfl ?_)
    refine WL_step rfl rfl (Exec.extract (v := Value.int .i64 (e23460.getD 0)) rfl rfl rfl ?_)
    refine WL_step rfl rfl (Exec.extract (v := Value.bool (e23460.isSome)) rfl rfl rfl ?_)
    refine WL_step rfl rfl (Exec.assign (v := Value.int .i64 (e23460.getD 0)) rfl rfl ?_)
    refine WL_step rfl rfl (Exec.assign (v := Value.bool (e23460.isSome)) rfl rfl ?_)
    refine WL_nil (at_normal ?_)
    refine W_seq ?_
    refine W_region ?_
    refine WL_step rfl rfl (Exec.move (v := Value.bool (e23460.isSome)) rfl rfl ?_)
    refine WL_nil (at_normal ?_)
    rcases ite_some hm with ⟨hc23469, hm⟩ | ⟨hc23469, hm⟩
    · refine W_cond_t rfl hc23469 ?_
      refine W_seq ?_
      refine W_region ?_
      refine WL_step rfl rfl (Exec.move (v := Value.int .i64 (e23460.getD 0)) rfl rfl ?_)
      refine WL_step rfl rfl (Exec.assign (v := Value.int .i64 (e23460.getD 0)) rfl rfl ?_)
      refine WL_nil (at_normal ?_)
      refine W_ret (at_ret ?_)
      have e23471 := Option.some.inj hm
      subst r
      refine ⟨_, ret1 rfl, ?_⟩
      exact ⟨s, (PHeap.le_refl _), hS, rfl⟩
    · refine W_cond_f rfl hc23469 ?_
      replace hc23469 := not_true hc23469
      refine W_skip (at_normal ?_)
      refine W_seq ?_
      refine W_region ?_
      refine WL_step rfl rfl (Exec.assign (v := Value.int .i64 ((-1))) rfl rfl ?_)
      refine WL_nil (at_normal ?_)
      refine W_ret ?_
      have e23473 := Option.some.inj hm
      subst r
      refine ⟨_, ret1 rfl, ?_⟩
      exact ⟨s, (PHeap.le_refl _), hS, rfl⟩

theorem N11 : (Try.f11.name == "runtime.NumGoroutine") = false := by kernel_rfl

theorem base_Is_sim {w0 w : World} {s : PHeap} {H : List Res} {e23457 : (Option Int)} {code23458 : Int}  {r : Bool} (hm : base_Is_p e23457 code23458 = some r) (hS : St w0 s (H) w)  :
    Calls Try.prog 11 #[errV 30 (e23457), Value.int .i64 (code23458)] w fun e w' => ∃ v, e = .returned v ∧ ((fun (y23492 : Bool) => ∃ (s23493 : PHeap) , PHeap.le s s23493 ∧ St w0 s23493 (H) w' ∧ v = Value.bool (y23492)) r) := by
  unfold base_Is_p at hm
  refine calls_of_W Try.func11 rfl rfl ?_
  refine W_seq ?_
  refine W_region ?_
  refine WL_step rfl rfl (Exec.assign (v := Value.bool (false)) rfl rfl ?_)
  refine WL_nil (at_normal ?_)
  refine W_seq ?_
  refine W_mid (M := fun f' w' => ∃ (s23499 : PHeap) , PHeap.le s s23499 ∧ St w0 s23499 (H) w' ∧ f' 4 = Value.bool ((e23457.isSome && decide ((base_Num_t e23457) = code23458)))) ?_ ?_
  · refine W_region ?_
    refine WL_step rfl rfl (Exec.move (v := errV 30 (e23457)) rfl rfl ?_)
    refine WL_step rfl rfl (Exec.err_neq_nil (T := 30) Try.underlying26 rfl rfl rfl ?_)
    refine WL_step rfl rfl (Exec.move (v := Value.bool (e23457.isSome)) rfl rfl ?_)
    by_cases hc23500 : e23457.isSome = true
    · refine WL_run rfl (yield_of rfl (congrArg Value.bool hc23500)) rfl (Exec.move (v := errV 30 (e23457)) rfl rfl ?_)
      refine WL_run rfl (yield_of rfl (congrArg Value.bool hc23500)) rfl (Exec.call rfl rfl Try.func13 rfl N13 (args_cons rfl args_nil) ((base_Num_sim (base_Num_tot e23457) hS ).mono ?_))
      rintro _ w23501 ⟨_, rfl, ⟨s23502, l23503, hS23504, rfl⟩⟩
      refine ⟨_, rfl, ?_⟩
      refine WL_run rfl (yield_of rfl (congrArg Value.bool hc23500)) rfl (Exec.move (v := Value.int .i64 (code23458)) rfl rfl ?_)
      refine WL_run rfl (yield_of rfl (congrArg Value.bool hc23500)) rfl (Exec.eql rfl rfl rfl ?_)
      refine WL_step rfl rfl (Exec.pick_t (v := Value.bool (decide ((base_Num_t e23457) = code23458))) rfl (congrArg Value.bool hc23500) rfl ?_)
      refine WL_step rfl rfl (Exec.assign (v := Value.bool (decide ((base_Num_t e23457) = code23458))) rfl rfl ?_)
      refine WL_nil (at_normal ?_)
      exact ⟨s23502, l23503, hS23504, (congrArg Value.bool (and_t hc23500)).symm⟩
    · replace hc23500 := not_true hc23500
      refine WL_pass rfl (yield_of rfl (congrArg Value.bool hc23500)) rfl rfl ?_
      refine WL_pass rfl (yield_of rfl (congrArg Value.bool hc23500)) rfl rfl ?_
      refine WL_pass rfl (yield_of rfl (congrArg Value.bool hc23500)) rfl rfl ?_
      refine WL_pass rfl (yield_of rfl (congrArg Value.bool hc23500)) rfl rfl ?_
      refine WL_step rfl rfl (Exec.pick_f (v := Value.bool (false)) rfl (congrArg Value.bool hc23500) rfl ?_)
      refine WL_step rfl rfl (Exec.assign (v := Value.bool (false)) rfl rfl ?_)
      refine WL_nil (at_normal ?_)
      exact ⟨s, (PHeap.le_refl _), hS, (congrArg Value.bool (and_f hc23500)).symm⟩
  · intro f23505 w23506 hM23507
    obtain ⟨s23508, l23509, hS23510, p23511⟩ := hM23507
    refine (at_normal ?_)
    refine W_ret ?_
    have e23513 := Option.some.inj hm
    subst r
    refine ⟨_, ret1 rfl, ?_⟩
    exact ⟨s23508, l23509, hS23510, p23511⟩

theorem stn_Network_Times_nil_sim {w0 w : World} {s : PHeap} {H : List Res}   {r : (List Int) × (Option Int)} (hm : stn_Network_Times_nil_p  = some r) (hS : St w0 s (H) w)  :
    Calls Try.prog 22 #[Value.pointer none] w fun e w' => ∃ v, e = .returned v ∧ ((un2 fun (y23594 : (List Int)) (y23595 : (Option Int)) => ∃ (s23597 : PHeap) (v23596 : Value), PHeap.le s s23597 ∧ St w0 s23597 (H) w' ∧ v = Value.tuple #[v23596, errV 30 (y23595)] ∧ SliceRep (encInt .i64) s23597 v23596 y23594) r) := by
  unfold stn_Network_Times_nil_p at hm
  refine calls_of_W Try.func22 rfl rfl ?_
  refine W_seq ?_
  refine W_region ?_
  refine WL_step rfl rfl (Exec.assign (v := Value.slice none 0 0) rfl rfl ?_)
  refine WL_step rfl rfl (Exec.assign (v := errV 30 (none)) rfl rfl ?_)
  refine WL_nil (at_normal ?_)
  refine W_seq ?_
  refine W_seq ?_
  refine W_region ?_
  refine WL_step rfl rfl (Exec.move (v := Value.pointer none) rfl rfl ?_)
  refine WL_step rfl rfl (Exec.ptr_eql_nil Try.underlying24 rfl rfl rfl ?_)
  refine WL_nil (at_normal ?_)
  refine W_true rfl ?_
  refine W_seq ?_
  refine W_region ?_
  refine WL_step rfl rfl (Exec.makeInterface C30 rfl rfl ?_)
  refine WL_step rfl rfl (Exec.assign (v := Value.slice none 0 0) rfl rfl ?_)
  refine WL_step rfl rfl (Exec.assign (v := errV 30 (some 3)) rfl rfl ?_)
  refine WL_nil (at_normal ?_)
  refine W_ret (at_ret ?_)
  have e23599 := Option.some.inj hm
  subst r
  refine ⟨_, ret2 rfl, ?_⟩
  exact ⟨s, (Value.slice none 0 0), (PHeap.le_refl _), hS, (tup2 rfl rfl), (SliceRep.nil _ _)⟩

theorem stn_Network_Distance_nil_sim {w0 w : World} {s : PHeap} {H : List Res} {a23615 : Int} {b23616 : Int}  {r : Int × (Option Int)} (hm : stn_Network_Distance_nil_p a23615 b23616 = some r) (hS : St w0 s (H) w)  :
    Calls Try.prog 15 #[Value.pointer none, Value.int .i64 (a23615), Value.int .i64 (b23616)] w fun e w' => ∃ v, e = .returned v ∧ ((un2 fun (y23618 : Int) (y23619 : (Option Int)) => ∃ (s23620 : PHeap) , PHeap.le s s23620 ∧ St w0 s23620 (H) w' ∧ v = Value.tuple #[Value.int .i64 (y23618), errV 30 (y23619)]) r) := by
  unfold stn_Network_Distance_nil_p at hm
  refine calls_of_W Try.func15 rfl rfl ?_
  refine W_seq ?_
  refine W_region ?_
  refine WL_step rfl rfl (Exec.assign (v := Value.int .i64 (0)) rfl rfl ?_)
  refine WL_step rfl rfl (Exec.assign (v := errV 30 (none)) rfl rfl ?_)
  refine WL_nil (at_normal ?_)
  refine W_seq ?_
  refine W_seq ?_
  refine W_region ?_
  refine WL_step rfl rfl (Exec.move (v := Value.pointer none) rfl rfl ?_)
  refine WL_step rfl rfl (Exec.ptr_eql_nil Try.underlying24 rfl rfl rfl ?_)
  refine WL_nil (at_normal ?_)
  refine W_true rfl ?_
  refine W_seq ?_
  refine W_region ?_
  refine WL_step rfl rfl (Exec.makeInterface C30 rfl rfl ?_)
  refine WL_step rfl rfl (Exec.assign (v := Value.int .i64 (0)) rfl rfl ?_)
  refine WL_step rfl rfl (Exec.assign (v := errV 30 (some 3)) rfl rfl ?_)
  refine WL_nil (at_normal ?_)
  refine W_ret (at_ret ?_)
  have e23622 := Option.some.inj hm
  subst r
  refine ⟨_, ret2 rfl, ?_⟩
  exact ⟨s, (PHeap.le_refl _), hS, (tup2 rfl rfl)⟩

theorem stn_Network_Latest_nil_sim {w0 w : World} {s : PHeap} {H : List Res} {p23613 : Int}  {r : Int × (Option Int)} (hm : stn_Network_Latest_nil_p p23613 = some r) (hS : St w0 s (H) w)  :
    Calls Try.prog 17 #[Value.pointer none, Value.int .i64 (p23613)] w fun e w' => ∃ v, e = .returned v ∧ ((un2 fun (y23634 : Int) (y23635 : (Option Int)) => ∃ (s23636 : PHeap) , PHeap.le s s23636 ∧ St w0 s23636 (H) w' ∧ v = Value.tuple #[Value.int .i64 (y23634), errV 30 (y23635)]) r) := by
  unfold stn_Network_Latest_nil_p at hm
  refine calls_of_W Try.func17 rfl rfl ?_
  refine W_seq ?_
  refine W_region ?_
  refine WL_step rfl rfl (Exec.assign (v := Value.int .i64 (0)) rfl rfl ?_)
  refine WL_step rfl rfl (Exec.assign (v := errV 30 (none)) rfl rfl ?_)
  refine WL_nil (at_normal ?_)
  refine W_seq ?_
  refine W_region ?_
  refine WL_step rfl rfl (Exec.move (v := Value.pointer none) rfl rfl ?_)
  refine WL_step rfl rfl (Exec.move (v := Value.int .i64 (p23613)) rfl rfl ?_)
  refine WL_step rfl rfl (Exec.call rfl rfl Try.func15 rfl N15 (args_cons rfl (args_cons rfl (args_cons rfl args_nil))) ((stn_Network_Distance_nil_sim (stn_Network_Distance_nil_tot 0 p23613) hS ).mono ?_))
  rintro _ w23641 ⟨_, rfl, ⟨s23642, l23643, hS23644, rfl⟩⟩
  refine ⟨_, rfl, ?_⟩
  refine WL_step rfl rfl (Exec.move (v := Value.tuple #[Value.int .i64 ((stn_Network_Distance_nil_t 0 p23613).1), errV 30 ((stn_Network_Distance_nil_t 0 p23613).2)]) rfl rfl ?_)
  refine WL_step rfl rfl (Exec.extract (v := Value.int .i64 ((stn_Network_Distance_nil_t 0 p23613).1)) rfl rfl rfl ?_)
  refine WL_step rfl rfl (Exec.extract (v := errV 30 ((stn_Network_Distance_nil_t 0 p23613).2)) rfl rfl rfl ?_)
  refine WL_step rfl rfl (Exec.assign (v := Value.int .i64 ((stn_Network_Distance_nil_t 0 p23613).1)) rfl rfl ?_)
  refine WL_step rfl rfl (Exec.assign (v := errV 30 ((stn_Network_Distance_nil_t 0 p23613).2)) rfl rfl ?_)
  refine WL_nil (at_normal ?_)
  refine W_seq ?_
  refine W_seq ?_
  refine W_region ?_
  refine WL_step rfl rfl (Exec.move (v := errV 30 ((stn_Network_Distance_nil_t 0 p23613).2)) rfl rfl ?_)
  refine WL_step rfl rfl (Exec.err_neq_nil (T := 30) Try.underlying26 rfl rfl rfl ?_)
  refine WL_nil (at_normal ?_)
  rcases ite_some hm with ⟨hc23645, hm⟩ | ⟨hc23645, hm⟩
  · refine W_cond_t rfl hc23645 ?_
    refine W_seq ?_
    refine W_region ?_
    refine WL_step rfl rfl (Exec.move (v := errV 30 ((stn_Network_Distance_nil_t 0 p23613).2)) rfl rfl ?_)
    refine WL_step rfl rfl (Exec.assign (v := Value.int .i64 (0)) rfl rfl ?_)
    refine WL_step rfl rfl (Exec.assign (v := errV 30 ((stn_Network_Distance_nil_t 0 p23613).2)) rfl rfl ?_)
    refine WL_nil (at_normal ?_)
    refine W_ret (at_ret ?_)
    have e23647 := Option.some.inj hm
    subst r
    refine ⟨_, ret2 rfl, ?_⟩
    exact ⟨s23642, l23643, hS23644, (tup2 rfl rfl)⟩
  · refine W_cond_f rfl hc23645 ?_
    replace hc23645 := not_true hc23645
    refine W_skip (at_normal ?_)
    refine W_seq ?_
    refine W_seq ?_
    refine W_region ?_
    refine WL_step rfl rfl (Exec.move (v := Value.int .i64 ((stn_Network_Distance_nil_t 0 p23613).1)) rfl rfl ?_)
    refine WL_step rfl rfl (Exec.geq rfl rfl rfl ?_)
    refine WL_nil (at_normal ?_)
    rcases ite_some hm with ⟨hc23648, hm⟩ | ⟨hc23648, hm⟩
    · refine W_cond_t rfl hc23648 ?_
      refine W_seq ?_
      refine W_region ?_
      refine WL_step rfl rfl (Exec.makeInterface C30 rfl rfl ?_)
      refine WL_step rfl rfl (Exec.assign (v := Value.int .i64 (0)) rfl rfl ?_)
      refine WL_step rfl rfl (Exec.assign (v := errV 30 (some 3)) rfl rfl ?_)
      refine WL_nil (at_normal ?_)
      refine W_ret (at_ret ?_)
      have e23650 := Option.some.inj hm
      subst r
      refine ⟨_, ret2 rfl, ?_⟩
      exact ⟨s23642, l23643, hS23644, (tup2 rfl rfl)⟩
    · refine W_cond_f rfl hc23648 ?_
      replace hc23648 := not_true hc23648
      refine W_skip (at_normal ?_)
      refine W_seq ?_
      refine W_region ?_
      refine WL_step rfl rfl (Exec.move (v := Value.int .i64 ((stn_Network_Distance_nil_t 0 p23613).1)) rfl rfl ?_)
      refine WL_step rfl rfl (Exec.assign (v := Value.int .i64 ((stn_Network_Distance_nil_t 0 p23613).1)) rfl rfl ?_)
      refine WL_step rfl rfl (Exec.assign (v := errV 30 (none)) rfl rfl ?_)
      refine WL_nil (at_normal ?_)
      refine W_ret ?_
      have e23652 := Option.some.inj hm
      subst r
      refine ⟨_, ret2 rfl, ?_⟩
      exact ⟨s23642, l23643, hS23644, (tup2 rfl rfl)⟩

theorem stn_Network_Add_nil_sim {w0 w : World} {s : PHeap} {H : List Res} {b23684 : Bound}  {r : (Option Int)} (hm : stn_Network_Add_nil_p b23684 = some r) (hS : St w0 s (H) w)  :
    Calls Try.prog 14 #[Value.pointer none, Value.agg #[Value.int .i64 (b23684.A), Value.int .i64 (b23684.B), Value.int .i64 (b23684.Most)]] w fun e w' => ∃ v, e = .returned v ∧ ((fun (y23692 : (Option Int)) => ∃ (s23693 : PHeap) , PHeap.le s s23693 ∧ St w0 s23693 (H) w' ∧ v = errV 30 (y23692)) r) := by
  unfold stn_Network_Add_nil_p at hm
  refine calls_of_W Try.func14 rfl rfl ?_
  refine W_seq ?_
  refine W_region ?_
  refine WL_step rfl rfl (Exec.box (cs := [Value.int .i64 (b23684.A), Value.int .i64 (b23684.B), Value.int .i64 (b23684.Most)]) hS rfl rfl rfl ?_)
  intro b23697 w23698 hS23699
  refine WL_step rfl rfl (Exec.assign (v := errV 30 (none)) rfl rfl ?_)
  refine WL_nil (at_normal ?_)
  refine W_seq ?_
  refine W_seq ?_
  refine W_region ?_
  refine WL_step rfl rfl (Exec.move (v := Value.pointer none) rfl rfl ?_)
  refine WL_step rfl rfl (Exec.ptr_eql_nil Try.underlying24 rfl rfl rfl ?_)
  refine WL_nil (at_normal ?_)
  refine W_true rfl ?_
  refine W_seq ?_
  refine W_region ?_
  refine WL_step rfl rfl (Exec.makeInterface C30 rfl rfl ?_)
  refine WL_step rfl rfl (Exec.assign (v := errV 30 (some 3)) rfl rfl ?_)
  refine WL_nil (at_normal ?_)
  refine W_ret (at_ret ?_)
  have e23701 := Option.some.inj hm
  subst r
  refine ⟨_, ret1 rfl, ?_⟩
  have hS23702 := (hS23699).drop
  exact ⟨s, (PHeap.le_refl _), hS23702, rfl⟩

theorem N9 : (Try.f9.name == "runtime.NumGoroutine") = false := by kernel_rfl

theorem law54_awake_sim {w0 w : World} {s : PHeap} {H : List Res}   {r : Bool} (hm : law54_awake_p  = some r) (hS : St w0 s (H) w)  :
    Calls Try.prog 9 #[] w fun e w' => ∃ v, e = .returned v ∧ ((fun (y23756 : Bool) => ∃ (s23757 : PHeap) , PHeap.le s s23757 ∧ St w0 s23757 (H) w' ∧ v = Value.bool (y23756)) r) := by
  unfold law54_awake_p at hm
  refine calls_of_W Try.func9 rfl rfl ?_
  refine W_seq ?_
  refine W_region ?_
  refine WL_step rfl rfl (Exec.assign (v := Value.bool (false)) rfl rfl ?_)
  refine WL_nil (at_normal ?_)
  refine W_seq ?_
  refine W_region ?_
  refine WL_step rfl rfl (Exec.build rfl (parts_cons (c := [Value.int .i64 (1)]) (cells_of rfl rfl) (parts_cons (c := [Value.int .i64 (0)]) (cells_of rfl rfl) (parts_cons (c := [Value.int .i64 ((-2))]) (cells_of rfl rfl) parts_nil))) (v := Value.agg #[Value.int .i64 (1), Value.int .i64 (0), Value.int .i64 ((-2))]) (fun _ => by kernel_rfl) ?_)
  refine WL_step rfl rfl (Exec.build rfl (parts_cons (c := [Value.int .i64 (1)]) (cells_of rfl rfl) (parts_cons (c := [Value.int .i64 (2)]) (cells_of rfl rfl) (parts_cons (c := [Value.int .i64 (3)]) (cells_of rfl rfl) parts_nil))) (v := Value.agg #[Value.int .i64 (1), Value.int .i64 (2), Value.int .i64 (3)]) (fun _ => by kernel_rfl) ?_)
  refine WL_step rfl rfl (Exec.build rfl (parts_cons (c := [Value.int .i64 (2)]) (cells_of rfl rfl) (parts_cons (c := [Value.int .i64 (1)]) (cells_of rfl rfl) (parts_cons (c := [Value.int .i64 ((-3))]) (cells_of rfl rfl) parts_nil))) (v := Value.agg #[Value.int .i64 (2), Value.int .i64 (1), Value.int .i64 ((-3))]) (fun _ => by kernel_rfl) ?_)
  refine WL_step rfl rfl (Exec.buildSlice (Te := 32) (cs := [Value.int .i64 (1), Value.int .i64 (0), Value.int .i64 ((-2)), Value.int .i64 (1), Value.int .i64 (2), Value.int .i64 (3), Value.int .i64 (2), Value.int .i64 (1), Value.int .i64 ((-3))]) hS rfl (parts_cons (c := [Value.int .i64 (1), Value.int .i64 (0), Value.int .i64 ((-2))]) (cells_of rfl rfl) (parts_cons (c := [Value.int .i64 (1), Value.int .i64 (2), Value.int .i64 (3)]) (cells_of rfl rfl) (parts_cons (c := [Value.int .i64 (2), Value.int .i64 (1), Value.int .i64 ((-3))]) (cells_of rfl rfl) parts_nil))) (fun _ => by kernel_rfl) ?_)
  intro b23784 w23785 hS23786
  have hS23787 := St.boxArr (E := encBound) (xs := [(⟨1, 0, (-2)⟩ : Bound), (⟨1, 2, 3⟩ : Bound), (⟨2, 1, (-3)⟩ : Bound)]) hS23786 ⟨[Value.int .i64 (1), Value.int .i64 (0), Value.int .i64 ((-2))], [Value.int .i64 (1), Value.int .i64 (2), Value.int .i64 (3), Value.int .i64 (2), Value.int .i64 (1), Value.int .i64 ((-3))], rfl, ⟨[Value.int .i64 (1)], [Value.int .i64 (0), Value.int .i64 ((-2))], rfl, rfl, ⟨[Value.int .i64 (0)], [Value.int .i64 ((-2))], rfl, rfl, rfl⟩⟩, ⟨[Value.int .i64 (1), Value.int .i64 (2), Value.int .i64 (3)], [Value.int .i64 (2), Value.int .i64 (1), Value.int .i64 ((-3))], rfl, ⟨[Value.int .i64 (1)], [Value.int .i64 (2), Value.int .i64 (3)], rfl, rfl, ⟨[Value.int .i64 (2)], [Value.int .i64 (3)], rfl, rfl, rfl⟩⟩, ⟨[Value.int .i64 (2), Value.int .i64 (1), Value.int .i64 ((-3))], [], rfl, ⟨[Value.int .i64 (2)], [Value.int .i64 (1), Value.int .i64 ((-3))], rfl, rfl, ⟨[Value.int .i64 (1)], [Value.int .i64 ((-3))], rfl, rfl, rfl⟩⟩, rfl⟩⟩⟩ (by simp [maxLen])
  obtain ⟨s23788, l23789, hS23790, r23791⟩ := hS23787.freezeArr
  obtain ⟨t23792, q23793, hm⟩ := bind_some hm
  obtain ⟨pd23794, y23795⟩ := t23792
  replace hm := un2_eq hm
  refine WL_step rfl rfl (Exec.call rfl rfl Try.func19 rfl N19 (args_cons rfl (args_cons rfl args_nil)) ((law54_made_sim q23793 hS23790 r23791).mono ?_))
  rintro _ w23796 ⟨_, rfl, hp23797⟩
  refine ⟨_, rfl, ?_⟩
  rcases hp23797 with ⟨d23798, rfl, s23799, v23802, v23803, v23804, l23800, hS23801, rfl⟩ | ⟨rfl, s23806, l23807, hS23808, rfl⟩
  · replace hm := optC_some hm
    refine WL_step rfl rfl (Exec.move (v := Value.tuple #[Value.pointer (some ⟨v23802, 0, none⟩), Value.bool (y23795)]) rfl rfl ?_)
    refine WL_step rfl rfl (Exec.extract (v := Value.pointer (some ⟨v23802, 0, none⟩)) rfl rfl rfl ?_)
    refine WL_step rfl rfl (Exec.extract (v := Value.bool (y23795)) rfl rfl rfl ?_)
    refine WL_step rfl rfl (Exec.assign (v := Value.pointer (some ⟨v23802, 0, none⟩)) rfl rfl ?_)
    refine WL_step rfl rfl (Exec.assign (v := Value.bool (y23795)) rfl rfl ?_)
    refine WL_nil (at_normal ?_)
    refine W_seq ?_
    refine W_seq ?_
    refine W_region ?_
    refine WL_step rfl rfl (Exec.move (v := Value.bool (y23795)) rfl rfl ?_)
    refine WL_step rfl rfl (Exec.not rfl rfl ?_)
    refine WL_nil (at_normal ?_)
    rcases ite_some hm with ⟨hc23810, hm⟩ | ⟨hc23810, hm⟩
    · refine W_cond_t rfl hc23810 ?_
      refine W_seq ?_
      refine W_region ?_
      refine WL_step rfl rfl (Exec.assign (v := Value.bool (false)) rfl rfl ?_)
      refine WL_nil (at_normal ?_)
      refine W_ret (at_ret ?_)
      have e23812 := Option.some.inj hm
      subst r
      refine ⟨_, ret1 rfl, ?_⟩
      have hS23813 := (hS23801).drop
      have hS23814 := ((hS23813).drop).drop
      exact ⟨s23799, (PHeap.le.trans l23789 l23800), hS23814, rfl⟩
    · refine W_cond_f rfl hc23810 ?_
      replace hc23810 := not_true hc23810
      refine W_skip (at_normal ?_)
      refine W_seq ?_
      refine W_region ?_
      refine WL_step rfl rfl (Exec.move (v := Value.pointer (some ⟨v23802, 0, none⟩)) rfl rfl ?_)
      obtain ⟨t23827, q23828, hm⟩ := bind_some hm
      obtain ⟨y23829, y23830⟩ := t23827
      replace hm := un2_eq hm
      have hS23831 := ((hS23801).f2).f2
      have hS23832 := (hS23831).f2
      refine WL_step rfl rfl (Exec.call rfl rfl Try.func22 rfl N22 (args_cons rfl args_nil) ((stn_Network_Times_sim q23828 hS23832 ).mono ?_))
      rintro _ w23833 ⟨_, rfl, ⟨s23834, v23837, l23835, hS23836, rfl, r23838⟩⟩
      refine ⟨_, rfl, ?_⟩
      refine WL_step rfl rfl (Exec.move (v := Value.tuple #[v23837, errV 30 (y23830)]) rfl rfl ?_)
      refine WL_step rfl rfl (Exec.extract (v := v23837) rfl rfl rfl ?_)
      refine WL_step rfl rfl (Exec.extract (v := errV 30 (y23830)) rfl rfl rfl ?_)
      refine WL_step rfl rfl (Exec.assign (v := v23837) rfl rfl ?_)
      refine WL_step rfl rfl (Exec.assign (v := errV 30 (y23830)) rfl rfl ?_)
      refine WL_nil (at_normal ?_)
      refine W_seq ?_
      refine W_region ?_
      refine WL_step rfl rfl (Exec.move (v := Value.pointer (some ⟨v23802, 0, none⟩)) rfl rfl ?_)
      obtain ⟨t23849, q23850, hm⟩ := bind_some hm
      obtain ⟨y23851, y23852⟩ := t23849
      replace hm := un2_eq hm
      have hS23853 := ((hS23836).f2).f2
      have hS23854 := (hS23853).f2
      refine WL_step rfl rfl (Exec.call rfl rfl Try.func17 rfl N17 (args_cons rfl (args_cons rfl args_nil)) ((stn_Network_Latest_sim q23850 hS23854 ).mono ?_))
      rintro _ w23855 ⟨_, rfl, ⟨s23856, l23857, hS23858, rfl⟩⟩
      refine ⟨_, rfl, ?_⟩
      refine WL_step rfl rfl (Exec.move (v := Value.tuple #[Value.int .i64 (y23851), errV 30 (y23852)]) rfl rfl ?_)
      refine WL_step rfl rfl (Exec.extract (v := Value.int .i64 (y23851)) rfl rfl rfl ?_)
      refine WL_step rfl rfl (Exec.extract (v := errV 30 (y23852)) rfl rfl rfl ?_)
      refine WL_step rfl rfl (Exec.assign (v := Value.int .i64 (y23851)) rfl rfl ?_)
      refine WL_step rfl rfl (Exec.assign (v := errV 30 (y23852)) rfl rfl ?_)
      refine WL_nil (at_normal ?_)
      refine W_seq ?_
      obtain ⟨z23895, ht23896, hm⟩ := bind_some hm
      refine W_mid (M := fun f' w' => (fun (z23895 : Bool) => ∃ (s23897 : PHeap) , PHeap.le s23856 s23897 ∧ St w0 s23897 (H) w' ∧ f' 0 = Value.bool (z23895)) z23895) ?_ ?_
      · refine W_region ?_
        refine WL_step rfl rfl (Exec.move (v := errV 30 (y23830)) rfl rfl ?_)
        refine WL_step rfl rfl (Exec.err_eql_nil (T := 30) Try.underlying26 rfl rfl rfl ?_)
        refine WL_step rfl rfl (Exec.move (v := Value.bool (y23830.isNone)) rfl rfl ?_)
        rcases ite_some ht23896 with ⟨hc23898, ht23896⟩ | ⟨hc23898, ht23896⟩
        · refine WL_run rfl (yield_of rfl (congrArg Value.bool hc23898)) rfl (Exec.move (v := v23837) rfl rfl ?_)
          refine WL_run rfl (yield_of rfl (congrArg Value.bool hc23898)) rfl (Exec.buildSlice (Te := 3) (cs := [Value.int .i64 (0), Value.int .i64 (2), Value.int .i64 (5)]) hS23858 rfl (parts_cons (c := [Value.int .i64 (0)]) (cells_of rfl rfl) (parts_cons (c := [Value.int .i64 (2)]) (cells_of rfl rfl) (parts_cons (c := [Value.int .i64 (5)]) (cells_of rfl rfl) parts_nil))) (fun _ => by kernel_rfl) ?_)
          intro b23899 w23900 hS23901
          have hS23902 := St.boxArr (E := (encInt .i64)) (xs := [0, 2, 5]) hS23901 ⟨[Value.int .i64 (0)], [Value.int .i64 (2), Value.int .i64 (5)], rfl, rfl, ⟨[Value.int .i64 (2)], [Value.int .i64 (5)], rfl, rfl, ⟨[Value.int .i64 (5)], [], rfl, rfl, rfl⟩⟩⟩ (by simp [maxLen])
          obtain ⟨s23903, l23904, hS23905, r23906⟩ := hS23902.freezeArr
          obtain ⟨y23909, q23908, ht23896⟩ := bind_some ht23896
          refine WL_run rfl (yield_of rfl (congrArg Value.bool hc23898)) rfl (Exec.call rfl rfl Try.func23 rfl N23 (args_cons rfl (args_cons rfl args_nil)) ((base_Ints_sim q23908 hS23905 (r23838.mono (PHeap.le.trans l23857 l23904)) r23906).mono ?_))
          rintro _ w23910 ⟨_, rfl, ⟨s23911, l23912, hS23913, rfl⟩⟩
          refine ⟨_, rfl, ?_⟩
          refine WL_step rfl rfl (Exec.pick_t (v := Value.bool (y23909)) rfl (congrArg Value.bool hc23898) rfl ?_)
          refine WL_step rfl rfl (Exec.move (v := Value.bool (y23909)) rfl rfl ?_)
          rcases ite_some ht23896 with ⟨hc23914, ht23896⟩ | ⟨hc23914, ht23896⟩
          · refine WL_run rfl (yield_of rfl (congrArg Value.bool hc23914)) rfl (Exec.move (v := errV 30 (y23852)) rfl rfl ?_)
            refine WL_run rfl (yield_of rfl (congrArg Value.bool hc23914)) rfl (Exec.call rfl rfl Try.func11 rfl N11 (args_cons rfl (args_cons rfl args_nil)) ((base_Is_sim (base_Is_tot y23852 3) hS23913 ).mono ?_))
            rintro _ w23915 ⟨_, rfl, ⟨s23916, l23917, hS23918, rfl⟩⟩
            refine ⟨_, rfl, ?_⟩
            refine WL_step rfl rfl (Exec.pick_t (v := Value.bool ((base_Is_t y23852 3))) rfl (congrArg Value.bool hc23914) rfl ?_)
            refine WL_step rfl rfl (Exec.move (v := Value.bool ((base_Is_t y23852 3))) rfl rfl ?_)
            rcases ite_some ht23896 with ⟨hc23919, ht23896⟩ | ⟨hc23919, ht23896⟩
            · refine WL_run rfl (yield_of rfl (congrArg Value.bool hc23919)) rfl (Exec.move (v := Value.pointer (some ⟨v23802, 0, none⟩)) rfl rfl ?_)
              refine WL_run rfl (yield_of rfl (congrArg Value.bool hc23919)) rfl (Exec.build rfl (parts_cons (c := [Value.int .i64 (0)]) (cells_of rfl rfl) (parts_cons (c := [Value.int .i64 (2)]) (cells_of rfl rfl) (parts_cons (c := [Value.int .i64 (4)]) (cells_of rfl rfl) parts_nil))) (v := Value.agg #[Value.int .i64 (0), Value.int .i64 (2), Value.int .i64 (4)]) (fun _ => by kernel_rfl) ?_)
              obtain ⟨t23920, q23921, ht23896⟩ := bind_some ht23896
              obtain ⟨y23922, l23923⟩ := t23920
              replace ht23896 := un2_eq ht23896
              have hS23924 := ((hS23918).f2).f2
              have hS23925 := (hS23924).f2
              refine WL_run rfl (yield_of rfl (congrArg Value.bool hc23919)) rfl (Exec.call rfl rfl Try.func14 rfl N14 (args_cons rfl (args_cons rfl args_nil)) ((stn_Network_Add_sim q23921 hS23925 ).mono ?_))
              rintro _ w23926 ⟨_, rfl, ⟨s23927, l23928, hS23929, rfl⟩⟩
              refine ⟨_, rfl, ?_⟩
              refine WL_run rfl (yield_of rfl (congrArg Value.bool hc23919)) rfl (Exec.call rfl rfl Try.func11 rfl N11 (args_cons rfl (args_cons rfl args_nil)) ((base_Is_sim (base_Is_tot y23922 21) hS23929 ).mono ?_))
              rintro _ w23930 ⟨_, rfl, ⟨s23931, l23932, hS23933, rfl⟩⟩
              refine ⟨_, rfl, ?_⟩
              refine WL_step rfl rfl (Exec.pick_t (v := Value.bool ((base_Is_t y23922 21))) rfl (congrArg Value.bool hc23919) rfl ?_)
              refine WL_step rfl rfl (Exec.assign (v := Value.bool ((base_Is_t y23922 21))) rfl rfl ?_)
              refine WL_nil (at_normal ?_)
              have e23934 := Option.some.inj ht23896
              subst z23895
              have hS23935 := (hS23933).drop
              have hS23936 := ((hS23935).drop).drop
              exact ⟨s23931, (PHeap.le.trans (PHeap.le.trans (PHeap.le.trans (PHeap.le.trans l23904 l23912) l23917) l23928) l23932), hS23936, rfl⟩
            · replace hc23919 := not_true hc23919
              refine WL_pass rfl (yield_of rfl (congrArg Value.bool hc23919)) rfl rfl ?_
              refine WL_pass rfl (yield_of rfl (congrArg Value.bool hc23919)) rfl rfl ?_
              refine WL_pass rfl (yield_of rfl (congrArg Value.bool hc23919)) rfl rfl ?_
              refine WL_pass rfl (yield_of rfl (congrArg Value.bool hc23919)) rfl rfl ?_
              refine WL_step rfl rfl (Exec.pick_f (v := Value.bool (false)) rfl (congrArg Value.bool hc23919) rfl ?_)
              refine WL_step rfl rfl (Exec.assign (v := Value.bool (false)) rfl rfl ?_)
              refine WL_nil (at_normal ?_)
              have e23937 := Option.some.inj ht23896
              subst z23895
              have hS23938 := (hS23918).drop
              have hS23939 := ((hS23938).drop).drop
              exact ⟨s23916, (PHeap.le.trans (PHeap.le.trans l23904 l23912) l23917), hS23939, rfl⟩
          · replace hc23914 := not_true hc23914
            refine WL_pass rfl (yield_of rfl (congrArg Value.bool hc23914)) rfl rfl ?_
            refine WL_pass rfl (yield_of rfl (congrArg Value.bool hc23914)) rfl rfl ?_
            refine WL_step rfl rfl (Exec.pick_f (v := Value.bool (false)) rfl (congrArg Value.bool hc23914) rfl ?_)
            refine WL_step rfl rfl (Exec.move (v := Value.bool (false)) rfl rfl ?_)
            refine WL_pass rfl (yield_of rfl rfl) rfl rfl ?_
            refine WL_pass rfl (yield_of rfl rfl) rfl rfl ?_
            refine WL_pass rfl (yield_of rfl rfl) rfl rfl ?_
            refine WL_pass rfl (yield_of rfl rfl) rfl rfl ?_
            refine WL_step rfl rfl (Exec.pick_f (v := Value.bool (false)) rfl rfl rfl ?_)
            refine WL_step rfl rfl (Exec.assign (v := Value.bool (false)) rfl rfl ?_)
            refine WL_nil (at_normal ?_)
            have e23940 := Option.some.inj ht23896
            subst z23895
            have hS23941 := (hS23913).drop
            have hS23942 := ((hS23941).drop).drop
            exact ⟨s23911, (PHeap.le.trans l23904 l23912), hS23942, rfl⟩
        · replace hc23898 := not_true hc23898
          refine WL_pass rfl (yield_of rfl (congrArg Value.bool hc23898)) rfl rfl ?_
          refine WL_pass rfl (yield_of rfl (congrArg Value.bool hc23898)) rfl rfl ?_
          refine WL_pass rfl (yield_of rfl (congrArg Value.bool hc23898)) rfl rfl ?_
          refine WL_step rfl rfl (Exec.pick_f (v := Value.bool (false)) rfl (congrArg Value.bool hc23898) rfl ?_)
          refine WL_step rfl rfl (Exec.move (v := Value.bool (false)) rfl rfl ?_)
          refine WL_pass rfl (yield_of rfl rfl) rfl rfl ?_
          refine WL_pass rfl (yield_of rfl rfl) rfl rfl ?_
          refine WL_step rfl rfl (Exec.pick_f (v := Value.bool (false)) rfl rfl rfl ?_)
          refine WL_step rfl rfl (Exec.move (v := Value.bool (false)) rfl rfl ?_)
          refine WL_pass rfl (yield_of rfl rfl) rfl rfl ?_
          refine WL_pass rfl (yield_of rfl rfl) rfl rfl ?_
          refine WL_pass rfl (yield_of rfl rfl) rfl rfl ?_
          refine WL_pass rfl (yield_of rfl rfl) rfl rfl ?_
          refine WL_step rfl rfl (Exec.pick_f (v := Value.bool (false)) rfl rfl rfl ?_)
          refine WL_step rfl rfl (Exec.assign (v := Value.bool (false)) rfl rfl ?_)
          refine WL_nil (at_normal ?_)
          have e23943 := Option.some.inj ht23896
          subst z23895
          have hS23944 := (hS23858).drop
          have hS23945 := ((hS23944).drop).drop
          exact ⟨s23856, (PHeap.le_refl _), hS23945, rfl⟩
      · intro f23946 w23947 hM23948
        obtain ⟨s23949, l23950, hS23951, p23952⟩ := hM23948
        refine (at_normal ?_)
        refine W_ret ?_
        have e23954 := Option.some.inj hm
        subst r
        refine ⟨_, ret1 rfl, ?_⟩
        exact ⟨s23949, (PHeap.le.trans (PHeap.le.trans (PHeap.le.trans (PHeap.le.trans l23789 l23800) l23835) l23857) l23950), hS23951, p23952⟩
  · replace hm := optC_none hm
    refine WL_step rfl rfl (Exec.move (v := Value.tuple #[Value.pointer none, Value.bool (y23795)]) rfl rfl ?_)
    refine WL_step rfl rfl (Exec.extract (v := Value.pointer none) rfl rfl rfl ?_)
    refine WL_step rfl rfl (Exec.extract (v := Value.bool (y23795)) rfl rfl rfl ?_)
    refine WL_step rfl rfl (Exec.assign (v := Value.pointer none) rfl rfl ?_)
    refine WL_step rfl rfl (Exec.assign (v := Value.bool (y23795)) rfl rfl ?_)
    refine WL_nil (at_normal ?_)
    refine W_seq ?_
    refine W_seq ?_
    refine W_region ?_
    refine WL_step rfl rfl (Exec.move (v := Value.bool (y23795)) rfl rfl ?_)
    refine WL_step rfl rfl (Exec.not rfl rfl ?_)
    refine WL_nil (at_normal ?_)
    rcases ite_some hm with ⟨hc23955, hm⟩ | ⟨hc23955, hm⟩
    · refine W_cond_t rfl hc23955 ?_
      refine W_seq ?_
      refine W_region ?_
      refine WL_step rfl rfl (Exec.assign (v := Value.bool (false)) rfl rfl ?_)
      refine WL_nil (at_normal ?_)
      refine W_ret (at_ret ?_)
      have e23957 := Option.some.inj hm
      subst r
      refine ⟨_, ret1 rfl, ?_⟩
      exact ⟨s23806, (PHeap.le.trans l23789 l23807), hS23808, rfl⟩
    · refine W_cond_f rfl hc23955 ?_
      replace hc23955 := not_true hc23955
      refine W_skip (at_normal ?_)
      refine W_seq ?_
      refine W_region ?_
      refine WL_step rfl rfl (Exec.move (v := Value.pointer none) rfl rfl ?_)
      refine WL_step rfl rfl (Exec.call rfl rfl Try.func22 rfl N22 (args_cons rfl args_nil) ((stn_Network_Times_nil_sim stn_Network_Times_nil_tot hS23808 ).mono ?_))
      rintro _ w23964 ⟨_, rfl, ⟨s23965, v23968, l23966, hS23967, rfl, r23969⟩⟩
      refine ⟨_, rfl, ?_⟩
      refine WL_step rfl rfl (Exec.move (v := Value.tuple #[v23968, errV 30 ((stn_Network_Times_nil_t).2)]) rfl rfl ?_)
      refine WL_step rfl rfl (Exec.extract (v := v23968) rfl rfl rfl ?_)
      refine WL_step rfl rfl (Exec.extract (v := errV 30 ((stn_Network_Times_nil_t).2)) rfl rfl rfl ?_)
      refine WL_step rfl rfl (Exec.assign (v := v23968) rfl rfl ?_)
      refine WL_step rfl rfl (Exec.assign (v := errV 30 ((stn_Network_Times_nil_t).2)) rfl rfl ?_)
      refine WL_nil (at_normal ?_)
      refine W_seq ?_
      refine W_region ?_
      refine WL_step rfl rfl (Exec.move (v := Value.pointer none) rfl rfl ?_)
      refine WL_step rfl rfl (Exec.call rfl rfl Try.func17 rfl N17 (args_cons rfl (args_cons rfl args_nil)) ((stn_Network_Latest_nil_sim (stn_Network_Latest_nil_tot 1) hS23967 ).mono ?_))
      rintro _ w23974 ⟨_, rfl, ⟨s23975, l23976, hS23977, rfl⟩⟩
      refine ⟨_, rfl, ?_⟩
      refine WL_step rfl rfl (Exec.move (v := Value.tuple #[Value.int .i64 ((stn_Network_Latest_nil_t 1).1), errV 30 ((stn_Network_Latest_nil_t 1).2)]) rfl rfl ?_)
      refine WL_step rfl rfl (Exec.extract (v := Value.int .i64 ((stn_Network_Latest_nil_t 1).1)) rfl rfl rfl ?_)
      refine WL_step rfl rfl (Exec.extract (v := errV 30 ((stn_Network_Latest_nil_t 1).2)) rfl rfl rfl ?_)
      refine WL_step rfl rfl (Exec.assign (v := Value.int .i64 ((stn_Network_Latest_nil_t 1).1)) rfl rfl ?_)
      refine WL_step rfl rfl (Exec.assign (v := errV 30 ((stn_Network_Latest_nil_t 1).2)) rfl rfl ?_)
      refine WL_nil (at_normal ?_)
      refine W_seq ?_
      obtain ⟨z24008, ht24009, hm⟩ := bind_some hm
      refine W_mid (M := fun f' w' => (fun (z24008 : Bool) => ∃ (s24010 : PHeap) , PHeap.le s23975 s24010 ∧ St w0 s24010 (H) w' ∧ f' 0 = Value.bool (z24008)) z24008) ?_ ?_
      · refine W_region ?_
        refine WL_step rfl rfl (Exec.move (v := errV 30 ((stn_Network_Times_nil_t).2)) rfl rfl ?_)
        refine WL_step rfl rfl (Exec.err_eql_nil (T := 30) Try.underlying26 rfl rfl rfl ?_)
        refine WL_step rfl rfl (Exec.move (v := Value.bool (((stn_Network_Times_nil_t).2).isNone)) rfl rfl ?_)
        rcases ite_some ht24009 with ⟨hc24011, ht24009⟩ | ⟨hc24011, ht24009⟩
        · refine WL_run rfl (yield_of rfl (congrArg Value.bool hc24011)) rfl (Exec.move (v := v23968) rfl rfl ?_)
          refine WL_run rfl (yield_of rfl (congrArg Value.bool hc24011)) rfl (Exec.buildSlice (Te := 3) (cs := [Value.int .i64 (0), Value.int .i64 (2), Value.int .i64 (5)]) hS23977 rfl (parts_cons (c := [Value.int .i64 (0)]) (cells_of rfl rfl) (parts_cons (c := [Value.int .i64 (2)]) (cells_of rfl rfl) (parts_cons (c := [Value.int .i64 (5)]) (cells_of rfl rfl) parts_nil))) (fun _ => by kernel_rfl) ?_)
          intro b24012 w24013 hS24014
          have hS24015 := St.boxArr (E := (encInt .i64)) (xs := [0, 2, 5]) hS24014 ⟨[Value.int .i64 (0)], [Value.int .i64 (2), Value.int .i64 (5)], rfl, rfl, ⟨[Value.int .i64 (2)], [Value.int .i64 (5)], rfl, rfl, ⟨[Value.int .i64 (5)], [], rfl, rfl, rfl⟩⟩⟩ (by simp [maxLen])
          obtain ⟨s24016, l24017, hS24018, r24019⟩ := hS24015.freezeArr
          obtain ⟨y24022, q24021, ht24009⟩ := bind_some ht24009
          refine WL_run rfl (yield_of rfl (congrArg Value.bool hc24011)) rfl (Exec.call rfl rfl Try.func23 rfl N23 (args_cons rfl (args_cons rfl args_nil)) ((base_Ints_sim q24021 hS24018 (r23969.mono (PHeap.le.trans l23976 l24017)) r24019).mono ?_))
          rintro _ w24023 ⟨_, rfl, ⟨s24024, l24025, hS24026, rfl⟩⟩
          refine ⟨_, rfl, ?_⟩
          refine WL_step rfl rfl (Exec.pick_t (v := Value.bool (y24022)) rfl (congrArg Value.bool hc24011) rfl ?_)
          refine WL_step rfl rfl (Exec.move (v := Value.bool (y24022)) rfl rfl ?_)
          rcases ite_some ht24009 with ⟨hc24027, ht24009⟩ | ⟨hc24027, ht24009⟩
          · refine WL_run rfl (yield_of rfl (congrArg Value.bool hc24027)) rfl (Exec.move (v := errV 30 ((stn_Network_Latest_nil_t 1).2)) rfl rfl ?_)
            refine WL_run rfl (yield_of rfl (congrArg Value.bool hc24027)) rfl (Exec.call rfl rfl Try.func11 rfl N11 (args_cons rfl (args_cons rfl args_nil)) ((base_Is_sim (base_Is_tot ((stn_Network_Latest_nil_t 1).2) 3) hS24026 ).mono ?_))
            rintro _ w24028 ⟨_, rfl, ⟨s24029, l24030, hS24031, rfl⟩⟩
            refine ⟨_, rfl, ?_⟩
            refine WL_step rfl rfl (Exec.pick_t (v := Value.bool ((base_Is_t ((stn_Network_Latest_nil_t 1).2) 3))) rfl (congrArg Value.bool hc24027) rfl ?_)
            refine WL_step rfl rfl (Exec.move (v := Value.bool ((base_Is_t ((stn_Network_Latest_nil_t 1).2) 3))) rfl rfl ?_)
            rcases ite_some ht24009 with ⟨hc24032, ht24009⟩ | ⟨hc24032, ht24009⟩
            · refine WL_run rfl (yield_of rfl (congrArg Value.bool hc24032)) rfl (Exec.move (v := Value.pointer none) rfl rfl ?_)
              refine WL_run rfl (yield_of rfl (congrArg Value.bool hc24032)) rfl (Exec.build rfl (parts_cons (c := [Value.int .i64 (0)]) (cells_of rfl rfl) (parts_cons (c := [Value.int .i64 (2)]) (cells_of rfl rfl) (parts_cons (c := [Value.int .i64 (4)]) (cells_of rfl rfl) parts_nil))) (v := Value.agg #[Value.int .i64 (0), Value.int .i64 (2), Value.int .i64 (4)]) (fun _ => by kernel_rfl) ?_)
              refine WL_run rfl (yield_of rfl (congrArg Value.bool hc24032)) rfl (Exec.call rfl rfl Try.func14 rfl N14 (args_cons rfl (args_cons rfl args_nil)) ((stn_Network_Add_nil_sim (stn_Network_Add_nil_tot (⟨0, 2, 4⟩ : Bound)) hS24031 ).mono ?_))
              rintro _ w24033 ⟨_, rfl, ⟨s24034, l24035, hS24036, rfl⟩⟩
              refine ⟨_, rfl, ?_⟩
              refine WL_run rfl (yield_of rfl (congrArg Value.bool hc24032)) rfl (Exec.call rfl rfl Try.func11 rfl N11 (args_cons rfl (args_cons rfl args_nil)) ((base_Is_sim (base_Is_tot (stn_Network_Add_nil_t (⟨0, 2, 4⟩ : Bound)) 21) hS24036 ).mono ?_))
              rintro _ w24037 ⟨_, rfl, ⟨s24038, l24039, hS24040, rfl⟩⟩
              refine ⟨_, rfl, ?_⟩
              refine WL_step rfl rfl (Exec.pick_t (v := Value.bool ((base_Is_t (stn_Network_Add_nil_t (⟨0, 2, 4⟩ : Bound)) 21))) rfl (congrArg Value.bool hc24032) rfl ?_)
              refine WL_step rfl rfl (Exec.assign (v := Value.bool ((base_Is_t (stn_Network_Add_nil_t (⟨0, 2, 4⟩ : Bound)) 21))) rfl rfl ?_)
              refine WL_nil (at_normal ?_)
              have e24041 := Option.some.inj ht24009
              subst z24008
              exact ⟨s24038, (PHeap.le.trans (PHeap.le.trans (PHeap.le.trans (PHeap.le.trans l24017 l24025) l24030) l24035) l24039), hS24040, rfl⟩
            · replace hc24032 := not_true hc24032
              refine WL_pass rfl (yield_of rfl (congrArg Value.bool hc24032)) rfl rfl ?_
              refine WL_pass rfl (yield_of rfl (congrArg Value.bool hc24032)) rfl rfl ?_
              refine WL_pass rfl (yield_of rfl (congrArg Value.bool hc24032)) rfl rfl ?_
              refine WL_pass rfl (yield_of rfl (congrArg Value.bool hc24032)) rfl rfl ?_
              refine WL_step rfl rfl (Exec.pick_f (v := Value.bool (false)) rfl (congrArg Value.bool hc24032) rfl ?_)
              refine WL_step rfl rfl (Exec.assign (v := Value.bool (false)) rfl rfl ?_)
              refine WL_nil (at_normal ?_)
              have e24042 := Option.some.inj ht24009
              subst z24008
              exact ⟨s24029, (PHeap.le.trans (PHeap.le.trans l24017 l24025) l24030), hS24031, rfl⟩
          · replace hc24027 := not_true hc24027
            refine WL_pass rfl (yield_of rfl (congrArg Value.bool hc24027)) rfl rfl ?_
            refine WL_pass rfl (yield_of rfl (congrArg Value.bool hc24027)) rfl rfl ?_
            refine WL_step rfl rfl (Exec.pick_f (v := Value.bool (false)) rfl (congrArg Value.bool hc24027) rfl ?_)
            refine WL_step rfl rfl (Exec.move (v := Value.bool (false)) rfl rfl ?_)
            refine WL_pass rfl (yield_of rfl rfl) rfl rfl ?_
            refine WL_pass rfl (yield_of rfl rfl) rfl rfl ?_
            refine WL_pass rfl (yield_of rfl rfl) rfl rfl ?_
            refine WL_pass rfl (yield_of rfl rfl) rfl rfl ?_
            refine WL_step rfl rfl (Exec.pick_f (v := Value.bool (false)) rfl rfl rfl ?_)
            refine WL_step rfl rfl (Exec.assign (v := Value.bool (false)) rfl rfl ?_)
            refine WL_nil (at_normal ?_)
            have e24043 := Option.some.inj ht24009
            subst z24008
            exact ⟨s24024, (PHeap.le.trans l24017 l24025), hS24026, rfl⟩
        · replace hc24011 := not_true hc24011
          refine WL_pass rfl (yield_of rfl (congrArg Value.bool hc24011)) rfl rfl ?_
          refine WL_pass rfl (yield_of rfl (congrArg Value.bool hc24011)) rfl rfl ?_
          refine WL_pass rfl (yield_of rfl (congrArg Value.bool hc24011)) rfl rfl ?_
          refine WL_step rfl rfl (Exec.pick_f (v := Value.bool (false)) rfl (congrArg Value.bool hc24011) rfl ?_)
          refine WL_step rfl rfl (Exec.move (v := Value.bool (false)) rfl rfl ?_)
          refine WL_pass rfl (yield_of rfl rfl) rfl rfl ?_
          refine WL_pass rfl (yield_of rfl rfl) rfl rfl ?_
          refine WL_step rfl rfl (Exec.pick_f (v := Value.bool (false)) rfl rfl rfl ?_)
          refine WL_step rfl rfl (Exec.move (v := Value.bool (false)) rfl rfl ?_)
          refine WL_pass rfl (yield_of rfl rfl) rfl rfl ?_
          refine WL_pass rfl (yield_of rfl rfl) rfl rfl ?_
          refine WL_pass rfl (yield_of rfl rfl) rfl rfl ?_
          refine WL_pass rfl (yield_of rfl rfl) rfl rfl ?_
          refine WL_step rfl rfl (Exec.pick_f (v := Value.bool (false)) rfl rfl rfl ?_)
          refine WL_step rfl rfl (Exec.assign (v := Value.bool (false)) rfl rfl ?_)
          refine WL_nil (at_normal ?_)
          have e24044 := Option.some.inj ht24009
          subst z24008
          exact ⟨s23975, (PHeap.le_refl _), hS23977, rfl⟩
      · intro f24045 w24046 hM24047
        obtain ⟨s24048, l24049, hS24050, p24051⟩ := hM24047
        refine (at_normal ?_)
        refine W_ret ?_
        have e24053 := Option.some.inj hm
        subst r
        refine ⟨_, ret1 rfl, ?_⟩
        exact ⟨s24048, (PHeap.le.trans (PHeap.le.trans (PHeap.le.trans (PHeap.le.trans l23789 l23807) l23966) l23976) l24049), hS24050, p24051⟩

theorem N24 : (Try.f24.name == "runtime.NumGoroutine") = false := by kernel_rfl

theorem ref54_Right_sim {w0 w : World} {s : PHeap} {H : List Res} {n24198 : Int} {b24199 : Bound}  {r : Bool} (hm : ref54_Right_p n24198 b24199 = some r) (hS : St w0 s (H) w)  :
    Calls Try.prog 24 #[Value.int .i64 (n24198), Value.agg #[Value.int .i64 (b24199.A), Value.int .i64 (b24199.B), Value.int .i64 (b24199.Most)]] w fun e w' => ∃ v, e = .returned v ∧ ((fun (y24231 : Bool) => ∃ (s24232 : PHeap) , PHeap.le s s24232 ∧ St w0 s24232 (H) w' ∧ v = Value.bool (y24231)) r) := by
  unfold ref54_Right_p at hm
  refine calls_of_W Try.func24 rfl rfl ?_
  refine W_seq ?_
  refine W_region ?_
  refine WL_step rfl rfl (Exec.box (cs := [Value.int .i64 (b24199.A), Value.int .i64 (b24199.B), Value.int .i64 (b24199.Most)]) hS rfl rfl rfl ?_)
  intro b24236 w24237 hS24238
  refine WL_step rfl rfl (Exec.assign (v := Value.bool (false)) rfl rfl ?_)
  refine WL_nil (at_normal ?_)
  refine W_seq ?_
  refine W_mid (M := fun f' w' => ∃ (s24244 : PHeap) , PHeap.le s s24244 ∧ St w0 s24244 (H) w' ∧ f' 4 = Value.bool (((decide (0 ≤ b24199.A)) && ((decide (b24199.A < n24198)) && ((decide (0 ≤ b24199.B)) && ((decide (b24199.B < n24198)) && ((decide ((-1099511627776) ≤ b24199.Most)) && decide (b24199.Most ≤ 1099511627776)))))))) ?_ ?_
  · refine W_region ?_
    refine WL_step rfl rfl (Exec.field F32_0 rfl rfl rfl ?_)
    refine WL_step rfl rfl (Exec.load_box (hS24238) A3 rfl rfl rfl ?_)
    refine WL_step rfl rfl (Exec.geq rfl rfl rfl ?_)
    refine WL_step rfl rfl (Exec.move (v := Value.bool (decide (0 ≤ b24199.A))) rfl rfl ?_)
    by_cases hc24245 : (decide (0 ≤ b24199.A)) = true
    · refine WL_run rfl (yield_of rfl (congrArg Value.bool hc24245)) rfl (Exec.field F32_0 rfl rfl rfl ?_)
      refine WL_run rfl (yield_of rfl (congrArg Value.bool hc24245)) rfl (Exec.load_box (hS24238) A3 rfl rfl rfl ?_)
      refine WL_run rfl (yield_of rfl (congrArg Value.bool hc24245)) rfl (Exec.move (v := Value.int .i64 (n24198)) rfl rfl ?_)
      refine WL_run rfl (yield_of rfl (congrArg Value.bool hc24245)) rfl (Exec.lss rfl rfl rfl ?_)
      refine WL_step rfl rfl (Exec.pick_t (v := Value.bool (decide (b24199.A < n24198))) rfl (congrArg Value.bool hc24245) rfl ?_)
      refine WL_step rfl rfl (Exec.move (v := Value.bool (decide (b24199.A < n24198))) rfl rfl ?_)
      by_cases hc24246 : (decide (b24199.A < n24198)) = true
      · refine WL_run rfl (yield_of rfl (congrArg Value.bool hc24246)) rfl (Exec.field F32_1 rfl rfl rfl ?_)
        refine WL_run rfl (yield_of rfl (congrArg Value.bool hc24246)) rfl (Exec.load_box (hS24238) A3 rfl rfl rfl ?_)
        refine WL_run rfl (yield_of rfl (congrArg Value.bool hc24246)) rfl (Exec.geq rfl rfl rfl ?_)
        refine WL_step rfl rfl (Exec.pick_t (v := Value.bool (decide (0 ≤ b24199.B))) rfl (congrArg Value.bool hc24246) rfl ?_)
        refine WL_step rfl rfl (Exec.move (v := Value.bool (decide (0 ≤ b24199.B))) rfl rfl ?_)
        by_cases hc24247 : (decide (0 ≤ b24199.B)) = true
        · refine WL_run rfl (yield_of rfl (congrArg Value.bool hc24247)) rfl (Exec.field F32_1 rfl rfl rfl ?_)
          refine WL_run rfl (yield_of rfl (congrArg Value.bool hc24247)) rfl (Exec.load_box (hS24238) A3 rfl rfl rfl ?_)
          refine WL_run rfl (yield_of rfl (congrArg Value.bool hc24247)) rfl (Exec.move (v := Value.int .i64 (n24198)) rfl rfl ?_)
          refine WL_run rfl (yield_of rfl (congrArg Value.bool hc24247)) rfl (Exec.lss rfl rfl rfl ?_)
          refine WL_step rfl rfl (Exec.pick_t (v := Value.bool (decide (b24199.B < n24198))) rfl (congrArg Value.bool hc24247) rfl ?_)
          refine WL_step rfl rfl (Exec.move (v := Value.bool (decide (b24199.B < n24198))) rfl rfl ?_)
          by_cases hc24248 : (decide (b24199.B < n24198)) = true
          · refine WL_run rfl (yield_of rfl (congrArg Value.bool hc24248)) rfl (Exec.field F32_2 rfl rfl rfl ?_)
            refine WL_run rfl (yield_of rfl (congrArg Value.bool hc24248)) rfl (Exec.load_box (hS24238) A3 rfl rfl rfl ?_)
            refine WL_run rfl (yield_of rfl (congrArg Value.bool hc24248)) rfl (Exec.geq rfl rfl rfl ?_)
            refine WL_step rfl rfl (Exec.pick_t (v := Value.bool (decide ((-1099511627776) ≤ b24199.Most))) rfl (congrArg Value.bool hc24248) rfl ?_)
            refine WL_step rfl rfl (Exec.move (v := Value.bool (decide ((-1099511627776) ≤ b24199.Most))) rfl rfl ?_)
            by_cases hc24249 : (decide ((-1099511627776) ≤ b24199.Most)) = true
            · refine WL_run rfl (yield_of rfl (congrArg Value.bool hc24249)) rfl (Exec.field F32_2 rfl rfl rfl ?_)
              refine WL_run rfl (yield_of rfl (congrArg Value.bool hc24249)) rfl (Exec.load_box (hS24238) A3 rfl rfl rfl ?_)
              refine WL_run rfl (yield_of rfl (congrArg Value.bool hc24249)) rfl (Exec.leq rfl rfl rfl ?_)
              refine WL_step rfl rfl (Exec.pick_t (v := Value.bool (decide (b24199.Most ≤ 1099511627776))) rfl (congrArg Value.bool hc24249) rfl ?_)
              refine WL_step rfl rfl (Exec.assign (v := Value.bool (decide (b24199.Most ≤ 1099511627776))) rfl rfl ?_)
              refine WL_nil (at_normal ?_)
              have hS24250 := (hS24238).drop
              exact ⟨s, (PHeap.le_refl _), hS24250, (congrArg Value.bool (Eq.trans (and_t hc24245) (Eq.trans (and_t hc24246) (Eq.trans (and_t hc24247) (Eq.trans (and_t hc24248) (and_t hc24249)))))).symm⟩
            · replace hc24249 := not_true hc24249
              refine WL_pass rfl (yield_of rfl (congrArg Value.bool hc24249)) rfl rfl ?_
              refine WL_pass rfl (yield_of rfl (congrArg Value.bool hc24249)) rfl rfl ?_
              refine WL_pass rfl (yield_of rfl (congrArg Value.bool hc24249)) rfl rfl ?_
              refine WL_step rfl rfl (Exec.pick_f (v := Value.bool (false)) rfl (congrArg Value.bool hc24249) rfl ?_)
              refine WL_step rfl rfl (Exec.assign (v := Value.bool (false)) rfl rfl ?_)
              refine WL_nil (at_normal ?_)
              have hS24251 := (hS24238).drop
              exact ⟨s, (PHeap.le_refl _), hS24251, (congrArg Value.bool (Eq.trans (and_t hc24245) (Eq.trans (and_t hc24246) (Eq.trans (and_t hc24247) (Eq.trans (and_t hc24248) (and_f hc24249)))))).symm⟩
          · replace hc24248 := not_true hc24248
            refine WL_pass rfl (yield_of rfl (congrArg Value.bool hc24248)) rfl rfl ?_
            refine WL_pass rfl (yield_of rfl (congrArg Value.bool hc24248)) rfl rfl ?_
            refine WL_pass rfl (yield_of rfl (congrArg Value.bool hc24248)) rfl rfl ?_
            refine WL_step rfl rfl (Exec.pick_f (v := Value.bool (false)) rfl (congrArg Value.bool hc24248) rfl ?_)
            refine WL_step rfl rfl (Exec.move (v := Value.bool (false)) rfl rfl ?_)
            refine WL_pass rfl (yield_of rfl rfl) rfl rfl ?_
            refine WL_pass rfl (yield_of rfl rfl) rfl rfl ?_
            refine WL_pass rfl (yield_of rfl rfl) rfl rfl ?_
            refine WL_step rfl rfl (Exec.pick_f (v := Value.bool (false)) rfl rfl rfl ?_)
            refine WL_step rfl rfl (Exec.assign (v := Value.bool (false)) rfl rfl ?_)
            refine WL_nil (at_normal ?_)
            have hS24252 := (hS24238).drop
            exact ⟨s, (PHeap.le_refl _), hS24252, (congrArg Value.bool (Eq.trans (and_t hc24245) (Eq.trans (and_t hc24246) (Eq.trans (and_t hc24247) (and_f hc24248))))).symm⟩
        · replace hc24247 := not_true hc24247
          refine WL_pass rfl (yield_of rfl (congrArg Value.bool hc24247)) rfl rfl ?_
          refine WL_pass rfl (yield_of rfl (congrArg Value.bool hc24247)) rfl rfl ?_
          refine WL_pass rfl (yield_of rfl (congrArg Value.bool hc24247)) rfl rfl ?_
          refine WL_pass rfl (yield_of rfl (congrArg Value.bool hc24247)) rfl rfl ?_
          refine WL_step rfl rfl (Exec.pick_f (v := Value.bool (false)) rfl (congrArg Value.bool hc24247) rfl ?_)
          refine WL_step rfl rfl (Exec.move (v := Value.bool (false)) rfl rfl ?_)
          refine WL_pass rfl (yield_of rfl rfl) rfl rfl ?_
          refine WL_pass rfl (yield_of rfl rfl) rfl rfl ?_
          refine WL_pass rfl (yield_of rfl rfl) rfl rfl ?_
          refine WL_step rfl rfl (Exec.pick_f (v := Value.bool (false)) rfl rfl rfl ?_)
          refine WL_step rfl rfl (Exec.move (v := Value.bool (false)) rfl rfl ?_)
          refine WL_pass rfl (yield_of rfl rfl) rfl rfl ?_
          refine WL_pass rfl (yield_of rfl rfl) rfl rfl ?_
          refine WL_pass rfl (yield_of rfl rfl) rfl rfl ?_
          refine WL_step rfl rfl (Exec.pick_f (v := Value.bool (false)) rfl rfl rfl ?_)
          refine WL_step rfl rfl (Exec.assign (v := Value.bool (false)) rfl rfl ?_)
          refine WL_nil (at_normal ?_)
          have hS24253 := (hS24238).drop
          exact ⟨s, (PHeap.le_refl _), hS24253, (congrArg Value.bool (Eq.trans (and_t hc24245) (Eq.trans (and_t hc24246) (and_f hc24247)))).symm⟩
      · replace hc24246 := not_true hc24246
        refine WL_pass rfl (yield_of rfl (congrArg Value.bool hc24246)) rfl rfl ?_
        refine WL_pass rfl (yield_of rfl (congrArg Value.bool hc24246)) rfl rfl ?_
        refine WL_pass rfl (yield_of rfl (congrArg Value.bool hc24246)) rfl rfl ?_
        refine WL_step rfl rfl (Exec.pick_f (v := Value.bool (false)) rfl (congrArg Value.bool hc24246) rfl ?_)
        refine WL_step rfl rfl (Exec.move (v := Value.bool (false)) rfl rfl ?_)
        refine WL_pass rfl (yield_of rfl rfl) rfl rfl ?_
        refine WL_pass rfl (yield_of rfl rfl) rfl rfl ?_
        refine WL_pass rfl (yield_of rfl rfl) rfl rfl ?_
        refine WL_pass rfl (yield_of rfl rfl) rfl rfl ?_
        refine WL_step rfl rfl (Exec.pick_f (v := Value.bool (false)) rfl rfl rfl ?_)
        refine WL_step rfl rfl (Exec.move (v := Value.bool (false)) rfl rfl ?_)
        refine WL_pass rfl (yield_of rfl rfl) rfl rfl ?_
        refine WL_pass rfl (yield_of rfl rfl) rfl rfl ?_
        refine WL_pass rfl (yield_of rfl rfl) rfl rfl ?_
        refine WL_step rfl rfl (Exec.pick_f (v := Value.bool (false)) rfl rfl rfl ?_)
        refine WL_step rfl rfl (Exec.move (v := Value.bool (false)) rfl rfl ?_)
        refine WL_pass rfl (yield_of rfl rfl) rfl rfl ?_
        refine WL_pass rfl (yield_of rfl rfl) rfl rfl ?_
        refine WL_pass rfl (yield_of rfl rfl) rfl rfl ?_
        refine WL_step rfl rfl (Exec.pick_f (v := Value.bool (false)) rfl rfl rfl ?_)
        refine WL_step rfl rfl (Exec.assign (v := Value.bool (false)) rfl rfl ?_)
        refine WL_nil (at_normal ?_)
        have hS24254 := (hS24238).drop
        exact ⟨s, (PHeap.le_refl _), hS24254, (congrArg Value.bool (Eq.trans (and_t hc24245) (and_f hc24246))).symm⟩
    · replace hc24245 := not_true hc24245
      refine WL_pass rfl (yield_of rfl (congrArg Value.bool hc24245)) rfl rfl ?_
      refine WL_pass rfl (yield_of rfl (congrArg Value.bool hc24245)) rfl rfl ?_
      refine WL_pass rfl (yield_of rfl (congrArg Value.bool hc24245)) rfl rfl ?_
      refine WL_pass rfl (yield_of rfl (congrArg Value.bool hc24245)) rfl rfl ?_
      refine WL_step rfl rfl (Exec.pick_f (v := Value.bool (false)) rfl (congrArg Value.bool hc24245) rfl ?_)
      refine WL_step rfl rfl (Exec.move (v := Value.bool (false)) rfl rfl ?_)
      refine WL_pass rfl (yield_of rfl rfl) rfl rfl ?_
      refine WL_pass rfl (yield_of rfl rfl) rfl rfl ?_
      refine WL_pass rfl (yield_of rfl rfl) rfl rfl ?_
      refine WL_step rfl rfl (Exec.pick_f (v := Value.bool (false)) rfl rfl rfl ?_)
      refine WL_step rfl rfl (Exec.move (v := Value.bool (false)) rfl rfl ?_)
      refine WL_pass rfl (yield_of rfl rfl) rfl rfl ?_
      refine WL_pass rfl (yield_of rfl rfl) rfl rfl ?_
      refine WL_pass rfl (yield_of rfl rfl) rfl rfl ?_
      refine WL_pass rfl (yield_of rfl rfl) rfl rfl ?_
      refine WL_step rfl rfl (Exec.pick_f (v := Value.bool (false)) rfl rfl rfl ?_)
      refine WL_step rfl rfl (Exec.move (v := Value.bool (false)) rfl rfl ?_)
      refine WL_pass rfl (yield_of rfl rfl) rfl rfl ?_
      refine WL_pass rfl (yield_of rfl rfl) rfl rfl ?_
      refine WL_pass rfl (yield_of rfl rfl) rfl rfl ?_
      refine WL_step rfl rfl (Exec.pick_f (v := Value.bool (false)) rfl rfl rfl ?_)
      refine WL_step rfl rfl (Exec.move (v := Value.bool (false)) rfl rfl ?_)
      refine WL_pass rfl (yield_of rfl rfl) rfl rfl ?_
      refine WL_pass rfl (yield_of rfl rfl) rfl rfl ?_
      refine WL_pass rfl (yield_of rfl rfl) rfl rfl ?_
      refine WL_step rfl rfl (Exec.pick_f (v := Value.bool (false)) rfl rfl rfl ?_)
      refine WL_step rfl rfl (Exec.assign (v := Value.bool (false)) rfl rfl ?_)
      refine WL_nil (at_normal ?_)
      have hS24255 := (hS24238).drop
      exact ⟨s, (PHeap.le_refl _), hS24255, (congrArg Value.bool (and_f hc24245)).symm⟩
  · intro f24256 w24257 hM24258
    obtain ⟨s24259, l24260, hS24261, p24262⟩ := hM24258
    refine (at_normal ?_)
    refine W_ret ?_
    have e24264 := Option.some.inj hm
    subst r
    refine ⟨_, ret1 rfl, ?_⟩
    exact ⟨s24259, l24260, hS24261, p24262⟩

theorem N25 : (Try.f25.name == "runtime.NumGoroutine") = false := by kernel_rfl

end Go.Pw
