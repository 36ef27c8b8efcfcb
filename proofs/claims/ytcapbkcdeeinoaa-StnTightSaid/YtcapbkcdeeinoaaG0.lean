/-
  The walks (printed by my generator).
-/
import Derived.Test.YtcapbkcdeeinoaaGP
import Derived.Test.YtcapbkcdeeinoaaL8
import Derived.Test.YtcapbkcdeeinoaaProg
import Derived.KernelRfl
set_option maxRecDepth 100000
set_option linter.unusedVariables false
namespace Go.Pw
open Go.Proofs
theorem C30 : Try.prog.concrete 30 = true := by kernel_rfl

theorem S49 : tySlice Try.prog 49 = some (3, 1, 8) := by kernel_rfl

theorem Z3 : tyZero Try.prog 3 = some (Value.int .i64 (0)) := by kernel_rfl

theorem A3 : tyAgg Try.prog 3 = some (false, 1) := by kernel_rfl

theorem F63_0 : tyField Try.prog 63 0 = some 0 := by kernel_rfl

theorem A61 : tyAgg Try.prog 61 = some (false, 1) := by kernel_rfl

theorem S61 : tySlice Try.prog 61 = some (49, 1, 24) := by kernel_rfl

theorem Z49 : tyZero Try.prog 49 = some (Value.slice none 0 0) := by kernel_rfl

theorem N10 : (Try.f10.name == "runtime.NumGoroutine") = false := by kernel_rfl

theorem stn_New_sim {w0 w : World} {s : PHeap} {H : List Res} {n18 : Int}  {r : (Option stn_Network) × (Option Int)} (hm : stn_New_p n18 = some r) (hS : St w0 s (H) w)  :
    Calls Try.prog 10 #[Value.int .i64 (n18)] w fun e w' => ∃ v, e = .returned v ∧ ((un2 fun (p_d927 : (Option stn_Network)) (y928 : (Option Int)) => (∃ d927 : stn_Network, p_d927 = some d927 ∧ ∃ (s932 : PHeap) (b929 : Nat) (v930 : Value) (hs931 : List Value), PHeap.le s s932 ∧ St w0 s932 (Res.box b929 63 [v930] :: Res.arr encRaw 49 v930 hs931 :: Res.rows (encInt .i64) 3 hs931 d927.d :: H) w' ∧ v = Value.tuple #[Value.pointer (some ⟨b929, 0, none⟩), errV 30 (y928)]) ∨ (p_d927 = none ∧ ∃ (s933 : PHeap) , PHeap.le s s933 ∧ St w0 s933 (H) w' ∧ v = Value.tuple #[Value.pointer none, errV 30 (y928)])) r) := by
  unfold stn_New_p at hm
  refine calls_of_W Try.func10 rfl rfl ?_
  refine W_seq ?_
  refine W_region ?_
  refine WL_step rfl rfl (Exec.assign (v := Value.pointer none) rfl rfl ?_)
  refine WL_step rfl rfl (Exec.assign (v := errV 30 (none)) rfl rfl ?_)
  refine WL_nil (at_normal ?_)
  refine W_seq ?_
  refine W_seq ?_
  refine W_mid (M := fun f' w' => ∃ (s935 : PHeap) , PHeap.le s s935 ∧ St w0 s935 (H) w' ∧ f' 0 = Value.int .i64 (n18) ∧ f' 13 = Value.bool (((decide (n18 < 1)) || decide (128 < n18)))) ?_ ?_
  · refine W_region ?_
    refine WL_step rfl rfl (Exec.move (v := Value.int .i64 (n18)) rfl rfl ?_)
    refine WL_step rfl rfl (Exec.lss rfl rfl rfl ?_)
    refine WL_step rfl rfl (Exec.move (v := Value.bool (decide (n18 < 1))) rfl rfl ?_)
    by_cases hc936 : (decide (n18 < 1)) = true
    · refine WL_pass rfl (yield_of rfl (congrArg Value.bool hc936)) rfl rfl ?_
      refine WL_pass rfl (yield_of rfl (congrArg Value.bool hc936)) rfl rfl ?_
      refine WL_step rfl rfl (Exec.pick_t (v := Value.bool (true)) rfl (congrArg Value.bool hc936) rfl ?_)
      refine WL_nil (at_normal ?_)
      exact ⟨s, (PHeap.le_refl _), hS, rfl, (congrArg Value.bool (or_t hc936)).symm⟩
    · replace hc936 := not_true hc936
      refine WL_run rfl (yield_of rfl (congrArg Value.bool hc936)) rfl (Exec.move (v := Value.int .i64 (n18)) rfl rfl ?_)
      refine WL_run rfl (yield_of rfl (congrArg Value.bool hc936)) rfl (Exec.gtr rfl rfl rfl ?_)
      refine WL_step rfl rfl (Exec.pick_f (v := Value.bool (decide (128 < n18))) rfl (congrArg Value.bool hc936) rfl ?_)
      refine WL_nil (at_normal ?_)
      exact ⟨s, (PHeap.le_refl _), hS, rfl, (congrArg Value.bool (or_f hc936)).symm⟩
  · intro f937 w938 hM939
    obtain ⟨s940, l941, hS942, p943, p944⟩ := hM939
    refine (at_normal ?_)
    rcases ite_some hm with ⟨hc945, hm⟩ | ⟨hc945, hm⟩
    · refine W_cond_t p944 hc945 ?_
      refine W_seq ?_
      refine W_region ?_
      refine WL_step rfl rfl (Exec.makeInterface C30 rfl rfl ?_)
      refine WL_step rfl rfl (Exec.assign (v := Value.pointer none) rfl rfl ?_)
      refine WL_step rfl rfl (Exec.assign (v := errV 30 (some 1)) rfl rfl ?_)
      refine WL_nil (at_normal ?_)
      refine W_ret (at_ret ?_)
      have e947 := Option.some.inj hm
      subst r
      refine ⟨_, ret2 rfl, ?_⟩
      refine (Or.inr ⟨rfl, ?_⟩); exact ⟨s940, l941, hS942, (tup2 rfl rfl)⟩
    · refine W_cond_f p944 hc945 ?_
      replace hc945 := not_true hc945
      refine W_skip (at_normal ?_)
      refine W_seq ?_
      refine W_region ?_
      refine WL_step rfl rfl (Exec.build rfl parts_nil (v := Value.agg #[Value.slice none 0 0]) (fun _ => by kernel_rfl) ?_)
      refine WL_step rfl rfl (Exec.box (cs := [Value.slice none 0 0]) hS942 rfl rfl rfl ?_)
      intro b951 w952 hS953
      refine WL_step rfl rfl (Exec.assign (v := Value.pointer (some ⟨b951, 0, none⟩)) rfl rfl ?_)
      refine WL_nil (at_normal ?_)
      refine W_seq ?_
      refine W_seq ?_
      refine W_region ?_
      refine WL_step rfl rfl (Exec.move (v := Value.int .i64 (n18)) rfl p943 ?_)
      refine WL_step rfl rfl (Exec.move (v := Value.int .i64 (0)) rfl rfl ?_)
      refine WL_nil (at_normal ?_)
      obtain ⟨u954, q955, hm⟩ := bind_some hm
      obtain ⟨z1234, hB1527, hm⟩ := bind_some hm
      refine W_block (W_forS (fun k' s' f' w' => (fun (z1234 : (List (List Int))) => ∃ (s1528 : PHeap) (v1235 : Value) (hs1236 : List Value), PHeap.le s940 s1528 ∧ St w0 s1528 (Res.box b951 63 [v1235] :: Res.arr encRaw 49 v1235 hs1236 :: Res.rows (encInt .i64) 3 hs1236 z1234 :: H) w' ∧ f' 0 = Value.int .i64 (n18) ∧ f' 4 = Value.pointer (some ⟨b951, 0, none⟩) ∧ f' 17 = Value.int .i64 (n18) ∧ f' 18 = Value.int .i64 (k' : Int)) s') hB1527 ?_ ?_ ?_)
      · have hS1529 := (hS953.rows_nil (encInt .i64) 3).nilArr encRaw 49
        have hS1530 := (hS1529).f2
        exact ⟨s940, (Value.slice none 0 0), [], (PHeap.le_refl _), hS1530, p943, rfl, rfl, rfl⟩
      · intro i956 z1234 s1532 f1533 w1534 hi1535 hI1536 hm1537
        obtain ⟨s1538, v1235, hs1236, l1539, hS1540, p1541, p1542, p1543, x1544⟩ := hI1536
        refine W_seq ?_
        refine W_region ?_
        refine WL_step rfl rfl (Exec.lss rfl x1544 p1543 ?_)
        refine WL_nil (at_normal ?_)
        refine W_seq ?_
        refine W_true (congrArg Value.bool (decide_eq_true (by omega))) ?_
        refine W_skip (at_normal ?_)
        refine W_seq ?_
        refine W_block ?_
        refine W_seq ?_
        refine W_region ?_
        refine WL_step rfl rfl (Exec.move (v := Value.int .i64 ((i956 : Int))) rfl x1544 ?_)
        refine WL_step rfl rfl (Exec.assign (v := Value.int .i64 ((i956 : Int))) rfl rfl ?_)
        refine WL_nil (at_normal ?_)
        refine W_seq ?_
        refine W_region ?_
        refine WL_step rfl rfl (Exec.move (v := Value.int .i64 (n18)) rfl p1541 ?_)
        obtain ⟨l1550, q1551, hm1537⟩ := bind_some hm1537
        refine WL_step rfl rfl (Exec.make (E := (encInt .i64)) hS1540 S49 Z3 rfl rfl rfl rfl q1551 ?_)
        intro v1552 w1553 hS1554
        refine WL_step rfl rfl (Exec.assign (v := v1552) rfl rfl ?_)
        refine WL_nil (at_normal ?_)
        refine W_seq ?_
        refine W_seq ?_
        refine W_region ?_
        refine WL_step rfl rfl (Exec.move (v := v1552) rfl rfl ?_)
        refine WL_step rfl rfl (Exec.len_arr (hS1554) S49 rfl rfl ?_)
        refine WL_step rfl rfl (Exec.move (v := Value.int .i64 (0)) rfl rfl ?_)
        refine WL_nil (at_normal ?_)
        obtain ⟨l1623, hB1692, hm1537⟩ := bind_some hm1537
        refine W_block (W_forS (fun k' s' f' w' => (fun (l1623 : (List Int)) => ∃ (s1693 : PHeap) , PHeap.le s1538 s1693 ∧ St w0 s1693 (Res.box b951 63 [v1235] :: Res.arr (encInt .i64) 3 v1552 l1623 :: Res.arr encRaw 49 v1235 hs1236 :: Res.rows (encInt .i64) 3 hs1236 z1234 :: H) w' ∧ f' 0 = Value.int .i64 (n18) ∧ f' 4 = Value.pointer (some ⟨b951, 0, none⟩) ∧ f' 5 = Value.int .i64 ((i956 : Int)) ∧ f' 6 = v1552 ∧ f' 17 = Value.int .i64 (n18) ∧ f' 18 = Value.int .i64 ((i956 : Int)) ∧ f' 24 = Value.int .i64 ((l1550.length : Int)) ∧ f' 25 = Value.int .i64 (k' : Int)) s') hB1692 ?_ ?_ ?_)
        · have hS1694 := ((hS1554).f3).f3
          have hS1695 := (hS1694).f2
          have hS1696 := (hS1695).f3
          exact ⟨s1538, (PHeap.le_refl _), hS1696, p1541, p1542, rfl, rfl, p1543, x1544, rfl, rfl⟩
        · intro i1555 l1623 s1698 f1699 w1700 hi1701 hI1702 hm1703
          obtain ⟨s1704, l1705, hS1706, p1707, p1708, p1709, p1710, p1711, p1712, p1713, x1714⟩ := hI1702
          refine W_seq ?_
          refine W_region ?_
          refine WL_step rfl rfl (Exec.lss rfl x1714 p1713 ?_)
          refine WL_nil (at_normal ?_)
          refine W_seq ?_
          refine W_true (congrArg Value.bool (decide_eq_true (by omega))) ?_
          refine W_skip (at_normal ?_)
          refine W_seq ?_
          refine W_block ?_
          refine W_seq ?_
          refine W_region ?_
          refine WL_step rfl rfl (Exec.move (v := Value.int .i64 ((i1555 : Int))) rfl x1714 ?_)
          refine WL_step rfl rfl (Exec.assign (v := Value.int .i64 ((i1555 : Int))) rfl rfl ?_)
          refine WL_nil (at_normal ?_)
          refine W_seq ?_
          refine W_region ?_
          refine WL_step rfl rfl (Exec.move (v := Value.int .i64 ((i1555 : Int))) rfl rfl ?_)
          refine WL_step rfl rfl (Exec.move (v := Value.int .i64 ((i956 : Int))) rfl p1709 ?_)
          refine WL_step rfl rfl (Exec.neq rfl rfl rfl ?_)
          refine WL_nil (at_normal ?_)
          obtain ⟨l1735, ht1736, hm1703⟩ := bind_some hm1703
          refine W_mid (M := fun f' w' => (fun (l1735 : (List Int)) => ∃ (s1737 : PHeap) , PHeap.le s1704 s1737 ∧ St w0 s1737 (Res.box b951 63 [v1235] :: Res.arr (encInt .i64) 3 v1552 l1735 :: Res.arr encRaw 49 v1235 hs1236 :: Res.rows (encInt .i64) 3 hs1236 z1234 :: H) w' ∧ f' 0 = Value.int .i64 (n18) ∧ f' 4 = Value.pointer (some ⟨b951, 0, none⟩) ∧ f' 5 = Value.int .i64 ((i956 : Int)) ∧ f' 6 = v1552 ∧ f' 17 = Value.int .i64 (n18) ∧ f' 18 = Value.int .i64 ((i956 : Int)) ∧ f' 24 = Value.int .i64 ((l1550.length : Int)) ∧ f' 25 = Value.int .i64 ((i1555 : Int))) l1735) ?_ ?_
          · rcases ite_some ht1736 with ⟨hc1738, ht1736⟩ | ⟨hc1738, ht1736⟩
            · refine W_cond_t rfl hc1738 ?_
              refine W_region ?_
              refine WL_step rfl rfl (Exec.move (v := v1552) rfl p1710 ?_)
              refine WL_step rfl rfl (Exec.move (v := Value.int .i64 ((i1555 : Int))) rfl rfl ?_)
              obtain ⟨x1749, q1750, ht1736⟩ := bind_some ht1736
              obtain ⟨g1751, c1752, e1753⟩ := ((hS1706).f1).arr_at q1750
              refine WL_step rfl rfl (Exec.index_slice S49 rfl e1753 rfl (idx_some q1750).1 (idx_some q1750).2.1 ?_)
              obtain ⟨l1754, q1755, ht1736⟩ := bind_some ht1736
              have hS1756 := (hS1706).f1
              refine WL_step rfl rfl (Exec.store_arr hS1756 e1753 A3 rfl rfl rfl rfl (encInt_val.2 rfl) q1755 ?_)
              intro w1757 hS1758
              refine WL_nil (at_normal ?_)
              have e1759 := Option.some.inj ht1736
              subst l1735
              have hS1760 := ((hS1758).f3).f3
              have hS1761 := (hS1760).f2
              have hS1762 := (hS1761).f3
              exact ⟨s1704, (PHeap.le_refl _), hS1762, p1707, p1708, p1709, p1710, p1711, p1712, p1713, x1714⟩
            · refine W_cond_f rfl hc1738 ?_
              replace hc1738 := not_true hc1738
              refine W_skip (at_normal ?_)
              have e1763 := Option.some.inj ht1736
              subst l1735
              have hS1764 := ((hS1706).f3).f3
              have hS1765 := (hS1764).f3
              have hS1766 := (hS1765).f3
              exact ⟨s1704, (PHeap.le_refl _), hS1766, p1707, p1708, p1709, p1710, p1711, p1712, p1713, x1714⟩
          · intro f1767 w1768 hM1769
            obtain ⟨s1770, l1771, hS1772, p1773, p1774, p1775, p1776, p1777, p1778, p1779, p1780⟩ := hM1769
            refine (ib_normal (at_normal ?_))
            refine W_region ?_
            refine WL_step rfl rfl (Exec.add rfl p1780 rfl ?_)
            refine WL_step rfl rfl (Exec.move (v := Value.int .i64 (IntKind.i64.wrap ((i1555 : Int) + 1))) rfl rfl ?_)
            refine WL_nil (at_normal ?_)
            have e1781 := Option.some.inj hm1703
            subst s1698
            have hS1782 := ((hS1772).f3).f3
            have hS1783 := (hS1782).f3
            have hS1784 := (hS1783).f3
            exact ⟨s1770, (PHeap.le.trans l1705 l1771), hS1784, p1773, p1774, p1775, p1776, p1777, p1778, p1779, (Eq.trans rfl (wrap_up hi1701 (hS1554).arr_le))⟩
        · intro f1785 w1786 hI1787
          obtain ⟨s1788, l1789, hS1790, p1791, p1792, p1793, p1794, p1795, p1796, p1797, x1798⟩ := hI1787
          refine W_seq ?_
          refine W_region ?_
          refine WL_step rfl rfl (Exec.lss rfl x1798 p1797 ?_)
          refine WL_nil (at_normal ?_)
          refine W_seq ?_
          refine W_false (congrArg Value.bool (decide_eq_false (by omega))) ?_
          refine W_exit (at_exit (at_exit (ib_here (at_normal ?_))))
          refine W_region ?_
          refine WL_step rfl rfl (Exec.move (v := Value.pointer (some ⟨b951, 0, none⟩)) rfl p1792 ?_)
          refine WL_step rfl rfl (Exec.move (v := Value.pointer (some ⟨b951, 0, none⟩)) rfl p1792 ?_)
          refine WL_step rfl rfl (Exec.nilCheck_ptr rfl rfl ?_)
          refine WL_step rfl rfl (Exec.field F63_0 rfl rfl rfl ?_)
          refine WL_step rfl rfl (Exec.load_box (hS1790) A61 rfl rfl rfl ?_)
          refine WL_step rfl rfl (Exec.move (v := v1552) rfl p1794 ?_)
          refine WL_step rfl rfl (Exec.buildSlice (Te := 49) (cs := [v1552]) hS1790 rfl (parts_cons (c := [v1552]) (cells_of rfl (cells_one ((hS1790).f1).arr_one)) parts_nil) (fun _ => by kernel_rfl) ?_)
          intro b1815 w1816 hS1817
          obtain ⟨l1818, q1819, hm1537⟩ := bind_some hm1537
          have hS1820 := (hS1817).f2
          have hS1821 := (hS1820).f1
          have hS1822 := ((hS1821).f4).f4
          have hS1823 := ((hS1822).f2).f1
          refine WL_step rfl rfl (Exec.append_grid (E := encRaw) (ys := [v1552]) hS1823 S61 Z49 rfl (by decide) rfl rfl rfl rfl (reps_one ⟨rfl, ((hS1823).f3).arr_one⟩) rfl rfl ((hS1823).f2).rows_len q1819 ?_)
          intro v1824 w1825 hS1826
          have hS1827 := ((hS1826).f1.f2.rows_push).f1
          rw [← (app_some q1819).2] at hS1827
          refine WL_step rfl rfl (Exec.nilCheck_ptr rfl rfl ?_)
          refine WL_step rfl rfl (Exec.field F63_0 rfl rfl rfl ?_)
          have hS1828 := (hS1827).f2
          refine WL_step rfl rfl (Exec.store_box (ds := [v1824]) (es := [v1824]) hS1828 A61 rfl rfl rfl (cells_one (((hS1828).f2).f2).arr_one) (one_cons (((hS1828).f2).f2).arr_one one_nil) (Nat.le_of_ble_eq_true rfl) rfl ?_)
          intro w1829 hS1830
          refine WL_nil (ib_normal (at_normal ?_))
          refine W_region ?_
          refine WL_step rfl rfl (Exec.add rfl p1796 rfl ?_)
          refine WL_step rfl rfl (Exec.move (v := Value.int .i64 (IntKind.i64.wrap ((i956 : Int) + 1))) rfl rfl ?_)
          refine WL_nil (at_normal ?_)
          have e1831 := Option.some.inj hm1537
          subst s1532
          have hS1832 := ((hS1830).f2).f2
          have hS1833 := (hS1832).f2
          exact ⟨s1788, v1824, (hs1236 ++ [v1552]), (PHeap.le.trans l1539 l1789), hS1833, p1791, p1792, p1795, (Eq.trans rfl (wrap_up hi1535 (by have h := must_some q955; simp at h; simp only [maxLen]; omega)))⟩
      · intro f1834 w1835 hI1836
        obtain ⟨s1837, v1235, hs1236, l1838, hS1839, p1840, p1841, p1842, x1843⟩ := hI1836
        refine W_seq ?_
        refine W_region ?_
        refine WL_step rfl rfl (Exec.lss rfl x1843 p1842 ?_)
        refine WL_nil (at_normal ?_)
        refine W_seq ?_
        refine W_false (congrArg Value.bool (decide_eq_false (by omega))) ?_
        refine W_exit (at_exit (at_exit (ib_here (at_normal ?_))))
        refine W_seq ?_
        refine W_region ?_
        refine WL_step rfl rfl (Exec.move (v := Value.pointer (some ⟨b951, 0, none⟩)) rfl p1841 ?_)
        refine WL_step rfl rfl (Exec.assign (v := Value.pointer (some ⟨b951, 0, none⟩)) rfl rfl ?_)
        refine WL_step rfl rfl (Exec.assign (v := errV 30 (none)) rfl rfl ?_)
        refine WL_nil (at_normal ?_)
        refine W_ret ?_
        have e1845 := Option.some.inj hm
        subst r
        refine ⟨_, ret2 rfl, ?_⟩
        have hS1846 := ((hS1839).f2).f2
        have hS1847 := (hS1846).f2
        refine (Or.inl ⟨_, rfl, ?_⟩); exact ⟨s1837, b951, v1235, hs1236, (PHeap.le.trans l941 l1838), hS1847, (tup2 rfl rfl)⟩

theorem S22 : tySlice Try.prog 22 = some (32, 3, 24) := by kernel_rfl

theorem A32 : tyAgg Try.prog 32 = some (true, 3) := by kernel_rfl

theorem Z32 : tyZero Try.prog 32 = some (Value.agg #[Value.int .i64 (0), Value.int .i64 (0), Value.int .i64 (0)]) := by kernel_rfl

theorem F32_0 : tyField Try.prog 32 0 = some 0 := by kernel_rfl

theorem N26 : (Try.f26.name == "runtime.NumGoroutine") = false := by kernel_rfl

theorem stn_Network_point_sim {w0 w : World} {s : PHeap} {H : List Res} {n1938 : stn_Network} {p1942 : Int} {b1939 : Nat} {v1940 : Value} {hs1941 : List Value} {r : Bool} (hm : stn_Network_point_p n1938 p1942 = some r) (hS : St w0 s (Res.box b1939 63 [v1940] :: Res.arr encRaw 49 v1940 hs1941 :: Res.rows (encInt .i64) 3 hs1941 n1938.d :: H) w)  :
    Calls Try.prog 26 #[Value.pointer (some ⟨b1939, 0, none⟩), Value.int .i64 (p1942)] w fun e w' => ∃ v, e = .returned v ∧ ((fun (y1958 : Bool) => ∃ (s1959 : PHeap) , PHeap.le s s1959 ∧ St w0 s1959 (Res.box b1939 63 [v1940] :: Res.arr encRaw 49 v1940 hs1941 :: Res.rows (encInt .i64) 3 hs1941 n1938.d :: H) w' ∧ v = Value.bool (y1958)) r) := by
  unfold stn_Network_point_p at hm
  refine calls_of_W Try.func26 rfl rfl ?_
  refine W_seq ?_
  refine W_region ?_
  refine WL_step rfl rfl (Exec.assign (v := Value.bool (false)) rfl rfl ?_)
  refine WL_nil (at_normal ?_)
  refine W_seq ?_
  refine W_mid (M := fun f' w' => ∃ (s1961 : PHeap) , PHeap.le s s1961 ∧ St w0 s1961 (Res.box b1939 63 [v1940] :: Res.arr encRaw 49 v1940 hs1941 :: Res.rows (encInt .i64) 3 hs1941 n1938.d :: H) w' ∧ f' 4 = Value.bool (((decide (0 ≤ p1942)) && decide (p1942 < (n1938.d.length : Int))))) ?_ ?_
  · refine W_region ?_
    refine WL_step rfl rfl (Exec.move (v := Value.int .i64 (p1942)) rfl rfl ?_)
    refine WL_step rfl rfl (Exec.geq rfl rfl rfl ?_)
    refine WL_step rfl rfl (Exec.move (v := Value.bool (decide (0 ≤ p1942))) rfl rfl ?_)
    by_cases hc1962 : (decide (0 ≤ p1942)) = true
    · refine WL_run rfl (yield_of rfl (congrArg Value.bool hc1962)) rfl (Exec.move (v := Value.int .i64 (p1942)) rfl rfl ?_)
      refine WL_run rfl (yield_of rfl (congrArg Value.bool hc1962)) rfl (Exec.move (v := Value.pointer (some ⟨b1939, 0, none⟩)) rfl rfl ?_)
      refine WL_run rfl (yield_of rfl (congrArg Value.bool hc1962)) rfl (Exec.nilCheck_ptr rfl rfl ?_)
      refine WL_run rfl (yield_of rfl (congrArg Value.bool hc1962)) rfl (Exec.field F63_0 rfl rfl rfl ?_)
      refine WL_run rfl (yield_of rfl (congrArg Value.bool hc1962)) rfl (Exec.load_box (hS) A61 rfl rfl rfl ?_)
      refine WL_run rfl (yield_of rfl (congrArg Value.bool hc1962)) rfl (Exec.len_grid (((hS).f2).f2) (((hS).f2).f2).f1.rows_len S61 rfl rfl ?_)
      refine WL_run rfl (yield_of rfl (congrArg Value.bool hc1962)) rfl (Exec.lss rfl rfl rfl ?_)
      refine WL_step rfl rfl (Exec.pick_t (v := Value.bool (decide (p1942 < (n1938.d.length : Int)))) rfl (congrArg Value.bool hc1962) rfl ?_)
      refine WL_step rfl rfl (Exec.assign (v := Value.bool (decide (p1942 < (n1938.d.length : Int)))) rfl rfl ?_)
      refine WL_nil (at_normal ?_)
      have hS1963 := ((hS).f2).f2
      have hS1964 := (hS1963).f2
      exact ⟨s, (PHeap.le_refl _), hS1964, (congrArg Value.bool (and_t hc1962)).symm⟩
    · replace hc1962 := not_true hc1962
      refine WL_pass rfl (yield_of rfl (congrArg Value.bool hc1962)) rfl rfl ?_
      refine WL_pass rfl (yield_of rfl (congrArg Value.bool hc1962)) rfl rfl ?_
      refine WL_pass rfl (yield_of rfl (congrArg Value.bool hc1962)) rfl rfl ?_
      refine WL_pass rfl (yield_of rfl (congrArg Value.bool hc1962)) rfl rfl ?_
      refine WL_pass rfl (yield_of rfl (congrArg Value.bool hc1962)) rfl rfl ?_
      refine WL_pass rfl (yield_of rfl (congrArg Value.bool hc1962)) rfl rfl ?_
      refine WL_pass rfl (yield_of rfl (congrArg Value.bool hc1962)) rfl rfl ?_
      refine WL_step rfl rfl (Exec.pick_f (v := Value.bool (false)) rfl (congrArg Value.bool hc1962) rfl ?_)
      refine WL_step rfl rfl (Exec.assign (v := Value.bool (false)) rfl rfl ?_)
      refine WL_nil (at_normal ?_)
      have hS1965 := ((hS).f2).f2
      have hS1966 := (hS1965).f2
      exact ⟨s, (PHeap.le_refl _), hS1966, (congrArg Value.bool (and_f hc1962)).symm⟩
  · intro f1967 w1968 hM1969
    obtain ⟨s1970, l1971, hS1972, p1973⟩ := hM1969
    refine (at_normal ?_)
    refine W_ret ?_
    have e1975 := Option.some.inj hm
    subst r
    refine ⟨_, ret1 rfl, ?_⟩
    have hS1976 := ((hS1972).f2).f2
    have hS1977 := (hS1976).f2
    exact ⟨s1970, l1971, hS1977, p1973⟩

theorem F32_1 : tyField Try.prog 32 1 = some 1 := by kernel_rfl

theorem F32_2 : tyField Try.prog 32 2 = some 2 := by kernel_rfl

theorem hmix : Try.prog.follows .mixedOrders = true := by kernel_rfl

theorem A49 : tyAgg Try.prog 49 = some (false, 1) := by kernel_rfl

theorem N14 : (Try.f14.name == "runtime.NumGoroutine") = false := by kernel_rfl

theorem stn_Network_Add_sim {w0 w : World} {s : PHeap} {H : List Res} {n1927 : stn_Network} {b1931 : Bound} {b1928 : Nat} {v1929 : Value} {hs1930 : List Value} {r : (Option Int) × (List (List Int))} (hm : stn_Network_Add_p n1927 b1931 = some r) (hS : St w0 s (Res.box b1928 63 [v1929] :: Res.arr encRaw 49 v1929 hs1930 :: Res.rows (encInt .i64) 3 hs1930 n1927.d :: H) w)  :
    Calls Try.prog 14 #[Value.pointer (some ⟨b1928, 0, none⟩), Value.agg #[Value.int .i64 (b1931.A), Value.int .i64 (b1931.B), Value.int .i64 (b1931.Most)]] w fun e w' => ∃ v, e = .returned v ∧ ((un2 fun (y11197 : (Option Int)) (l11198 : (List (List Int))) => ∃ (s11199 : PHeap) , PHeap.le s s11199 ∧ St w0 s11199 (Res.box b1928 63 [v1929] :: Res.arr encRaw 49 v1929 hs1930 :: Res.rows (encInt .i64) 3 hs1930 l11198 :: H) w' ∧ v = errV 30 (y11197)) r) := by
  unfold stn_Network_Add_p at hm
  refine calls_of_W Try.func14 rfl rfl ?_
  refine W_seq ?_
  refine W_region ?_
  refine WL_step rfl rfl (Exec.box (cs := [Value.int .i64 (b1931.A), Value.int .i64 (b1931.B), Value.int .i64 (b1931.Most)]) hS rfl rfl rfl ?_)
  intro b11203 w11204 hS11205
  refine WL_step rfl rfl (Exec.assign (v := errV 30 (none)) rfl rfl ?_)
  refine WL_nil (at_normal ?_)
  refine W_seq ?_
  refine W_seq ?_
  refine W_region ?_
  refine WL_step rfl rfl (Exec.move (v := Value.pointer (some ⟨b1928, 0, none⟩)) rfl rfl ?_)
  refine WL_step rfl rfl (Exec.ptr_eql_nil Try.underlying24 rfl rfl rfl ?_)
  refine WL_nil (at_normal ?_)
  refine W_false rfl ?_
  refine W_skip (at_normal ?_)
  refine W_seq ?_
  refine W_seq ?_
  obtain ⟨z11221, ht11222, hm⟩ := bind_some hm
  refine W_mid (M := fun f' w' => (fun (z11221 : Bool) => ∃ (s11223 : PHeap) , PHeap.le s s11223 ∧ St w0 s11223 (Res.box b1928 63 [v1929] :: Res.arr encRaw 49 v1929 hs1930 :: Res.rows (encInt .i64) 3 hs1930 n1927.d :: Res.box b11203 32 [Value.int .i64 (b1931.A), Value.int .i64 (b1931.B), Value.int .i64 (b1931.Most)] :: H) w' ∧ f' 0 = Value.pointer (some ⟨b1928, 0, none⟩) ∧ f' 3 = Value.pointer (some ⟨b11203, 0, none⟩) ∧ f' 34 = Value.bool (z11221)) z11221) ?_ ?_
  · refine W_region ?_
    refine WL_step rfl rfl (Exec.move (v := Value.pointer (some ⟨b1928, 0, none⟩)) rfl rfl ?_)
    refine WL_step rfl rfl (Exec.field F32_0 rfl rfl rfl ?_)
    refine WL_step rfl rfl (Exec.load_box (hS11205) A3 rfl rfl rfl ?_)
    have hS11224 := ((hS11205).f3).f3
    have hS11225 := (hS11224).f3
    refine WL_step rfl rfl (Exec.call rfl rfl Try.func26 rfl N26 (args_cons rfl (args_cons rfl args_nil)) ((stn_Network_point_sim (stn_Network_point_tot n1927 b1931.A) hS11225 ).mono ?_))
    rintro _ w11226 ⟨_, rfl, ⟨s11227, l11228, hS11229, rfl⟩⟩
    refine ⟨_, rfl, ?_⟩
    refine WL_step rfl rfl (Exec.not rfl rfl ?_)
    refine WL_step rfl rfl (Exec.move (v := Value.bool (!(stn_Network_point_t n1927 b1931.A))) rfl rfl ?_)
    rcases ite_some ht11222 with ⟨hc11230, ht11222⟩ | ⟨hc11230, ht11222⟩
    · refine WL_pass rfl (yield_of rfl (congrArg Value.bool hc11230)) rfl rfl ?_
      refine WL_pass rfl (yield_of rfl (congrArg Value.bool hc11230)) rfl rfl ?_
      refine WL_pass rfl (yield_of rfl (congrArg Value.bool hc11230)) rfl rfl ?_
      refine WL_pass rfl (yield_of rfl (congrArg Value.bool hc11230)) rfl rfl ?_
      refine WL_pass rfl (yield_of rfl (congrArg Value.bool hc11230)) rfl rfl ?_
      refine WL_step rfl rfl (Exec.pick_t (v := Value.bool (true)) rfl (congrArg Value.bool hc11230) rfl ?_)
      refine WL_step rfl rfl (Exec.move (v := Value.bool (true)) rfl rfl ?_)
      refine WL_pass rfl (yield_of rfl rfl) rfl rfl ?_
      refine WL_pass rfl (yield_of rfl rfl) rfl rfl ?_
      refine WL_pass rfl (yield_of rfl rfl) rfl rfl ?_
      refine WL_step rfl rfl (Exec.pick_t (v := Value.bool (true)) rfl rfl rfl ?_)
      refine WL_step rfl rfl (Exec.move (v := Value.bool (true)) rfl rfl ?_)
      refine WL_pass rfl (yield_of rfl rfl) rfl rfl ?_
      refine WL_pass rfl (yield_of rfl rfl) rfl rfl ?_
      refine WL_pass rfl (yield_of rfl rfl) rfl rfl ?_
      refine WL_step rfl rfl (Exec.pick_t (v := Value.bool (true)) rfl rfl rfl ?_)
      refine WL_nil (at_normal ?_)
      have e11231 := Option.some.inj ht11222
      subst z11221
      have hS11232 := (hS11229).f3
      have hS11233 := ((hS11232).f3).f3
      have hS11234 := (hS11233).f3
      exact ⟨s11227, l11228, hS11234, rfl, rfl, rfl⟩
    · replace hc11230 := not_true hc11230
      refine WL_run rfl (yield_of rfl (congrArg Value.bool hc11230)) rfl (Exec.move (v := Value.pointer (some ⟨b1928, 0, none⟩)) rfl rfl ?_)
      refine WL_run rfl (yield_of rfl (congrArg Value.bool hc11230)) rfl (Exec.field F32_1 rfl rfl rfl ?_)
      refine WL_run rfl (yield_of rfl (congrArg Value.bool hc11230)) rfl (Exec.load_box ((hS11229).f3) A3 rfl rfl rfl ?_)
      have hS11235 := ((hS11229).f2).f2
      have hS11236 := (hS11235).f2
      refine WL_run rfl (yield_of rfl (congrArg Value.bool hc11230)) rfl (Exec.call rfl rfl Try.func26 rfl N26 (args_cons rfl (args_cons rfl args_nil)) ((stn_Network_point_sim (stn_Network_point_tot n1927 b1931.B) hS11236 ).mono ?_))
      rintro _ w11237 ⟨_, rfl, ⟨s11238, l11239, hS11240, rfl⟩⟩
      refine ⟨_, rfl, ?_⟩
      refine WL_run rfl (yield_of rfl (congrArg Value.bool hc11230)) rfl (Exec.not rfl rfl ?_)
      refine WL_step rfl rfl (Exec.pick_f (v := Value.bool (!(stn_Network_point_t n1927 b1931.B))) rfl (congrArg Value.bool hc11230) rfl ?_)
      refine WL_step rfl rfl (Exec.move (v := Value.bool (!(stn_Network_point_t n1927 b1931.B))) rfl rfl ?_)
      rcases ite_some ht11222 with ⟨hc11241, ht11222⟩ | ⟨hc11241, ht11222⟩
      · refine WL_pass rfl (yield_of rfl (congrArg Value.bool hc11241)) rfl rfl ?_
        refine WL_pass rfl (yield_of rfl (congrArg Value.bool hc11241)) rfl rfl ?_
        refine WL_pass rfl (yield_of rfl (congrArg Value.bool hc11241)) rfl rfl ?_
        refine WL_step rfl rfl (Exec.pick_t (v := Value.bool (true)) rfl (congrArg Value.bool hc11241) rfl ?_)
        refine WL_step rfl rfl (Exec.move (v := Value.bool (true)) rfl rfl ?_)
        refine WL_pass rfl (yield_of rfl rfl) rfl rfl ?_
        refine WL_pass rfl (yield_of rfl rfl) rfl rfl ?_
        refine WL_pass rfl (yield_of rfl rfl) rfl rfl ?_
        refine WL_step rfl rfl (Exec.pick_t (v := Value.bool (true)) rfl rfl rfl ?_)
        refine WL_nil (at_normal ?_)
        have e11242 := Option.some.inj ht11222
        subst z11221
        have hS11243 := (hS11240).f3
        have hS11244 := ((hS11243).f3).f3
        have hS11245 := (hS11244).f3
        exact ⟨s11238, (PHeap.le.trans l11228 l11239), hS11245, rfl, rfl, rfl⟩
      · replace hc11241 := not_true hc11241
        refine WL_run rfl (yield_of rfl (congrArg Value.bool hc11241)) rfl (Exec.field F32_2 rfl rfl rfl ?_)
        refine WL_run rfl (yield_of rfl (congrArg Value.bool hc11241)) rfl (Exec.load_box ((hS11240).f3) A3 rfl rfl rfl ?_)
        refine WL_run rfl (yield_of rfl (congrArg Value.bool hc11241)) rfl (Exec.lss rfl rfl rfl ?_)
        refine WL_step rfl rfl (Exec.pick_f (v := Value.bool (decide (b1931.Most < (-1099511627776)))) rfl (congrArg Value.bool hc11241) rfl ?_)
        refine WL_step rfl rfl (Exec.move (v := Value.bool (decide (b1931.Most < (-1099511627776)))) rfl rfl ?_)
        rcases ite_some ht11222 with ⟨hc11246, ht11222⟩ | ⟨hc11246, ht11222⟩
        · refine WL_pass rfl (yield_of rfl (congrArg Value.bool hc11246)) rfl rfl ?_
          refine WL_pass rfl (yield_of rfl (congrArg Value.bool hc11246)) rfl rfl ?_
          refine WL_pass rfl (yield_of rfl (congrArg Value.bool hc11246)) rfl rfl ?_
          refine WL_step rfl rfl (Exec.pick_t (v := Value.bool (true)) rfl (congrArg Value.bool hc11246) rfl ?_)
          refine WL_nil (at_normal ?_)
          have e11247 := Option.some.inj ht11222
          subst z11221
          have hS11248 := (hS11240).f3
          have hS11249 := ((hS11248).f3).f3
          have hS11250 := (hS11249).f3
          exact ⟨s11238, (PHeap.le.trans l11228 l11239), hS11250, rfl, rfl, rfl⟩
        · replace hc11246 := not_true hc11246
          refine WL_run rfl (yield_of rfl (congrArg Value.bool hc11246)) rfl (Exec.field F32_2 rfl rfl rfl ?_)
          refine WL_run rfl (yield_of rfl (congrArg Value.bool hc11246)) rfl (Exec.load_box ((hS11240).f3) A3 rfl rfl rfl ?_)
          refine WL_run rfl (yield_of rfl (congrArg Value.bool hc11246)) rfl (Exec.gtr rfl rfl rfl ?_)
          refine WL_step rfl rfl (Exec.pick_f (v := Value.bool (decide (1099511627776 < b1931.Most))) rfl (congrArg Value.bool hc11246) rfl ?_)
          refine WL_nil (at_normal ?_)
          have e11251 := Option.some.inj ht11222
          subst z11221
          have hS11252 := (hS11240).f3
          have hS11253 := ((hS11252).f3).f3
          have hS11254 := (hS11253).f3
          exact ⟨s11238, (PHeap.le.trans l11228 l11239), hS11254, rfl, rfl, rfl⟩
  · intro f11255 w11256 hM11257
    obtain ⟨s11258, l11259, hS11260, p11261, p11262, p11263⟩ := hM11257
    refine (at_normal ?_)
    rcases ite_some hm with ⟨hc11264, hm⟩ | ⟨hc11264, hm⟩
    · refine W_cond_t p11263 hc11264 ?_
      refine W_seq ?_
      refine W_region ?_
      refine WL_step rfl rfl (Exec.makeInterface C30 rfl rfl ?_)
      refine WL_step rfl rfl (Exec.assign (v := errV 30 (some 1)) rfl rfl ?_)
      refine WL_nil (at_normal ?_)
      refine W_ret (at_ret ?_)
      have e11266 := Option.some.inj hm
      subst r
      refine ⟨_, ret1 rfl, ?_⟩
      have hS11267 := ((hS11260).f3).drop
      have hS11268 := ((hS11267).f2).f2
      have hS11269 := (hS11268).f2
      exact ⟨s11258, l11259, hS11269, rfl⟩
    · refine W_cond_f p11263 hc11264 ?_
      replace hc11264 := not_true hc11264
      refine W_skip (at_normal ?_)
      refine W_seq ?_
      refine W_seq ?_
      obtain ⟨row11436, q11437, hm⟩ := bind_some hm
      obtain ⟨h11438, e11439, e11440, _⟩ := ((((hS11260).f2).f2).f1).rows_at q11437
      obtain ⟨g11441, c11442, e11443⟩ := (((hS11260).f2).f2).arr_at e11439
      obtain ⟨x11444, q11445, hm⟩ := bind_some hm
      obtain ⟨g11446, c11447, e11448⟩ := (((((hS11260).f2).f2).f1).rows_split e11440 (idx_some q11437).2.2).arr_at q11445
      refine W_drawn (n0 := 13) hmix (by kernel_rfl) [RP.eq (Value.pointer (some ⟨b1928, 0, none⟩)), RP.eq (Value.pointer (some ⟨b1928, 0, none⟩)), RP.eq (Value.pointer (some ⟨b1928, 0, none⟩)), RP.eq (v1929), RP.eq (Value.pointer (some ⟨b11203, 1, none⟩)), RP.eq (Value.int .i64 (b1931.B)), RP.eq (Value.pointer (some ⟨g11441, 0 + (b1931.B).toNat * 1, none⟩)), RP.eq (h11438), RP.eq (Value.pointer (some ⟨b11203, 0, none⟩)), RP.eq (Value.int .i64 (b1931.A)), RP.eq (Value.pointer (some ⟨g11446, 0 + (b1931.A).toNat * 1, none⟩)), RP.eq (Value.int .i64 (x11444)), RP.eq (Value.int .i64 (x11444))] hS11260 (HeadAll.cons ?_ (HeadAll.cons ?_ (HeadAll.cons ?_ (HeadAll.cons ?_ (HeadAll.cons ?_ (HeadAll.cons ?_ (HeadAll.cons ?_ (HeadAll.cons ?_ (HeadAll.cons ?_ (HeadAll.cons ?_ (HeadAll.cons ?_ (HeadAll.cons ?_ (HeadAll.cons ?_ (HeadAll.nil)))))))))))))) ?_
      · intro g11449 s11450 w11451 l11452 hS11453 fr11454 pre11455
        refine head_run rfl (Exec.move (v := Value.pointer (some ⟨b1928, 0, none⟩)) rfl (Eq.trans (fr11454 0 rfl) p11261) ?_)
        exact head_done hS11453 rfl
      · intro g11456 s11457 w11458 l11459 hS11460 fr11461 pre11462
        have p11463 : g11456 36 = (Value.pointer (some ⟨b1928, 0, none⟩)) := pre11462 0 _ rfl rfl
        refine head_run rfl (Exec.nilCheck_ptr rfl p11463 ?_)
        exact head_done hS11460 rfl
      · intro g11464 s11465 w11466 l11467 hS11468 fr11469 pre11470
        have p11471 : g11464 37 = (Value.pointer (some ⟨b1928, 0, none⟩)) := pre11470 0 _ rfl rfl
        refine head_run rfl (Exec.field F63_0 rfl p11471 rfl ?_)
        exact head_done hS11468 rfl
      · intro g11472 s11473 w11474 l11475 hS11476 fr11477 pre11478
        have p11479 : g11472 38 = (Value.pointer (some ⟨b1928, 0, none⟩)) := pre11478 0 _ rfl rfl
        refine head_run rfl (Exec.load_box (hS11476) A61 rfl p11479 rfl ?_)
        exact head_done hS11476 rfl
      · intro g11480 s11481 w11482 l11483 hS11484 fr11485 pre11486
        refine head_run rfl (Exec.field F32_1 rfl (Eq.trans (fr11485 3 rfl) p11262) rfl ?_)
        exact head_done hS11484 rfl
      · intro g11487 s11488 w11489 l11490 hS11491 fr11492 pre11493
        have p11494 : g11487 40 = (Value.pointer (some ⟨b11203, 1, none⟩)) := pre11493 0 _ rfl rfl
        refine head_run rfl (Exec.load_box ((hS11491).f3) A3 rfl p11494 rfl ?_)
        exact head_done hS11491 rfl
      · intro g11495 s11496 w11497 l11498 hS11499 fr11500 pre11501
        have p11502 : g11495 41 = (Value.int .i64 (b1931.B)) := pre11501 1 _ rfl rfl
        have p11503 : g11495 39 = (v1929) := pre11501 0 _ rfl rfl
        refine head_run rfl (Exec.index_slice S61 rfl (Eq.trans p11503 e11443) p11502 (idx_some e11439).1 (idx_some e11439).2.1 ?_)
        exact head_done hS11499 rfl
      · intro g11504 s11505 w11506 l11507 hS11508 fr11509 pre11510
        have p11511 : g11504 42 = (Value.pointer (some ⟨g11441, 0 + (b1931.B).toNat * 1, none⟩)) := pre11510 0 _ rfl rfl
        refine head_run rfl (Exec.load_arr (F := encRaw) (((hS11508).f2).f2) e11443 A49 rfl p11511 rfl e11439 (Sub.refl _) ?_)
        intro v11512 q11513
        exact head_done hS11508 (encRaw_val.1 q11513).1
      · intro g11514 s11515 w11516 l11517 hS11518 fr11519 pre11520
        refine head_run rfl (Exec.field F32_0 rfl (Eq.trans (fr11519 3 rfl) p11262) rfl ?_)
        exact head_done hS11518 rfl
      · intro g11521 s11522 w11523 l11524 hS11525 fr11526 pre11527
        have p11528 : g11521 44 = (Value.pointer (some ⟨b11203, 0, none⟩)) := pre11527 0 _ rfl rfl
        refine head_run rfl (Exec.load_box ((hS11525).f3) A3 rfl p11528 rfl ?_)
        exact head_done hS11525 rfl
      · intro g11529 s11530 w11531 l11532 hS11533 fr11534 pre11535
        have p11536 : g11529 43 = (h11438) := pre11535 0 _ rfl rfl
        have p11537 : g11529 45 = (Value.int .i64 (b1931.A)) := pre11535 1 _ rfl rfl
        refine head_run rfl (Exec.index_slice S49 rfl (Eq.trans p11536 e11448) p11537 (idx_some q11445).1 (idx_some q11445).2.1 ?_)
        exact head_done hS11533 rfl
      · intro g11538 s11539 w11540 l11541 hS11542 fr11543 pre11544
        have p11545 : g11538 46 = (Value.pointer (some ⟨g11446, 0 + (b1931.A).toNat * 1, none⟩)) := pre11544 0 _ rfl rfl
        refine head_run rfl (Exec.load_arr (F := (encInt .i64)) (((((hS11542).f2).f2).f1).rows_split e11440 (idx_some q11437).2.2) e11448 A3 rfl p11545 rfl q11445 (Sub.refl _) ?_)
        intro v11546 q11547
        exact head_done hS11542 (encInt_val.1 q11547)
      · intro g11548 s11549 w11550 l11551 hS11552 fr11553 pre11554
        have p11555 : g11548 47 = (Value.int .i64 (x11444)) := pre11554 0 _ rfl rfl
        refine head_run rfl (Exec.assign (v := Value.int .i64 (x11444)) rfl p11555 ?_)
        exact head_done hS11552 rfl
      · intro g11556 s11557 w11558 l11559 hS11560 fr11561 hR11562
        have p11563 : g11556 36 = (Value.pointer (some ⟨b1928, 0, none⟩)) := hR11562 0 rfl
        have p11564 : g11556 37 = (Value.pointer (some ⟨b1928, 0, none⟩)) := hR11562 1 rfl
        have p11565 : g11556 38 = (Value.pointer (some ⟨b1928, 0, none⟩)) := hR11562 2 rfl
        have p11566 : g11556 39 = (v1929) := hR11562 3 rfl
        have p11567 : g11556 40 = (Value.pointer (some ⟨b11203, 1, none⟩)) := hR11562 4 rfl
        have p11568 : g11556 41 = (Value.int .i64 (b1931.B)) := hR11562 5 rfl
        have p11569 : g11556 42 = (Value.pointer (some ⟨g11441, 0 + (b1931.B).toNat * 1, none⟩)) := hR11562 6 rfl
        have p11570 : g11556 43 = (h11438) := hR11562 7 rfl
        have p11571 : g11556 44 = (Value.pointer (some ⟨b11203, 0, none⟩)) := hR11562 8 rfl
        have p11572 : g11556 45 = (Value.int .i64 (b1931.A)) := hR11562 9 rfl
        have p11573 : g11556 46 = (Value.pointer (some ⟨g11446, 0 + (b1931.A).toNat * 1, none⟩)) := hR11562 10 rfl
        have p11574 : g11556 47 = (Value.int .i64 (x11444)) := hR11562 11 rfl
        have p11575 : g11556 5 = (Value.int .i64 (x11444)) := hR11562 12 rfl
        refine WL_nil (at_normal ?_)
        refine W_seq ?_
        refine W_mid (M := fun f' w' => ∃ (s11577 : PHeap) , PHeap.le s11557 s11577 ∧ St w0 s11577 (Res.box b1928 63 [v1929] :: Res.arr encRaw 49 v1929 hs1930 :: Res.rows (encInt .i64) 3 hs1930 n1927.d :: Res.box b11203 32 [Value.int .i64 (b1931.A), Value.int .i64 (b1931.B), Value.int .i64 (b1931.Most)] :: H) w' ∧ f' 0 = Value.pointer (some ⟨b1928, 0, none⟩) ∧ f' 3 = Value.pointer (some ⟨b11203, 0, none⟩) ∧ f' 56 = Value.bool (((decide (x11444 < 1125899906842624)) && decide ((IntKind.i64.wrap (x11444 + b1931.Most)) < 0)))) ?_ ?_
        · refine W_region ?_
          refine WL_step rfl rfl (Exec.move (v := Value.int .i64 (x11444)) rfl p11575 ?_)
          refine WL_step rfl rfl (Exec.lss rfl rfl rfl ?_)
          refine WL_step rfl rfl (Exec.move (v := Value.bool (decide (x11444 < 1125899906842624))) rfl rfl ?_)
          by_cases hc11578 : (decide (x11444 < 1125899906842624)) = true
          · refine WL_run rfl (yield_of rfl (congrArg Value.bool hc11578)) rfl (Exec.move (v := Value.int .i64 (x11444)) rfl p11575 ?_)
            refine WL_run rfl (yield_of rfl (congrArg Value.bool hc11578)) rfl (Exec.field F32_2 rfl (Eq.trans (fr11561 3 rfl) p11262) rfl ?_)
            refine WL_run rfl (yield_of rfl (congrArg Value.bool hc11578)) rfl (Exec.load_box ((hS11560).f3) A3 rfl rfl rfl ?_)
            refine WL_run rfl (yield_of rfl (congrArg Value.bool hc11578)) rfl (Exec.add rfl rfl rfl ?_)
            refine WL_run rfl (yield_of rfl (congrArg Value.bool hc11578)) rfl (Exec.lss rfl rfl rfl ?_)
            refine WL_step rfl rfl (Exec.pick_t (v := Value.bool (decide ((IntKind.i64.wrap (x11444 + b1931.Most)) < 0))) rfl (congrArg Value.bool hc11578) rfl ?_)
            refine WL_nil (at_normal ?_)
            have hS11579 := (hS11560).f3
            have hS11580 := ((hS11579).f3).f3
            have hS11581 := (hS11580).f3
            exact ⟨s11557, (PHeap.le_refl _), hS11581, (Eq.trans (fr11561 0 rfl) p11261), (Eq.trans (fr11561 3 rfl) p11262), (congrArg Value.bool (and_t hc11578)).symm⟩
          · replace hc11578 := not_true hc11578
            refine WL_pass rfl (yield_of rfl (congrArg Value.bool hc11578)) rfl rfl ?_
            refine WL_pass rfl (yield_of rfl (congrArg Value.bool hc11578)) rfl rfl ?_
            refine WL_pass rfl (yield_of rfl (congrArg Value.bool hc11578)) rfl rfl ?_
            refine WL_pass rfl (yield_of rfl (congrArg Value.bool hc11578)) rfl rfl ?_
            refine WL_pass rfl (yield_of rfl (congrArg Value.bool hc11578)) rfl rfl ?_
            refine WL_step rfl rfl (Exec.pick_f (v := Value.bool (false)) rfl (congrArg Value.bool hc11578) rfl ?_)
            refine WL_nil (at_normal ?_)
            have hS11582 := (hS11560).f3
            have hS11583 := ((hS11582).f3).f3
            have hS11584 := (hS11583).f3
            exact ⟨s11557, (PHeap.le_refl _), hS11584, (Eq.trans (fr11561 0 rfl) p11261), (Eq.trans (fr11561 3 rfl) p11262), (congrArg Value.bool (and_f hc11578)).symm⟩
        · intro f11585 w11586 hM11587
          obtain ⟨s11588, l11589, hS11590, p11591, p11592, p11593⟩ := hM11587
          refine (at_normal ?_)
          rcases ite_some hm with ⟨hc11594, hm⟩ | ⟨hc11594, hm⟩
          · refine W_cond_t p11593 hc11594 ?_
            refine W_seq ?_
            refine W_region ?_
            refine WL_step rfl rfl (Exec.makeInterface C30 rfl rfl ?_)
            refine WL_step rfl rfl (Exec.assign (v := errV 30 (some 21)) rfl rfl ?_)
            refine WL_nil (at_normal ?_)
            refine W_ret (at_ret ?_)
            have e11596 := Option.some.inj hm
            subst r
            refine ⟨_, ret1 rfl, ?_⟩
            have hS11597 := ((hS11590).f3).drop
            have hS11598 := ((hS11597).f2).f2
            have hS11599 := (hS11598).f2
            exact ⟨s11588, (PHeap.le.trans (PHeap.le.trans l11259 l11559) l11589), hS11599, rfl⟩
          · refine W_cond_f p11593 hc11594 ?_
            replace hc11594 := not_true hc11594
            refine W_skip (at_normal ?_)
            refine W_seq ?_
            refine W_seq ?_
            refine W_region ?_
            refine WL_step rfl rfl (Exec.move (v := Value.pointer (some ⟨b1928, 0, none⟩)) rfl p11591 ?_)
            refine WL_step rfl rfl (Exec.nilCheck_ptr rfl rfl ?_)
            refine WL_step rfl rfl (Exec.field F63_0 rfl rfl rfl ?_)
            refine WL_step rfl rfl (Exec.load_box (hS11590) A61 rfl rfl rfl ?_)
            refine WL_step rfl rfl (Exec.len_grid (((hS11590).f2).f2) (((hS11590).f2).f2).f1.rows_len S61 rfl rfl ?_)
            refine WL_step rfl rfl (Exec.move (v := Value.int .i64 (0)) rfl rfl ?_)
            refine WL_nil (at_normal ?_)
            obtain ⟨l14532, hB17465, hm⟩ := bind_some hm
            refine W_block (W_forS (fun k' s' f' w' => (fun (l14532 : (List (List Int))) => ∃ (s17466 : PHeap) , PHeap.le s11588 s17466 ∧ St w0 s17466 (Res.box b1928 63 [v1929] :: Res.arr encRaw 49 v1929 hs1930 :: Res.rows (encInt .i64) 3 hs1930 l14532 :: Res.box b11203 32 [Value.int .i64 (b1931.A), Value.int .i64 (b1931.B), Value.int .i64 (b1931.Most)] :: H) w' ∧ f' 0 = Value.pointer (some ⟨b1928, 0, none⟩) ∧ f' 3 = Value.pointer (some ⟨b11203, 0, none⟩) ∧ f' 61 = v1929 ∧ f' 62 = Value.int .i64 ((n1927.d.length : Int)) ∧ f' 63 = Value.int .i64 (k' : Int)) s') hB17465 ?_ ?_ ?_)
            · have hS17467 := (hS11590).f3
              have hS17468 := ((hS17467).f3).f3
              have hS17469 := (hS17468).f3
              exact ⟨s11588, (PHeap.le_refl _), hS17469, p11591, p11592, rfl, rfl, rfl⟩
            · intro i11600 l14532 s17471 f17472 w17473 hi17474 hI17475 hm17476
              obtain ⟨s17477, l17478, hS17479, p17480, p17481, p17482, p17483, x17484⟩ := hI17475
              refine W_seq ?_
              refine W_region ?_
              refine WL_step rfl rfl (Exec.lss rfl x17484 p17483 ?_)
              refine WL_nil (at_normal ?_)
              refine W_seq ?_
              refine W_true (congrArg Value.bool (decide_eq_true (by omega))) ?_
              refine W_skip (at_normal ?_)
              refine W_seq ?_
              refine W_block ?_
              refine W_seq ?_
              refine W_region ?_
              obtain ⟨row17495, q17496, hm17476⟩ := bind_some hm17476
              obtain ⟨h17497, e17498, e17499, _⟩ := ((((hS17479).f2).f2).f1).rows_at q17496
              obtain ⟨g17500, c17501, e17502⟩ := (((hS17479).f2).f2).arr_at e17498
              refine WL_step rfl rfl (Exec.index_slice S61 rfl (Eq.trans p17482 e17502) x17484 (idx_some e17498).1 (idx_some e17498).2.1 ?_)
              refine WL_step rfl rfl (Exec.load_arr (F := encRaw) (((hS17479).f2).f2) e17502 A49 rfl rfl rfl e17498 (Sub.refl _) ?_)
              intro v17503 q17504
              replace q17504 := (encRaw_val.1 q17504).1
              subst v17503
              refine WL_step rfl rfl (Exec.assign (v := h17497) rfl rfl ?_)
              refine WL_nil (at_normal ?_)
              refine W_seq ?_
              refine W_seq ?_
              refine W_region ?_
              refine WL_step rfl rfl (Exec.move (v := h17497) rfl rfl ?_)
              refine WL_step rfl rfl (Exec.field F32_0 rfl p17481 rfl ?_)
              refine WL_step rfl rfl (Exec.load_box ((hS17479).f3) A3 rfl rfl rfl ?_)
              obtain ⟨x17512, q17513, hm17476⟩ := bind_some hm17476
              obtain ⟨g17514, c17515, e17516⟩ := (((((hS17479).f2).f2).f1).rows_split e17499 (idx_some q17496).2.2).arr_at q17513
              refine WL_step rfl rfl (Exec.index_slice S49 rfl e17516 rfl (idx_some q17513).1 (idx_some q17513).2.1 ?_)
              refine WL_step rfl rfl (Exec.load_arr (F := (encInt .i64)) (((((hS17479).f2).f2).f1).rows_split e17499 (idx_some q17496).2.2) e17516 A3 rfl rfl rfl q17513 (Sub.refl _) ?_)
              intro v17517 q17518
              obtain rfl := encInt_val.1 q17518
              refine WL_step rfl rfl (Exec.geq rfl rfl rfl ?_)
              refine WL_nil (at_normal ?_)
              rcases ite_some hm17476 with ⟨hc17519, hm17476⟩ | ⟨hc17519, hm17476⟩
              · refine W_cond_t rfl hc17519 ?_
                refine W_exit (at_exit (ib_here (at_normal ?_)))
                refine W_region ?_
                refine WL_step rfl rfl (Exec.add rfl x17484 rfl ?_)
                refine WL_step rfl rfl (Exec.move (v := Value.int .i64 (IntKind.i64.wrap ((i11600 : Int) + 1))) rfl rfl ?_)
                refine WL_nil (at_normal ?_)
                have e17520 := Option.some.inj hm17476
                subst s17471
                have hS17521 := (hS17479).f3
                have hS17522 := ((hS17521).f3).f3
                have hS17523 := (hS17522).f3
                exact ⟨s17477, l17478, hS17523, p17480, p17481, p17482, p17483, (Eq.trans rfl (wrap_up hi17474 (by have h := (((hS11590).f2).f2).f1.rows_len; have h2 := (((hS11590).f2).f2).arr_le; omega)))⟩
              · refine W_cond_f rfl hc17519 ?_
                replace hc17519 := not_true hc17519
                refine W_skip (at_normal ?_)
                refine W_seq ?_
                obtain ⟨row17645, q17646, hm17476⟩ := bind_some hm17476
                obtain ⟨h17647, e17648, e17649, _⟩ := ((((hS17479).f2).f2).f1).rows_at q17646
                obtain ⟨g17650, c17651, e17652⟩ := (((hS17479).f2).f2).arr_at e17648
                refine W_drawn (n0 := 10) hmix (by kernel_rfl) [RP.eq (Value.pointer (some ⟨b1928, 0, none⟩)), RP.eq (Value.pointer (some ⟨b1928, 0, none⟩)), RP.eq (Value.pointer (some ⟨b1928, 0, none⟩)), RP.eq (v1929), RP.eq (Value.pointer (some ⟨b11203, 1, none⟩)), RP.eq (Value.int .i64 (b1931.B)), RP.eq (Value.pointer (some ⟨g17650, 0 + (b1931.B).toNat * 1, none⟩)), RP.eq (h17647), RP.eq (Value.int .i64 ((row17645.length : Int))), RP.eq (Value.int .i64 (0))] hS17479 (HeadAll.cons ?_ (HeadAll.cons ?_ (HeadAll.cons ?_ (HeadAll.cons ?_ (HeadAll.cons ?_ (HeadAll.cons ?_ (HeadAll.cons ?_ (HeadAll.cons ?_ (HeadAll.cons ?_ (HeadAll.cons ?_ (HeadAll.nil))))))))))) ?_
                · intro g17653 s17654 w17655 l17656 hS17657 fr17658 pre17659
                  refine head_run rfl (Exec.move (v := Value.pointer (some ⟨b1928, 0, none⟩)) rfl (Eq.trans (fr17658 0 rfl) p17480) ?_)
                  exact head_done hS17657 rfl
                · intro g17660 s17661 w17662 l17663 hS17664 fr17665 pre17666
                  have p17667 : g17660 73 = (Value.pointer (some ⟨b1928, 0, none⟩)) := pre17666 0 _ rfl rfl
                  refine head_run rfl (Exec.nilCheck_ptr rfl p17667 ?_)
                  exact head_done hS17664 rfl
                · intro g17668 s17669 w17670 l17671 hS17672 fr17673 pre17674
                  have p17675 : g17668 74 = (Value.pointer (some ⟨b1928, 0, none⟩)) := pre17674 0 _ rfl rfl
                  refine head_run rfl (Exec.field F63_0 rfl p17675 rfl ?_)
                  exact head_done hS17672 rfl
                · intro g17676 s17677 w17678 l17679 hS17680 fr17681 pre17682
                  have p17683 : g17676 75 = (Value.pointer (some ⟨b1928, 0, none⟩)) := pre17682 0 _ rfl rfl
                  refine head_run rfl (Exec.load_box (hS17680) A61 rfl p17683 rfl ?_)
                  exact head_done hS17680 rfl
                · intro g17684 s17685 w17686 l17687 hS17688 fr17689 pre17690
                  refine head_run rfl (Exec.field F32_1 rfl (Eq.trans (fr17689 3 rfl) p17481) rfl ?_)
                  exact head_done hS17688 rfl
                · intro g17691 s17692 w17693 l17694 hS17695 fr17696 pre17697
                  have p17698 : g17691 77 = (Value.pointer (some ⟨b11203, 1, none⟩)) := pre17697 0 _ rfl rfl
                  refine head_run rfl (Exec.load_box ((hS17695).f3) A3 rfl p17698 rfl ?_)
                  exact head_done hS17695 rfl
                · intro g17699 s17700 w17701 l17702 hS17703 fr17704 pre17705
                  have p17706 : g17699 76 = (v1929) := pre17705 0 _ rfl rfl
                  have p17707 : g17699 78 = (Value.int .i64 (b1931.B)) := pre17705 1 _ rfl rfl
                  refine head_run rfl (Exec.index_slice S61 rfl (Eq.trans p17706 e17652) p17707 (idx_some e17648).1 (idx_some e17648).2.1 ?_)
                  exact head_done hS17703 rfl
                · intro g17708 s17709 w17710 l17711 hS17712 fr17713 pre17714
                  have p17715 : g17708 79 = (Value.pointer (some ⟨g17650, 0 + (b1931.B).toNat * 1, none⟩)) := pre17714 0 _ rfl rfl
                  refine head_run rfl (Exec.load_arr (F := encRaw) (((hS17712).f2).f2) e17652 A49 rfl p17715 rfl e17648 (Sub.refl _) ?_)
                  intro v17716 q17717
                  exact head_done hS17712 (encRaw_val.1 q17717).1
                · intro g17718 s17719 w17720 l17721 hS17722 fr17723 pre17724
                  have p17725 : g17718 80 = (h17647) := pre17724 0 _ rfl rfl
                  refine head_run rfl (Exec.len_arr (((((hS17722).f2).f2).f1).rows_split e17649 (idx_some q17646).2.2) S49 rfl p17725 ?_)
                  exact head_done hS17722 rfl
                · intro g17726 s17727 w17728 l17729 hS17730 fr17731 pre17732
                  refine head_run rfl (Exec.move (v := Value.int .i64 (0)) rfl rfl ?_)
                  exact head_done hS17730 rfl
                · intro g17733 s17734 w17735 l17736 hS17737 fr17738 hR17739
                  have p17740 : g17733 73 = (Value.pointer (some ⟨b1928, 0, none⟩)) := hR17739 0 rfl
                  have p17741 : g17733 74 = (Value.pointer (some ⟨b1928, 0, none⟩)) := hR17739 1 rfl
                  have p17742 : g17733 75 = (Value.pointer (some ⟨b1928, 0, none⟩)) := hR17739 2 rfl
                  have p17743 : g17733 76 = (v1929) := hR17739 3 rfl
                  have p17744 : g17733 77 = (Value.pointer (some ⟨b11203, 1, none⟩)) := hR17739 4 rfl
                  have p17745 : g17733 78 = (Value.int .i64 (b1931.B)) := hR17739 5 rfl
                  have p17746 : g17733 79 = (Value.pointer (some ⟨g17650, 0 + (b1931.B).toNat * 1, none⟩)) := hR17739 6 rfl
                  have p17747 : g17733 80 = (h17647) := hR17739 7 rfl
                  have p17748 : g17733 81 = (Value.int .i64 ((row17645.length : Int))) := hR17739 8 rfl
                  have p17749 : g17733 82 = (Value.int .i64 (0)) := hR17739 9 rfl
                  refine WL_nil (at_normal ?_)
                  obtain ⟨u17750, q17751, hm17476⟩ := bind_some hm17476
                  obtain ⟨l18627, hB19503, hm17476⟩ := bind_some hm17476
                  refine W_block (W_forS (fun k' s' f' w' => (fun (l18627 : (List (List Int))) => ∃ (s19504 : PHeap) , PHeap.le s17734 s19504 ∧ St w0 s19504 (Res.box b1928 63 [v1929] :: Res.arr encRaw 49 v1929 hs1930 :: Res.rows (encInt .i64) 3 hs1930 l18627 :: Res.box b11203 32 [Value.int .i64 (b1931.A), Value.int .i64 (b1931.B), Value.int .i64 (b1931.Most)] :: H) w' ∧ f' 0 = Value.pointer (some ⟨b1928, 0, none⟩) ∧ f' 3 = Value.pointer (some ⟨b11203, 0, none⟩) ∧ f' 7 = h17497 ∧ f' 61 = v1929 ∧ f' 62 = Value.int .i64 ((n1927.d.length : Int)) ∧ f' 63 = Value.int .i64 ((i11600 : Int)) ∧ f' 80 = h17647 ∧ f' 81 = Value.int .i64 ((row17645.length : Int)) ∧ f' 82 = Value.int .i64 (k' : Int)) s') hB19503 ?_ ?_ ?_)
                  · have hS19505 := (hS17737).f3
                    have hS19506 := ((hS19505).f3).f3
                    have hS19507 := (hS19506).f3
                    exact ⟨s17734, (PHeap.le_refl _), hS19507, (Eq.trans (fr17738 0 rfl) p17480), (Eq.trans (fr17738 3 rfl) p17481), (fr17738 7 rfl), (Eq.trans (fr17738 61 rfl) p17482), (Eq.trans (fr17738 62 rfl) p17483), (Eq.trans (fr17738 63 rfl) x17484), p17747, p17748, p17749⟩
                  · intro i17752 l18627 s19509 f19510 w19511 hi19512 hI19513 hm19514
                    obtain ⟨s19515, l19516, hS19517, p19518, p19519, p19520, p19521, p19522, p19523, p19524, p19525, x19526⟩ := hI19513
                    refine W_seq ?_
                    refine W_region ?_
                    refine WL_step rfl rfl (Exec.lss rfl x19526 p19525 ?_)
                    refine WL_nil (at_normal ?_)
                    refine W_seq ?_
                    refine W_true (congrArg Value.bool (decide_eq_true (by omega))) ?_
                    refine W_skip (at_normal ?_)
                    refine W_seq ?_
                    refine W_block ?_
                    refine W_seq ?_
                    refine W_region ?_
                    refine WL_step rfl rfl (Exec.move (v := Value.int .i64 ((i17752 : Int))) rfl x19526 ?_)
                    obtain ⟨row19536, q19537, hm19514⟩ := bind_some hm19514
                    obtain ⟨x19538, q19539, hm19514⟩ := bind_some hm19514
                    obtain ⟨g19540, c19541, e19542⟩ := (((((hS19517).f2).f2).f1).rows_split e17649 (idx_some q19537).2.2).arr_at q19539
                    refine WL_step rfl rfl (Exec.index_slice S49 rfl (Eq.trans p19524 e19542) x19526 (idx_some q19539).1 (idx_some q19539).2.1 ?_)
                    refine WL_step rfl rfl (Exec.load_arr (F := (encInt .i64)) (((((hS19517).f2).f2).f1).rows_split e17649 (idx_some q19537).2.2) e19542 A3 rfl rfl rfl q19539 (Sub.refl _) ?_)
                    intro v19543 q19544
                    obtain rfl := encInt_val.1 q19544
                    refine WL_step rfl rfl (Exec.assign (v := Value.int .i64 ((i17752 : Int))) rfl rfl ?_)
                    refine WL_step rfl rfl (Exec.assign (v := Value.int .i64 (x19538)) rfl rfl ?_)
                    refine WL_nil (at_normal ?_)
                    refine W_seq ?_
                    refine W_region ?_
                    refine WL_step rfl rfl (Exec.move (v := Value.int .i64 (x19538)) rfl rfl ?_)
                    refine WL_step rfl rfl (Exec.lss rfl rfl rfl ?_)
                    refine WL_nil (at_normal ?_)
                    obtain ⟨l19959, ht19960, hm19514⟩ := bind_some hm19514
                    refine W_mid (M := fun f' w' => (fun (l19959 : (List (List Int))) => ∃ (s19961 : PHeap) , PHeap.le s19515 s19961 ∧ St w0 s19961 (Res.box b1928 63 [v1929] :: Res.arr encRaw 49 v1929 hs1930 :: Res.rows (encInt .i64) 3 hs1930 l19959 :: Res.box b11203 32 [Value.int .i64 (b1931.A), Value.int .i64 (b1931.B), Value.int .i64 (b1931.Most)] :: H) w' ∧ f' 0 = Value.pointer (some ⟨b1928, 0, none⟩) ∧ f' 3 = Value.pointer (some ⟨b11203, 0, none⟩) ∧ f' 7 = h17497 ∧ f' 61 = v1929 ∧ f' 62 = Value.int .i64 ((n1927.d.length : Int)) ∧ f' 63 = Value.int .i64 ((i11600 : Int)) ∧ f' 80 = h17647 ∧ f' 81 = Value.int .i64 ((row17645.length : Int)) ∧ f' 82 = Value.int .i64 ((i17752 : Int))) l19959) ?_ ?_
                    · rcases ite_some ht19960 with ⟨hc19962, ht19960⟩ | ⟨hc19962, ht19960⟩
                      · refine W_cond_t rfl hc19962 ?_
                        obtain ⟨row20182, q20183, ht19960⟩ := bind_some ht19960
                        obtain ⟨x20184, q20185, ht19960⟩ := bind_some ht19960
                        obtain ⟨g20186, c20187, e20188⟩ := (((((hS19517).f2).f2).f1).rows_split e17499 (idx_some q20183).2.2).arr_at q20185
                        obtain ⟨x20189, q20190, ht19960⟩ := bind_some ht19960
                        obtain ⟨g20191, c20192, e20193⟩ := (((((hS19517).f2).f2).f1).rows_split e17499 (idx_some q20183).2.2).arr_at q20190
                        obtain ⟨g20194, c20195, e20196⟩ := (((((hS19517).f2).f2).f1).rows_split e17499 (idx_some q20183).2.2).arr_at q20185
                        obtain ⟨l20197, q20198, ht19960⟩ := bind_some ht19960
                        obtain ⟨l20199, q20200, ht19960⟩ := bind_some ht19960
                        have hS20201 := ((hS19517).f2).f2
                        refine W_drawn (n0 := 18) hmix (by kernel_rfl) [RP.eq (h17497), RP.eq (Value.int .i64 ((i17752 : Int))), RP.eq (h17497), RP.eq (Value.int .i64 ((i17752 : Int))), RP.eq (Value.pointer (some ⟨g20186, 0 + ((i17752 : Int)).toNat * 1, none⟩)), RP.eq (Value.int .i64 (x20184)), RP.eq (h17497), RP.eq (Value.pointer (some ⟨b11203, 0, none⟩)), RP.eq (Value.int .i64 (b1931.A)), RP.eq (Value.pointer (some ⟨g20191, 0 + (b1931.A).toNat * 1, none⟩)), RP.eq (Value.int .i64 (x20189)), RP.eq (Value.pointer (some ⟨b11203, 2, none⟩)), RP.eq (Value.int .i64 (b1931.Most)), RP.eq (Value.int .i64 (IntKind.i64.wrap (x20189 + b1931.Most))), RP.eq (Value.int .i64 (x19538)), RP.eq (Value.int .i64 (IntKind.i64.wrap ((IntKind.i64.wrap (x20189 + b1931.Most)) + x19538))), RP.eq (Value.int .i64 (min x20184 (IntKind.i64.wrap ((IntKind.i64.wrap (x20189 + b1931.Most)) + x19538)))), RP.eq (Value.pointer (some ⟨g20194, 0 + ((i17752 : Int)).toNat * 1, none⟩))] hS20201 (HeadAll.cons ?_ (HeadAll.cons ?_ (HeadAll.cons ?_ (HeadAll.cons ?_ (HeadAll.cons ?_ (HeadAll.cons ?_ (HeadAll.cons ?_ (HeadAll.cons ?_ (HeadAll.cons ?_ (HeadAll.cons ?_ (HeadAll.cons ?_ (HeadAll.cons ?_ (HeadAll.cons ?_ (HeadAll.cons ?_ (HeadAll.cons ?_ (HeadAll.cons ?_ (HeadAll.cons ?_ (HeadAll.cons ?_ (HeadAll.nil))))))))))))))))))) ?_
                        · intro g20202 s20203 w20204 l20205 hS20206 fr20207 pre20208
                          refine head_run rfl (Exec.move (v := h17497) rfl (Eq.trans (fr20207 7 rfl) p19520) ?_)
                          exact head_done hS20206 rfl
                        · intro g20209 s20210 w20211 l20212 hS20213 fr20214 pre20215
                          refine head_run rfl (Exec.move (v := Value.int .i64 ((i17752 : Int))) rfl (fr20214 8 rfl) ?_)
                          exact head_done hS20213 rfl
                        · intro g20216 s20217 w20218 l20219 hS20220 fr20221 pre20222
                          refine head_run rfl (Exec.move (v := h17497) rfl (Eq.trans (fr20221 7 rfl) p19520) ?_)
                          exact head_done hS20220 rfl
                        · intro g20223 s20224 w20225 l20226 hS20227 fr20228 pre20229
                          refine head_run rfl (Exec.move (v := Value.int .i64 ((i17752 : Int))) rfl (fr20228 8 rfl) ?_)
                          exact head_done hS20227 rfl
                        · intro g20230 s20231 w20232 l20233 hS20234 fr20235 pre20236
                          have p20237 : g20230 91 = (h17497) := pre20236 0 _ rfl rfl
                          have p20238 : g20230 92 = (Value.int .i64 ((i17752 : Int))) := pre20236 1 _ rfl rfl
                          refine head_run rfl (Exec.index_slice S49 rfl (Eq.trans p20237 e20188) p20238 (idx_some q20185).1 (idx_some q20185).2.1 ?_)
                          exact head_done hS20234 rfl
                        · intro g20239 s20240 w20241 l20242 hS20243 fr20244 pre20245
                          have p20246 : g20239 93 = (Value.pointer (some ⟨g20186, 0 + ((i17752 : Int)).toNat * 1, none⟩)) := pre20245 0 _ rfl rfl
                          refine head_run rfl (Exec.load_arr (F := (encInt .i64)) (((hS20243).f1).rows_split e17499 (idx_some q20183).2.2) e20188 A3 rfl p20246 rfl q20185 (Sub.refl _) ?_)
                          intro v20247 q20248
                          exact head_done hS20243 (encInt_val.1 q20248)
                        · intro g20249 s20250 w20251 l20252 hS20253 fr20254 pre20255
                          refine head_run rfl (Exec.move (v := h17497) rfl (Eq.trans (fr20254 7 rfl) p19520) ?_)
                          exact head_done hS20253 rfl
                        · intro g20256 s20257 w20258 l20259 hS20260 fr20261 pre20262
                          refine head_run rfl (Exec.field F32_0 rfl (Eq.trans (fr20261 3 rfl) p19519) rfl ?_)
                          exact head_done hS20260 rfl
                        · intro g20263 s20264 w20265 l20266 hS20267 fr20268 pre20269
                          have p20270 : g20263 96 = (Value.pointer (some ⟨b11203, 0, none⟩)) := pre20269 0 _ rfl rfl
                          refine head_run rfl (Exec.load_box ((hS20267).f3) A3 rfl p20270 rfl ?_)
                          exact head_done hS20267 rfl
                        · intro g20271 s20272 w20273 l20274 hS20275 fr20276 pre20277
                          have p20278 : g20271 97 = (Value.int .i64 (b1931.A)) := pre20277 1 _ rfl rfl
                          have p20279 : g20271 95 = (h17497) := pre20277 0 _ rfl rfl
                          refine head_run rfl (Exec.index_slice S49 rfl (Eq.trans p20279 e20193) p20278 (idx_some q20190).1 (idx_some q20190).2.1 ?_)
                          exact head_done hS20275 rfl
                        · intro g20280 s20281 w20282 l20283 hS20284 fr20285 pre20286
                          have p20287 : g20280 98 = (Value.pointer (some ⟨g20191, 0 + (b1931.A).toNat * 1, none⟩)) := pre20286 0 _ rfl rfl
                          refine head_run rfl (Exec.load_arr (F := (encInt .i64)) (((hS20284).f1).rows_split e17499 (idx_some q20183).2.2) e20193 A3 rfl p20287 rfl q20190 (Sub.refl _) ?_)
                          intro v20288 q20289
                          exact head_done hS20284 (encInt_val.1 q20289)
                        · intro g20290 s20291 w20292 l20293 hS20294 fr20295 pre20296
                          refine head_run rfl (Exec.field F32_2 rfl (Eq.trans (fr20295 3 rfl) p19519) rfl ?_)
                          exact head_done hS20294 rfl
                        · intro g20297 s20298 w20299 l20300 hS20301 fr20302 pre20303
                          have p20304 : g20297 100 = (Value.pointer (some ⟨b11203, 2, none⟩)) := pre20303 0 _ rfl rfl
                          refine head_run rfl (Exec.load_box ((hS20301).f3) A3 rfl p20304 rfl ?_)
                          exact head_done hS20301 rfl
                        · intro g20305 s20306 w20307 l20308 hS20309 fr20310 pre20311
                          have p20312 : g20305 99 = (Value.int .i64 (x20189)) := pre20311 0 _ rfl rfl
                          have p20313 : g20305 101 = (Value.int .i64 (b1931.Most)) := pre20311 1 _ rfl rfl
                          refine head_run rfl (Exec.add rfl p20312 p20313 ?_)
                          exact head_done hS20309 rfl
                        · intro g20314 s20315 w20316 l20317 hS20318 fr20319 pre20320
                          refine head_run rfl (Exec.move (v := Value.int .i64 (x19538)) rfl (fr20319 9 rfl) ?_)
                          exact head_done hS20318 rfl
                        · intro g20321 s20322 w20323 l20324 hS20325 fr20326 pre20327
                          have p20328 : g20321 102 = (Value.int .i64 (IntKind.i64.wrap (x20189 + b1931.Most))) := pre20327 0 _ rfl rfl
                          have p20329 : g20321 103 = (Value.int .i64 (x19538)) := pre20327 1 _ rfl rfl
                          refine head_run rfl (Exec.add rfl p20328 p20329 ?_)
                          exact head_done hS20325 rfl
                        · intro g20330 s20331 w20332 l20333 hS20334 fr20335 pre20336
                          have p20337 : g20330 104 = (Value.int .i64 (IntKind.i64.wrap ((IntKind.i64.wrap (x20189 + b1931.Most)) + x19538))) := pre20336 1 _ rfl rfl
                          have p20338 : g20330 94 = (Value.int .i64 (x20184)) := pre20336 0 _ rfl rfl
                          refine head_run rfl (Exec.min2 rfl p20338 p20337 ?_)
                          exact head_done hS20334 rfl
                        · intro g20339 s20340 w20341 l20342 hS20343 fr20344 pre20345
                          have p20346 : g20339 89 = (h17497) := pre20345 0 _ rfl rfl
                          have p20347 : g20339 90 = (Value.int .i64 ((i17752 : Int))) := pre20345 1 _ rfl rfl
                          refine head_run rfl (Exec.index_slice S49 rfl (Eq.trans p20346 e20196) p20347 (idx_some q20185).1 (idx_some q20185).2.1 ?_)
                          exact head_done hS20343 rfl
                        · intro g20348 s20349 w20350 l20351 hS20352 fr20353 hR20354
                          have p20355 : g20348 89 = (h17497) := hR20354 0 rfl
                          have p20356 : g20348 90 = (Value.int .i64 ((i17752 : Int))) := hR20354 1 rfl
                          have p20357 : g20348 91 = (h17497) := hR20354 2 rfl
                          have p20358 : g20348 92 = (Value.int .i64 ((i17752 : Int))) := hR20354 3 rfl
                          have p20359 : g20348 93 = (Value.pointer (some ⟨g20186, 0 + ((i17752 : Int)).toNat * 1, none⟩)) := hR20354 4 rfl
                          have p20360 : g20348 94 = (Value.int .i64 (x20184)) := hR20354 5 rfl
                          have p20361 : g20348 95 = (h17497) := hR20354 6 rfl
                          have p20362 : g20348 96 = (Value.pointer (some ⟨b11203, 0, none⟩)) := hR20354 7 rfl
                          have p20363 : g20348 97 = (Value.int .i64 (b1931.A)) := hR20354 8 rfl
                          have p20364 : g20348 98 = (Value.pointer (some ⟨g20191, 0 + (b1931.A).toNat * 1, none⟩)) := hR20354 9 rfl
                          have p20365 : g20348 99 = (Value.int .i64 (x20189)) := hR20354 10 rfl
                          have p20366 : g20348 100 = (Value.pointer (some ⟨b11203, 2, none⟩)) := hR20354 11 rfl
                          have p20367 : g20348 101 = (Value.int .i64 (b1931.Most)) := hR20354 12 rfl
                          have p20368 : g20348 102 = (Value.int .i64 (IntKind.i64.wrap (x20189 + b1931.Most))) := hR20354 13 rfl
                          have p20369 : g20348 103 = (Value.int .i64 (x19538)) := hR20354 14 rfl
                          have p20370 : g20348 104 = (Value.int .i64 (IntKind.i64.wrap ((IntKind.i64.wrap (x20189 + b1931.Most)) + x19538))) := hR20354 15 rfl
                          have p20371 : g20348 105 = (Value.int .i64 (min x20184 (IntKind.i64.wrap ((IntKind.i64.wrap (x20189 + b1931.Most)) + x19538)))) := hR20354 16 rfl
                          have p20372 : g20348 106 = (Value.pointer (some ⟨g20194, 0 + ((i17752 : Int)).toNat * 1, none⟩)) := hR20354 17 rfl
                          refine WL_step rfl rfl (Exec.store_arr (((hS20352).f1).rows_split e17499 (idx_some q20183).2.2) e20196 A3 rfl p20372 rfl p20371 (encInt_val.2 rfl) q20198 ?_)
                          intro w20373 hS20374
                          have hS20375 := (hS20374).rows_back e17499 (setI_some q20200).2.1
                          rw [← (setI_some q20200).2.2] at hS20375
                          have hS20376 := (hS20375).f1
                          refine WL_nil (at_normal ?_)
                          have e20377 := Option.some.inj ht19960
                          subst l19959
                          have hS20378 := (hS20376).f3
                          have hS20379 := ((hS20378).f2).f2
                          have hS20380 := (hS20379).f3
                          exact ⟨s20349, l20351, hS20380, (Eq.trans (fr20353 0 rfl) p19518), (Eq.trans (fr20353 3 rfl) p19519), (Eq.trans (fr20353 7 rfl) p19520), (Eq.trans (fr20353 61 rfl) p19521), (Eq.trans (fr20353 62 rfl) p19522), (Eq.trans (fr20353 63 rfl) p19523), (Eq.trans (fr20353 80 rfl) p19524), (Eq.trans (fr20353 81 rfl) p19525), (Eq.trans (fr20353 82 rfl) x19526)⟩
                      · refine W_cond_f rfl hc19962 ?_
                        replace hc19962 := not_true hc19962
                        refine W_skip (at_normal ?_)
                        have e20381 := Option.some.inj ht19960
                        subst l19959
                        have hS20382 := (hS19517).f3
                        have hS20383 := ((hS20382).f3).f3
                        have hS20384 := (hS20383).f3
                        exact ⟨s19515, (PHeap.le_refl _), hS20384, p19518, p19519, p19520, p19521, p19522, p19523, p19524, p19525, x19526⟩
                    · intro f20385 w20386 hM20387
                      obtain ⟨s20388, l20389, hS20390, p20391, p20392, p20393, p20394, p20395, p20396, p20397, p20398, p20399⟩ := hM20387
                      refine (ib_normal (at_normal ?_))
                      refine W_region ?_
                      refine WL_step rfl rfl (Exec.add rfl p20399 rfl ?_)
                      refine WL_step rfl rfl (Exec.move (v := Value.int .i64 (IntKind.i64.wrap ((i17752 : Int) + 1))) rfl rfl ?_)
                      refine WL_nil (at_normal ?_)
                      have e20400 := Option.some.inj hm19514
                      subst s19509
                      have hS20401 := (hS20390).f3
                      have hS20402 := ((hS20401).f3).f3
                      have hS20403 := (hS20402).f3
                      exact ⟨s20388, (PHeap.le.trans l19516 l20389), hS20403, p20391, p20392, p20393, p20394, p20395, p20396, p20397, p20398, (Eq.trans rfl (wrap_up hi19512 (by have h := must_some q17751; simpa [maxLen] using h)))⟩
                  · intro f20404 w20405 hI20406
                    obtain ⟨s20407, l20408, hS20409, p20410, p20411, p20412, p20413, p20414, p20415, p20416, p20417, x20418⟩ := hI20406
                    refine W_seq ?_
                    refine W_region ?_
                    refine WL_step rfl rfl (Exec.lss rfl x20418 p20417 ?_)
                    refine WL_nil (at_normal ?_)
                    refine W_seq ?_
                    refine W_false (congrArg Value.bool (decide_eq_false (by omega))) ?_
                    refine W_exit (at_exit (at_exit (ib_here (ib_normal (at_normal ?_)))))
                    refine W_region ?_
                    refine WL_step rfl rfl (Exec.add rfl p20415 rfl ?_)
                    refine WL_step rfl rfl (Exec.move (v := Value.int .i64 (IntKind.i64.wrap ((i11600 : Int) + 1))) rfl rfl ?_)
                    refine WL_nil (at_normal ?_)
                    have e20419 := Option.some.inj hm17476
                    subst s17471
                    have hS20420 := (hS20409).f3
                    have hS20421 := ((hS20420).f3).f3
                    have hS20422 := (hS20421).f3
                    exact ⟨s20407, (PHeap.le.trans (PHeap.le.trans l17478 l17736) l20408), hS20422, p20410, p20411, p20413, p20414, (Eq.trans rfl (wrap_up hi17474 (by have h := (((hS11590).f2).f2).f1.rows_len; have h2 := (((hS11590).f2).f2).arr_le; omega)))⟩
            · intro f20423 w20424 hI20425
              obtain ⟨s20426, l20427, hS20428, p20429, p20430, p20431, p20432, x20433⟩ := hI20425
              refine W_seq ?_
              refine W_region ?_
              refine WL_step rfl rfl (Exec.lss rfl x20433 p20432 ?_)
              refine WL_nil (at_normal ?_)
              refine W_seq ?_
              refine W_false (congrArg Value.bool (decide_eq_false (by omega))) ?_
              refine W_exit (at_exit (at_exit (ib_here (at_normal ?_))))
              refine W_seq ?_
              refine W_region ?_
              refine WL_step rfl rfl (Exec.assign (v := errV 30 (none)) rfl rfl ?_)
              refine WL_nil (at_normal ?_)
              refine W_ret ?_
              have e20435 := Option.some.inj hm
              subst r
              refine ⟨_, ret1 rfl, ?_⟩
              have hS20436 := ((hS20428).f3).drop
              have hS20437 := ((hS20436).f2).f2
              have hS20438 := (hS20437).f2
              exact ⟨s20426, (PHeap.le.trans (PHeap.le.trans (PHeap.le.trans l11259 l11559) l11589) l20427), hS20438, rfl⟩

theorem N19 : (Try.f19.name == "runtime.NumGoroutine") = false := by kernel_rfl

theorem law54_made_sim {w0 w : World} {s : PHeap} {H : List Res} {n14 : Int} {bounds15 : (List Bound)} {v16 : Value} {r : (Option stn_Network) × Bool} (hm : law54_made_p n14 bounds15 = some r) (hS : St w0 s (H) w) (a17 : SliceRep encBound s v16 bounds15) :
    Calls Try.prog 19 #[Value.int .i64 (n14), v16] w fun e w' => ∃ v, e = .returned v ∧ ((un2 fun (p_d20668 : (Option stn_Network)) (y20669 : Bool) => (∃ d20668 : stn_Network, p_d20668 = some d20668 ∧ ∃ (s20673 : PHeap) (b20670 : Nat) (v20671 : Value) (hs20672 : List Value), PHeap.le s s20673 ∧ St w0 s20673 (Res.box b20670 63 [v20671] :: Res.arr encRaw 49 v20671 hs20672 :: Res.rows (encInt .i64) 3 hs20672 d20668.d :: H) w' ∧ v = Value.tuple #[Value.pointer (some ⟨b20670, 0, none⟩), Value.bool (y20669)]) ∨ (p_d20668 = none ∧ ∃ (s20674 : PHeap) , PHeap.le s s20674 ∧ St w0 s20674 (H) w' ∧ v = Value.tuple #[Value.pointer none, Value.bool (y20669)])) r) := by
  unfold law54_made_p at hm
  refine calls_of_W Try.func19 rfl rfl ?_
  refine W_seq ?_
  refine W_region ?_
  refine WL_step rfl rfl (Exec.assign (v := Value.pointer none) rfl rfl ?_)
  refine WL_step rfl rfl (Exec.assign (v := Value.bool (false)) rfl rfl ?_)
  refine WL_nil (at_normal ?_)
  refine W_seq ?_
  refine W_region ?_
  refine WL_step rfl rfl (Exec.move (v := Value.int .i64 (n14)) rfl rfl ?_)
  obtain ⟨t20693, q20694, hm⟩ := bind_some hm
  obtain ⟨pd20695, y20696⟩ := t20693
  replace hm := un2_eq hm
  refine WL_step rfl rfl (Exec.call rfl rfl Try.func10 rfl N10 (args_cons rfl args_nil) ((stn_New_sim q20694 hS ).mono ?_))
  rintro _ w20697 ⟨_, rfl, hp20698⟩
  refine ⟨_, rfl, ?_⟩
  rcases hp20698 with ⟨d20699, rfl, s20700, v20703, v20704, v20705, l20701, hS20702, rfl⟩ | ⟨rfl, s20707, l20708, hS20709, rfl⟩
  · replace hm := optC_some hm
    refine WL_step rfl rfl (Exec.move (v := Value.tuple #[Value.pointer (some ⟨v20703, 0, none⟩), errV 30 (y20696)]) rfl rfl ?_)
    refine WL_step rfl rfl (Exec.extract (v := Value.pointer (some ⟨v20703, 0, none⟩)) rfl rfl rfl ?_)
    refine WL_step rfl rfl (Exec.extract (v := errV 30 (y20696)) rfl rfl rfl ?_)
    refine WL_step rfl rfl (Exec.assign (v := Value.pointer (some ⟨v20703, 0, none⟩)) rfl rfl ?_)
    refine WL_step rfl rfl (Exec.assign (v := errV 30 (y20696)) rfl rfl ?_)
    refine WL_nil (at_normal ?_)
    refine W_seq ?_
    refine W_seq ?_
    refine W_mid (M := fun f' w' => ∃ (s20712 : PHeap) , PHeap.le s20700 s20712 ∧ St w0 s20712 (Res.box v20703 63 [v20704] :: Res.arr encRaw 49 v20704 v20705 :: Res.rows (encInt .i64) 3 v20705 d20699.d :: H) w' ∧ f' 1 = v16 ∧ f' 6 = Value.pointer (some ⟨v20703, 0, none⟩) ∧ f' 20 = Value.bool ((y20696.isSome && true))) ?_ ?_
    · refine W_region ?_
      refine WL_step rfl rfl (Exec.move (v := errV 30 (y20696)) rfl rfl ?_)
      refine WL_step rfl rfl (Exec.err_neq_nil (T := 30) Try.underlying26 rfl rfl rfl ?_)
      refine WL_step rfl rfl (Exec.move (v := Value.bool (y20696.isSome)) rfl rfl ?_)
      by_cases hc20713 : y20696.isSome = true
      · refine WL_pass rfl (yield_of rfl (congrArg Value.bool hc20713)) rfl rfl ?_
        refine WL_pass rfl (yield_of rfl (congrArg Value.bool hc20713)) rfl rfl ?_
        refine WL_step rfl rfl (Exec.pick_t (v := Value.bool (true)) rfl (congrArg Value.bool hc20713) rfl ?_)
        refine WL_nil (at_normal ?_)
        have hS20714 := ((hS20702).f2).f2
        have hS20715 := (hS20714).f2
        exact ⟨s20700, (PHeap.le_refl _), hS20715, rfl, rfl, (congrArg Value.bool (and_t hc20713)).symm⟩
      · replace hc20713 := not_true hc20713
        refine WL_run rfl (yield_of rfl (congrArg Value.bool hc20713)) rfl (Exec.move (v := Value.pointer (some ⟨v20703, 0, none⟩)) rfl rfl ?_)
        refine WL_run rfl (yield_of rfl (congrArg Value.bool hc20713)) rfl (Exec.ptr_eql_nil Try.underlying24 rfl rfl rfl ?_)
        refine WL_step rfl rfl (Exec.pick_f (v := Value.bool (false)) rfl (congrArg Value.bool hc20713) rfl ?_)
        refine WL_nil (at_normal ?_)
        have hS20716 := ((hS20702).f2).f2
        have hS20717 := (hS20716).f2
        exact ⟨s20700, (PHeap.le_refl _), hS20717, rfl, rfl, (congrArg Value.bool (and_f hc20713)).symm⟩
    · intro f20718 w20719 hM20720
      obtain ⟨s20721, l20722, hS20723, p20724, p20725, p20726⟩ := hM20720
      refine (at_normal ?_)
      rcases ite_some hm with ⟨hc20727, hm⟩ | ⟨hc20727, hm⟩
      · refine W_cond_t p20726 hc20727 ?_
        refine W_seq ?_
        refine W_region ?_
        refine WL_step rfl rfl (Exec.assign (v := Value.pointer none) rfl rfl ?_)
        refine WL_step rfl rfl (Exec.assign (v := Value.bool (false)) rfl rfl ?_)
        refine WL_nil (at_normal ?_)
        refine W_ret (at_ret ?_)
        have e20729 := Option.some.inj hm
        subst r
        refine ⟨_, ret2 rfl, ?_⟩
        have hS20730 := (hS20723).drop
        have hS20731 := ((hS20730).drop).drop
        refine (Or.inr ⟨rfl, ?_⟩); exact ⟨s20721, (PHeap.le.trans l20701 l20722), hS20731, (tup2 rfl rfl)⟩
      · refine W_cond_f p20726 hc20727 ?_
        replace hc20727 := not_true hc20727
        refine W_skip (at_normal ?_)
        refine W_seq ?_
        refine W_seq ?_
        refine W_region ?_
        refine WL_step rfl rfl (Exec.move (v := v16) rfl p20724 ?_)
        refine WL_step rfl rfl (Exec.len_rep S22 rfl rfl (a17.mono (PHeap.le.trans l20701 l20722)) ?_)
        refine WL_step rfl rfl (Exec.move (v := Value.int .i64 (0)) rfl rfl ?_)
        refine WL_nil (at_normal ?_)
        obtain ⟨c20875, hB20876, hr20877, hn20878, hb20879⟩ := ctl_some hm
        refine W_mid (M := fun f' w' => ∃ s', (c20875 = .next s' ∨ c20875 = .brk s') ∧ (fun (l20874 : (List (List Int))) => ∃ (s20881 : PHeap) , PHeap.le s20721 s20881 ∧ St w0 s20881 (Res.box v20703 63 [v20704] :: Res.arr encRaw 49 v20704 v20705 :: Res.rows (encInt .i64) 3 v20705 l20874 :: H) w' ∧ f' 6 = Value.pointer (some ⟨v20703, 0, none⟩) ∧ f' 21 = v16 ∧ f' 22 = Value.int .i64 ((bounds15.length : Int))) s') ?_ ?_
        · refine W_block (W_forC (fun k' s' f' w' => (fun (l20779 : (List (List Int))) => ∃ (s20880 : PHeap) , PHeap.le s20721 s20880 ∧ St w0 s20880 (Res.box v20703 63 [v20704] :: Res.arr encRaw 49 v20704 v20705 :: Res.rows (encInt .i64) 3 v20705 l20779 :: H) w' ∧ f' 6 = Value.pointer (some ⟨v20703, 0, none⟩) ∧ f' 21 = v16 ∧ f' 22 = Value.int .i64 ((bounds15.length : Int)) ∧ f' 23 = Value.int .i64 (k' : Int)) s') hB20876 ?_ ?_ ?_)
          · have hS20882 := ((hS20723).f2).f2
            have hS20883 := (hS20882).f2
            exact ⟨s20721, (PHeap.le_refl _), hS20883, p20725, rfl, rfl, rfl⟩
          · intro i20732 l20779 c20885 f20886 w20887 hi20891 hI20888 hm20889 hres20890
            obtain ⟨s20892, l20893, hS20894, p20895, p20896, p20897, x20898⟩ := hI20888
            refine W_seq ?_
            refine W_region ?_
            refine WL_step rfl rfl (Exec.lss rfl x20898 p20897 ?_)
            refine WL_nil (at_normal ?_)
            refine W_seq ?_
            refine W_true (congrArg Value.bool (decide_eq_true (by omega))) ?_
            refine W_skip (at_normal ?_)
            refine W_seq ?_
            refine W_block ?_
            refine W_seq ?_
            refine W_region ?_
            obtain ⟨x20911, q20912, hm20889⟩ := bind_some hm20889
            refine WL_step rfl rfl (Exec.index_rep S22 rfl p20896 x20898 (a17.mono (PHeap.le.trans (PHeap.le.trans l20701 l20722) l20893)) q20912 ?_)
            intro b20913 o20914 a20915
            refine WL_step rfl rfl (Exec.load_at (E := encBound) hS20894 A32 rfl rfl rfl a20915 ?_)
            intro v20916 q20917
            obtain rfl := encBound_val.1 q20917
            refine WL_step rfl rfl (Exec.alloc (cs := [Value.int .i64 (0), Value.int .i64 (0), Value.int .i64 (0)]) hS20894 Z32 rfl rfl ?_)
            intro b20918 w20919 hS20920
            refine WL_step rfl rfl (Exec.store_box (ds := [Value.int .i64 (x20911.A), Value.int .i64 (x20911.B), Value.int .i64 (x20911.Most)]) (es := [Value.int .i64 (x20911.A), Value.int .i64 (x20911.B), Value.int .i64 (x20911.Most)]) hS20920 A32 rfl rfl rfl rfl (one_cons rfl (one_cons rfl (one_cons rfl one_nil))) (Nat.le_of_ble_eq_true rfl) rfl ?_)
            intro w20921 hS20922
            refine WL_nil (at_normal ?_)
            refine W_seq ?_
            refine W_region ?_
            refine WL_step rfl rfl (Exec.move (v := Value.pointer (some ⟨v20703, 0, none⟩)) rfl p20895 ?_)
            refine WL_step rfl rfl (Exec.load_box_agg (ds := [Value.int .i64 (x20911.A), Value.int .i64 (x20911.B), Value.int .i64 (x20911.Most)]) (hS20922) A32 rfl rfl rfl ?_)
            obtain ⟨t20933, q20934, hm20889⟩ := bind_some hm20889
            obtain ⟨y20935, l20936⟩ := t20933
            replace hm20889 := un2_eq hm20889
            have hS20937 := ((hS20922).f3).f3
            have hS20938 := (hS20937).f3
            refine WL_step rfl rfl (Exec.call rfl rfl Try.func14 rfl N14 (args_cons rfl (args_cons rfl args_nil)) ((stn_Network_Add_sim q20934 hS20938 ).mono ?_))
            rintro _ w20939 ⟨_, rfl, ⟨s20940, l20941, hS20942, rfl⟩⟩
            refine ⟨_, rfl, ?_⟩
            refine WL_step rfl rfl (Exec.err_neq_nil (T := 30) Try.underlying26 rfl rfl rfl ?_)
            refine WL_nil (at_normal ?_)
            rcases ite_some hm20889 with ⟨hc20943, hm20889⟩ | ⟨hc20943, hm20889⟩
            · refine W_cond_t rfl hc20943 ?_
              refine W_seq ?_
              refine W_region ?_
              refine WL_step rfl rfl (Exec.assign (v := Value.pointer none) rfl rfl ?_)
              refine WL_step rfl rfl (Exec.assign (v := Value.bool (false)) rfl rfl ?_)
              refine WL_nil (at_normal ?_)
              refine W_ret (ib_ret (at_ret (at_ret (ib_ret (at_ret (at_ret ?_))))))
              have e20944 := Option.some.inj hm20889
              subst c20885
              have hq20945 := hr20877 _ (hres20890 (by intro _ h; cases h))
              have e20946 := Option.some.inj hq20945
              subst r
              refine ⟨_, ret2 rfl, ?_⟩
              have hS20947 := (hS20942).drop
              have hS20948 := ((hS20947).drop).drop
              have hS20949 := (hS20948).drop
              refine (Or.inr ⟨rfl, ?_⟩); exact ⟨s20940, (PHeap.le.trans (PHeap.le.trans (PHeap.le.trans l20701 l20722) l20893) l20941), hS20949, (tup2 rfl rfl)⟩
            · refine W_cond_f rfl hc20943 ?_
              replace hc20943 := not_true hc20943
              refine W_skip (ib_normal (at_normal ?_))
              refine W_region ?_
              refine WL_step rfl rfl (Exec.add rfl x20898 rfl ?_)
              refine WL_step rfl rfl (Exec.move (v := Value.int .i64 (IntKind.i64.wrap ((i20732 : Int) + 1))) rfl rfl ?_)
              refine WL_nil (at_normal ?_)
              have e20950 := Option.some.inj hm20889
              subst c20885
              have hS20951 := ((hS20942).f3).drop
              have hS20952 := ((hS20951).f2).f2
              have hS20953 := (hS20952).f2
              refine ⟨_, rfl, ?_⟩; exact ⟨s20940, (PHeap.le.trans l20893 l20941), hS20953, p20895, p20896, p20897, (Eq.trans rfl (wrap_up hi20891 (SliceRep.le (a17.mono (PHeap.le.trans l20701 l20722)))))⟩
          · intro l20779 f20954 w20955 hI20956 hres20957
            obtain ⟨s20958, l20959, hS20960, p20961, p20962, p20963, x20964⟩ := hI20956
            refine W_seq ?_
            refine W_region ?_
            refine WL_step rfl rfl (Exec.lss rfl x20964 p20963 ?_)
            refine WL_nil (at_normal ?_)
            refine W_seq ?_
            refine W_false (congrArg Value.bool (decide_eq_false (by omega))) ?_
            refine W_exit (at_exit (at_exit (ib_here (at_normal ?_))))
            have hS20965 := ((hS20960).f2).f2
            have hS20966 := (hS20965).f2
            refine ⟨_, .inl hres20957, ?_⟩; exact ⟨s20958, l20959, hS20966, p20961, p20962, p20963⟩
        · rintro f20967 w20968 ⟨l20874, hc20969, hM20970⟩
          have hm := hc20969.elim (hn20878 _) (hb20879 _)
          clear hc20969
          obtain ⟨s20971, l20972, hS20973, p20974, p20975, p20976⟩ := hM20970
          refine (at_normal ?_)
          refine W_seq ?_
          refine W_region ?_
          refine WL_step rfl rfl (Exec.move (v := Value.pointer (some ⟨v20703, 0, none⟩)) rfl p20974 ?_)
          refine WL_step rfl rfl (Exec.assign (v := Value.pointer (some ⟨v20703, 0, none⟩)) rfl rfl ?_)
          refine WL_step rfl rfl (Exec.assign (v := Value.bool (true)) rfl rfl ?_)
          refine WL_nil (at_normal ?_)
          refine W_ret ?_
          have e20978 := Option.some.inj hm
          subst r
          refine ⟨_, ret2 rfl, ?_⟩
          have hS20979 := ((hS20973).f2).f2
          have hS20980 := (hS20979).f2
          refine (Or.inl ⟨_, rfl, ?_⟩); exact ⟨s20971, v20703, v20704, v20705, (PHeap.le.trans (PHeap.le.trans l20701 l20722) l20972), hS20980, (tup2 rfl rfl)⟩
  · replace hm := optC_none hm
    refine WL_step rfl rfl (Exec.move (v := Value.tuple #[Value.pointer none, errV 30 (y20696)]) rfl rfl ?_)
    refine WL_step rfl rfl (Exec.extract (v := Value.pointer none) rfl rfl rfl ?_)
    refine WL_step rfl rfl (Exec.extract (v := errV 30 (y20696)) rfl rfl rfl ?_)
    refine WL_step rfl rfl (Exec.assign (v := Value.pointer none) rfl rfl ?_)
    refine WL_step rfl rfl (Exec.assign (v := errV 30 (y20696)) rfl rfl ?_)
    refine WL_nil (at_normal ?_)
    refine W_seq ?_
    refine W_seq ?_
    obtain ⟨t20982, ht20983, hm⟩ := bind_some hm
    refine W_mid (M := fun f' w' => (fun (_ : Unit) => ∃ (s20984 : PHeap) , PHeap.le s20707 s20984 ∧ St w0 s20984 (H) w' ∧ f' 1 = v16 ∧ f' 6 = Value.pointer none ∧ f' 20 = Value.bool (true)) t20982) ?_ ?_
    · refine W_region ?_
      refine WL_step rfl rfl (Exec.move (v := errV 30 (y20696)) rfl rfl ?_)
      refine WL_step rfl rfl (Exec.err_neq_nil (T := 30) Try.underlying26 rfl rfl rfl ?_)
      refine WL_step rfl rfl (Exec.move (v := Value.bool (y20696.isSome)) rfl rfl ?_)
      rcases ite_some ht20983 with ⟨hc20985, ht20983⟩ | ⟨hc20985, ht20983⟩
      · refine WL_pass rfl (yield_of rfl (congrArg Value.bool hc20985)) rfl rfl ?_
        refine WL_pass rfl (yield_of rfl (congrArg Value.bool hc20985)) rfl rfl ?_
        refine WL_step rfl rfl (Exec.pick_t (v := Value.bool (true)) rfl (congrArg Value.bool hc20985) rfl ?_)
        refine WL_nil (at_normal ?_)
        have e20986 := Option.some.inj ht20983
        subst t20982
        exact ⟨s20707, (PHeap.le_refl _), hS20709, rfl, rfl, rfl⟩
      · replace hc20985 := not_true hc20985
        refine WL_run rfl (yield_of rfl (congrArg Value.bool hc20985)) rfl (Exec.move (v := Value.pointer none) rfl rfl ?_)
        refine WL_run rfl (yield_of rfl (congrArg Value.bool hc20985)) rfl (Exec.ptr_eql_nil Try.underlying24 rfl rfl rfl ?_)
        refine WL_step rfl rfl (Exec.pick_f (v := Value.bool (true)) rfl (congrArg Value.bool hc20985) rfl ?_)
        refine WL_nil (at_normal ?_)
        have e20987 := Option.some.inj ht20983
        subst t20982
        exact ⟨s20707, (PHeap.le_refl _), hS20709, rfl, rfl, rfl⟩
    · intro f20988 w20989 hM20990
      obtain ⟨s20991, l20992, hS20993, p20994, p20995, p20996⟩ := hM20990
      refine (at_normal ?_)
      refine W_true p20996 ?_
      refine W_seq ?_
      refine W_region ?_
      refine WL_step rfl rfl (Exec.assign (v := Value.pointer none) rfl rfl ?_)
      refine WL_step rfl rfl (Exec.assign (v := Value.bool (false)) rfl rfl ?_)
      refine WL_nil (at_normal ?_)
      refine W_ret (at_ret ?_)
      have e20998 := Option.some.inj hm
      subst r
      refine ⟨_, ret2 rfl, ?_⟩
      refine (Or.inr ⟨rfl, ?_⟩); exact ⟨s20991, (PHeap.le.trans l20708 l20992), hS20993, (tup2 rfl rfl)⟩

theorem N15 : (Try.f15.name == "runtime.NumGoroutine") = false := by kernel_rfl

theorem stn_Network_Distance_sim {w0 w : World} {s : PHeap} {H : List Res} {n21055 : stn_Network} {a21059 : Int} {b21060 : Int} {b21056 : Nat} {v21057 : Value} {hs21058 : List Value} {r : Int × (Option Int)} (hm : stn_Network_Distance_p n21055 a21059 b21060 = some r) (hS : St w0 s (Res.box b21056 63 [v21057] :: Res.arr encRaw 49 v21057 hs21058 :: Res.rows (encInt .i64) 3 hs21058 n21055.d :: H) w)  :
    Calls Try.prog 15 #[Value.pointer (some ⟨b21056, 0, none⟩), Value.int .i64 (a21059), Value.int .i64 (b21060)] w fun e w' => ∃ v, e = .returned v ∧ ((un2 fun (y21138 : Int) (y21139 : (Option Int)) => ∃ (s21140 : PHeap) , PHeap.le s s21140 ∧ St w0 s21140 (Res.box b21056 63 [v21057] :: Res.arr encRaw 49 v21057 hs21058 :: Res.rows (encInt .i64) 3 hs21058 n21055.d :: H) w' ∧ v = Value.tuple #[Value.int .i64 (y21138), errV 30 (y21139)]) r) := by
  unfold stn_Network_Distance_p at hm
  refine calls_of_W Try.func15 rfl rfl ?_
  refine W_seq ?_
  refine W_region ?_
  refine WL_step rfl rfl (Exec.assign (v := Value.int .i64 (0)) rfl rfl ?_)
  refine WL_step rfl rfl (Exec.assign (v := errV 30 (none)) rfl rfl ?_)
  refine WL_nil (at_normal ?_)
  refine W_seq ?_
  refine W_seq ?_
  refine W_region ?_
  refine WL_step rfl rfl (Exec.move (v := Value.pointer (some ⟨b21056, 0, none⟩)) rfl rfl ?_)
  refine WL_step rfl rfl (Exec.ptr_eql_nil Try.underlying24 rfl rfl rfl ?_)
  refine WL_nil (at_normal ?_)
  refine W_false rfl ?_
  refine W_skip (at_normal ?_)
  refine W_seq ?_
  refine W_seq ?_
  refine W_mid (M := fun f' w' => ∃ (s21154 : PHeap) , PHeap.le s s21154 ∧ St w0 s21154 (Res.box b21056 63 [v21057] :: Res.arr encRaw 49 v21057 hs21058 :: Res.rows (encInt .i64) 3 hs21058 n21055.d :: H) w' ∧ f' 0 = Value.pointer (some ⟨b21056, 0, none⟩) ∧ f' 1 = Value.int .i64 (a21059) ∧ f' 2 = Value.int .i64 (b21060) ∧ f' 20 = Value.bool (((!(stn_Network_point_t n21055 a21059)) || !(stn_Network_point_t n21055 b21060)))) ?_ ?_
  · refine W_region ?_
    refine WL_step rfl rfl (Exec.move (v := Value.pointer (some ⟨b21056, 0, none⟩)) rfl rfl ?_)
    refine WL_step rfl rfl (Exec.move (v := Value.int .i64 (a21059)) rfl rfl ?_)
    have hS21155 := ((hS).f2).f2
    have hS21156 := (hS21155).f2
    refine WL_step rfl rfl (Exec.call rfl rfl Try.func26 rfl N26 (args_cons rfl (args_cons rfl args_nil)) ((stn_Network_point_sim (stn_Network_point_tot n21055 a21059) hS21156 ).mono ?_))
    rintro _ w21157 ⟨_, rfl, ⟨s21158, l21159, hS21160, rfl⟩⟩
    refine ⟨_, rfl, ?_⟩
    refine WL_step rfl rfl (Exec.not rfl rfl ?_)
    refine WL_step rfl rfl (Exec.move (v := Value.bool (!(stn_Network_point_t n21055 a21059))) rfl rfl ?_)
    by_cases hc21161 : (!(stn_Network_point_t n21055 a21059)) = true
    · refine WL_pass rfl (yield_of rfl (congrArg Value.bool hc21161)) rfl rfl ?_
      refine WL_pass rfl (yield_of rfl (congrArg Value.bool hc21161)) rfl rfl ?_
      refine WL_pass rfl (yield_of rfl (congrArg Value.bool hc21161)) rfl rfl ?_
      refine WL_pass rfl (yield_of rfl (congrArg Value.bool hc21161)) rfl rfl ?_
      refine WL_step rfl rfl (Exec.pick_t (v := Value.bool (true)) rfl (congrArg Value.bool hc21161) rfl ?_)
      refine WL_nil (at_normal ?_)
      have hS21162 := ((hS21160).f2).f2
      have hS21163 := (hS21162).f2
      exact ⟨s21158, l21159, hS21163, rfl, rfl, rfl, (congrArg Value.bool (or_t hc21161)).symm⟩
    · replace hc21161 := not_true hc21161
      refine WL_run rfl (yield_of rfl (congrArg Value.bool hc21161)) rfl (Exec.move (v := Value.pointer (some ⟨b21056, 0, none⟩)) rfl rfl ?_)
      refine WL_run rfl (yield_of rfl (congrArg Value.bool hc21161)) rfl (Exec.move (v := Value.int .i64 (b21060)) rfl rfl ?_)
      have hS21164 := ((hS21160).f2).f2
      have hS21165 := (hS21164).f2
      refine WL_run rfl (yield_of rfl (congrArg Value.bool hc21161)) rfl (Exec.call rfl rfl Try.func26 rfl N26 (args_cons rfl (args_cons rfl args_nil)) ((stn_Network_point_sim (stn_Network_point_tot n21055 b21060) hS21165 ).mono ?_))
      rintro _ w21166 ⟨_, rfl, ⟨s21167, l21168, hS21169, rfl⟩⟩
      refine ⟨_, rfl, ?_⟩
      refine WL_run rfl (yield_of rfl (congrArg Value.bool hc21161)) rfl (Exec.not rfl rfl ?_)
      refine WL_step rfl rfl (Exec.pick_f (v := Value.bool (!(stn_Network_point_t n21055 b21060))) rfl (congrArg Value.bool hc21161) rfl ?_)
      refine WL_nil (at_normal ?_)
      have hS21170 := ((hS21169).f2).f2
      have hS21171 := (hS21170).f2
      exact ⟨s21167, (PHeap.le.trans l21159 l21168), hS21171, rfl, rfl, rfl, (congrArg Value.bool (or_f hc21161)).symm⟩
  · intro f21172 w21173 hM21174
    obtain ⟨s21175, l21176, hS21177, p21178, p21179, p21180, p21181⟩ := hM21174
    refine (at_normal ?_)
    rcases ite_some hm with ⟨hc21182, hm⟩ | ⟨hc21182, hm⟩
    · refine W_cond_t p21181 hc21182 ?_
      refine W_seq ?_
      refine W_region ?_
      refine WL_step rfl rfl (Exec.makeInterface C30 rfl rfl ?_)
      refine WL_step rfl rfl (Exec.assign (v := Value.int .i64 (0)) rfl rfl ?_)
      refine WL_step rfl rfl (Exec.assign (v := errV 30 (some 1)) rfl rfl ?_)
      refine WL_nil (at_normal ?_)
      refine W_ret (at_ret ?_)
      have e21184 := Option.some.inj hm
      subst r
      refine ⟨_, ret2 rfl, ?_⟩
      have hS21185 := ((hS21177).f2).f2
      have hS21186 := (hS21185).f2
      exact ⟨s21175, l21176, hS21186, (tup2 rfl rfl)⟩
    · refine W_cond_f p21181 hc21182 ?_
      replace hc21182 := not_true hc21182
      refine W_skip (at_normal ?_)
      refine W_seq ?_
      refine W_region ?_
      refine WL_step rfl rfl (Exec.move (v := Value.pointer (some ⟨b21056, 0, none⟩)) rfl p21178 ?_)
      refine WL_step rfl rfl (Exec.nilCheck_ptr rfl rfl ?_)
      refine WL_step rfl rfl (Exec.field F63_0 rfl rfl rfl ?_)
      refine WL_step rfl rfl (Exec.load_box (hS21177) A61 rfl rfl rfl ?_)
      refine WL_step rfl rfl (Exec.move (v := Value.int .i64 (a21059)) rfl p21179 ?_)
      obtain ⟨row21204, q21205, hm⟩ := bind_some hm
      obtain ⟨h21206, e21207, e21208, _⟩ := ((((hS21177).f2).f2).f1).rows_at q21205
      obtain ⟨g21209, c21210, e21211⟩ := (((hS21177).f2).f2).arr_at e21207
      refine WL_step rfl rfl (Exec.index_slice S61 rfl e21211 rfl (idx_some e21207).1 (idx_some e21207).2.1 ?_)
      refine WL_step rfl rfl (Exec.load_arr (F := encRaw) (((hS21177).f2).f2) e21211 A49 rfl rfl rfl e21207 (Sub.refl _) ?_)
      intro v21212 q21213
      replace q21213 := (encRaw_val.1 q21213).1
      subst v21212
      refine WL_step rfl rfl (Exec.move (v := Value.int .i64 (b21060)) rfl p21180 ?_)
      obtain ⟨x21214, q21215, hm⟩ := bind_some hm
      obtain ⟨g21216, c21217, e21218⟩ := (((((hS21177).f2).f2).f1).rows_split e21208 (idx_some q21205).2.2).arr_at q21215
      refine WL_step rfl rfl (Exec.index_slice S49 rfl e21218 rfl (idx_some q21215).1 (idx_some q21215).2.1 ?_)
      refine WL_step rfl rfl (Exec.load_arr (F := (encInt .i64)) (((((hS21177).f2).f2).f1).rows_split e21208 (idx_some q21205).2.2) e21218 A3 rfl rfl rfl q21215 (Sub.refl _) ?_)
      intro v21219 q21220
      obtain rfl := encInt_val.1 q21220
      refine WL_step rfl rfl (Exec.assign (v := Value.int .i64 (x21214)) rfl rfl ?_)
      refine WL_step rfl rfl (Exec.assign (v := errV 30 (none)) rfl rfl ?_)
      refine WL_nil (at_normal ?_)
      refine W_ret ?_
      have e21222 := Option.some.inj hm
      subst r
      refine ⟨_, ret2 rfl, ?_⟩
      have hS21223 := ((hS21177).f2).f2
      have hS21224 := (hS21223).f2
      exact ⟨s21175, l21176, hS21224, (tup2 rfl rfl)⟩

theorem N16 : (Try.f16.name == "runtime.NumGoroutine") = false := by kernel_rfl

theorem stn_Network_Earliest_sim {w0 w : World} {s : PHeap} {H : List Res} {n21050 : stn_Network} {p21054 : Int} {b21051 : Nat} {v21052 : Value} {hs21053 : List Value} {r : Int × (Option Int)} (hm : stn_Network_Earliest_p n21050 p21054 = some r) (hS : St w0 s (Res.box b21051 63 [v21052] :: Res.arr encRaw 49 v21052 hs21053 :: Res.rows (encInt .i64) 3 hs21053 n21050.d :: H) w)  :
    Calls Try.prog 16 #[Value.pointer (some ⟨b21051, 0, none⟩), Value.int .i64 (p21054)] w fun e w' => ∃ v, e = .returned v ∧ ((un2 fun (y21248 : Int) (y21249 : (Option Int)) => ∃ (s21250 : PHeap) , PHeap.le s s21250 ∧ St w0 s21250 (Res.box b21051 63 [v21052] :: Res.arr encRaw 49 v21052 hs21053 :: Res.rows (encInt .i64) 3 hs21053 n21050.d :: H) w' ∧ v = Value.tuple #[Value.int .i64 (y21248), errV 30 (y21249)]) r) := by
  unfold stn_Network_Earliest_p at hm
  refine calls_of_W Try.func16 rfl rfl ?_
  refine W_seq ?_
  refine W_region ?_
  refine WL_step rfl rfl (Exec.assign (v := Value.int .i64 (0)) rfl rfl ?_)
  refine WL_step rfl rfl (Exec.assign (v := errV 30 (none)) rfl rfl ?_)
  refine WL_nil (at_normal ?_)
  refine W_seq ?_
  refine W_region ?_
  refine WL_step rfl rfl (Exec.move (v := Value.pointer (some ⟨b21051, 0, none⟩)) rfl rfl ?_)
  refine WL_step rfl rfl (Exec.move (v := Value.int .i64 (p21054)) rfl rfl ?_)
  obtain ⟨t21261, q21262, hm⟩ := bind_some hm
  obtain ⟨y21263, y21264⟩ := t21261
  replace hm := un2_eq hm
  have hS21265 := ((hS).f2).f2
  have hS21266 := (hS21265).f2
  refine WL_step rfl rfl (Exec.call rfl rfl Try.func15 rfl N15 (args_cons rfl (args_cons rfl (args_cons rfl args_nil))) ((stn_Network_Distance_sim q21262 hS21266 ).mono ?_))
  rintro _ w21267 ⟨_, rfl, ⟨s21268, l21269, hS21270, rfl⟩⟩
  refine ⟨_, rfl, ?_⟩
  refine WL_step rfl rfl (Exec.move (v := Value.tuple #[Value.int .i64 (y21263), errV 30 (y21264)]) rfl rfl ?_)
  refine WL_step rfl rfl (Exec.extract (v := Value.int .i64 (y21263)) rfl rfl rfl ?_)
  refine WL_step rfl rfl (Exec.extract (v := errV 30 (y21264)) rfl rfl rfl ?_)
  refine WL_step rfl rfl (Exec.assign (v := Value.int .i64 (y21263)) rfl rfl ?_)
  refine WL_step rfl rfl (Exec.assign (v := errV 30 (y21264)) rfl rfl ?_)
  refine WL_nil (at_normal ?_)
  refine W_seq ?_
  refine W_seq ?_
  refine W_region ?_
  refine WL_step rfl rfl (Exec.move (v := errV 30 (y21264)) rfl rfl ?_)
  refine WL_step rfl rfl (Exec.err_neq_nil (T := 30) Try.underlying26 rfl rfl rfl ?_)
  refine WL_nil (at_normal ?_)
  rcases ite_some hm with ⟨hc21271, hm⟩ | ⟨hc21271, hm⟩
  · refine W_cond_t rfl hc21271 ?_
    refine W_seq ?_
    refine W_region ?_
    refine WL_step rfl rfl (Exec.move (v := errV 30 (y21264)) rfl rfl ?_)
    refine WL_step rfl rfl (Exec.assign (v := Value.int .i64 (0)) rfl rfl ?_)
    refine WL_step rfl rfl (Exec.assign (v := errV 30 (y21264)) rfl rfl ?_)
    refine WL_nil (at_normal ?_)
    refine W_ret (at_ret ?_)
    have e21273 := Option.some.inj hm
    subst r
    refine ⟨_, ret2 rfl, ?_⟩
    have hS21274 := ((hS21270).f2).f2
    have hS21275 := (hS21274).f2
    exact ⟨s21268, l21269, hS21275, (tup2 rfl rfl)⟩
  · refine W_cond_f rfl hc21271 ?_
    replace hc21271 := not_true hc21271
    refine W_skip (at_normal ?_)
    refine W_seq ?_
    refine W_seq ?_
    refine W_region ?_
    refine WL_step rfl rfl (Exec.move (v := Value.int .i64 (y21263)) rfl rfl ?_)
    refine WL_step rfl rfl (Exec.geq rfl rfl rfl ?_)
    refine WL_nil (at_normal ?_)
    rcases ite_some hm with ⟨hc21276, hm⟩ | ⟨hc21276, hm⟩
    · refine W_cond_t rfl hc21276 ?_
      refine W_seq ?_
      refine W_region ?_
      refine WL_step rfl rfl (Exec.makeInterface C30 rfl rfl ?_)
      refine WL_step rfl rfl (Exec.assign (v := Value.int .i64 (0)) rfl rfl ?_)
      refine WL_step rfl rfl (Exec.assign (v := errV 30 (some 3)) rfl rfl ?_)
      refine WL_nil (at_normal ?_)
      refine W_ret (at_ret ?_)
      have e21278 := Option.some.inj hm
      subst r
      refine ⟨_, ret2 rfl, ?_⟩
      have hS21279 := ((hS21270).f2).f2
      have hS21280 := (hS21279).f2
      exact ⟨s21268, l21269, hS21280, (tup2 rfl rfl)⟩
    · refine W_cond_f rfl hc21276 ?_
      replace hc21276 := not_true hc21276
      refine W_skip (at_normal ?_)
      refine W_seq ?_
      refine W_region ?_
      refine WL_step rfl rfl (Exec.move (v := Value.int .i64 (y21263)) rfl rfl ?_)
      refine WL_step rfl rfl (Exec.neg rfl rfl ?_)
      refine WL_step rfl rfl (Exec.assign (v := Value.int .i64 (IntKind.i64.wrap (0 - y21263))) rfl rfl ?_)
      refine WL_step rfl rfl (Exec.assign (v := errV 30 (none)) rfl rfl ?_)
      refine WL_nil (at_normal ?_)
      refine W_ret ?_
      have e21282 := Option.some.inj hm
      subst r
      refine ⟨_, ret2 rfl, ?_⟩
      have hS21283 := ((hS21270).f2).f2
      have hS21284 := (hS21283).f2
      exact ⟨s21268, l21269, hS21284, (tup2 rfl rfl)⟩

theorem N22 : (Try.f22.name == "runtime.NumGoroutine") = false := by kernel_rfl

theorem stn_Network_Times_sim {w0 w : World} {s : PHeap} {H : List Res} {n21044 : stn_Network} {b21045 : Nat} {v21046 : Value} {hs21047 : List Value} {r : (List Int) × (Option Int)} (hm : stn_Network_Times_p n21044 = some r) (hS : St w0 s (Res.box b21045 63 [v21046] :: Res.arr encRaw 49 v21046 hs21047 :: Res.rows (encInt .i64) 3 hs21047 n21044.d :: H) w)  :
    Calls Try.prog 22 #[Value.pointer (some ⟨b21045, 0, none⟩)] w fun e w' => ∃ v, e = .returned v ∧ ((un2 fun (y21508 : (List Int)) (y21509 : (Option Int)) => ∃ (s21516 : PHeap) (v21515 : Value), PHeap.le s s21516 ∧ St w0 s21516 (Res.box b21045 63 [v21046] :: Res.arr encRaw 49 v21046 hs21047 :: Res.rows (encInt .i64) 3 hs21047 n21044.d :: H) w' ∧ v = Value.tuple #[v21515, errV 30 (y21509)] ∧ SliceRep (encInt .i64) s21516 v21515 y21508) r) := by
  unfold stn_Network_Times_p at hm
  refine calls_of_W Try.func22 rfl rfl ?_
  refine W_seq ?_
  refine W_region ?_
  refine WL_step rfl rfl (Exec.assign (v := Value.slice none 0 0) rfl rfl ?_)
  refine WL_step rfl rfl (Exec.assign (v := errV 30 (none)) rfl rfl ?_)
  refine WL_nil (at_normal ?_)
  refine W_seq ?_
  refine W_seq ?_
  refine W_region ?_
  refine WL_step rfl rfl (Exec.move (v := Value.pointer (some ⟨b21045, 0, none⟩)) rfl rfl ?_)
  refine WL_step rfl rfl (Exec.ptr_eql_nil Try.underlying24 rfl rfl rfl ?_)
  refine WL_nil (at_normal ?_)
  refine W_false rfl ?_
  refine W_skip (at_normal ?_)
  refine W_seq ?_
  refine W_region ?_
  refine WL_step rfl rfl (Exec.assign (v := Value.slice none 0 0) rfl rfl ?_)
  refine WL_nil (at_normal ?_)
  refine W_seq ?_
  refine W_seq ?_
  refine W_region ?_
  refine WL_step rfl rfl (Exec.move (v := Value.pointer (some ⟨b21045, 0, none⟩)) rfl rfl ?_)
  refine WL_step rfl rfl (Exec.nilCheck_ptr rfl rfl ?_)
  refine WL_step rfl rfl (Exec.field F63_0 rfl rfl rfl ?_)
  refine WL_step rfl rfl (Exec.load_box (hS) A61 rfl rfl rfl ?_)
  refine WL_step rfl rfl (Exec.len_grid (((hS).f2).f2) (((hS).f2).f2).f1.rows_len S61 rfl rfl ?_)
  refine WL_step rfl rfl (Exec.move (v := Value.int .i64 (0)) rfl rfl ?_)
  refine WL_nil (at_normal ?_)
  obtain ⟨c21650, hB21651, hr21652, hn21653, hb21654⟩ := ctl_some hm
  refine W_mid (M := fun f' w' => ∃ s', (c21650 = .next s' ∨ c21650 = .brk s') ∧ (fun (out21648 : (List Int)) => ∃ (s21656 : PHeap) (v21649 : Value), PHeap.le s s21656 ∧ St w0 s21656 (Res.box b21045 63 [v21046] :: Res.arr encRaw 49 v21046 hs21047 :: Res.rows (encInt .i64) 3 hs21047 n21044.d :: Res.arr (encInt .i64) 3 v21649 out21648 :: H) w' ∧ f' 0 = Value.pointer (some ⟨b21045, 0, none⟩) ∧ f' 4 = v21649 ∧ f' 15 = Value.int .i64 ((n21044.d.length : Int))) s') ?_ ?_
  · refine W_block (W_forC (fun k' s' f' w' => (fun (out21562 : (List Int)) => ∃ (s21655 : PHeap) (v21563 : Value), PHeap.le s s21655 ∧ St w0 s21655 (Res.box b21045 63 [v21046] :: Res.arr encRaw 49 v21046 hs21047 :: Res.rows (encInt .i64) 3 hs21047 n21044.d :: Res.arr (encInt .i64) 3 v21563 out21562 :: H) w' ∧ f' 0 = Value.pointer (some ⟨b21045, 0, none⟩) ∧ f' 4 = v21563 ∧ f' 15 = Value.int .i64 ((n21044.d.length : Int)) ∧ f' 16 = Value.int .i64 (k' : Int)) s') hB21651 ?_ ?_ ?_)
    · have hS21657 := hS.nilArr (encInt .i64) 3
      have hS21658 := ((hS21657).f3).f3
      have hS21659 := (hS21658).f3
      exact ⟨s, (Value.slice none 0 0), (PHeap.le_refl _), hS21659, rfl, rfl, rfl, rfl⟩
    · intro i21517 out21562 c21661 f21662 w21663 hi21667 hI21664 hm21665 hres21666
      obtain ⟨s21668, v21563, l21669, hS21670, p21671, p21672, p21673, x21674⟩ := hI21664
      refine W_seq ?_
      refine W_region ?_
      refine WL_step rfl rfl (Exec.lss rfl x21674 p21673 ?_)
      refine WL_nil (at_normal ?_)
      refine W_seq ?_
      refine W_true (congrArg Value.bool (decide_eq_true (by omega))) ?_
      refine W_skip (at_normal ?_)
      refine W_seq ?_
      refine W_block ?_
      refine W_seq ?_
      refine W_region ?_
      refine WL_step rfl rfl (Exec.move (v := Value.int .i64 ((i21517 : Int))) rfl x21674 ?_)
      refine WL_step rfl rfl (Exec.assign (v := Value.int .i64 ((i21517 : Int))) rfl rfl ?_)
      refine WL_nil (at_normal ?_)
      refine W_seq ?_
      refine W_region ?_
      refine WL_step rfl rfl (Exec.move (v := Value.pointer (some ⟨b21045, 0, none⟩)) rfl p21671 ?_)
      refine WL_step rfl rfl (Exec.move (v := Value.int .i64 ((i21517 : Int))) rfl rfl ?_)
      obtain ⟨t21685, q21686, hm21665⟩ := bind_some hm21665
      obtain ⟨y21687, y21688⟩ := t21685
      replace hm21665 := un2_eq hm21665
      have hS21689 := ((hS21670).f2).f2
      have hS21690 := (hS21689).f2
      refine WL_step rfl rfl (Exec.call rfl rfl Try.func16 rfl N16 (args_cons rfl (args_cons rfl args_nil)) ((stn_Network_Earliest_sim q21686 hS21690 ).mono ?_))
      rintro _ w21691 ⟨_, rfl, ⟨s21692, l21693, hS21694, rfl⟩⟩
      refine ⟨_, rfl, ?_⟩
      refine WL_step rfl rfl (Exec.move (v := Value.tuple #[Value.int .i64 (y21687), errV 30 (y21688)]) rfl rfl ?_)
      refine WL_step rfl rfl (Exec.extract (v := Value.int .i64 (y21687)) rfl rfl rfl ?_)
      refine WL_step rfl rfl (Exec.extract (v := errV 30 (y21688)) rfl rfl rfl ?_)
      refine WL_step rfl rfl (Exec.assign (v := Value.int .i64 (y21687)) rfl rfl ?_)
      refine WL_step rfl rfl (Exec.assign (v := errV 30 (y21688)) rfl rfl ?_)
      refine WL_nil (at_normal ?_)
      refine W_seq ?_
      refine W_seq ?_
      refine W_region ?_
      refine WL_step rfl rfl (Exec.move (v := errV 30 (y21688)) rfl rfl ?_)
      refine WL_step rfl rfl (Exec.err_neq_nil (T := 30) Try.underlying26 rfl rfl rfl ?_)
      refine WL_nil (at_normal ?_)
      rcases ite_some hm21665 with ⟨hc21695, hm21665⟩ | ⟨hc21695, hm21665⟩
      · refine W_cond_t rfl hc21695 ?_
        refine W_seq ?_
        refine W_region ?_
        refine WL_step rfl rfl (Exec.move (v := errV 30 (y21688)) rfl rfl ?_)
        refine WL_step rfl rfl (Exec.assign (v := Value.slice none 0 0) rfl rfl ?_)
        refine WL_step rfl rfl (Exec.assign (v := errV 30 (y21688)) rfl rfl ?_)
        refine WL_nil (at_normal ?_)
        refine W_ret (at_ret (ib_ret (at_ret (at_ret (ib_ret (at_ret (at_ret ?_)))))))
        have e21696 := Option.some.inj hm21665
        subst c21661
        have hq21697 := hr21652 _ (hres21666 (by intro _ h; cases h))
        have e21698 := Option.some.inj hq21697
        subst r
        refine ⟨_, ret2 rfl, ?_⟩
        have hS21699 := ((hS21694).f3).drop
        have hS21700 := ((hS21699).f2).f2
        have hS21701 := (hS21700).f2
        exact ⟨s21692, (Value.slice none 0 0), (PHeap.le.trans l21669 l21693), hS21701, (tup2 rfl rfl), (SliceRep.nil _ _)⟩
      · refine W_cond_f rfl hc21695 ?_
        replace hc21695 := not_true hc21695
        refine W_skip (at_normal ?_)
        refine W_region ?_
        refine WL_step rfl rfl (Exec.move (v := v21563) rfl p21672 ?_)
        refine WL_step rfl rfl (Exec.move (v := Value.int .i64 (y21687)) rfl rfl ?_)
        refine WL_step rfl rfl (Exec.buildSlice (Te := 3) (cs := [Value.int .i64 (y21687)]) hS21694 rfl (parts_cons (c := [Value.int .i64 (y21687)]) (cells_of rfl rfl) parts_nil) (fun _ => by kernel_rfl) ?_)
        intro b21711 w21712 hS21713
        obtain ⟨l21714, q21715, hm21665⟩ := bind_some hm21665
        have hS21716 := (hS21713).f4
        refine WL_step rfl rfl (Exec.append_box (E := (encInt .i64)) (ys := [y21687]) hS21716 S49 Z3 rfl (by decide) rfl rfl rfl rfl ⟨[Value.int .i64 (y21687)], [], rfl, rfl, rfl⟩ rfl q21715 ?_)
        intro v21717 w21718 hS21719
        refine WL_step rfl rfl (Exec.assign (v := v21717) rfl rfl ?_)
        refine WL_nil (ib_normal (at_normal ?_))
        refine W_region ?_
        refine WL_step rfl rfl (Exec.add rfl x21674 rfl ?_)
        refine WL_step rfl rfl (Exec.move (v := Value.int .i64 (IntKind.i64.wrap ((i21517 : Int) + 1))) rfl rfl ?_)
        refine WL_nil (at_normal ?_)
        have e21720 := Option.some.inj hm21665
        subst c21661
        have hS21721 := ((hS21719).f3).f3
        have hS21722 := (hS21721).f3
        refine ⟨_, rfl, ?_⟩; exact ⟨s21692, v21717, (PHeap.le.trans l21669 l21693), hS21722, p21671, rfl, p21673, (Eq.trans rfl (wrap_up hi21667 (by have h := (((hS).f2).f2).f1.rows_len; have h2 := (((hS).f2).f2).arr_le; omega)))⟩
    · intro out21562 f21723 w21724 hI21725 hres21726
      obtain ⟨s21727, v21563, l21728, hS21729, p21730, p21731, p21732, x21733⟩ := hI21725
      refine W_seq ?_
      refine W_region ?_
      refine WL_step rfl rfl (Exec.lss rfl x21733 p21732 ?_)
      refine WL_nil (at_normal ?_)
      refine W_seq ?_
      refine W_false (congrArg Value.bool (decide_eq_false (by omega))) ?_
      refine W_exit (at_exit (at_exit (ib_here (at_normal ?_))))
      have hS21734 := (hS21729).f3
      have hS21735 := ((hS21734).f3).f3
      have hS21736 := (hS21735).f3
      refine ⟨_, .inl hres21726, ?_⟩; exact ⟨s21727, v21563, l21728, hS21736, p21730, p21731, p21732⟩
  · rintro f21737 w21738 ⟨out21648, hc21739, hM21740⟩
    have hm := hc21739.elim (hn21653 _) (hb21654 _)
    clear hc21739
    obtain ⟨s21741, v21649, l21742, hS21743, p21744, p21745, p21746⟩ := hM21740
    refine (at_normal ?_)
    refine W_seq ?_
    refine W_region ?_
    refine WL_step rfl rfl (Exec.move (v := v21649) rfl p21745 ?_)
    refine WL_step rfl rfl (Exec.assign (v := v21649) rfl rfl ?_)
    refine WL_step rfl rfl (Exec.assign (v := errV 30 (none)) rfl rfl ?_)
    refine WL_nil (at_normal ?_)
    refine W_ret ?_
    have e21748 := Option.some.inj hm
    subst r
    refine ⟨_, ret2 rfl, ?_⟩
    have hS21749 := (hS21743).f3
    obtain ⟨s21750, l21751, hS21752, r21753⟩ := hS21749.freezeArr
    have hS21754 := ((hS21752).f2).f2
    have hS21755 := (hS21754).f2
    exact ⟨s21750, v21649, (PHeap.le.trans l21742 l21751), hS21755, (tup2 rfl rfl), r21753⟩

theorem N17 : (Try.f17.name == "runtime.NumGoroutine") = false := by kernel_rfl

theorem stn_Network_Latest_sim {w0 w : World} {s : PHeap} {H : List Res} {n21780 : stn_Network} {p21784 : Int} {b21781 : Nat} {v21782 : Value} {hs21783 : List Value} {r : Int × (Option Int)} (hm : stn_Network_Latest_p n21780 p21784 = some r) (hS : St w0 s (Res.box b21781 63 [v21782] :: Res.arr encRaw 49 v21782 hs21783 :: Res.rows (encInt .i64) 3 hs21783 n21780.d :: H) w)  :
    Calls Try.prog 17 #[Value.pointer (some ⟨b21781, 0, none⟩), Value.int .i64 (p21784)] w fun e w' => ∃ v, e = .returned v ∧ ((un2 fun (y21808 : Int) (y21809 : (Option Int)) => ∃ (s21810 : PHeap) , PHeap.le s s21810 ∧ St w0 s21810 (Res.box b21781 63 [v21782] :: Res.arr encRaw 49 v21782 hs21783 :: Res.rows (encInt .i64) 3 hs21783 n21780.d :: H) w' ∧ v = Value.tuple #[Value.int .i64 (y21808), errV 30 (y21809)]) r) := by
  unfold stn_Network_Latest_p at hm
  refine calls_of_W Try.func17 rfl rfl ?_
  refine W_seq ?_
  refine W_region ?_
  refine WL_step rfl rfl (Exec.assign (v := Value.int .i64 (0)) rfl rfl ?_)
  refine WL_step rfl rfl (Exec.assign (v := errV 30 (none)) rfl rfl ?_)
  refine WL_nil (at_normal ?_)
  refine W_seq ?_
  refine W_region ?_
  refine WL_step rfl rfl (Exec.move (v := Value.pointer (some ⟨b21781, 0, none⟩)) rfl rfl ?_)
  refine WL_step rfl rfl (Exec.move (v := Value.int .i64 (p21784)) rfl rfl ?_)
  obtain ⟨t21821, q21822, hm⟩ := bind_some hm
  obtain ⟨y21823, y21824⟩ := t21821
  replace hm := un2_eq hm
  have hS21825 := ((hS).f2).f2
  have hS21826 := (hS21825).f2
  refine WL_step rfl rfl (Exec.call rfl rfl Try.func15 rfl N15 (args_cons rfl (args_cons rfl (args_cons rfl args_nil))) ((stn_Network_Distance_sim q21822 hS21826 ).mono ?_))
  rintro _ w21827 ⟨_, rfl, ⟨s21828, l21829, hS21830, rfl⟩⟩
  refine ⟨_, rfl, ?_⟩
  refine WL_step rfl rfl (Exec.move (v := Value.tuple #[Value.int .i64 (y21823), errV 30 (y21824)]) rfl rfl ?_)
  refine WL_step rfl rfl (Exec.extract (v := Value.int .i64 (y21823)) rfl rfl rfl ?_)
  refine WL_step rfl rfl (Exec.extract (v := errV 30 (y21824)) rfl rfl rfl ?_)
  refine WL_step rfl rfl (Exec.assign (v := Value.int .i64 (y21823)) rfl rfl ?_)
  refine WL_step rfl rfl (Exec.assign (v := errV 30 (y21824)) rfl rfl ?_)
  refine WL_nil (at_normal ?_)
  refine W_seq ?_
  refine W_seq ?_
  refine W_region ?_
  refine WL_step rfl rfl (Exec.move (v := errV 30 (y21824)) rfl rfl ?_)
  refine WL_step rfl rfl (Exec.err_neq_nil (T := 30) Try.underlying26 rfl rfl rfl ?_)
  refine WL_nil (at_normal ?_)
  rcases ite_some hm with ⟨hc21831, hm⟩ | ⟨hc21831, hm⟩
  · refine W_cond_t rfl hc21831 ?_
    refine W_seq ?_
    refine W_region ?_
    refine WL_step rfl rfl (Exec.move (v := errV 30 (y21824)) rfl rfl ?_)
    refine WL_step rfl rfl (Exec.assign (v := Value.int .i64 (0)) rfl rfl ?_)
    refine WL_step rfl rfl (Exec.assign (v := errV 30 (y21824)) rfl rfl ?_)
    refine WL_nil (at_normal ?_)
    refine W_ret (at_ret ?_)
    have e21833 := Option.some.inj hm
    subst r
    refine ⟨_, ret2 rfl, ?_⟩
    have hS21834 := ((hS21830).f2).f2
    have hS21835 := (hS21834).f2
    exact ⟨s21828, l21829, hS21835, (tup2 rfl rfl)⟩
  · refine W_cond_f rfl hc21831 ?_
    replace hc21831 := not_true hc21831
    refine W_skip (at_normal ?_)
    refine W_seq ?_
    refine W_seq ?_
    refine W_region ?_
    refine WL_step rfl rfl (Exec.move (v := Value.int .i64 (y21823)) rfl rfl ?_)
    refine WL_step rfl rfl (Exec.geq rfl rfl rfl ?_)
    refine WL_nil (at_normal ?_)
    rcases ite_some hm with ⟨hc21836, hm⟩ | ⟨hc21836, hm⟩
    · refine W_cond_t rfl hc21836 ?_
      refine W_seq ?_
      refine W_region ?_
      refine WL_step rfl rfl (Exec.makeInterface C30 rfl rfl ?_)
      refine WL_step rfl rfl (Exec.assign (v := Value.int .i64 (0)) rfl rfl ?_)
      refine WL_step rfl rfl (Exec.assign (v := errV 30 (some 3)) rfl rfl ?_)
      refine WL_nil (at_normal ?_)
      refine W_ret (at_ret ?_)
      have e21838 := Option.some.inj hm
      subst r
      refine ⟨_, ret2 rfl, ?_⟩
      have hS21839 := ((hS21830).f2).f2
      have hS21840 := (hS21839).f2
      exact ⟨s21828, l21829, hS21840, (tup2 rfl rfl)⟩
    · refine W_cond_f rfl hc21836 ?_
      replace hc21836 := not_true hc21836
      refine W_skip (at_normal ?_)
      refine W_seq ?_
      refine W_region ?_
      refine WL_step rfl rfl (Exec.move (v := Value.int .i64 (y21823)) rfl rfl ?_)
      refine WL_step rfl rfl (Exec.assign (v := Value.int .i64 (y21823)) rfl rfl ?_)
      refine WL_step rfl rfl (Exec.assign (v := errV 30 (none)) rfl rfl ?_)
      refine WL_nil (at_normal ?_)
      refine W_ret ?_
      have e21842 := Option.some.inj hm
      subst r
      refine ⟨_, ret2 rfl, ?_⟩
      have hS21843 := ((hS21830).f2).f2
      have hS21844 := (hS21843).f2
      exact ⟨s21828, l21829, hS21844, (tup2 rfl rfl)⟩

theorem N23 : (Try.f23.name == "runtime.NumGoroutine") = false := by kernel_rfl

theorem base_Ints_sim {w0 w : World} {s : PHeap} {H : List Res} {a21874 : (List Int)} {b21877 : (List Int)} {v21875 : Value} {v21878 : Value} {r : Bool} (hm : base_Ints_p a21874 b21877 = some r) (hS : St w0 s (H) w) (a21876 : SliceRep (encInt .i64) s v21875 a21874) (a21879 : SliceRep (encInt .i64) s v21878 b21877) :
    Calls Try.prog 23 #[v21875, v21878] w fun e w' => ∃ v, e = .returned v ∧ ((fun (y22661 : Bool) => ∃ (s22662 : PHeap) , PHeap.le s s22662 ∧ St w0 s22662 (H) w' ∧ v = Value.bool (y22661)) r) := by
  unfold base_Ints_p at hm
  refine calls_of_W Try.func23 rfl rfl ?_
  refine W_seq ?_
  refine W_region ?_
  refine WL_step rfl rfl (Exec.assign (v := Value.bool (false)) rfl rfl ?_)
  refine WL_nil (at_normal ?_)
  refine W_seq ?_
  refine W_seq ?_
  refine W_region ?_
  refine WL_step rfl rfl (Exec.move (v := v21875) rfl rfl ?_)
  refine WL_step rfl rfl (Exec.len_rep S49 rfl rfl a21876 ?_)
  refine WL_step rfl rfl (Exec.move (v := v21878) rfl rfl ?_)
  refine WL_step rfl rfl (Exec.len_rep S49 rfl rfl a21879 ?_)
  refine WL_step rfl rfl (Exec.neq rfl rfl rfl ?_)
  refine WL_nil (at_normal ?_)
  rcases ite_some hm with ⟨hc22663, hm⟩ | ⟨hc22663, hm⟩
  · refine W_cond_t rfl hc22663 ?_
    refine W_seq ?_
    refine W_region ?_
    refine WL_step rfl rfl (Exec.assign (v := Value.bool (false)) rfl rfl ?_)
    refine WL_nil (at_normal ?_)
    refine W_ret (at_ret ?_)
    have e22665 := Option.some.inj hm
    subst r
    refine ⟨_, ret1 rfl, ?_⟩
    exact ⟨s, (PHeap.le_refl _), hS, rfl⟩
  · refine W_cond_f rfl hc22663 ?_
    replace hc22663 := not_true hc22663
    refine W_skip (at_normal ?_)
    refine W_seq ?_
    refine W_seq ?_
    refine W_region ?_
    refine WL_step rfl rfl (Exec.move (v := v21875) rfl rfl ?_)
    refine WL_step rfl rfl (Exec.len_rep S49 rfl rfl a21876 ?_)
    refine WL_step rfl rfl (Exec.move (v := Value.int .i64 (0)) rfl rfl ?_)
    refine WL_nil (at_normal ?_)
    obtain ⟨c23155, hB23156, hr23157, hn23158, hb23159⟩ := ctl_some hm
    refine W_mid (M := fun f' w' => ∃ s', (c23155 = .next s' ∨ c23155 = .brk s') ∧ (fun (_ : Unit) => ∃ (s23161 : PHeap) , PHeap.le s s23161 ∧ St w0 s23161 (H) w' ∧ f' 0 = v21875 ∧ f' 1 = v21878 ∧ f' 12 = Value.int .i64 ((a21874.length : Int))) s') ?_ ?_
    · refine W_block (W_forC (fun k' s' f' w' => (fun (_ : Unit) => ∃ (s23160 : PHeap) , PHeap.le s s23160 ∧ St w0 s23160 (H) w' ∧ f' 0 = v21875 ∧ f' 1 = v21878 ∧ f' 12 = Value.int .i64 ((a21874.length : Int)) ∧ f' 13 = Value.int .i64 (k' : Int)) s') hB23156 ?_ ?_ ?_)
      · exact ⟨s, (PHeap.le_refl _), hS, rfl, rfl, rfl, rfl⟩
      · intro i22666 t23169 c23163 f23164 w23165 hi23170 hI23166 hm23167 hres23168
        obtain ⟨s23171, l23172, hS23173, p23174, p23175, p23176, x23177⟩ := hI23166
        refine W_seq ?_
        refine W_region ?_
        refine WL_step rfl rfl (Exec.lss rfl x23177 p23176 ?_)
        refine WL_nil (at_normal ?_)
        refine W_seq ?_
        refine W_true (congrArg Value.bool (decide_eq_true (by omega))) ?_
        refine W_skip (at_normal ?_)
        refine W_seq ?_
        refine W_block ?_
        refine W_seq ?_
        refine W_region ?_
        refine WL_step rfl rfl (Exec.move (v := Value.int .i64 ((i22666 : Int))) rfl x23177 ?_)
        refine WL_step rfl rfl (Exec.assign (v := Value.int .i64 ((i22666 : Int))) rfl rfl ?_)
        refine WL_nil (at_normal ?_)
        refine W_seq ?_
        obtain ⟨x23303, q23304, hm23167⟩ := bind_some hm23167
        obtain ⟨x23305, q23306, hm23167⟩ := bind_some hm23167
        refine W_drawn (n0 := 9) hmix (by kernel_rfl) [RP.eq (v21875), RP.eq (Value.int .i64 ((i22666 : Int))), RP.at (encInt .i64) x23303, RP.eq (Value.int .i64 (x23303)), RP.eq (v21878), RP.eq (Value.int .i64 ((i22666 : Int))), RP.at (encInt .i64) x23305, RP.eq (Value.int .i64 (x23305)), RP.eq (Value.bool (!decide (x23303 = x23305)))] hS23173 (HeadAll.cons ?_ (HeadAll.cons ?_ (HeadAll.cons ?_ (HeadAll.cons ?_ (HeadAll.cons ?_ (HeadAll.cons ?_ (HeadAll.cons ?_ (HeadAll.cons ?_ (HeadAll.cons ?_ (HeadAll.nil)))))))))) ?_
        · intro g23307 s23308 w23309 l23310 hS23311 fr23312 pre23313
          refine head_run rfl (Exec.move (v := v21875) rfl (Eq.trans (fr23312 0 rfl) p23174) ?_)
          exact head_done hS23311 rfl
        · intro g23314 s23315 w23316 l23317 hS23318 fr23319 pre23320
          refine head_run rfl (Exec.move (v := Value.int .i64 ((i22666 : Int))) rfl (fr23319 5 rfl) ?_)
          exact head_done hS23318 rfl
        · intro g23321 s23322 w23323 l23324 hS23325 fr23326 pre23327
          have p23328 : g23321 16 = (v21875) := pre23327 0 _ rfl rfl
          have p23329 : g23321 17 = (Value.int .i64 ((i22666 : Int))) := pre23327 1 _ rfl rfl
          refine head_run rfl (Exec.index_rep S49 rfl p23328 p23329 (a21876.mono (PHeap.le.trans l23172 l23324)) q23304 ?_)
          intro b23330 o23331 a23332
          exact head_done hS23325 ⟨_, _, rfl, a23332⟩
        · intro g23333 s23334 w23335 l23336 hS23337 fr23338 pre23339
          obtain ⟨b23341, o23342, e23343, a23344⟩ := (show ∃ b off, g23333 18 = .pointer (some ⟨b, off, none⟩) ∧ At s23334 b off (encInt .i64) x23303 from pre23339 0 _ rfl rfl)
          refine head_run rfl (Exec.load_at (E := (encInt .i64)) hS23337 A3 rfl e23343 rfl a23344 ?_)
          intro v23345 q23346
          exact head_done hS23337 (encInt_val.1 q23346)
        · intro g23347 s23348 w23349 l23350 hS23351 fr23352 pre23353
          refine head_run rfl (Exec.move (v := v21878) rfl (Eq.trans (fr23352 1 rfl) p23175) ?_)
          exact head_done hS23351 rfl
        · intro g23354 s23355 w23356 l23357 hS23358 fr23359 pre23360
          refine head_run rfl (Exec.move (v := Value.int .i64 ((i22666 : Int))) rfl (fr23359 5 rfl) ?_)
          exact head_done hS23358 rfl
        · intro g23361 s23362 w23363 l23364 hS23365 fr23366 pre23367
          have p23368 : g23361 20 = (v21878) := pre23367 0 _ rfl rfl
          have p23369 : g23361 21 = (Value.int .i64 ((i22666 : Int))) := pre23367 1 _ rfl rfl
          refine head_run rfl (Exec.index_rep S49 rfl p23368 p23369 (a21879.mono (PHeap.le.trans l23172 l23364)) q23306 ?_)
          intro b23370 o23371 a23372
          exact head_done hS23365 ⟨_, _, rfl, a23372⟩
        · intro g23373 s23374 w23375 l23376 hS23377 fr23378 pre23379
          obtain ⟨b23381, o23382, e23383, a23384⟩ := (show ∃ b off, g23373 22 = .pointer (some ⟨b, off, none⟩) ∧ At s23374 b off (encInt .i64) x23305 from pre23379 0 _ rfl rfl)
          refine head_run rfl (Exec.load_at (E := (encInt .i64)) hS23377 A3 rfl e23383 rfl a23384 ?_)
          intro v23385 q23386
          exact head_done hS23377 (encInt_val.1 q23386)
        · intro g23387 s23388 w23389 l23390 hS23391 fr23392 pre23393
          have p23394 : g23387 19 = (Value.int .i64 (x23303)) := pre23393 0 _ rfl rfl
          have p23395 : g23387 23 = (Value.int .i64 (x23305)) := pre23393 1 _ rfl rfl
          refine head_run rfl (Exec.neq rfl p23394 p23395 ?_)
          exact head_done hS23391 rfl
        · intro g23396 s23397 w23398 l23399 hS23400 fr23401 hR23402
          have p23403 : g23396 16 = (v21875) := hR23402 0 rfl
          have p23404 : g23396 17 = (Value.int .i64 ((i22666 : Int))) := hR23402 1 rfl
          obtain ⟨b23406, o23407, e23408, a23409⟩ := (show ∃ b off, g23396 18 = .pointer (some ⟨b, off, none⟩) ∧ At s23397 b off (encInt .i64) x23303 from hR23402 2 rfl)
          have p23410 : g23396 19 = (Value.int .i64 (x23303)) := hR23402 3 rfl
          have p23411 : g23396 20 = (v21878) := hR23402 4 rfl
          have p23412 : g23396 21 = (Value.int .i64 ((i22666 : Int))) := hR23402 5 rfl
          obtain ⟨b23414, o23415, e23416, a23417⟩ := (show ∃ b off, g23396 22 = .pointer (some ⟨b, off, none⟩) ∧ At s23397 b off (encInt .i64) x23305 from hR23402 6 rfl)
          have p23418 : g23396 23 = (Value.int .i64 (x23305)) := hR23402 7 rfl
          have p23419 : g23396 24 = (Value.bool (!decide (x23303 = x23305))) := hR23402 8 rfl
          refine WL_nil (at_normal ?_)
          rcases ite_some hm23167 with ⟨hc23420, hm23167⟩ | ⟨hc23420, hm23167⟩
          · refine W_cond_t p23419 hc23420 ?_
            refine W_seq ?_
            refine W_region ?_
            refine WL_step rfl rfl (Exec.assign (v := Value.bool (false)) rfl rfl ?_)
            refine WL_nil (at_normal ?_)
            refine W_ret (ib_ret (at_ret (at_ret (ib_ret (at_ret (at_ret ?_))))))
            have e23421 := Option.some.inj hm23167
            subst c23163
            have hq23422 := hr23157 _ (hres23168 (by intro _ h; cases h))
            have e23423 := Option.some.inj hq23422
            subst r
            refine ⟨_, ret1 rfl, ?_⟩
            exact ⟨s23397, (PHeap.le.trans l23172 l23399), hS23400, rfl⟩
          · refine W_cond_f p23419 hc23420 ?_
            replace hc23420 := not_true hc23420
            refine W_skip (ib_normal (at_normal ?_))
            refine W_region ?_
            refine WL_step rfl rfl (Exec.add rfl (Eq.trans (fr23401 13 rfl) x23177) rfl ?_)
            refine WL_step rfl rfl (Exec.move (v := Value.int .i64 (IntKind.i64.wrap ((i22666 : Int) + 1))) rfl rfl ?_)
            refine WL_nil (at_normal ?_)
            have e23424 := Option.some.inj hm23167
            subst c23163
            refine ⟨_, rfl, ?_⟩; exact ⟨s23397, (PHeap.le.trans l23172 l23399), hS23400, (Eq.trans (fr23401 0 rfl) p23174), (Eq.trans (fr23401 1 rfl) p23175), (Eq.trans (fr23401 12 rfl) p23176), (Eq.trans rfl (wrap_up hi23170 (SliceRep.le a21876)))⟩
      · intro t23425 f23426 w23427 hI23428 hres23429
        obtain ⟨s23430, l23431, hS23432, p23433, p23434, p23435, x23436⟩ := hI23428
        refine W_seq ?_
        refine W_region ?_
        refine WL_step rfl rfl (Exec.lss rfl x23436 p23435 ?_)
        refine WL_nil (at_normal ?_)
        refine W_seq ?_
        refine W_false (congrArg Value.bool (decide_eq_false (by omega))) ?_
        refine W_exit (at_exit (at_exit (ib_here (at_normal ?_))))
        refine ⟨_, .inl hres23429, ?_⟩; exact ⟨s23430, l23431, hS23432, p23433, p23434, p23435⟩
    · rintro f23437 w23438 ⟨t23439, hc23440, hM23441⟩
      have hm := hc23440.elim (hn23158 _) (hb23159 _)
      clear hc23440
      obtain ⟨s23442, l23443, hS23444, p23445, p23446, p23447⟩ := hM23441
      refine (at_normal ?_)
      refine W_seq ?_
      refine W_region ?_
      refine WL_step rfl rfl (Exec.assign (v := Value.bool (true)) rfl rfl ?_)
      refine WL_nil (at_normal ?_)
      refine W_ret ?_
      have e23449 := Option.some.inj hm
      subst r
      refine ⟨_, ret1 rfl, ?_⟩
      exact ⟨s23442, l23443, hS23444, rfl⟩

theorem ZZ30 : (Try.prog.info? 30).map (·.zero) = some (some (.int .i64 0)) := by kernel_rfl

theorem N13 : (Try.f13.name == "runtime.NumGoroutine") = false := by kernel_rfl

theorem base_Num_sim {w0 w : World} {s : PHeap} {H : List Res} {e23461 : (Option Int)}  {r : Int} (hm : base_Num_p e23461 = some r) (hS : St w0 s (H) w)  :
    Calls Try.prog 13 #[errV 30 (e23461)] w fun e w' => ∃ v, e = .returned v ∧ ((fun (y23465 : Int) => ∃ (s23466 : PHeap) , PHeap.le s s23466 ∧ St w0 s23466 (H) w' ∧ v = Value.int .i64 (y23465)) r) := by
  unfold base_Num_p at hm
  refine calls_of_W Try.func13 rfl rfl ?_
  refine W_seq ?_
  refine W_region ?_
  refine WL_step rfl rfl (Exec.assign (v := Value.int .i64 (0)) rfl rfl ?_)
  refine WL_nil (at_normal ?_)
  refine W_seq ?_
  refine W_seq ?_
  refine W_region ?_
  refine WL_step rfl rfl (Exec.move (v := errV 30 (e23461)) rfl rfl ?_)
  refine WL_step rfl rfl (Exec.err_eql_nil (T := 30) Try.underlying26 rfl rfl rfl ?_)
  refine WL_nil (at_normal ?_)
  rcases ite_some hm with ⟨hc23467, hm⟩ | ⟨hc23467, hm⟩
  · refine W_cond_t rfl hc23467 ?_
    refine W_seq ?_
    refine W_region ?_
    refine WL_step rfl rfl (Exec.assign (v := Value.int .i64 (0)) rfl rfl ?_)
    refine WL_nil (at_normal ?_)
    refine W_ret (at_ret ?_)
    have e23469 := Option.some.inj hm
    subst r
    refine ⟨_, ret1 rfl, ?_⟩
    exact ⟨s, (PHeap.le_refl _), hS, rfl⟩
  · refine W_cond_f rfl hc23467 ?_
    replace hc23467 := not_true hc23467
    refine W_skip (at_normal ?_)
    refine W_seq ?_
    refine W_seq ?_
    refine W_region ?_
    refine WL_step rfl rfl (Exec.move (v := errV 30 (e23461)) rfl rfl ?_)
    refine WL_step rfl rfl (Exec.err_assert Try.underlying30 ZZ30 rfl rfl ?_)
    refine WL_step rfl rfl (Exec.move (v := Value.tuple #[Value.int .i64 (e23461.getD 0), Value.bool (e23461.isSome)]) rfl rfl ?_)
    refine WL_step rfl rfl (Exec.extract (v := Value.int .i64 (e23461.getD 0)) rfl rfl rfl ?_)
    refine WL_step rfl rfl (Exec.extract (v := Value.bool (e23461.isSome)) rfl rfl rfl ?_)
    refine WL_step rfl rfl (Exec.assign (v := Value.int .i64 (e23461.getD 0)) rfl rfl ?_)
    refine WL_step rfl rfl (Exec.assign (v := Value.bool (e23461.isSome)) rfl rfl ?_)
    refine WL_nil (at_normal ?_)
    refine W_seq ?_
    refine W_region ?_
    refine WL_step rfl rfl (Exec.move (v := Value.bool (e23461.isSome)) rfl rfl ?_)
    refine WL_nil (at_normal ?_)
    rcases ite_some hm with ⟨hc23470, hm⟩ | ⟨hc23470, hm⟩
    · refine W_cond_t rfl hc23470 ?_
      refine W_seq ?_
      refine W_region ?_
      refine WL_step rfl rfl (Exec.move (v := Value.int .i64 (e23461.getD 0)) rfl rfl ?_)
      refine WL_step rfl rfl (Exec.assign (v := Value.int .i64 (e23461.getD 0)) rfl rfl ?_)
      refine WL_nil (at_normal ?_)
      refine W_ret (at_ret ?_)
      have e23472 := Option.some.inj hm
      subst r
      refine ⟨_, ret1 rfl, ?_⟩
      exact ⟨s, (PHeap.le_refl _), hS, rfl⟩
    · refine W_cond_f rfl hc23470 ?_
      replace hc23470 := not_true hc23470
      refine W_skip (at_normal ?_)
      refine W_seq ?_
      refine W_region ?_
      refine WL_step rfl rfl (Exec.assign (v := Value.int .i64 ((-1))) rfl rfl ?_)
      refine WL_nil (at_normal ?_)
      refine W_ret ?_
      have e23474 := Option.some.inj hm
      subst r
      refine ⟨_, ret1 rfl, ?_⟩
      exact ⟨s, (PHeap.le_refl _), hS, rfl⟩

theorem N11 : (Try.f11.name == "runtime.NumGoroutine") = false := by kernel_rfl

theorem base_Is_sim {w0 w : World} {s : PHeap} {H : List Res} {e23458 : (Option Int)} {code23459 : Int}  {r : Bool} (hm : base_Is_p e23458 code23459 = some r) (hS : St w0 s (H) w)  :
    Calls Try.prog 11 #[errV 30 (e23458), Value.int .i64 (code23459)] w fun e w' => ∃ v, e = .returned v ∧ ((fun (y23493 : Bool) => ∃ (s23494 : PHeap) , PHeap.le s s23494 ∧ St w0 s23494 (H) w' ∧ v = Value.bool (y23493)) r) := by
  unfold base_Is_p at hm
  refine calls_of_W Try.func11 rfl rfl ?_
  refine W_seq ?_
  refine W_region ?_
  refine WL_step rfl rfl (Exec.assign (v := Value.bool (false)) rfl rfl ?_)
  refine WL_nil (at_normal ?_)
  refine W_seq ?_
  refine W_mid (M := fun f' w' => ∃ (s23500 : PHeap) , PHeap.le s s23500 ∧ St w0 s23500 (H) w' ∧ f' 4 = Value.bool ((e23458.isSome && decide ((base_Num_t e23458) = code23459)))) ?_ ?_
  · refine W_region ?_
    refine WL_step rfl rfl (Exec.move (v := errV 30 (e23458)) rfl rfl ?_)
    refine WL_step rfl rfl (Exec.err_neq_nil (T := 30) Try.underlying26 rfl rfl rfl ?_)
    refine WL_step rfl rfl (Exec.move (v := Value.bool (e23458.isSome)) rfl rfl ?_)
    by_cases hc23501 : e23458.isSome = true
    · refine WL_run rfl (yield_of rfl (congrArg Value.bool hc23501)) rfl (Exec.move (v := errV 30 (e23458)) rfl rfl ?_)
      refine WL_run rfl (yield_of rfl (congrArg Value.bool hc23501)) rfl (Exec.call rfl rfl Try.func13 rfl N13 (args_cons rfl args_nil) ((base_Num_sim (base_Num_tot e23458) hS ).mono ?_))
      rintro _ w23502 ⟨_, rfl, ⟨s23503, l23504, hS23505, rfl⟩⟩
      refine ⟨_, rfl, ?_⟩
      refine WL_run rfl (yield_of rfl (congrArg Value.bool hc23501)) rfl (Exec.move (v := Value.int .i64 (code23459)) rfl rfl ?_)
      refine WL_run rfl (yield_of rfl (congrArg Value.bool hc23501)) rfl (Exec.eql rfl rfl rfl ?_)
      refine WL_step rfl rfl (Exec.pick_t (v := Value.bool (decide ((base_Num_t e23458) = code23459))) rfl (congrArg Value.bool hc23501) rfl ?_)
      refine WL_step rfl rfl (Exec.assign (v := Value.bool (decide ((base_Num_t e23458) = code23459))) rfl rfl ?_)
      refine WL_nil (at_normal ?_)
      exact ⟨s23503, l23504, hS23505, (congrArg Value.bool (and_t hc23501)).symm⟩
    · replace hc23501 := not_true hc23501
      refine WL_pass rfl (yield_of rfl (congrArg Value.bool hc23501)) rfl rfl ?_
      refine WL_pass rfl (yield_of rfl (congrArg Value.bool hc23501)) rfl rfl ?_
      refine WL_pass rfl (yield_of rfl (congrArg Value.bool hc23501)) rfl rfl ?_
      refine WL_pass rfl (yield_of rfl (congrArg Value.bool hc23501)) rfl rfl ?_
      refine WL_step rfl rfl (Exec.pick_f (v := Value.bool (false)) rfl (congrArg Value.bool hc23501) rfl ?_)
      refine WL_step rfl rfl (Exec.assign (v := Value.bool (false)) rfl rfl ?_)
      refine WL_nil (at_normal ?_)
      exact ⟨s, (PHeap.le_refl _), hS, (congrArg Value.bool (and_f hc23501)).symm⟩
  · intro f23506 w23507 hM23508
    obtain ⟨s23509, l23510, hS23511, p23512⟩ := hM23508
    refine (at_normal ?_)
    refine W_ret ?_
    have e23514 := Option.some.inj hm
    subst r
    refine ⟨_, ret1 rfl, ?_⟩
    exact ⟨s23509, l23510, hS23511, p23512⟩

theorem stn_Network_Times_nil_sim {w0 w : World} {s : PHeap} {H : List Res}   {r : (List Int) × (Option Int)} (hm : stn_Network_Times_nil_p  = some r) (hS : St w0 s (H) w)  :
    Calls Try.prog 22 #[Value.pointer none] w fun e w' => ∃ v, e = .returned v ∧ ((un2 fun (y23595 : (List Int)) (y23596 : (Option Int)) => ∃ (s23598 : PHeap) (v23597 : Value), PHeap.le s s23598 ∧ St w0 s23598 (H) w' ∧ v = Value.tuple #[v23597, errV 30 (y23596)] ∧ SliceRep (encInt .i64) s23598 v23597 y23595) r) := by
  unfold stn_Network_Times_nil_p at hm
  refine calls_of_W Try.func22 rfl rfl ?_
  refine W_seq ?_
  refine W_region ?_
  refine WL_step rfl rfl (Exec.assign (v := Value.slice none 0 0) rfl rfl ?_)
  refine WL_step rfl rfl (Exec.assign (v := errV 30 (none)) rfl rfl ?_)
  refine WL_nil (at_normal ?_)
  refine W_seq ?_
  refine W_seq ?_
  refine W_region ?_
  refine WL_step rfl rfl (Exec.move (v := Value.pointer none) rfl rfl ?_)
  refine WL_step rfl rfl (Exec.ptr_eql_nil Try.underlying24 rfl rfl rfl ?_)
  refine WL_nil (at_normal ?_)
  refine W_true rfl ?_
  refine W_seq ?_
  refine W_region ?_
  refine WL_step rfl rfl (Exec.makeInterface C30 rfl rfl ?_)
  refine WL_step rfl rfl (Exec.assign (v := Value.slice none 0 0) rfl rfl ?_)
  refine WL_step rfl rfl (Exec.assign (v := errV 30 (some 3)) rfl rfl ?_)
  refine WL_nil (at_normal ?_)
  refine W_ret (at_ret ?_)
  have e23600 := Option.some.inj hm
  subst r
  refine ⟨_, ret2 rfl, ?_⟩
  exact ⟨s, (Value.slice none 0 0), (PHeap.le_refl _), hS, (tup2 rfl rfl), (SliceRep.nil _ _)⟩

theorem stn_Network_Distance_nil_sim {w0 w : World} {s : PHeap} {H : List Res} {a23616 : Int} {b23617 : Int}  {r : Int × (Option Int)} (hm : stn_Network_Distance_nil_p a23616 b23617 = some r) (hS : St w0 s (H) w)  :
    Calls Try.prog 15 #[Value.pointer none, Value.int .i64 (a23616), Value.int .i64 (b23617)] w fun e w' => ∃ v, e = .returned v ∧ ((un2 fun (y23619 : Int) (y23620 : (Option Int)) => ∃ (s23621 : PHeap) , PHeap.le s s23621 ∧ St w0 s23621 (H) w' ∧ v = Value.tuple #[Value.int .i64 (y23619), errV 30 (y23620)]) r) := by
  unfold stn_Network_Distance_nil_p at hm
  refine calls_of_W Try.func15 rfl rfl ?_
  refine W_seq ?_
  refine W_region ?_
  refine WL_step rfl rfl (Exec.assign (v := Value.int .i64 (0)) rfl rfl ?_)
  refine WL_step rfl rfl (Exec.assign (v := errV 30 (none)) rfl rfl ?_)
  refine WL_nil (at_normal ?_)
  refine W_seq ?_
  refine W_seq ?_
  refine W_region ?_
  refine WL_step rfl rfl (Exec.move (v := Value.pointer none) rfl rfl ?_)
  refine WL_step rfl rfl (Exec.ptr_eql_nil Try.underlying24 rfl rfl rfl ?_)
  refine WL_nil (at_normal ?_)
  refine W_true rfl ?_
  refine W_seq ?_
  refine W_region ?_
  refine WL_step rfl rfl (Exec.makeInterface C30 rfl rfl ?_)
  refine WL_step rfl rfl (Exec.assign (v := Value.int .i64 (0)) rfl rfl ?_)
  refine WL_step rfl rfl (Exec.assign (v := errV 30 (some 3)) rfl rfl ?_)
  refine WL_nil (at_normal ?_)
  refine W_ret (at_ret ?_)
  have e23623 := Option.some.inj hm
  subst r
  refine ⟨_, ret2 rfl, ?_⟩
  exact ⟨s, (PHeap.le_refl _), hS, (tup2 rfl rfl)⟩

theorem stn_Network_Latest_nil_sim {w0 w : World} {s : PHeap} {H : List Res} {p23614 : Int}  {r : Int × (Option Int)} (hm : stn_Network_Latest_nil_p p23614 = some r) (hS : St w0 s (H) w)  :
    Calls Try.prog 17 #[Value.pointer none, Value.int .i64 (p23614)] w fun e w' => ∃ v, e = .returned v ∧ ((un2 fun (y23635 : Int) (y23636 : (Option Int)) => ∃ (s23637 : PHeap) , PHeap.le s s23637 ∧ St w0 s23637 (H) w' ∧ v = Value.tuple #[Value.int .i64 (y23635), errV 30 (y23636)]) r) := by
  unfold stn_Network_Latest_nil_p at hm
  refine calls_of_W Try.func17 rfl rfl ?_
  refine W_seq ?_
  refine W_region ?_
  refine WL_step rfl rfl (Exec.assign (v := Value.int .i64 (0)) rfl rfl ?_)
  refine WL_step rfl rfl (Exec.assign (v := errV 30 (none)) rfl rfl ?_)
  refine WL_nil (at_normal ?_)
  refine W_seq ?_
  refine W_region ?_
  refine WL_step rfl rfl (Exec.move (v := Value.pointer none) rfl rfl ?_)
  refine WL_step rfl rfl (Exec.move (v := Value.int .i64 (p23614)) rfl rfl ?_)
  refine WL_step rfl rfl (Exec.call rfl rfl Try.func15 rfl N15 (args_cons rfl (args_cons rfl (args_cons rfl args_nil))) ((stn_Network_Distance_nil_sim (stn_Network_Distance_nil_tot 0 p23614) hS ).mono ?_))
  rintro _ w23642 ⟨_, rfl, ⟨s23643, l23644, hS23645, rfl⟩⟩
  refine ⟨_, rfl, ?_⟩
  refine WL_step rfl rfl (Exec.move (v := Value.tuple #[Value.int .i64 ((stn_Network_Distance_nil_t 0 p23614).1), errV 30 ((stn_Network_Distance_nil_t 0 p23614).2)]) rfl rfl ?_)
  refine WL_step rfl rfl (Exec.extract (v := Value.int .i64 ((stn_Network_Distance_nil_t 0 p23614).1)) rfl rfl rfl ?_)
  refine WL_step rfl rfl (Exec.extract (v := errV 30 ((stn_Network_Distance_nil_t 0 p23614).2)) rfl rfl rfl ?_)
  refine WL_step rfl rfl (Exec.assign (v := Value.int .i64 ((stn_Network_Distance_nil_t 0 p23614).1)) rfl rfl ?_)
  refine WL_step rfl rfl (Exec.assign (v := errV 30 ((stn_Network_Distance_nil_t 0 p23614).2)) rfl rfl ?_)
  refine WL_nil (at_normal ?_)
  refine W_seq ?_
  refine W_seq ?_
  refine W_region ?_
  refine WL_step rfl rfl (Exec.move (v := errV 30 ((stn_Network_Distance_nil_t 0 p23614).2)) rfl rfl ?_)
  refine WL_step rfl rfl (Exec.err_neq_nil (T := 30) Try.underlying26 rfl rfl rfl ?_)
  refine WL_nil (at_normal ?_)
  rcases ite_some hm with ⟨hc23646, hm⟩ | ⟨hc23646, hm⟩
  · refine W_cond_t rfl hc23646 ?_
    refine W_seq ?_
    refine W_region ?_
    refine WL_step rfl rfl (Exec.move (v := errV 30 ((stn_Network_Distance_nil_t 0 p23614).2)) rfl rfl ?_)
    refine WL_step rfl rfl (Exec.assign (v := Value.int .i64 (0)) rfl rfl ?_)
    refine WL_step rfl rfl (Exec.assign (v := errV 30 ((stn_Network_Distance_nil_t 0 p23614).2)) rfl rfl ?_)
    refine WL_nil (at_normal ?_)
    refine W_ret (at_ret ?_)
    have e23648 := Option.some.inj hm
    subst r
    refine ⟨_, ret2 rfl, ?_⟩
    exact ⟨s23643, l23644, hS23645, (tup2 rfl rfl)⟩
  · refine W_cond_f rfl hc23646 ?_
    replace hc23646 := not_true hc23646
    refine W_skip (at_normal ?_)
    refine W_seq ?_
    refine W_seq ?_
    refine W_region ?_
    refine WL_step rfl rfl (Exec.move (v := Value.int .i64 ((stn_Network_Distance_nil_t 0 p23614).1)) rfl rfl ?_)
    refine WL_step rfl rfl (Exec.geq rfl rfl rfl ?_)
    refine WL_nil (at_normal ?_)
    rcases ite_some hm with ⟨hc23649, hm⟩ | ⟨hc23649, hm⟩
    · refine W_cond_t rfl hc23649 ?_
      refine W_seq ?_
      refine W_region ?_
      refine WL_step rfl rfl (Exec.makeInterface C30 rfl rfl ?_)
      refine WL_step rfl rfl (Exec.assign (v := Value.int .i64 (0)) rfl rfl ?_)
      refine WL_step rfl rfl (Exec.assign (v := errV 30 (some 3)) rfl rfl ?_)
      refine WL_nil (at_normal ?_)
      refine W_ret (at_ret ?_)
      have e23651 := Option.some.inj hm
      subst r
      refine ⟨_, ret2 rfl, ?_⟩
      exact ⟨s23643, l23644, hS23645, (tup2 rfl rfl)⟩
    · refine W_cond_f rfl hc23649 ?_
      replace hc23649 := not_true hc23649
      refine W_skip (at_normal ?_)
      refine W_seq ?_
      refine W_region ?_
      refine WL_step rfl rfl (Exec.move (v := Value.int .i64 ((stn_Network_Distance_nil_t 0 p23614).1)) rfl rfl ?_)
      refine WL_step rfl rfl (Exec.assign (v := Value.int .i64 ((stn_Network_Distance_nil_t 0 p23614).1)) rfl rfl ?_)
      refine WL_step rfl rfl (Exec.assign (v := errV 30 (none)) rfl rfl ?_)
      refine WL_nil (at_normal ?_)
      refine W_ret ?_
      have e23653 := Option.some.inj hm
      subst r
      refine ⟨_, ret2 rfl, ?_⟩
      exact ⟨s23643, l23644, hS23645, (tup2 rfl rfl)⟩

theorem stn_Network_Add_nil_sim {w0 w : World} {s : PHeap} {H : List Res} {b23685 : Bound}  {r : (Option Int)} (hm : stn_Network_Add_nil_p b23685 = some r) (hS : St w0 s (H) w)  :
    Calls Try.prog 14 #[Value.pointer none, Value.agg #[Value.int .i64 (b23685.A), Value.int .i64 (b23685.B), Value.int .i64 (b23685.Most)]] w fun e w' => ∃ v, e = .returned v ∧ ((fun (y23693 : (Option Int)) => ∃ (s23694 : PHeap) , PHeap.le s s23694 ∧ St w0 s23694 (H) w' ∧ v = errV 30 (y23693)) r) := by
  unfold stn_Network_Add_nil_p at hm
  refine calls_of_W Try.func14 rfl rfl ?_
  refine W_seq ?_
  refine W_region ?_
  refine WL_step rfl rfl (Exec.box (cs := [Value.int .i64 (b23685.A), Value.int .i64 (b23685.B), Value.int .i64 (b23685.Most)]) hS rfl rfl rfl ?_)
  intro b23698 w23699 hS23700
  refine WL_step rfl rfl (Exec.assign (v := errV 30 (none)) rfl rfl ?_)
  refine WL_nil (at_normal ?_)
  refine W_seq ?_
  refine W_seq ?_
  refine W_region ?_
  refine WL_step rfl rfl (Exec.move (v := Value.pointer none) rfl rfl ?_)
  refine WL_step rfl rfl (Exec.ptr_eql_nil Try.underlying24 rfl rfl rfl ?_)
  refine WL_nil (at_normal ?_)
  refine W_true rfl ?_
  refine W_seq ?_
  refine W_region ?_
  refine WL_step rfl rfl (Exec.makeInterface C30 rfl rfl ?_)
  refine WL_step rfl rfl (Exec.assign (v := errV 30 (some 3)) rfl rfl ?_)
  refine WL_nil (at_normal ?_)
  refine W_ret (at_ret ?_)
  have e23702 := Option.some.inj hm
  subst r
  refine ⟨_, ret1 rfl, ?_⟩
  have hS23703 := (hS23700).drop
  exact ⟨s, (PHeap.le_refl _), hS23703, rfl⟩

theorem N9 : (Try.f9.name == "runtime.NumGoroutine") = false := by kernel_rfl

theorem law54_awake_sim {w0 w : World} {s : PHeap} {H : List Res}   {r : Bool} (hm : law54_awake_p  = some r) (hS : St w0 s (H) w)  :
    Calls Try.prog 9 #[] w fun e w' => ∃ v, e = .returned v ∧ ((fun (y23757 : Bool) => ∃ (s23758 : PHeap) , PHeap.le s s23758 ∧ St w0 s23758 (H) w' ∧ v = Value.bool (y23757)) r) := by
  unfold law54_awake_p at hm
  refine calls_of_W Try.func9 rfl rfl ?_
  refine W_seq ?_
  refine W_region ?_
  refine WL_step rfl rfl (Exec.assign (v := Value.bool (false)) rfl rfl ?_)
  refine WL_nil (at_normal ?_)
  refine W_seq ?_
  refine W_region ?_
  refine WL_step rfl rfl (Exec.build rfl (parts_cons (c := [Value.int .i64 (1)]) (cells_of rfl rfl) (parts_cons (c := [Value.int .i64 (0)]) (cells_of rfl rfl) (parts_cons (c := [Value.int .i64 ((-2))]) (cells_of rfl rfl) parts_nil))) (v := Value.agg #[Value.int .i64 (1), Value.int .i64 (0), Value.int .i64 ((-2))]) (fun _ => by kernel_rfl) ?_)
  refine WL_step rfl rfl (Exec.build rfl (parts_cons (c := [Value.int .i64 (1)]) (cells_of rfl rfl) (parts_cons (c := [Value.int .i64 (2)]) (cells_of rfl rfl) (parts_cons (c := [Value.int .i64 (3)]) (cells_of rfl rfl) parts_nil))) (v := Value.agg #[Value.int .i64 (1), Value.int .i64 (2), Value.int .i64 (3)]) (fun _ => by kernel_rfl) ?_)
  refine WL_step rfl rfl (Exec.build rfl (parts_cons (c := [Value.int .i64 (2)]) (cells_of rfl rfl) (parts_cons (c := [Value.int .i64 (1)]) (cells_of rfl rfl) (parts_cons (c := [Value.int .i64 ((-3))]) (cells_of rfl rfl) parts_nil))) (v := Value.agg #[Value.int .i64 (2), Value.int .i64 (1), Value.int .i64 ((-3))]) (fun _ => by kernel_rfl) ?_)
  refine WL_step rfl rfl (Exec.buildSlice (Te := 32) (cs := [Value.int .i64 (1), Value.int .i64 (0), Value.int .i64 ((-2)), Value.int .i64 (1), Value.int .i64 (2), Value.int .i64 (3), Value.int .i64 (2), Value.int .i64 (1), Value.int .i64 ((-3))]) hS rfl (parts_cons (c := [Value.int .i64 (1), Value.int .i64 (0), Value.int .i64 ((-2))]) (cells_of rfl rfl) (parts_cons (c := [Value.int .i64 (1), Value.int .i64 (2), Value.int .i64 (3)]) (cells_of rfl rfl) (parts_cons (c := [Value.int .i64 (2), Value.int .i64 (1), Value.int .i64 ((-3))]) (cells_of rfl rfl) parts_nil))) (fun _ => by kernel_rfl) ?_)
  intro b23785 w23786 hS23787
  have hS23788 := St.boxArr (E := encBound) (xs := [(⟨1, 0, (-2)⟩ : Bound), (⟨1, 2, 3⟩ : Bound), (⟨2, 1, (-3)⟩ : Bound)]) hS23787 ⟨[Value.int .i64 (1), Value.int .i64 (0), Value.int .i64 ((-2))], [Value.int .i64 (1), Value.int .i64 (2), Value.int .i64 (3), Value.int .i64 (2), Value.int .i64 (1), Value.int .i64 ((-3))], rfl, ⟨[Value.int .i64 (1)], [Value.int .i64 (0), Value.int .i64 ((-2))], rfl, rfl, ⟨[Value.int .i64 (0)], [Value.int .i64 ((-2))], rfl, rfl, rfl⟩⟩, ⟨[Value.int .i64 (1), Value.int .i64 (2), Value.int .i64 (3)], [Value.int .i64 (2), Value.int .i64 (1), Value.int .i64 ((-3))], rfl, ⟨[Value.int .i64 (1)], [Value.int .i64 (2), Value.int .i64 (3)], rfl, rfl, ⟨[Value.int .i64 (2)], [Value.int .i64 (3)], rfl, rfl, rfl⟩⟩, ⟨[Value.int .i64 (2), Value.int .i64 (1), Value.int .i64 ((-3))], [], rfl, ⟨[Value.int .i64 (2)], [Value.int .i64 (1), Value.int .i64 ((-3))], rfl, rfl, ⟨[Value.int .i64 (1)], [Value.int .i64 ((-3))], rfl, rfl, rfl⟩⟩, rfl⟩⟩⟩ (by simp [maxLen])
  obtain ⟨s23789, l23790, hS23791, r23792⟩ := hS23788.freezeArr
  obtain ⟨t23793, q23794, hm⟩ := bind_some hm
  obtain ⟨pd23795, y23796⟩ := t23793
  replace hm := un2_eq hm
  refine WL_step rfl rfl (Exec.call rfl rfl Try.func19 rfl N19 (args_cons rfl (args_cons rfl args_nil)) ((law54_made_sim q23794 hS23791 r23792).mono ?_))
  rintro _ w23797 ⟨_, rfl, hp23798⟩
  refine ⟨_, rfl, ?_⟩
  rcases hp23798 with ⟨d23799, rfl, s23800, v23803, v23804, v23805, l23801, hS23802, rfl⟩ | ⟨rfl, s23807, l23808, hS23809, rfl⟩
  · replace hm := optC_some hm
    refine WL_step rfl rfl (Exec.move (v := Value.tuple #[Value.pointer (some ⟨v23803, 0, none⟩), Value.bool (y23796)]) rfl rfl ?_)
    refine WL_step rfl rfl (Exec.extract (v := Value.pointer (some ⟨v23803, 0, none⟩)) rfl rfl rfl ?_)
    refine WL_step rfl rfl (Exec.extract (v := Value.bool (y23796)) rfl rfl rfl ?_)
    refine WL_step rfl rfl (Exec.assign (v := Value.pointer (some ⟨v23803, 0, none⟩)) rfl rfl ?_)
    refine WL_step rfl rfl (Exec.assign (v := Value.bool (y23796)) rfl rfl ?_)
    refine WL_nil (at_normal ?_)
    refine W_seq ?_
    refine W_seq ?_
    refine W_region ?_
    refine WL_step rfl rfl (Exec.move (v := Value.bool (y23796)) rfl rfl ?_)
    refine WL_step rfl rfl (Exec.not rfl rfl ?_)
    refine WL_nil (at_normal ?_)
    rcases ite_some hm with ⟨hc23811, hm⟩ | ⟨hc23811, hm⟩
    · refine W_cond_t rfl hc23811 ?_
      refine W_seq ?_
      refine W_region ?_
      refine WL_step rfl rfl (Exec.assign (v := Value.bool (false)) rfl rfl ?_)
      refine WL_nil (at_normal ?_)
      refine W_ret (at_ret ?_)
      have e23813 := Option.some.inj hm
      subst r
      refine ⟨_, ret1 rfl, ?_⟩
      have hS23814 := (hS23802).drop
      have hS23815 := ((hS23814).drop).drop
      exact ⟨s23800, (PHeap.le.trans l23790 l23801), hS23815, rfl⟩
    · refine W_cond_f rfl hc23811 ?_
      replace hc23811 := not_true hc23811
      refine W_skip (at_normal ?_)
      refine W_seq ?_
      refine W_region ?_
      refine WL_step rfl rfl (Exec.move (v := Value.pointer (some ⟨v23803, 0, none⟩)) rfl rfl ?_)
      obtain ⟨t23828, q23829, hm⟩ := bind_some hm
      obtain ⟨y23830, y23831⟩ := t23828
      replace hm := un2_eq hm
      have hS23832 := ((hS23802).f2).f2
      have hS23833 := (hS23832).f2
      refine WL_step rfl rfl (Exec.call rfl rfl Try.func22 rfl N22 (args_cons rfl args_nil) ((stn_Network_Times_sim q23829 hS23833 ).mono ?_))
      rintro _ w23834 ⟨_, rfl, ⟨s23835, v23838, l23836, hS23837, rfl, r23839⟩⟩
      refine ⟨_, rfl, ?_⟩
      refine WL_step rfl rfl (Exec.move (v := Value.tuple #[v23838, errV 30 (y23831)]) rfl rfl ?_)
      refine WL_step rfl rfl (Exec.extract (v := v23838) rfl rfl rfl ?_)
      refine WL_step rfl rfl (Exec.extract (v := errV 30 (y23831)) rfl rfl rfl ?_)
      refine WL_step rfl rfl (Exec.assign (v := v23838) rfl rfl ?_)
      refine WL_step rfl rfl (Exec.assign (v := errV 30 (y23831)) rfl rfl ?_)
      refine WL_nil (at_normal ?_)
      refine W_seq ?_
      refine W_region ?_
      refine WL_step rfl rfl (Exec.move (v := Value.pointer (some ⟨v23803, 0, none⟩)) rfl rfl ?_)
      obtain ⟨t23850, q23851, hm⟩ := bind_some hm
      obtain ⟨y23852, y23853⟩ := t23850
      replace hm := un2_eq hm
      have hS23854 := ((hS23837).f2).f2
      have hS23855 := (hS23854).f2
      refine WL_step rfl rfl (Exec.call rfl rfl Try.func17 rfl N17 (args_cons rfl (args_cons rfl args_nil)) ((stn_Network_Latest_sim q23851 hS23855 ).mono ?_))
      rintro _ w23856 ⟨_, rfl, ⟨s23857, l23858, hS23859, rfl⟩⟩
      refine ⟨_, rfl, ?_⟩
      refine WL_step rfl rfl (Exec.move (v := Value.tuple #[Value.int .i64 (y23852), errV 30 (y23853)]) rfl rfl ?_)
      refine WL_step rfl rfl (Exec.extract (v := Value.int .i64 (y23852)) rfl rfl rfl ?_)
      refine WL_step rfl rfl (Exec.extract (v := errV 30 (y23853)) rfl rfl rfl ?_)
      refine WL_step rfl rfl (Exec.assign (v := Value.int .i64 (y23852)) rfl rfl ?_)
      refine WL_step rfl rfl (Exec.assign (v := errV 30 (y23853)) rfl rfl ?_)
      refine WL_nil (at_normal ?_)
      refine W_seq ?_
      obtain ⟨z23896, ht23897, hm⟩ := bind_some hm
      refine W_mid (M := fun f' w' => (fun (z23896 : Bool) => ∃ (s23898 : PHeap) , PHeap.le s23857 s23898 ∧ St w0 s23898 (H) w' ∧ f' 0 = Value.bool (z23896)) z23896) ?_ ?_
      · refine W_region ?_
        refine WL_step rfl rfl (Exec.move (v := errV 30 (y23831)) rfl rfl ?_)
        refine WL_step rfl rfl (Exec.err_eql_nil (T := 30) Try.underlying26 rfl rfl rfl ?_)
        refine WL_step rfl rfl (Exec.move (v := Value.bool (y23831.isNone)) rfl rfl ?_)
        rcases ite_some ht23897 with ⟨hc23899, ht23897⟩ | ⟨hc23899, ht23897⟩
        · refine WL_run rfl (yield_of rfl (congrArg Value.bool hc23899)) rfl (Exec.move (v := v23838) rfl rfl ?_)
          refine WL_run rfl (yield_of rfl (congrArg Value.bool hc23899)) rfl (Exec.buildSlice (Te := 3) (cs := [Value.int .i64 (0), Value.int .i64 (2), Value.int .i64 (5)]) hS23859 rfl (parts_cons (c := [Value.int .i64 (0)]) (cells_of rfl rfl) (parts_cons (c := [Value.int .i64 (2)]) (cells_of rfl rfl) (parts_cons (c := [Value.int .i64 (5)]) (cells_of rfl rfl) parts_nil))) (fun _ => by kernel_rfl) ?_)
          intro b23900 w23901 hS23902
          have hS23903 := St.boxArr (E := (encInt .i64)) (xs := [0, 2, 5]) hS23902 ⟨[Value.int .i64 (0)], [Value.int .i64 (2), Value.int .i64 (5)], rfl, rfl, ⟨[Value.int .i64 (2)], [Value.int .i64 (5)], rfl, rfl, ⟨[Value.int .i64 (5)], [], rfl, rfl, rfl⟩⟩⟩ (by simp [maxLen])
          obtain ⟨s23904, l23905, hS23906, r23907⟩ := hS23903.freezeArr
          obtain ⟨y23910, q23909, ht23897⟩ := bind_some ht23897
          refine WL_run rfl (yield_of rfl (congrArg Value.bool hc23899)) rfl (Exec.call rfl rfl Try.func23 rfl N23 (args_cons rfl (args_cons rfl args_nil)) ((base_Ints_sim q23909 hS23906 (r23839.mono (PHeap.le.trans l23858 l23905)) r23907).mono ?_))
          rintro _ w23911 ⟨_, rfl, ⟨s23912, l23913, hS23914, rfl⟩⟩
          refine ⟨_, rfl, ?_⟩
          refine WL_step rfl rfl (Exec.pick_t (v := Value.bool (y23910)) rfl (congrArg Value.bool hc23899) rfl ?_)
          refine WL_step rfl rfl (Exec.move (v := Value.bool (y23910)) rfl rfl ?_)
          rcases ite_some ht23897 with ⟨hc23915, ht23897⟩ | ⟨hc23915, ht23897⟩
          · refine WL_run rfl (yield_of rfl (congrArg Value.bool hc23915)) rfl (Exec.move (v := errV 30 (y23853)) rfl rfl ?_)
            refine WL_run rfl (yield_of rfl (congrArg Value.bool hc23915)) rfl (Exec.call rfl rfl Try.func11 rfl N11 (args_cons rfl (args_cons rfl args_nil)) ((base_Is_sim (base_Is_tot y23853 3) hS23914 ).mono ?_))
            rintro _ w23916 ⟨_, rfl, ⟨s23917, l23918, hS23919, rfl⟩⟩
            refine ⟨_, rfl, ?_⟩
            refine WL_step rfl rfl (Exec.pick_t (v := Value.bool ((base_Is_t y23853 3))) rfl (congrArg Value.bool hc23915) rfl ?_)
            refine WL_step rfl rfl (Exec.move (v := Value.bool ((base_Is_t y23853 3))) rfl rfl ?_)
            rcases ite_some ht23897 with ⟨hc23920, ht23897⟩ | ⟨hc23920, ht23897⟩
            · refine WL_run rfl (yield_of rfl (congrArg Value.bool hc23920)) rfl (Exec.move (v := Value.pointer (some ⟨v23803, 0, none⟩)) rfl rfl ?_)
              refine WL_run rfl (yield_of rfl (congrArg Value.bool hc23920)) rfl (Exec.build rfl (parts_cons (c := [Value.int .i64 (0)]) (cells_of rfl rfl) (parts_cons (c := [Value.int .i64 (2)]) (cells_of rfl rfl) (parts_cons (c := [Value.int .i64 (4)]) (cells_of rfl rfl) parts_nil))) (v := Value.agg #[Value.int .i64 (0), Value.int .i64 (2), Value.int .i64 (4)]) (fun _ => by kernel_rfl) ?_)
              obtain ⟨t23921, q23922, ht23897⟩ := bind_some ht23897
              obtain ⟨y23923, l23924⟩ := t23921
              replace ht23897 := un2_eq ht23897
              have hS23925 := ((hS23919).f2).f2
              have hS23926 := (hS23925).f2
              refine WL_run rfl (yield_of rfl (congrArg Value.bool hc23920)) rfl (Exec.call rfl rfl Try.func14 rfl N14 (args_cons rfl (args_cons rfl args_nil)) ((stn_Network_Add_sim q23922 hS23926 ).mono ?_))
              rintro _ w23927 ⟨_, rfl, ⟨s23928, l23929, hS23930, rfl⟩⟩
              refine ⟨_, rfl, ?_⟩
              refine WL_run rfl (yield_of rfl (congrArg Value.bool hc23920)) rfl (Exec.call rfl rfl Try.func11 rfl N11 (args_cons rfl (args_cons rfl args_nil)) ((base_Is_sim (base_Is_tot y23923 21) hS23930 ).mono ?_))
              rintro _ w23931 ⟨_, rfl, ⟨s23932, l23933, hS23934, rfl⟩⟩
              refine ⟨_, rfl, ?_⟩
              refine WL_step rfl rfl (Exec.pick_t (v := Value.bool ((base_Is_t y23923 21))) rfl (congrArg Value.bool hc23920) rfl ?_)
              refine WL_step rfl rfl (Exec.assign (v := Value.bool ((base_Is_t y23923 21))) rfl rfl ?_)
              refine WL_nil (at_normal ?_)
              have e23935 := Option.some.inj ht23897
              subst z23896
              have hS23936 := (hS23934).drop
              have hS23937 := ((hS23936).drop).drop
              exact ⟨s23932, (PHeap.le.trans (PHeap.le.trans (PHeap.le.trans (PHeap.le.trans l23905 l23913) l23918) l23929) l23933), hS23937, rfl⟩
            · replace hc23920 := not_true hc23920
              refine WL_pass rfl (yield_of rfl (congrArg Value.bool hc23920)) rfl rfl ?_
              refine WL_pass rfl (yield_of rfl (congrArg Value.bool hc23920)) rfl rfl ?_
              refine WL_pass rfl (yield_of rfl (congrArg Value.bool hc23920)) rfl rfl ?_
              refine WL_pass rfl (yield_of rfl (congrArg Value.bool hc23920)) rfl rfl ?_
              refine WL_step rfl rfl (Exec.pick_f (v := Value.bool (false)) rfl (congrArg Value.bool hc23920) rfl ?_)
              refine WL_step rfl rfl (Exec.assign (v := Value.bool (false)) rfl rfl ?_)
              refine WL_nil (at_normal ?_)
              have e23938 := Option.some.inj ht23897
              subst z23896
              have hS23939 := (hS23919).drop
              have hS23940 := ((hS23939).drop).drop
              exact ⟨s23917, (PHeap.le.trans (PHeap.le.trans l23905 l23913) l23918), hS23940, rfl⟩
          · replace hc23915 := not_true hc23915
            refine WL_pass rfl (yield_of rfl (congrArg Value.bool hc23915)) rfl rfl ?_
            refine WL_pass rfl (yield_of rfl (congrArg Value.bool hc23915)) rfl rfl ?_
            refine WL_step rfl rfl (Exec.pick_f (v := Value.bool (false)) rfl (congrArg Value.bool hc23915) rfl ?_)
            refine WL_step rfl rfl (Exec.move (v := Value.bool (false)) rfl rfl ?_)
            refine WL_pass rfl (yield_of rfl rfl) rfl rfl ?_
            refine WL_pass rfl (yield_of rfl rfl) rfl rfl ?_
            refine WL_pass rfl (yield_of rfl rfl) rfl rfl ?_
            refine WL_pass rfl (yield_of rfl rfl) rfl rfl ?_
            refine WL_step rfl rfl (Exec.pick_f (v := Value.bool (false)) rfl rfl rfl ?_)
            refine WL_step rfl rfl (Exec.assign (v := Value.bool (false)) rfl rfl ?_)
            refine WL_nil (at_normal ?_)
            have e23941 := Option.some.inj ht23897
            subst z23896
            have hS23942 := (hS23914).drop
            have hS23943 := ((hS23942).drop).drop
            exact ⟨s23912, (PHeap.le.trans l23905 l23913), hS23943, rfl⟩
        · replace hc23899 := not_true hc23899
          refine WL_pass rfl (yield_of rfl (congrArg Value.bool hc23899)) rfl rfl ?_
          refine WL_pass rfl (yield_of rfl (congrArg Value.bool hc23899)) rfl rfl ?_
          refine WL_pass rfl (yield_of rfl (congrArg Value.bool hc23899)) rfl rfl ?_
          refine WL_step rfl rfl (Exec.pick_f (v := Value.bool (false)) rfl (congrArg Value.bool hc23899) rfl ?_)
          refine WL_step rfl rfl (Exec.move (v := Value.bool (false)) rfl rfl ?_)
          refine WL_pass rfl (yield_of rfl rfl) rfl rfl ?_
          refine WL_pass rfl (yield_of rfl rfl) rfl rfl ?_
          refine WL_step rfl rfl (Exec.pick_f (v := Value.bool (false)) rfl rfl rfl ?_)
          refine WL_step rfl rfl (Exec.move (v := Value.bool (false)) rfl rfl ?_)
          refine WL_pass rfl (yield_of rfl rfl) rfl rfl ?_
          refine WL_pass rfl (yield_of rfl rfl) rfl rfl ?_
          refine WL_pass rfl (yield_of rfl rfl) rfl rfl ?_
          refine WL_pass rfl (yield_of rfl rfl) rfl rfl ?_
          refine WL_step rfl rfl (Exec.pick_f (v := Value.bool (false)) rfl rfl rfl ?_)
          refine WL_step rfl rfl (Exec.assign (v := Value.bool (false)) rfl rfl ?_)
          refine WL_nil (at_normal ?_)
          have e23944 := Option.some.inj ht23897
          subst z23896
          have hS23945 := (hS23859).drop
          have hS23946 := ((hS23945).drop).drop
          exact ⟨s23857, (PHeap.le_refl _), hS23946, rfl⟩
      · intro f23947 w23948 hM23949
        obtain ⟨s23950, l23951, hS23952, p23953⟩ := hM23949
        refine (at_normal ?_)
        refine W_ret ?_
        have e23955 := Option.some.inj hm
        subst r
        refine ⟨_, ret1 rfl, ?_⟩
        exact ⟨s23950, (PHeap.le.trans (PHeap.le.trans (PHeap.le.trans (PHeap.le.trans l23790 l23801) l23836) l23858) l23951), hS23952, p23953⟩
  · replace hm := optC_none hm
    refine WL_step rfl rfl (Exec.move (v := Value.tuple #[Value.pointer none, Value.bool (y23796)]) rfl rfl ?_)
    refine WL_step rfl rfl (Exec.extract (v := Value.pointer none) rfl rfl rfl ?_)
    refine WL_step rfl rfl (Exec.extract (v := Value.bool (y23796)) rfl rfl rfl ?_)
    refine WL_step rfl rfl (Exec.assign (v := Value.pointer none) rfl rfl ?_)
    refine WL_step rfl rfl (Exec.assign (v := Value.bool (y23796)) rfl rfl ?_)
    refine WL_nil (at_normal ?_)
    refine W_seq ?_
    refine W_seq ?_
    refine W_region ?_
    refine WL_step rfl rfl (Exec.move (v := Value.bool (y23796)) rfl rfl ?_)
    refine WL_step rfl rfl (Exec.not rfl rfl ?_)
    refine WL_nil (at_normal ?_)
    rcases ite_some hm with ⟨hc23956, hm⟩ | ⟨hc23956, hm⟩
    · refine W_cond_t rfl hc23956 ?_
      refine W_seq ?_
      refine W_region ?_
      refine WL_step rfl rfl (Exec.assign (v := Value.bool (false)) rfl rfl ?_)
      refine WL_nil (at_normal ?_)
      refine W_ret (at_ret ?_)
      have e23958 := Option.some.inj hm
      subst r
      refine ⟨_, ret1 rfl, ?_⟩
      exact ⟨s23807, (PHeap.le.trans l23790 l23808), hS23809, rfl⟩
    · refine W_cond_f rfl hc23956 ?_
      replace hc23956 := not_true hc23956
      refine W_skip (at_normal ?_)
      refine W_seq ?_
      refine W_region ?_
      refine WL_step rfl rfl (Exec.move (v := Value.pointer none) rfl rfl ?_)
      refine WL_step rfl rfl (Exec.call rfl rfl Try.func22 rfl N22 (args_cons rfl args_nil) ((stn_Network_Times_nil_sim stn_Network_Times_nil_tot hS23809 ).mono ?_))
      rintro _ w23965 ⟨_, rfl, ⟨s23966, v23969, l23967, hS23968, rfl, r23970⟩⟩
      refine ⟨_, rfl, ?_⟩
      refine WL_step rfl rfl (Exec.move (v := Value.tuple #[v23969, errV 30 ((stn_Network_Times_nil_t).2)]) rfl rfl ?_)
      refine WL_step rfl rfl (Exec.extract (v := v23969) rfl rfl rfl ?_)
      refine WL_step rfl rfl (Exec.extract (v := errV 30 ((stn_Network_Times_nil_t).2)) rfl rfl rfl ?_)
      refine WL_step rfl rfl (Exec.assign (v := v23969) rfl rfl ?_)
      refine WL_step rfl rfl (Exec.assign (v := errV 30 ((stn_Network_Times_nil_t).2)) rfl rfl ?_)
      refine WL_nil (at_normal ?_)
      refine W_seq ?_
      refine W_region ?_
      refine WL_step rfl rfl (Exec.move (v := Value.pointer none) rfl rfl ?_)
      refine WL_step rfl rfl (Exec.call rfl rfl Try.func17 rfl N17 (args_cons rfl (args_cons rfl args_nil)) ((stn_Network_Latest_nil_sim (stn_Network_Latest_nil_tot 1) hS23968 ).mono ?_))
      rintro _ w23975 ⟨_, rfl, ⟨s23976, l23977, hS23978, rfl⟩⟩
      refine ⟨_, rfl, ?_⟩
      refine WL_step rfl rfl (Exec.move (v := Value.tuple #[Value.int .i64 ((stn_Network_Latest_nil_t 1).1), errV 30 ((stn_Network_Latest_nil_t 1).2)]) rfl rfl ?_)
      refine WL_step rfl rfl (Exec.extract (v := Value.int .i64 ((stn_Network_Latest_nil_t 1).1)) rfl rfl rfl ?_)
      refine WL_step rfl rfl (Exec.extract (v := errV 30 ((stn_Network_Latest_nil_t 1).2)) rfl rfl rfl ?_)
      refine WL_step rfl rfl (Exec.assign (v := Value.int .i64 ((stn_Network_Latest_nil_t 1).1)) rfl rfl ?_)
      refine WL_step rfl rfl (Exec.assign (v := errV 30 ((stn_Network_Latest_nil_t 1).2)) rfl rfl ?_)
      refine WL_nil (at_normal ?_)
      refine W_seq ?_
      obtain ⟨z24009, ht24010, hm⟩ := bind_some hm
      refine W_mid (M := fun f' w' => (fun (z24009 : Bool) => ∃ (s24011 : PHeap) , PHeap.le s23976 s24011 ∧ St w0 s24011 (H) w' ∧ f' 0 = Value.bool (z24009)) z24009) ?_ ?_
      · refine W_region ?_
        refine WL_step rfl rfl (Exec.move (v := errV 30 ((stn_Network_Times_nil_t).2)) rfl rfl ?_)
        refine WL_step rfl rfl (Exec.err_eql_nil (T := 30) Try.underlying26 rfl rfl rfl ?_)
        refine WL_step rfl rfl (Exec.move (v := Value.bool (((stn_Network_Times_nil_t).2).isNone)) rfl rfl ?_)
        rcases ite_some ht24010 with ⟨hc24012, ht24010⟩ | ⟨hc24012, ht24010⟩
        · refine WL_run rfl (yield_of rfl (congrArg Value.bool hc24012)) rfl (Exec.move (v := v23969) rfl rfl ?_)
          refine WL_run rfl (yield_of rfl (congrArg Value.bool hc24012)) rfl (Exec.buildSlice (Te := 3) (cs := [Value.int .i64 (0), Value.int .i64 (2), Value.int .i64 (5)]) hS23978 rfl (parts_cons (c := [Value.int .i64 (0)]) (cells_of rfl rfl) (parts_cons (c := [Value.int .i64 (2)]) (cells_of rfl rfl) (parts_cons (c := [Value.int .i64 (5)]) (cells_of rfl rfl) parts_nil))) (fun _ => by kernel_rfl) ?_)
          intro b24013 w24014 hS24015
          have hS24016 := St.boxArr (E := (encInt .i64)) (xs := [0, 2, 5]) hS24015 ⟨[Value.int .i64 (0)], [Value.int .i64 (2), Value.int .i64 (5)], rfl, rfl, ⟨[Value.int .i64 (2)], [Value.int .i64 (5)], rfl, rfl, ⟨[Value.int .i64 (5)], [], rfl, rfl, rfl⟩⟩⟩ (by simp [maxLen])
          obtain ⟨s24017, l24018, hS24019, r24020⟩ := hS24016.freezeArr
          obtain ⟨y24023, q24022, ht24010⟩ := bind_some ht24010
          refine WL_run rfl (yield_of rfl (congrArg Value.bool hc24012)) rfl (Exec.call rfl rfl Try.func23 rfl N23 (args_cons rfl (args_cons rfl args_nil)) ((base_Ints_sim q24022 hS24019 (r23970.mono (PHeap.le.trans l23977 l24018)) r24020).mono ?_))
          rintro _ w24024 ⟨_, rfl, ⟨s24025, l24026, hS24027, rfl⟩⟩
          refine ⟨_, rfl, ?_⟩
          refine WL_step rfl rfl (Exec.pick_t (v := Value.bool (y24023)) rfl (congrArg Value.bool hc24012) rfl ?_)
          refine WL_step rfl rfl (Exec.move (v := Value.bool (y24023)) rfl rfl ?_)
          rcases ite_some ht24010 with ⟨hc24028, ht24010⟩ | ⟨hc24028, ht24010⟩
          · refine WL_run rfl (yield_of rfl (congrArg Value.bool hc24028)) rfl (Exec.move (v := errV 30 ((stn_Network_Latest_nil_t 1).2)) rfl rfl ?_)
            refine WL_run rfl (yield_of rfl (congrArg Value.bool hc24028)) rfl (Exec.call rfl rfl Try.func11 rfl N11 (args_cons rfl (args_cons rfl args_nil)) ((base_Is_sim (base_Is_tot ((stn_Network_Latest_nil_t 1).2) 3) hS24027 ).mono ?_))
            rintro _ w24029 ⟨_, rfl, ⟨s24030, l24031, hS24032, rfl⟩⟩
            refine ⟨_, rfl, ?_⟩
            refine WL_step rfl rfl (Exec.pick_t (v := Value.bool ((base_Is_t ((stn_Network_Latest_nil_t 1).2) 3))) rfl (congrArg Value.bool hc24028) rfl ?_)
            refine WL_step rfl rfl (Exec.move (v := Value.bool ((base_Is_t ((stn_Network_Latest_nil_t 1).2) 3))) rfl rfl ?_)
            rcases ite_some ht24010 with ⟨hc24033, ht24010⟩ | ⟨hc24033, ht24010⟩
            · refine WL_run rfl (yield_of rfl (congrArg Value.bool hc24033)) rfl (Exec.move (v := Value.pointer none) rfl rfl ?_)
              refine WL_run rfl (yield_of rfl (congrArg Value.bool hc24033)) rfl (Exec.build rfl (parts_cons (c := [Value.int .i64 (0)]) (cells_of rfl rfl) (parts_cons (c := [Value.int .i64 (2)]) (cells_of rfl rfl) (parts_cons (c := [Value.int .i64 (4)]) (cells_of rfl rfl) parts_nil))) (v := Value.agg #[Value.int .i64 (0), Value.int .i64 (2), Value.int .i64 (4)]) (fun _ => by kernel_rfl) ?_)
              refine WL_run rfl (yield_of rfl (congrArg Value.bool hc24033)) rfl (Exec.call rfl rfl Try.func14 rfl N14 (args_cons rfl (args_cons rfl args_nil)) ((stn_Network_Add_nil_sim (stn_Network_Add_nil_tot (⟨0, 2, 4⟩ : Bound)) hS24032 ).mono ?_))
              rintro _ w24034 ⟨_, rfl, ⟨s24035, l24036, hS24037, rfl⟩⟩
              refine ⟨_, rfl, ?_⟩
              refine WL_run rfl (yield_of rfl (congrArg Value.bool hc24033)) rfl (Exec.call rfl rfl Try.func11 rfl N11 (args_cons rfl (args_cons rfl args_nil)) ((base_Is_sim (base_Is_tot (stn_Network_Add_nil_t (⟨0, 2, 4⟩ : Bound)) 21) hS24037 ).mono ?_))
              rintro _ w24038 ⟨_, rfl, ⟨s24039, l24040, hS24041, rfl⟩⟩
              refine ⟨_, rfl, ?_⟩
              refine WL_step rfl rfl (Exec.pick_t (v := Value.bool ((base_Is_t (stn_Network_Add_nil_t (⟨0, 2, 4⟩ : Bound)) 21))) rfl (congrArg Value.bool hc24033) rfl ?_)
              refine WL_step rfl rfl (Exec.assign (v := Value.bool ((base_Is_t (stn_Network_Add_nil_t (⟨0, 2, 4⟩ : Bound)) 21))) rfl rfl ?_)
              refine WL_nil (at_normal ?_)
              have e24042 := Option.some.inj ht24010
              subst z24009
              exact ⟨s24039, (PHeap.le.trans (PHeap.le.trans (PHeap.le.trans (PHeap.le.trans l24018 l24026) l24031) l24036) l24040), hS24041, rfl⟩
            · replace hc24033 := not_true hc24033
              refine WL_pass rfl (yield_of rfl (congrArg Value.bool hc24033)) rfl rfl ?_
              refine WL_pass rfl (yield_of rfl (congrArg Value.bool hc24033)) rfl rfl ?_
              refine WL_pass rfl (yield_of rfl (congrArg Value.bool hc24033)) rfl rfl ?_
              refine WL_pass rfl (yield_of rfl (congrArg Value.bool hc24033)) rfl rfl ?_
              refine WL_step rfl rfl (Exec.pick_f (v := Value.bool (false)) rfl (congrArg Value.bool hc24033) rfl ?_)
              refine WL_step rfl rfl (Exec.assign (v := Value.bool (false)) rfl rfl ?_)
              refine WL_nil (at_normal ?_)
              have e24043 := Option.some.inj ht24010
              subst z24009
              exact ⟨s24030, (PHeap.le.trans (PHeap.le.trans l24018 l24026) l24031), hS24032, rfl⟩
          · replace hc24028 := not_true hc24028
            refine WL_pass rfl (yield_of rfl (congrArg Value.bool hc24028)) rfl rfl ?_
            refine WL_pass rfl (yield_of rfl (congrArg Value.bool hc24028)) rfl rfl ?_
            refine WL_step rfl rfl (Exec.pick_f (v := Value.bool (false)) rfl (congrArg Value.bool hc24028) rfl ?_)
            refine WL_step rfl rfl (Exec.move (v := Value.bool (false)) rfl rfl ?_)
            refine WL_pass rfl (yield_of rfl rfl) rfl rfl ?_
            refine WL_pass rfl (yield_of rfl rfl) rfl rfl ?_
            refine WL_pass rfl (yield_of rfl rfl) rfl rfl ?_
            refine WL_pass rfl (yield_of rfl rfl) rfl rfl ?_
            refine WL_step rfl rfl (Exec.pick_f (v := Value.bool (false)) rfl rfl rfl ?_)
            refine WL_step rfl rfl (Exec.assign (v := Value.bool (false)) rfl rfl ?_)
            refine WL_nil (at_normal ?_)
            have e24044 := Option.some.inj ht24010
            subst z24009
            exact ⟨s24025, (PHeap.le.trans l24018 l24026), hS24027, rfl⟩
        · replace hc24012 := not_true hc24012
          refine WL_pass rfl (yield_of rfl (congrArg Value.bool hc24012)) rfl rfl ?_
          refine WL_pass rfl (yield_of rfl (congrArg Value.bool hc24012)) rfl rfl ?_
          refine WL_pass rfl (yield_of rfl (congrArg Value.bool hc24012)) rfl rfl ?_
          refine WL_step rfl rfl (Exec.pick_f (v := Value.bool (false)) rfl (congrArg Value.bool hc24012) rfl ?_)
          refine WL_step rfl rfl (Exec.move (v := Value.bool (false)) rfl rfl ?_)
          refine WL_pass rfl (yield_of rfl rfl) rfl rfl ?_
          refine WL_pass rfl (yield_of rfl rfl) rfl rfl ?_
          refine WL_step rfl rfl (Exec.pick_f (v := Value.bool (false)) rfl rfl rfl ?_)
          refine WL_step rfl rfl (Exec.move (v := Value.bool (false)) rfl rfl ?_)
          refine WL_pass rfl (yield_of rfl rfl) rfl rfl ?_
          refine WL_pass rfl (yield_of rfl rfl) rfl rfl ?_
          refine WL_pass rfl (yield_of rfl rfl) rfl rfl ?_
          refine WL_pass rfl (yield_of rfl rfl) rfl rfl ?_
          refine WL_step rfl rfl (Exec.pick_f (v := Value.bool (false)) rfl rfl rfl ?_)
          refine WL_step rfl rfl (Exec.assign (v := Value.bool (false)) rfl rfl ?_)
          refine WL_nil (at_normal ?_)
          have e24045 := Option.some.inj ht24010
          subst z24009
          exact ⟨s23976, (PHeap.le_refl _), hS23978, rfl⟩
      · intro f24046 w24047 hM24048
        obtain ⟨s24049, l24050, hS24051, p24052⟩ := hM24048
        refine (at_normal ?_)
        refine W_ret ?_
        have e24054 := Option.some.inj hm
        subst r
        refine ⟨_, ret1 rfl, ?_⟩
        exact ⟨s24049, (PHeap.le.trans (PHeap.le.trans (PHeap.le.trans (PHeap.le.trans l23790 l23808) l23967) l23977) l24050), hS24051, p24052⟩

theorem N20 : (Try.f20.name == "runtime.NumGoroutine") = false := by kernel_rfl

theorem stn_Network_Holds_sim {w0 w : World} {s : PHeap} {H : List Res} {n24579 : stn_Network} {times24583 : (List Int)} {b24580 : Nat} {v24581 : Value} {hs24582 : List Value} {v24584 : Value} {r : Bool} (hm : stn_Network_Holds_p n24579 times24583 = some r) (hS : St w0 s (Res.box b24580 63 [v24581] :: Res.arr encRaw 49 v24581 hs24582 :: Res.rows (encInt .i64) 3 hs24582 n24579.d :: H) w) (a24585 : SliceRep (encInt .i64) s v24584 times24583) :
    Calls Try.prog 20 #[Value.pointer (some ⟨b24580, 0, none⟩), v24584] w fun e w' => ∃ v, e = .returned v ∧ ((fun (y31514 : Bool) => ∃ (s31515 : PHeap) , PHeap.le s s31515 ∧ St w0 s31515 (Res.box b24580 63 [v24581] :: Res.arr encRaw 49 v24581 hs24582 :: Res.rows (encInt .i64) 3 hs24582 n24579.d :: H) w' ∧ v = Value.bool (y31514)) r) := by
  unfold stn_Network_Holds_p at hm
  refine calls_of_W Try.func20 rfl rfl ?_
  refine W_seq ?_
  refine W_region ?_
  refine WL_step rfl rfl (Exec.assign (v := Value.bool (false)) rfl rfl ?_)
  refine WL_nil (at_normal ?_)
  refine W_seq ?_
  refine W_seq ?_
  obtain ⟨z31524, ht31525, hm⟩ := bind_some hm
  refine W_mid (M := fun f' w' => (fun (z31524 : Bool) => ∃ (s31526 : PHeap) , PHeap.le s s31526 ∧ St w0 s31526 (Res.box b24580 63 [v24581] :: Res.arr encRaw 49 v24581 hs24582 :: Res.rows (encInt .i64) 3 hs24582 n24579.d :: H) w' ∧ f' 0 = Value.pointer (some ⟨b24580, 0, none⟩) ∧ f' 1 = v24584 ∧ f' 28 = Value.bool (z31524)) z31524) ?_ ?_
  · refine W_region ?_
    refine WL_step rfl rfl (Exec.move (v := Value.pointer (some ⟨b24580, 0, none⟩)) rfl rfl ?_)
    refine WL_step rfl rfl (Exec.ptr_eql_nil Try.underlying24 rfl rfl rfl ?_)
    refine WL_step rfl rfl (Exec.move (v := Value.bool (false)) rfl rfl ?_)
    refine WL_run rfl (yield_of rfl rfl) rfl (Exec.move (v := v24584) rfl rfl ?_)
    refine WL_run rfl (yield_of rfl rfl) rfl (Exec.len_rep S49 rfl rfl a24585 ?_)
    refine WL_run rfl (yield_of rfl rfl) rfl (Exec.move (v := Value.pointer (some ⟨b24580, 0, none⟩)) rfl rfl ?_)
    refine WL_run rfl (yield_of rfl rfl) rfl (Exec.nilCheck_ptr rfl rfl ?_)
    refine WL_run rfl (yield_of rfl rfl) rfl (Exec.field F63_0 rfl rfl rfl ?_)
    refine WL_run rfl (yield_of rfl rfl) rfl (Exec.load_box (hS) A61 rfl rfl rfl ?_)
    refine WL_run rfl (yield_of rfl rfl) rfl (Exec.len_grid (((hS).f2).f2) (((hS).f2).f2).f1.rows_len S61 rfl rfl ?_)
    refine WL_run rfl (yield_of rfl rfl) rfl (Exec.neq rfl rfl rfl ?_)
    refine WL_step rfl rfl (Exec.pick_f (v := Value.bool (!decide ((times24583.length : Int) = (n24579.d.length : Int)))) rfl rfl rfl ?_)
    refine WL_step rfl rfl (Exec.move (v := Value.bool (!decide ((times24583.length : Int) = (n24579.d.length : Int)))) rfl rfl ?_)
    rcases ite_some ht31525 with ⟨hc31527, ht31525⟩ | ⟨hc31527, ht31525⟩
    · refine WL_pass rfl (yield_of rfl (congrArg Value.bool hc31527)) rfl rfl ?_
      refine WL_pass rfl (yield_of rfl (congrArg Value.bool hc31527)) rfl rfl ?_
      refine WL_pass rfl (yield_of rfl (congrArg Value.bool hc31527)) rfl rfl ?_
      refine WL_pass rfl (yield_of rfl (congrArg Value.bool hc31527)) rfl rfl ?_
      refine WL_step rfl rfl (Exec.pick_t (v := Value.bool (true)) rfl (congrArg Value.bool hc31527) rfl ?_)
      refine WL_nil (at_normal ?_)
      have e31528 := Option.some.inj ht31525
      subst z31524
      have hS31529 := ((hS).f2).f2
      have hS31530 := (hS31529).f2
      exact ⟨s, (PHeap.le_refl _), hS31530, rfl, rfl, rfl⟩
    · replace hc31527 := not_true hc31527
      refine WL_run rfl (yield_of rfl (congrArg Value.bool hc31527)) rfl (Exec.move (v := v24584) rfl rfl ?_)
      obtain ⟨x31531, q31532, ht31525⟩ := bind_some ht31525
      refine WL_run rfl (yield_of rfl (congrArg Value.bool hc31527)) rfl (Exec.index_rep S49 rfl rfl rfl a24585 q31532 ?_)
      intro b31533 o31534 a31535
      refine WL_run rfl (yield_of rfl (congrArg Value.bool hc31527)) rfl (Exec.load_at (E := (encInt .i64)) hS A3 rfl rfl rfl a31535 ?_)
      intro v31536 q31537
      obtain rfl := encInt_val.1 q31537
      refine WL_run rfl (yield_of rfl (congrArg Value.bool hc31527)) rfl (Exec.neq rfl rfl rfl ?_)
      refine WL_step rfl rfl (Exec.pick_f (v := Value.bool (!decide (x31531 = 0))) rfl (congrArg Value.bool hc31527) rfl ?_)
      refine WL_nil (at_normal ?_)
      have e31538 := Option.some.inj ht31525
      subst z31524
      have hS31539 := ((hS).f2).f2
      have hS31540 := (hS31539).f2
      exact ⟨s, (PHeap.le_refl _), hS31540, rfl, rfl, rfl⟩
  · intro f31541 w31542 hM31543
    obtain ⟨s31544, l31545, hS31546, p31547, p31548, p31549⟩ := hM31543
    refine (at_normal ?_)
    rcases ite_some hm with ⟨hc31550, hm⟩ | ⟨hc31550, hm⟩
    · refine W_cond_t p31549 hc31550 ?_
      refine W_seq ?_
      refine W_region ?_
      refine WL_step rfl rfl (Exec.assign (v := Value.bool (false)) rfl rfl ?_)
      refine WL_nil (at_normal ?_)
      refine W_ret (at_ret ?_)
      have e31552 := Option.some.inj hm
      subst r
      refine ⟨_, ret1 rfl, ?_⟩
      have hS31553 := ((hS31546).f2).f2
      have hS31554 := (hS31553).f2
      exact ⟨s31544, l31545, hS31554, rfl⟩
    · refine W_cond_f p31549 hc31550 ?_
      replace hc31550 := not_true hc31550
      refine W_skip (at_normal ?_)
      refine W_seq ?_
      refine W_seq ?_
      refine W_region ?_
      refine WL_step rfl rfl (Exec.move (v := v24584) rfl p31548 ?_)
      refine WL_step rfl rfl (Exec.len_rep S49 rfl rfl (a24585.mono l31545) ?_)
      refine WL_step rfl rfl (Exec.move (v := Value.int .i64 (0)) rfl rfl ?_)
      refine WL_nil (at_normal ?_)
      obtain ⟨c31626, hB31627, hr31628, hn31629, hb31630⟩ := ctl_some hm
      refine W_mid (M := fun f' w' => ∃ s', (c31626 = .next s' ∨ c31626 = .brk s') ∧ (fun (_ : Unit) => ∃ (s31632 : PHeap) , PHeap.le s31544 s31632 ∧ St w0 s31632 (Res.box b24580 63 [v24581] :: Res.arr encRaw 49 v24581 hs24582 :: Res.rows (encInt .i64) 3 hs24582 n24579.d :: H) w' ∧ f' 0 = Value.pointer (some ⟨b24580, 0, none⟩) ∧ f' 1 = v24584 ∧ f' 29 = v24584 ∧ f' 30 = Value.int .i64 ((times24583.length : Int))) s') ?_ ?_
      · refine W_block (W_forC (fun k' s' f' w' => (fun (_ : Unit) => ∃ (s31631 : PHeap) , PHeap.le s31544 s31631 ∧ St w0 s31631 (Res.box b24580 63 [v24581] :: Res.arr encRaw 49 v24581 hs24582 :: Res.rows (encInt .i64) 3 hs24582 n24579.d :: H) w' ∧ f' 0 = Value.pointer (some ⟨b24580, 0, none⟩) ∧ f' 1 = v24584 ∧ f' 29 = v24584 ∧ f' 30 = Value.int .i64 ((times24583.length : Int)) ∧ f' 31 = Value.int .i64 (k' : Int)) s') hB31627 ?_ ?_ ?_)
        · have hS31633 := ((hS31546).f2).f2
          have hS31634 := (hS31633).f2
          exact ⟨s31544, (PHeap.le_refl _), hS31634, p31547, p31548, rfl, rfl, rfl⟩
        · intro i31555 t31642 c31636 f31637 w31638 hi31643 hI31639 hm31640 hres31641
          obtain ⟨s31644, l31645, hS31646, p31647, p31648, p31649, p31650, x31651⟩ := hI31639
          refine W_seq ?_
          refine W_region ?_
          refine WL_step rfl rfl (Exec.lss rfl x31651 p31650 ?_)
          refine WL_nil (at_normal ?_)
          refine W_seq ?_
          refine W_true (congrArg Value.bool (decide_eq_true (by omega))) ?_
          refine W_skip (at_normal ?_)
          refine W_seq ?_
          refine W_block ?_
          refine W_seq ?_
          refine W_region ?_
          obtain ⟨x31659, q31660, hm31640⟩ := bind_some hm31640
          refine WL_step rfl rfl (Exec.index_rep S49 rfl p31649 x31651 (a24585.mono (PHeap.le.trans l31545 l31645)) q31660 ?_)
          intro b31661 o31662 a31663
          refine WL_step rfl rfl (Exec.load_at (E := (encInt .i64)) hS31646 A3 rfl rfl rfl a31663 ?_)
          intro v31664 q31665
          obtain rfl := encInt_val.1 q31665
          refine WL_step rfl rfl (Exec.assign (v := Value.int .i64 (x31659)) rfl rfl ?_)
          refine WL_nil (at_normal ?_)
          refine W_seq ?_
          refine W_mid (M := fun f' w' => ∃ (s31667 : PHeap) , PHeap.le s31644 s31667 ∧ St w0 s31667 (Res.box b24580 63 [v24581] :: Res.arr encRaw 49 v24581 hs24582 :: Res.rows (encInt .i64) 3 hs24582 n24579.d :: H) w' ∧ f' 0 = Value.pointer (some ⟨b24580, 0, none⟩) ∧ f' 1 = v24584 ∧ f' 29 = v24584 ∧ f' 30 = Value.int .i64 ((times24583.length : Int)) ∧ f' 31 = Value.int .i64 ((i31555 : Int)) ∧ f' 40 = Value.bool (((decide (x31659 < (-1125899906842624))) || decide (1125899906842624 < x31659)))) ?_ ?_
          · refine W_region ?_
            refine WL_step rfl rfl (Exec.move (v := Value.int .i64 (x31659)) rfl rfl ?_)
            refine WL_step rfl rfl (Exec.lss rfl rfl rfl ?_)
            refine WL_step rfl rfl (Exec.move (v := Value.bool (decide (x31659 < (-1125899906842624)))) rfl rfl ?_)
            by_cases hc31668 : (decide (x31659 < (-1125899906842624))) = true
            · refine WL_pass rfl (yield_of rfl (congrArg Value.bool hc31668)) rfl rfl ?_
              refine WL_pass rfl (yield_of rfl (congrArg Value.bool hc31668)) rfl rfl ?_
              refine WL_step rfl rfl (Exec.pick_t (v := Value.bool (true)) rfl (congrArg Value.bool hc31668) rfl ?_)
              refine WL_nil (at_normal ?_)
              have hS31669 := ((hS31646).f2).f2
              have hS31670 := (hS31669).f2
              exact ⟨s31644, (PHeap.le_refl _), hS31670, p31647, p31648, p31649, p31650, x31651, (congrArg Value.bool (or_t hc31668)).symm⟩
            · replace hc31668 := not_true hc31668
              refine WL_run rfl (yield_of rfl (congrArg Value.bool hc31668)) rfl (Exec.move (v := Value.int .i64 (x31659)) rfl rfl ?_)
              refine WL_run rfl (yield_of rfl (congrArg Value.bool hc31668)) rfl (Exec.gtr rfl rfl rfl ?_)
              refine WL_step rfl rfl (Exec.pick_f (v := Value.bool (decide (1125899906842624 < x31659))) rfl (congrArg Value.bool hc31668) rfl ?_)
              refine WL_nil (at_normal ?_)
              have hS31671 := ((hS31646).f2).f2
              have hS31672 := (hS31671).f2
              exact ⟨s31644, (PHeap.le_refl _), hS31672, p31647, p31648, p31649, p31650, x31651, (congrArg Value.bool (or_f hc31668)).symm⟩
          · intro f31673 w31674 hM31675
            obtain ⟨s31676, l31677, hS31678, p31679, p31680, p31681, p31682, p31683, p31684⟩ := hM31675
            refine (at_normal ?_)
            rcases ite_some hm31640 with ⟨hc31685, hm31640⟩ | ⟨hc31685, hm31640⟩
            · refine W_cond_t p31684 hc31685 ?_
              refine W_seq ?_
              refine W_region ?_
              refine WL_step rfl rfl (Exec.assign (v := Value.bool (false)) rfl rfl ?_)
              refine WL_nil (at_normal ?_)
              refine W_ret (ib_ret (at_ret (at_ret (ib_ret (at_ret (at_ret ?_))))))
              have e31686 := Option.some.inj hm31640
              subst c31636
              have hq31687 := hr31628 _ (hres31641 (by intro _ h; cases h))
              have e31688 := Option.some.inj hq31687
              subst r
              refine ⟨_, ret1 rfl, ?_⟩
              have hS31689 := ((hS31678).f2).f2
              have hS31690 := (hS31689).f2
              exact ⟨s31676, (PHeap.le.trans (PHeap.le.trans l31545 l31645) l31677), hS31690, rfl⟩
            · refine W_cond_f p31684 hc31685 ?_
              replace hc31685 := not_true hc31685
              refine W_skip (ib_normal (at_normal ?_))
              refine W_region ?_
              refine WL_step rfl rfl (Exec.add rfl p31683 rfl ?_)
              refine WL_step rfl rfl (Exec.move (v := Value.int .i64 (IntKind.i64.wrap ((i31555 : Int) + 1))) rfl rfl ?_)
              refine WL_nil (at_normal ?_)
              have e31691 := Option.some.inj hm31640
              subst c31636
              have hS31692 := ((hS31678).f2).f2
              have hS31693 := (hS31692).f2
              refine ⟨_, rfl, ?_⟩; exact ⟨s31676, (PHeap.le.trans l31645 l31677), hS31693, p31679, p31680, p31681, p31682, (Eq.trans rfl (wrap_up hi31643 (SliceRep.le (a24585.mono l31545))))⟩
        · intro t31694 f31695 w31696 hI31697 hres31698
          obtain ⟨s31699, l31700, hS31701, p31702, p31703, p31704, p31705, x31706⟩ := hI31697
          refine W_seq ?_
          refine W_region ?_
          refine WL_step rfl rfl (Exec.lss rfl x31706 p31705 ?_)
          refine WL_nil (at_normal ?_)
          refine W_seq ?_
          refine W_false (congrArg Value.bool (decide_eq_false (by omega))) ?_
          refine W_exit (at_exit (at_exit (ib_here (at_normal ?_))))
          have hS31707 := ((hS31701).f2).f2
          have hS31708 := (hS31707).f2
          refine ⟨_, .inl hres31698, ?_⟩; exact ⟨s31699, l31700, hS31708, p31702, p31703, p31704, p31705⟩
      · rintro f31709 w31710 ⟨t31711, hc31712, hM31713⟩
        have hm := hc31712.elim (hn31629 _) (hb31630 _)
        clear hc31712
        obtain ⟨s31714, l31715, hS31716, p31717, p31718, p31719, p31720⟩ := hM31713
        refine (at_normal ?_)
        refine W_seq ?_
        refine W_seq ?_
        refine W_region ?_
        refine WL_step rfl rfl (Exec.move (v := Value.pointer (some ⟨b24580, 0, none⟩)) rfl p31717 ?_)
        refine WL_step rfl rfl (Exec.nilCheck_ptr rfl rfl ?_)
        refine WL_step rfl rfl (Exec.field F63_0 rfl rfl rfl ?_)
        refine WL_step rfl rfl (Exec.load_box (hS31716) A61 rfl rfl rfl ?_)
        refine WL_step rfl rfl (Exec.len_grid (((hS31716).f2).f2) (((hS31716).f2).f2).f1.rows_len S61 rfl rfl ?_)
        refine WL_step rfl rfl (Exec.move (v := Value.int .i64 (0)) rfl rfl ?_)
        refine WL_nil (at_normal ?_)
        obtain ⟨c36174, hB36175, hr36176, hn36177, hb36178⟩ := ctl_some hm
        refine W_mid (M := fun f' w' => ∃ s', (c36174 = .next s' ∨ c36174 = .brk s') ∧ (fun (_ : Unit) => ∃ (s36180 : PHeap) , PHeap.le s31714 s36180 ∧ St w0 s36180 (Res.box b24580 63 [v24581] :: Res.arr encRaw 49 v24581 hs24582 :: Res.rows (encInt .i64) 3 hs24582 n24579.d :: H) w' ∧ f' 1 = v24584 ∧ f' 45 = v24581 ∧ f' 46 = Value.int .i64 ((n24579.d.length : Int))) s') ?_ ?_
        · refine W_block (W_forC (fun k' s' f' w' => (fun (_ : Unit) => ∃ (s36179 : PHeap) , PHeap.le s31714 s36179 ∧ St w0 s36179 (Res.box b24580 63 [v24581] :: Res.arr encRaw 49 v24581 hs24582 :: Res.rows (encInt .i64) 3 hs24582 n24579.d :: H) w' ∧ f' 1 = v24584 ∧ f' 45 = v24581 ∧ f' 46 = Value.int .i64 ((n24579.d.length : Int)) ∧ f' 47 = Value.int .i64 (k' : Int)) s') hB36175 ?_ ?_ ?_)
          · have hS36181 := ((hS31716).f2).f2
            have hS36182 := (hS36181).f2
            exact ⟨s31714, (PHeap.le_refl _), hS36182, p31718, rfl, rfl, rfl⟩
          · intro i31721 t36190 c36184 f36185 w36186 hi36191 hI36187 hm36188 hres36189
            obtain ⟨s36192, l36193, hS36194, p36195, p36196, p36197, x36198⟩ := hI36187
            refine W_seq ?_
            refine W_region ?_
            refine WL_step rfl rfl (Exec.lss rfl x36198 p36197 ?_)
            refine WL_nil (at_normal ?_)
            refine W_seq ?_
            refine W_true (congrArg Value.bool (decide_eq_true (by omega))) ?_
            refine W_skip (at_normal ?_)
            refine W_seq ?_
            refine W_block ?_
            refine W_seq ?_
            refine W_region ?_
            refine WL_step rfl rfl (Exec.move (v := Value.int .i64 ((i31721 : Int))) rfl x36198 ?_)
            obtain ⟨row36209, q36210, hm36188⟩ := bind_some hm36188
            obtain ⟨h36211, e36212, e36213, _⟩ := ((((hS36194).f2).f2).f1).rows_at q36210
            obtain ⟨g36214, c36215, e36216⟩ := (((hS36194).f2).f2).arr_at e36212
            refine WL_step rfl rfl (Exec.index_slice S61 rfl (Eq.trans p36196 e36216) x36198 (idx_some e36212).1 (idx_some e36212).2.1 ?_)
            refine WL_step rfl rfl (Exec.load_arr (F := encRaw) (((hS36194).f2).f2) e36216 A49 rfl rfl rfl e36212 (Sub.refl _) ?_)
            intro v36217 q36218
            replace q36218 := (encRaw_val.1 q36218).1
            subst v36217
            refine WL_step rfl rfl (Exec.assign (v := Value.int .i64 ((i31721 : Int))) rfl rfl ?_)
            refine WL_step rfl rfl (Exec.assign (v := h36211) rfl rfl ?_)
            refine WL_nil (at_normal ?_)
            refine W_seq ?_
            refine W_region ?_
            refine WL_step rfl rfl (Exec.move (v := h36211) rfl rfl ?_)
            refine WL_step rfl rfl (Exec.len_arr (((((hS36194).f2).f2).f1).rows_split e36213 (idx_some q36210).2.2) S49 rfl rfl ?_)
            refine WL_step rfl rfl (Exec.move (v := Value.int .i64 (0)) rfl rfl ?_)
            refine WL_nil (at_normal ?_)
            obtain ⟨u36219, q36220, hm36188⟩ := bind_some hm36188
            obtain ⟨c37650, hB37651, hr37652, hn37653, hb37654⟩ := ctl_some hm36188
            refine W_mid (M := fun f' w' => ∃ s', (c37650 = .next s' ∨ c37650 = .brk s') ∧ (fun (_ : Unit) => ∃ (s37656 : PHeap) , PHeap.le s36192 s37656 ∧ St w0 s37656 (Res.box b24580 63 [v24581] :: Res.arr encRaw 49 v24581 hs24582 :: Res.rows (encInt .i64) 3 hs24582 n24579.d :: H) w' ∧ f' 1 = v24584 ∧ f' 7 = Value.int .i64 ((i31721 : Int)) ∧ f' 45 = v24581 ∧ f' 46 = Value.int .i64 ((n24579.d.length : Int)) ∧ f' 47 = Value.int .i64 ((i31721 : Int)) ∧ f' 52 = h36211 ∧ f' 53 = Value.int .i64 ((row36209.length : Int))) s') ?_ ?_
            · refine W_block (W_forC (fun k' s' f' w' => (fun (_ : Unit) => ∃ (s37655 : PHeap) , PHeap.le s36192 s37655 ∧ St w0 s37655 (Res.box b24580 63 [v24581] :: Res.arr encRaw 49 v24581 hs24582 :: Res.rows (encInt .i64) 3 hs24582 n24579.d :: H) w' ∧ f' 1 = v24584 ∧ f' 7 = Value.int .i64 ((i31721 : Int)) ∧ f' 45 = v24581 ∧ f' 46 = Value.int .i64 ((n24579.d.length : Int)) ∧ f' 47 = Value.int .i64 ((i31721 : Int)) ∧ f' 52 = h36211 ∧ f' 53 = Value.int .i64 ((row36209.length : Int)) ∧ f' 54 = Value.int .i64 (k' : Int)) s') hB37651 ?_ ?_ ?_)
              · have hS37657 := ((hS36194).f2).f2
                have hS37658 := (hS37657).f2
                exact ⟨s36192, (PHeap.le_refl _), hS37658, p36195, rfl, p36196, p36197, x36198, rfl, rfl, rfl⟩
              · intro i36221 t37666 c37660 f37661 w37662 hi37667 hI37663 hm37664 hres37665
                obtain ⟨s37668, l37669, hS37670, p37671, p37672, p37673, p37674, p37675, p37676, p37677, x37678⟩ := hI37663
                refine W_seq ?_
                refine W_region ?_
                refine WL_step rfl rfl (Exec.lss rfl x37678 p37677 ?_)
                refine WL_nil (at_normal ?_)
                refine W_seq ?_
                refine W_true (congrArg Value.bool (decide_eq_true (by omega))) ?_
                refine W_skip (at_normal ?_)
                refine W_seq ?_
                refine W_block ?_
                refine W_seq ?_
                refine W_region ?_
                refine WL_step rfl rfl (Exec.move (v := Value.int .i64 ((i36221 : Int))) rfl x37678 ?_)
                obtain ⟨x37686, q37687, hm37664⟩ := bind_some hm37664
                obtain ⟨g37688, c37689, e37690⟩ := (((((hS37670).f2).f2).f1).rows_split e36213 (idx_some q36210).2.2).arr_at q37687
                refine WL_step rfl rfl (Exec.index_slice S49 rfl (Eq.trans p37676 e37690) x37678 (idx_some q37687).1 (idx_some q37687).2.1 ?_)
                refine WL_step rfl rfl (Exec.load_arr (F := (encInt .i64)) (((((hS37670).f2).f2).f1).rows_split e36213 (idx_some q36210).2.2) e37690 A3 rfl rfl rfl q37687 (Sub.refl _) ?_)
                intro v37691 q37692
                obtain rfl := encInt_val.1 q37692
                refine WL_step rfl rfl (Exec.assign (v := Value.int .i64 ((i36221 : Int))) rfl rfl ?_)
                refine WL_step rfl rfl (Exec.assign (v := Value.int .i64 (x37686)) rfl rfl ?_)
                refine WL_nil (at_normal ?_)
                refine W_seq ?_
                obtain ⟨z38028, ht38029, hm37664⟩ := bind_some hm37664
                refine W_mid (M := fun f' w' => (fun (z38028 : Bool) => ∃ (s38030 : PHeap) , PHeap.le s37668 s38030 ∧ St w0 s38030 (Res.box b24580 63 [v24581] :: Res.arr encRaw 49 v24581 hs24582 :: Res.rows (encInt .i64) 3 hs24582 n24579.d :: H) w' ∧ f' 1 = v24584 ∧ f' 7 = Value.int .i64 ((i31721 : Int)) ∧ f' 45 = v24581 ∧ f' 46 = Value.int .i64 ((n24579.d.length : Int)) ∧ f' 47 = Value.int .i64 ((i31721 : Int)) ∧ f' 52 = h36211 ∧ f' 53 = Value.int .i64 ((row36209.length : Int)) ∧ f' 54 = Value.int .i64 ((i36221 : Int)) ∧ f' 73 = Value.bool (z38028)) z38028) ?_ ?_
                · rcases ite_some ht38029 with ⟨hc38031, ht38029⟩ | ⟨hc38031, ht38029⟩
                  · obtain ⟨x38032, q38033, ht38029⟩ := bind_some ht38029
                    obtain ⟨x38034, q38035, ht38029⟩ := bind_some ht38029
                    refine W_drawn (n0 := 15) hmix (by kernel_rfl) [RP.eq (Value.int .i64 (x37686)), RP.eq (Value.bool (decide (x37686 < 1125899906842624))), RP.eq (Value.bool (decide (x37686 < 1125899906842624))), RP.eq (v24584), RP.eq (Value.int .i64 ((i36221 : Int))), RP.at (encInt .i64) x38032, RP.eq (Value.int .i64 (x38032)), RP.eq (v24584), RP.eq (Value.int .i64 ((i31721 : Int))), RP.at (encInt .i64) x38034, RP.eq (Value.int .i64 (x38034)), RP.eq (Value.int .i64 (IntKind.i64.wrap (x38032 - x38034))), RP.eq (Value.int .i64 (x37686)), RP.eq (Value.bool (decide (x37686 < (IntKind.i64.wrap (x38032 - x38034))))), RP.eq (Value.bool (decide (x37686 < (IntKind.i64.wrap (x38032 - x38034)))))] hS37670 (HeadAll.cons ?_ (HeadAll.cons ?_ (HeadAll.cons ?_ (HeadAll.cons ?_ (HeadAll.cons ?_ (HeadAll.cons ?_ (HeadAll.cons ?_ (HeadAll.cons ?_ (HeadAll.cons ?_ (HeadAll.cons ?_ (HeadAll.cons ?_ (HeadAll.cons ?_ (HeadAll.cons ?_ (HeadAll.cons ?_ (HeadAll.cons ?_ (HeadAll.nil)))))))))))))))) ?_
                    · intro g38036 s38037 w38038 l38039 hS38040 fr38041 pre38042
                      refine head_run rfl (Exec.move (v := Value.int .i64 (x37686)) rfl (fr38041 10 rfl) ?_)
                      exact head_done hS38040 rfl
                    · intro g38043 s38044 w38045 l38046 hS38047 fr38048 pre38049
                      have p38050 : g38043 59 = (Value.int .i64 (x37686)) := pre38049 0 _ rfl rfl
                      refine head_run rfl (Exec.lss rfl p38050 rfl ?_)
                      exact head_done hS38047 rfl
                    · intro g38051 s38052 w38053 l38054 hS38055 fr38056 pre38057
                      have p38058 : g38051 60 = (Value.bool (decide (x37686 < 1125899906842624))) := pre38057 0 _ rfl rfl
                      refine head_run rfl (Exec.move (v := Value.bool (decide (x37686 < 1125899906842624))) rfl p38058 ?_)
                      exact head_done hS38055 rfl
                    · intro g38059 s38060 w38061 l38062 hS38063 fr38064 pre38065
                      have p38066 : g38059 61 = (Value.bool (decide (x37686 < 1125899906842624))) := pre38065 0 _ rfl rfl
                      refine head_run_g rfl (yield_of rfl (Eq.trans p38066 (congrArg Value.bool hc38031))) (Exec.move (v := v24584) rfl (Eq.trans (fr38064 1 rfl) p37671) ?_)
                      exact head_done hS38063 rfl
                    · intro g38067 s38068 w38069 l38070 hS38071 fr38072 pre38073
                      have p38074 : g38067 61 = (Value.bool (decide (x37686 < 1125899906842624))) := pre38073 0 _ rfl rfl
                      refine head_run_g rfl (yield_of rfl (Eq.trans p38074 (congrArg Value.bool hc38031))) (Exec.move (v := Value.int .i64 ((i36221 : Int))) rfl (fr38072 9 rfl) ?_)
                      exact head_done hS38071 rfl
                    · intro g38075 s38076 w38077 l38078 hS38079 fr38080 pre38081
                      have p38082 : g38075 61 = (Value.bool (decide (x37686 < 1125899906842624))) := pre38081 2 _ rfl rfl
                      have p38083 : g38075 62 = (v24584) := pre38081 0 _ rfl rfl
                      have p38084 : g38075 63 = (Value.int .i64 ((i36221 : Int))) := pre38081 1 _ rfl rfl
                      refine head_run_g rfl (yield_of rfl (Eq.trans p38082 (congrArg Value.bool hc38031))) (Exec.index_rep S49 rfl p38083 p38084 (a24585.mono (PHeap.le.trans (PHeap.le.trans (PHeap.le.trans (PHeap.le.trans l31545 l31715) l36193) l37669) l38078)) q38033 ?_)
                      intro b38085 o38086 a38087
                      exact head_done hS38079 ⟨_, _, rfl, a38087⟩
                    · intro g38088 s38089 w38090 l38091 hS38092 fr38093 pre38094
                      obtain ⟨b38096, o38097, e38098, a38099⟩ := (show ∃ b off, g38088 64 = .pointer (some ⟨b, off, none⟩) ∧ At s38089 b off (encInt .i64) x38032 from pre38094 0 _ rfl rfl)
                      have p38100 : g38088 61 = (Value.bool (decide (x37686 < 1125899906842624))) := pre38094 1 _ rfl rfl
                      refine head_run_g rfl (yield_of rfl (Eq.trans p38100 (congrArg Value.bool hc38031))) (Exec.load_at (E := (encInt .i64)) hS38092 A3 rfl e38098 rfl a38099 ?_)
                      intro v38101 q38102
                      exact head_done hS38092 (encInt_val.1 q38102)
                    · intro g38103 s38104 w38105 l38106 hS38107 fr38108 pre38109
                      have p38110 : g38103 61 = (Value.bool (decide (x37686 < 1125899906842624))) := pre38109 0 _ rfl rfl
                      refine head_run_g rfl (yield_of rfl (Eq.trans p38110 (congrArg Value.bool hc38031))) (Exec.move (v := v24584) rfl (Eq.trans (fr38108 1 rfl) p37671) ?_)
                      exact head_done hS38107 rfl
                    · intro g38111 s38112 w38113 l38114 hS38115 fr38116 pre38117
                      have p38118 : g38111 61 = (Value.bool (decide (x37686 < 1125899906842624))) := pre38117 0 _ rfl rfl
                      refine head_run_g rfl (yield_of rfl (Eq.trans p38118 (congrArg Value.bool hc38031))) (Exec.move (v := Value.int .i64 ((i31721 : Int))) rfl (Eq.trans (fr38116 7 rfl) p37672) ?_)
                      exact head_done hS38115 rfl
                    · intro g38119 s38120 w38121 l38122 hS38123 fr38124 pre38125
                      have p38126 : g38119 66 = (v24584) := pre38125 0 _ rfl rfl
                      have p38127 : g38119 67 = (Value.int .i64 ((i31721 : Int))) := pre38125 1 _ rfl rfl
                      have p38128 : g38119 61 = (Value.bool (decide (x37686 < 1125899906842624))) := pre38125 2 _ rfl rfl
                      refine head_run_g rfl (yield_of rfl (Eq.trans p38128 (congrArg Value.bool hc38031))) (Exec.index_rep S49 rfl p38126 p38127 (a24585.mono (PHeap.le.trans (PHeap.le.trans (PHeap.le.trans (PHeap.le.trans l31545 l31715) l36193) l37669) l38122)) q38035 ?_)
                      intro b38129 o38130 a38131
                      exact head_done hS38123 ⟨_, _, rfl, a38131⟩
                    · intro g38132 s38133 w38134 l38135 hS38136 fr38137 pre38138
                      obtain ⟨b38140, o38141, e38142, a38143⟩ := (show ∃ b off, g38132 68 = .pointer (some ⟨b, off, none⟩) ∧ At s38133 b off (encInt .i64) x38034 from pre38138 0 _ rfl rfl)
                      have p38144 : g38132 61 = (Value.bool (decide (x37686 < 1125899906842624))) := pre38138 1 _ rfl rfl
                      refine head_run_g rfl (yield_of rfl (Eq.trans p38144 (congrArg Value.bool hc38031))) (Exec.load_at (E := (encInt .i64)) hS38136 A3 rfl e38142 rfl a38143 ?_)
                      intro v38145 q38146
                      exact head_done hS38136 (encInt_val.1 q38146)
                    · intro g38147 s38148 w38149 l38150 hS38151 fr38152 pre38153
                      have p38154 : g38147 65 = (Value.int .i64 (x38032)) := pre38153 0 _ rfl rfl
                      have p38155 : g38147 61 = (Value.bool (decide (x37686 < 1125899906842624))) := pre38153 2 _ rfl rfl
                      have p38156 : g38147 69 = (Value.int .i64 (x38034)) := pre38153 1 _ rfl rfl
                      refine head_run_g rfl (yield_of rfl (Eq.trans p38155 (congrArg Value.bool hc38031))) (Exec.sub rfl p38154 p38156 ?_)
                      exact head_done hS38151 rfl
                    · intro g38157 s38158 w38159 l38160 hS38161 fr38162 pre38163
                      have p38164 : g38157 61 = (Value.bool (decide (x37686 < 1125899906842624))) := pre38163 0 _ rfl rfl
                      refine head_run_g rfl (yield_of rfl (Eq.trans p38164 (congrArg Value.bool hc38031))) (Exec.move (v := Value.int .i64 (x37686)) rfl (fr38162 10 rfl) ?_)
                      exact head_done hS38161 rfl
                    · intro g38165 s38166 w38167 l38168 hS38169 fr38170 pre38171
                      have p38172 : g38165 61 = (Value.bool (decide (x37686 < 1125899906842624))) := pre38171 2 _ rfl rfl
                      have p38173 : g38165 70 = (Value.int .i64 (IntKind.i64.wrap (x38032 - x38034))) := pre38171 0 _ rfl rfl
                      have p38174 : g38165 71 = (Value.int .i64 (x37686)) := pre38171 1 _ rfl rfl
                      refine head_run_g rfl (yield_of rfl (Eq.trans p38172 (congrArg Value.bool hc38031))) (Exec.gtr rfl p38173 p38174 ?_)
                      exact head_done hS38169 rfl
                    · intro g38175 s38176 w38177 l38178 hS38179 fr38180 pre38181
                      have p38182 : g38175 72 = (Value.bool (decide (x37686 < (IntKind.i64.wrap (x38032 - x38034))))) := pre38181 1 _ rfl rfl
                      have p38183 : g38175 61 = (Value.bool (decide (x37686 < 1125899906842624))) := pre38181 0 _ rfl rfl
                      refine head_run rfl (Exec.pick_t (v := Value.bool (decide (x37686 < (IntKind.i64.wrap (x38032 - x38034))))) rfl (Eq.trans p38183 (congrArg Value.bool hc38031)) p38182 ?_)
                      exact head_done hS38179 rfl
                    · intro g38184 s38185 w38186 l38187 hS38188 fr38189 hR38190
                      have p38191 : g38184 59 = (Value.int .i64 (x37686)) := hR38190 0 rfl
                      have p38192 : g38184 60 = (Value.bool (decide (x37686 < 1125899906842624))) := hR38190 1 rfl
                      have p38193 : g38184 61 = (Value.bool (decide (x37686 < 1125899906842624))) := hR38190 2 rfl
                      have p38194 : g38184 62 = (v24584) := hR38190 3 rfl
                      have p38195 : g38184 63 = (Value.int .i64 ((i36221 : Int))) := hR38190 4 rfl
                      obtain ⟨b38197, o38198, e38199, a38200⟩ := (show ∃ b off, g38184 64 = .pointer (some ⟨b, off, none⟩) ∧ At s38185 b off (encInt .i64) x38032 from hR38190 5 rfl)
                      have p38201 : g38184 65 = (Value.int .i64 (x38032)) := hR38190 6 rfl
                      have p38202 : g38184 66 = (v24584) := hR38190 7 rfl
                      have p38203 : g38184 67 = (Value.int .i64 ((i31721 : Int))) := hR38190 8 rfl
                      obtain ⟨b38205, o38206, e38207, a38208⟩ := (show ∃ b off, g38184 68 = .pointer (some ⟨b, off, none⟩) ∧ At s38185 b off (encInt .i64) x38034 from hR38190 9 rfl)
                      have p38209 : g38184 69 = (Value.int .i64 (x38034)) := hR38190 10 rfl
                      have p38210 : g38184 70 = (Value.int .i64 (IntKind.i64.wrap (x38032 - x38034))) := hR38190 11 rfl
                      have p38211 : g38184 71 = (Value.int .i64 (x37686)) := hR38190 12 rfl
                      have p38212 : g38184 72 = (Value.bool (decide (x37686 < (IntKind.i64.wrap (x38032 - x38034))))) := hR38190 13 rfl
                      have p38213 : g38184 73 = (Value.bool (decide (x37686 < (IntKind.i64.wrap (x38032 - x38034))))) := hR38190 14 rfl
                      refine WL_nil (at_normal ?_)
                      have e38214 := Option.some.inj ht38029
                      subst z38028
                      have hS38215 := ((hS38188).f2).f2
                      have hS38216 := (hS38215).f2
                      exact ⟨s38185, l38187, hS38216, (Eq.trans (fr38189 1 rfl) p37671), (Eq.trans (fr38189 7 rfl) p37672), (Eq.trans (fr38189 45 rfl) p37673), (Eq.trans (fr38189 46 rfl) p37674), (Eq.trans (fr38189 47 rfl) p37675), (Eq.trans (fr38189 52 rfl) p37676), (Eq.trans (fr38189 53 rfl) p37677), (Eq.trans (fr38189 54 rfl) x37678), p38213⟩
                  · replace hc38031 := not_true hc38031
                    refine W_drawn (n0 := 15) hmix (by kernel_rfl) [RP.eq (Value.int .i64 (x37686)), RP.eq (Value.bool (decide (x37686 < 1125899906842624))), RP.eq (Value.bool (decide (x37686 < 1125899906842624))), RP.eq undef, RP.eq undef, RP.eq undef, RP.eq undef, RP.eq undef, RP.eq undef, RP.eq undef, RP.eq undef, RP.eq undef, RP.eq undef, RP.eq undef, RP.eq (Value.bool (false))] hS37670 (HeadAll.cons ?_ (HeadAll.cons ?_ (HeadAll.cons ?_ (HeadAll.cons ?_ (HeadAll.cons ?_ (HeadAll.cons ?_ (HeadAll.cons ?_ (HeadAll.cons ?_ (HeadAll.cons ?_ (HeadAll.cons ?_ (HeadAll.cons ?_ (HeadAll.cons ?_ (HeadAll.cons ?_ (HeadAll.cons ?_ (HeadAll.cons ?_ (HeadAll.nil)))))))))))))))) ?_
                    · intro g38217 s38218 w38219 l38220 hS38221 fr38222 pre38223
                      refine head_run rfl (Exec.move (v := Value.int .i64 (x37686)) rfl (fr38222 10 rfl) ?_)
                      exact head_done hS38221 rfl
                    · intro g38224 s38225 w38226 l38227 hS38228 fr38229 pre38230
                      have p38231 : g38224 59 = (Value.int .i64 (x37686)) := pre38230 0 _ rfl rfl
                      refine head_run rfl (Exec.lss rfl p38231 rfl ?_)
                      exact head_done hS38228 rfl
                    · intro g38232 s38233 w38234 l38235 hS38236 fr38237 pre38238
                      have p38239 : g38232 60 = (Value.bool (decide (x37686 < 1125899906842624))) := pre38238 0 _ rfl rfl
                      refine head_run rfl (Exec.move (v := Value.bool (decide (x37686 < 1125899906842624))) rfl p38239 ?_)
                      exact head_done hS38236 rfl
                    · intro g38240 s38241 w38242 l38243 hS38244 fr38245 pre38246
                      have p38247 : g38240 61 = (Value.bool (decide (x37686 < 1125899906842624))) := pre38246 0 _ rfl rfl
                      exact head_pass rfl (yield_of rfl (Eq.trans p38247 (congrArg Value.bool hc38031))) rfl rfl
                    · intro g38248 s38249 w38250 l38251 hS38252 fr38253 pre38254
                      have p38255 : g38248 61 = (Value.bool (decide (x37686 < 1125899906842624))) := pre38254 0 _ rfl rfl
                      exact head_pass rfl (yield_of rfl (Eq.trans p38255 (congrArg Value.bool hc38031))) rfl rfl
                    · intro g38256 s38257 w38258 l38259 hS38260 fr38261 pre38262
                      have p38263 : g38256 61 = (Value.bool (decide (x37686 < 1125899906842624))) := pre38262 2 _ rfl rfl
                      have p38264 : g38256 62 = undef := pre38262 0 _ rfl rfl
                      have p38265 : g38256 63 = undef := pre38262 1 _ rfl rfl
                      exact head_pass rfl (yield_of rfl (Eq.trans p38263 (congrArg Value.bool hc38031))) rfl rfl
                    · intro g38266 s38267 w38268 l38269 hS38270 fr38271 pre38272
                      have p38273 : g38266 64 = undef := pre38272 0 _ rfl rfl
                      have p38274 : g38266 61 = (Value.bool (decide (x37686 < 1125899906842624))) := pre38272 1 _ rfl rfl
                      exact head_pass rfl (yield_of rfl (Eq.trans p38274 (congrArg Value.bool hc38031))) rfl rfl
                    · intro g38275 s38276 w38277 l38278 hS38279 fr38280 pre38281
                      have p38282 : g38275 61 = (Value.bool (decide (x37686 < 1125899906842624))) := pre38281 0 _ rfl rfl
                      exact head_pass rfl (yield_of rfl (Eq.trans p38282 (congrArg Value.bool hc38031))) rfl rfl
                    · intro g38283 s38284 w38285 l38286 hS38287 fr38288 pre38289
                      have p38290 : g38283 61 = (Value.bool (decide (x37686 < 1125899906842624))) := pre38289 0 _ rfl rfl
                      exact head_pass rfl (yield_of rfl (Eq.trans p38290 (congrArg Value.bool hc38031))) rfl rfl
                    · intro g38291 s38292 w38293 l38294 hS38295 fr38296 pre38297
                      have p38298 : g38291 66 = undef := pre38297 0 _ rfl rfl
                      have p38299 : g38291 67 = undef := pre38297 1 _ rfl rfl
                      have p38300 : g38291 61 = (Value.bool (decide (x37686 < 1125899906842624))) := pre38297 2 _ rfl rfl
                      exact head_pass rfl (yield_of rfl (Eq.trans p38300 (congrArg Value.bool hc38031))) rfl rfl
                    · intro g38301 s38302 w38303 l38304 hS38305 fr38306 pre38307
                      have p38308 : g38301 68 = undef := pre38307 0 _ rfl rfl
                      have p38309 : g38301 61 = (Value.bool (decide (x37686 < 1125899906842624))) := pre38307 1 _ rfl rfl
                      exact head_pass rfl (yield_of rfl (Eq.trans p38309 (congrArg Value.bool hc38031))) rfl rfl
                    · intro g38310 s38311 w38312 l38313 hS38314 fr38315 pre38316
                      have p38317 : g38310 65 = undef := pre38316 0 _ rfl rfl
                      have p38318 : g38310 61 = (Value.bool (decide (x37686 < 1125899906842624))) := pre38316 2 _ rfl rfl
                      have p38319 : g38310 69 = undef := pre38316 1 _ rfl rfl
                      exact head_pass rfl (yield_of rfl (Eq.trans p38318 (congrArg Value.bool hc38031))) rfl rfl
                    · intro g38320 s38321 w38322 l38323 hS38324 fr38325 pre38326
                      have p38327 : g38320 61 = (Value.bool (decide (x37686 < 1125899906842624))) := pre38326 0 _ rfl rfl
                      exact head_pass rfl (yield_of rfl (Eq.trans p38327 (congrArg Value.bool hc38031))) rfl rfl
                    · intro g38328 s38329 w38330 l38331 hS38332 fr38333 pre38334
                      have p38335 : g38328 61 = (Value.bool (decide (x37686 < 1125899906842624))) := pre38334 2 _ rfl rfl
                      have p38336 : g38328 70 = undef := pre38334 0 _ rfl rfl
                      have p38337 : g38328 71 = undef := pre38334 1 _ rfl rfl
                      exact head_pass rfl (yield_of rfl (Eq.trans p38335 (congrArg Value.bool hc38031))) rfl rfl
                    · intro g38338 s38339 w38340 l38341 hS38342 fr38343 pre38344
                      have p38345 : g38338 72 = undef := pre38344 1 _ rfl rfl
                      have p38346 : g38338 61 = (Value.bool (decide (x37686 < 1125899906842624))) := pre38344 0 _ rfl rfl
                      refine head_run rfl (Exec.pick_f (v := Value.bool (false)) rfl (Eq.trans p38346 (congrArg Value.bool hc38031)) rfl ?_)
                      exact head_done hS38342 rfl
                    · intro g38347 s38348 w38349 l38350 hS38351 fr38352 hR38353
                      have p38354 : g38347 59 = (Value.int .i64 (x37686)) := hR38353 0 rfl
                      have p38355 : g38347 60 = (Value.bool (decide (x37686 < 1125899906842624))) := hR38353 1 rfl
                      have p38356 : g38347 61 = (Value.bool (decide (x37686 < 1125899906842624))) := hR38353 2 rfl
                      have p38357 : g38347 62 = undef := hR38353 3 rfl
                      have p38358 : g38347 63 = undef := hR38353 4 rfl
                      have p38359 : g38347 64 = undef := hR38353 5 rfl
                      have p38360 : g38347 65 = undef := hR38353 6 rfl
                      have p38361 : g38347 66 = undef := hR38353 7 rfl
                      have p38362 : g38347 67 = undef := hR38353 8 rfl
                      have p38363 : g38347 68 = undef := hR38353 9 rfl
                      have p38364 : g38347 69 = undef := hR38353 10 rfl
                      have p38365 : g38347 70 = undef := hR38353 11 rfl
                      have p38366 : g38347 71 = undef := hR38353 12 rfl
                      have p38367 : g38347 72 = undef := hR38353 13 rfl
                      have p38368 : g38347 73 = (Value.bool (false)) := hR38353 14 rfl
                      refine WL_nil (at_normal ?_)
                      have e38369 := Option.some.inj ht38029
                      subst z38028
                      have hS38370 := ((hS38351).f2).f2
                      have hS38371 := (hS38370).f2
                      exact ⟨s38348, l38350, hS38371, (Eq.trans (fr38352 1 rfl) p37671), (Eq.trans (fr38352 7 rfl) p37672), (Eq.trans (fr38352 45 rfl) p37673), (Eq.trans (fr38352 46 rfl) p37674), (Eq.trans (fr38352 47 rfl) p37675), (Eq.trans (fr38352 52 rfl) p37676), (Eq.trans (fr38352 53 rfl) p37677), (Eq.trans (fr38352 54 rfl) x37678), p38368⟩
                · intro f38372 w38373 hM38374
                  obtain ⟨s38375, l38376, hS38377, p38378, p38379, p38380, p38381, p38382, p38383, p38384, p38385, p38386⟩ := hM38374
                  refine (at_normal ?_)
                  rcases ite_some hm37664 with ⟨hc38387, hm37664⟩ | ⟨hc38387, hm37664⟩
                  · refine W_cond_t p38386 hc38387 ?_
                    refine W_seq ?_
                    refine W_region ?_
                    refine WL_step rfl rfl (Exec.assign (v := Value.bool (false)) rfl rfl ?_)
                    refine WL_nil (at_normal ?_)
                    refine W_ret (ib_ret (at_ret (at_ret (ib_ret (at_ret (ib_ret (at_ret (at_ret (ib_ret (at_ret (at_ret ?_)))))))))))
                    have e38388 := Option.some.inj hm37664
                    subst c37660
                    have hq38389 := hr37652 _ (hres37665 (by intro _ h; cases h))
                    have e38390 := Option.some.inj hq38389
                    subst c36184
                    have hq38391 := hr36176 _ (hres36189 (by intro _ h; cases h))
                    have e38392 := Option.some.inj hq38391
                    subst r
                    refine ⟨_, ret1 rfl, ?_⟩
                    have hS38393 := ((hS38377).f2).f2
                    have hS38394 := (hS38393).f2
                    exact ⟨s38375, (PHeap.le.trans (PHeap.le.trans (PHeap.le.trans (PHeap.le.trans l31545 l31715) l36193) l37669) l38376), hS38394, rfl⟩
                  · refine W_cond_f p38386 hc38387 ?_
                    replace hc38387 := not_true hc38387
                    refine W_skip (ib_normal (at_normal ?_))
                    refine W_region ?_
                    refine WL_step rfl rfl (Exec.add rfl p38385 rfl ?_)
                    refine WL_step rfl rfl (Exec.move (v := Value.int .i64 (IntKind.i64.wrap ((i36221 : Int) + 1))) rfl rfl ?_)
                    refine WL_nil (at_normal ?_)
                    have e38395 := Option.some.inj hm37664
                    subst c37660
                    have hS38396 := ((hS38377).f2).f2
                    have hS38397 := (hS38396).f2
                    refine ⟨_, rfl, ?_⟩; exact ⟨s38375, (PHeap.le.trans l37669 l38376), hS38397, p38378, p38379, p38380, p38381, p38382, p38383, p38384, (Eq.trans rfl (wrap_up hi37667 (by have h := must_some q36220; simpa [maxLen] using h)))⟩
              · intro t38398 f38399 w38400 hI38401 hres38402
                obtain ⟨s38403, l38404, hS38405, p38406, p38407, p38408, p38409, p38410, p38411, p38412, x38413⟩ := hI38401
                refine W_seq ?_
                refine W_region ?_
                refine WL_step rfl rfl (Exec.lss rfl x38413 p38412 ?_)
                refine WL_nil (at_normal ?_)
                refine W_seq ?_
                refine W_false (congrArg Value.bool (decide_eq_false (by omega))) ?_
                refine W_exit (at_exit (at_exit (ib_here (at_normal ?_))))
                have hS38414 := ((hS38405).f2).f2
                have hS38415 := (hS38414).f2
                refine ⟨_, .inl hres38402, ?_⟩; exact ⟨s38403, l38404, hS38415, p38406, p38407, p38408, p38409, p38410, p38411, p38412⟩
            · rintro f38416 w38417 ⟨t38418, hc38419, hM38420⟩
              have hm36188 := hc38419.elim (hn37653 _) (hb37654 _)
              clear hc38419
              obtain ⟨s38421, l38422, hS38423, p38424, p38425, p38426, p38427, p38428, p38429, p38430⟩ := hM38420
              refine (ib_normal (at_normal ?_))
              refine W_region ?_
              refine WL_step rfl rfl (Exec.add rfl p38428 rfl ?_)
              refine WL_step rfl rfl (Exec.move (v := Value.int .i64 (IntKind.i64.wrap ((i31721 : Int) + 1))) rfl rfl ?_)
              refine WL_nil (at_normal ?_)
              have e38431 := Option.some.inj hm36188
              subst c36184
              have hS38432 := ((hS38423).f2).f2
              have hS38433 := (hS38432).f2
              refine ⟨_, rfl, ?_⟩; exact ⟨s38421, (PHeap.le.trans l36193 l38422), hS38433, p38424, p38426, p38427, (Eq.trans rfl (wrap_up hi36191 (by have h := (((hS31716).f2).f2).f1.rows_len; have h2 := (((hS31716).f2).f2).arr_le; omega)))⟩
          · intro t38434 f38435 w38436 hI38437 hres38438
            obtain ⟨s38439, l38440, hS38441, p38442, p38443, p38444, x38445⟩ := hI38437
            refine W_seq ?_
            refine W_region ?_
            refine WL_step rfl rfl (Exec.lss rfl x38445 p38444 ?_)
            refine WL_nil (at_normal ?_)
            refine W_seq ?_
            refine W_false (congrArg Value.bool (decide_eq_false (by omega))) ?_
            refine W_exit (at_exit (at_exit (ib_here (at_normal ?_))))
            have hS38446 := ((hS38441).f2).f2
            have hS38447 := (hS38446).f2
            refine ⟨_, .inl hres38438, ?_⟩; exact ⟨s38439, l38440, hS38447, p38442, p38443, p38444⟩
        · rintro f38448 w38449 ⟨t38450, hc38451, hM38452⟩
          have hm := hc38451.elim (hn36177 _) (hb36178 _)
          clear hc38451
          obtain ⟨s38453, l38454, hS38455, p38456, p38457, p38458⟩ := hM38452
          refine (at_normal ?_)
          refine W_seq ?_
          refine W_region ?_
          refine WL_step rfl rfl (Exec.assign (v := Value.bool (true)) rfl rfl ?_)
          refine WL_nil (at_normal ?_)
          refine W_ret ?_
          have e38460 := Option.some.inj hm
          subst r
          refine ⟨_, ret1 rfl, ?_⟩
          have hS38461 := ((hS38455).f2).f2
          have hS38462 := (hS38461).f2
          exact ⟨s38453, (PHeap.le.trans (PHeap.le.trans l31545 l31715) l38454), hS38462, rfl⟩

theorem N27 : (Try.f27.name == "runtime.NumGoroutine") = false := by kernel_rfl

theorem slices_Clone___int_int__o_sim {w0 w : World} {s : PHeap} {H : List Res} {s_38581 : (List Int)} {v38582 : Value} {r : (List Int)} (hm : slices_Clone___int_int__o_p s_38581 = some r) (hS : St w0 s (Res.arr (encInt .i64) 3 v38582 s_38581 :: H) w)  :
    Calls Try.prog 27 #[v38582] w fun e w' => ∃ v, e = .returned v ∧ ((fun (y38618 : (List Int)) => ∃ (s38620 : PHeap) (v38619 : Value), PHeap.le s s38620 ∧ St w0 s38620 (Res.arr (encInt .i64) 3 v38582 s_38581 :: Res.arr (encInt .i64) 3 v38619 y38618 :: H) w' ∧ v = v38619) r) := by
  unfold slices_Clone___int_int__o_p at hm
  refine calls_of_W Try.func27 rfl rfl ?_
  refine W_seq ?_
  refine W_region ?_
  refine WL_step rfl rfl (Exec.assign (v := Value.slice none 0 0) rfl rfl ?_)
  refine WL_nil (at_normal ?_)
  refine W_seq ?_
  refine W_seq ?_
  refine W_region ?_
  refine WL_step rfl rfl (Exec.move (v := v38582) rfl rfl ?_)
  obtain ⟨a38626, n38627, c38628, e38629, hn38630⟩ := (hS).nilShape
  refine WL_step rfl rfl (Exec.slice_eql_nil Try.underlying49 rfl e38629 rfl ?_)
  refine WL_nil (at_normal ?_)
  by_cases hc38631 : a38626.isNone = true
  · have hq38632 := hn38630 hc38631
    replace hm := (show (some []) = ((app 8 [] s_38581).bind fun l38652 => some l38652) from by simp [hq38632, app]).trans hm
    refine W_true ((congrArg Value.bool hc38631)) ?_
    refine W_seq ?_
    refine W_region ?_
    refine WL_step rfl rfl (Exec.assign (v := Value.slice none 0 0) rfl rfl ?_)
    refine WL_nil (at_normal ?_)
    refine W_ret (at_ret ?_)
    have e38634 := Option.some.inj hm
    subst r
    refine ⟨_, ret1 rfl, ?_⟩
    have hS38635 := hS.nilArr (encInt .i64) 3
    have hS38636 := (hS38635).f1
    exact ⟨s, (Value.slice none 0 0), (PHeap.le_refl _), hS38636, rfl⟩
  · replace hc38631 := not_true hc38631
    refine W_false ((congrArg Value.bool hc38631)) ?_
    refine W_skip (at_normal ?_)
    refine W_seq ?_
    refine W_region ?_
    refine WL_step rfl rfl (Exec.buildSlice (Te := 3) (cs := []) hS rfl parts_nil (fun _ => by kernel_rfl) ?_)
    intro b38648 w38649 hS38650
    refine WL_step rfl rfl (Exec.move (v := v38582) rfl rfl ?_)
    have hS38651 := St.boxArr (E := (encInt .i64)) (xs := []) hS38650 rfl (by simp [maxLen])
    obtain ⟨l38652, q38653, hm⟩ := bind_some hm
    have hS38654 := (hS38651).f1
    have hS38655 := (hS38654).f1
    refine WL_step rfl rfl (Exec.append_arr (E := (encInt .i64)) hS38655 S49 Z3 rfl (by decide) rfl rfl rfl q38653 ?_)
    intro v38656 w38657 hS38658
    refine WL_step rfl rfl (Exec.assign (v := v38656) rfl rfl ?_)
    refine WL_nil (at_normal ?_)
    refine W_ret ?_
    have e38660 := Option.some.inj hm
    subst r
    refine ⟨_, ret1 rfl, ?_⟩
    have hS38661 := (hS38658).f1
    exact ⟨s, v38656, (PHeap.le_refl _), hS38661, rfl⟩

theorem N21 : (Try.f21.name == "runtime.NumGoroutine") = false := by kernel_rfl

end Go.Pw
