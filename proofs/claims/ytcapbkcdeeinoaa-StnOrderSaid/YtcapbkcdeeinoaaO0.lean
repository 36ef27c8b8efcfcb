/-
  The walks (printed by my generator).
-/
import Derived.Test.YtcapbkcdeeinoaaOP
import Derived.Test.YtcapbkcdeeinoaaProg
import Derived.KernelRfl
set_option maxRecDepth 100000
set_option linter.unusedVariables false
namespace Go.Pw
open Go.Proofs
theorem C30 : Try.prog.concrete 30 = true := by kernel_rfl

theorem S49 : tySlice Try.prog 49 = some (3, 1, 8) := by kernel_rfl

theorem Z3 : tyZero Try.prog 3 = some (Value.int .i64 (0)) := by kernel_rfl

theorem A3 : tyAgg Try.prog 3 = some (false, 1) := by kernel_rfl

theorem F63_0 : tyField Try.prog 63 0 = some 0 := by kernel_rfl

theorem A61 : tyAgg Try.prog 61 = some (false, 1) := by kernel_rfl

theorem S61 : tySlice Try.prog 61 = some (49, 1, 24) := by kernel_rfl

theorem Z49 : tyZero Try.prog 49 = some (Value.slice none 0 0) := by kernel_rfl

theorem N10 : (Try.f10.name == "runtime.NumGoroutine") = false := by kernel_rfl

theorem stn_New_sim {w0 w : World} {s : PHeap} {H : List Res} {n24 : Int}  {r : (Option stn_Network) × (Option Int)} (hm : stn_New_p n24 = some r) (hS : St w0 s (H) w)  :
    Calls Try.prog 10 #[Value.int .i64 (n24)] w fun e w' => ∃ v, e = .returned v ∧ ((un2 fun (p_d933 : (Option stn_Network)) (y934 : (Option Int)) => (∃ d933 : stn_Network, p_d933 = some d933 ∧ ∃ (s938 : PHeap) (b935 : Nat) (v936 : Value) (hs937 : List Value), PHeap.le s s938 ∧ St w0 s938 (Res.box b935 63 [v936] :: Res.arr encRaw 49 v936 hs937 :: Res.rows (encInt .i64) 3 hs937 d933.d :: H) w' ∧ v = Value.tuple #[Value.pointer (some ⟨b935, 0, none⟩), errV 30 (y934)]) ∨ (p_d933 = none ∧ ∃ (s939 : PHeap) , PHeap.le s s939 ∧ St w0 s939 (H) w' ∧ v = Value.tuple #[Value.pointer none, errV 30 (y934)])) r) := by
  unfold stn_New_p at hm
  refine calls_of_W Try.func10 rfl rfl ?_
  refine W_seq ?_
  refine W_region ?_
  refine WL_step rfl rfl (Exec.assign (v := Value.pointer none) rfl rfl ?_)
  refine WL_step rfl rfl (Exec.assign (v := errV 30 (none)) rfl rfl ?_)
  refine WL_nil (at_normal ?_)
  refine W_seq ?_
  refine W_seq ?_
  refine W_mid (M := fun f' w' => ∃ (s941 : PHeap) , PHeap.le s s941 ∧ St w0 s941 (H) w' ∧ f' 0 = Value.int .i64 (n24) ∧ f' 13 = Value.bool (((decide (n24 < 1)) || decide (128 < n24)))) ?_ ?_
  · refine W_region ?_
    refine WL_step rfl rfl (Exec.move (v := Value.int .i64 (n24)) rfl rfl ?_)
    refine WL_step rfl rfl (Exec.lss rfl rfl rfl ?_)
    refine WL_step rfl rfl (Exec.move (v := Value.bool (decide (n24 < 1))) rfl rfl ?_)
    by_cases hc942 : (decide (n24 < 1)) = true
    · refine WL_pass rfl (yield_of rfl (congrArg Value.bool hc942)) rfl rfl ?_
      refine WL_pass rfl (yield_of rfl (congrArg Value.bool hc942)) rfl rfl ?_
      refine WL_step rfl rfl (Exec.pick_t (v := Value.bool (true)) rfl (congrArg Value.bool hc942) rfl ?_)
      refine WL_nil (at_normal ?_)
      exact ⟨s, (PHeap.le_refl _), hS, rfl, (congrArg Value.bool (or_t hc942)).symm⟩
    · replace hc942 := not_true hc942
      refine WL_run rfl (yield_of rfl (congrArg Value.bool hc942)) rfl (Exec.move (v := Value.int .i64 (n24)) rfl rfl ?_)
      refine WL_run rfl (yield_of rfl (congrArg Value.bool hc942)) rfl (Exec.gtr rfl rfl rfl ?_)
      refine WL_step rfl rfl (Exec.pick_f (v := Value.bool (decide (128 < n24))) rfl (congrArg Value.bool hc942) rfl ?_)
      refine WL_nil (at_normal ?_)
      exact ⟨s, (PHeap.le_refl _), hS, rfl, (congrArg Value.bool (or_f hc942)).symm⟩
  · intro f943 w944 hM945
    obtain ⟨s946, l947, hS948, p949, p950⟩ := hM945
    refine (at_normal ?_)
    rcases ite_some hm with ⟨hc951, hm⟩ | ⟨hc951, hm⟩
    · refine W_cond_t p950 hc951 ?_
      refine W_seq ?_
      refine W_region ?_
      refine WL_step rfl rfl (Exec.makeInterface C30 rfl rfl ?_)
      refine WL_step rfl rfl (Exec.assign (v := Value.pointer none) rfl rfl ?_)
      refine WL_step rfl rfl (Exec.assign (v := errV 30 (some 1)) rfl rfl ?_)
      refine WL_nil (at_normal ?_)
      refine W_ret (at_ret ?_)
      have e953 := Option.some.inj hm
      subst r
      refine ⟨_, ret2 rfl, ?_⟩
      refine (Or.inr ⟨rfl, ?_⟩); exact ⟨s946, l947, hS948, (tup2 rfl rfl)⟩
    · refine W_cond_f p950 hc951 ?_
      replace hc951 := not_true hc951
      refine W_skip (at_normal ?_)
      refine W_seq ?_
      refine W_region ?_
      refine WL_step rfl rfl (Exec.build rfl parts_nil (v := Value.agg #[Value.slice none 0 0]) (fun _ => by kernel_rfl) ?_)
      refine WL_step rfl rfl (Exec.box (cs := [Value.slice none 0 0]) hS948 rfl rfl rfl ?_)
      intro b957 w958 hS959
      refine WL_step rfl rfl (Exec.assign (v := Value.pointer (some ⟨b957, 0, none⟩)) rfl rfl ?_)
      refine WL_nil (at_normal ?_)
      refine W_seq ?_
      refine W_seq ?_
      refine W_region ?_
      refine WL_step rfl rfl (Exec.move (v := Value.int .i64 (n24)) rfl p949 ?_)
      refine WL_step rfl rfl (Exec.move (v := Value.int .i64 (0)) rfl rfl ?_)
      refine WL_nil (at_normal ?_)
      obtain ⟨u960, q961, hm⟩ := bind_some hm
      obtain ⟨z1240, hB1533, hm⟩ := bind_some hm
      refine W_block (W_forS (fun k' s' f' w' => (fun (z1240 : (List (List Int))) => ∃ (s1534 : PHeap) (v1241 : Value) (hs1242 : List Value), PHeap.le s946 s1534 ∧ St w0 s1534 (Res.box b957 63 [v1241] :: Res.arr encRaw 49 v1241 hs1242 :: Res.rows (encInt .i64) 3 hs1242 z1240 :: H) w' ∧ f' 0 = Value.int .i64 (n24) ∧ f' 4 = Value.pointer (some ⟨b957, 0, none⟩) ∧ f' 17 = Value.int .i64 (n24) ∧ f' 18 = Value.int .i64 (k' : Int)) s') hB1533 ?_ ?_ ?_)
      · have hS1535 := (hS959.rows_nil (encInt .i64) 3).nilArr encRaw 49
        have hS1536 := (hS1535).f2
        exact ⟨s946, (Value.slice none 0 0), [], (PHeap.le_refl _), hS1536, p949, rfl, rfl, rfl⟩
      · intro i962 z1240 s1538 f1539 w1540 hi1541 hI1542 hm1543
        obtain ⟨s1544, v1241, hs1242, l1545, hS1546, p1547, p1548, p1549, x1550⟩ := hI1542
        refine W_seq ?_
        refine W_region ?_
        refine WL_step rfl rfl (Exec.lss rfl x1550 p1549 ?_)
        refine WL_nil (at_normal ?_)
        refine W_seq ?_
        refine W_true (congrArg Value.bool (decide_eq_true (by omega))) ?_
        refine W_skip (at_normal ?_)
        refine W_seq ?_
        refine W_block ?_
        refine W_seq ?_
        refine W_region ?_
        refine WL_step rfl rfl (Exec.move (v := Value.int .i64 ((i962 : Int))) rfl x1550 ?_)
        refine WL_step rfl rfl (Exec.assign (v := Value.int .i64 ((i962 : Int))) rfl rfl ?_)
        refine WL_nil (at_normal ?_)
        refine W_seq ?_
        refine W_region ?_
        refine WL_step rfl rfl (Exec.move (v := Value.int .i64 (n24)) rfl p1547 ?_)
        obtain ⟨l1556, q1557, hm1543⟩ := bind_some hm1543
        refine WL_step rfl rfl (Exec.make (E := (encInt .i64)) hS1546 S49 Z3 rfl rfl rfl rfl q1557 ?_)
        intro v1558 w1559 hS1560
        refine WL_step rfl rfl (Exec.assign (v := v1558) rfl rfl ?_)
        refine WL_nil (at_normal ?_)
        refine W_seq ?_
        refine W_seq ?_
        refine W_region ?_
        refine WL_step rfl rfl (Exec.move (v := v1558) rfl rfl ?_)
        refine WL_step rfl rfl (Exec.len_arr (hS1560) S49 rfl rfl ?_)
        refine WL_step rfl rfl (Exec.move (v := Value.int .i64 (0)) rfl rfl ?_)
        refine WL_nil (at_normal ?_)
        obtain ⟨l1629, hB1698, hm1543⟩ := bind_some hm1543
        refine W_block (W_forS (fun k' s' f' w' => (fun (l1629 : (List Int)) => ∃ (s1699 : PHeap) , PHeap.le s1544 s1699 ∧ St w0 s1699 (Res.box b957 63 [v1241] :: Res.arr (encInt .i64) 3 v1558 l1629 :: Res.arr encRaw 49 v1241 hs1242 :: Res.rows (encInt .i64) 3 hs1242 z1240 :: H) w' ∧ f' 0 = Value.int .i64 (n24) ∧ f' 4 = Value.pointer (some ⟨b957, 0, none⟩) ∧ f' 5 = Value.int .i64 ((i962 : Int)) ∧ f' 6 = v1558 ∧ f' 17 = Value.int .i64 (n24) ∧ f' 18 = Value.int .i64 ((i962 : Int)) ∧ f' 24 = Value.int .i64 ((l1556.length : Int)) ∧ f' 25 = Value.int .i64 (k' : Int)) s') hB1698 ?_ ?_ ?_)
        · have hS1700 := ((hS1560).f3).f3
          have hS1701 := (hS1700).f2
          have hS1702 := (hS1701).f3
          exact ⟨s1544, (PHeap.le_refl _), hS1702, p1547, p1548, rfl, rfl, p1549, x1550, rfl, rfl⟩
        · intro i1561 l1629 s1704 f1705 w1706 hi1707 hI1708 hm1709
          obtain ⟨s1710, l1711, hS1712, p1713, p1714, p1715, p1716, p1717, p1718, p1719, x1720⟩ := hI1708
          refine W_seq ?_
          refine W_region ?_
          refine WL_step rfl rfl (Exec.lss rfl x1720 p1719 ?_)
          refine WL_nil (at_normal ?_)
          refine W_seq ?_
          refine W_true (congrArg Value.bool (decide_eq_true (by omega))) ?_
          refine W_skip (at_normal ?_)
          refine W_seq ?_
          refine W_block ?_
          refine W_seq ?_
          refine W_region ?_
          refine WL_step rfl rfl (Exec.move (v := Value.int .i64 ((i1561 : Int))) rfl x1720 ?_)
          refine WL_step rfl rfl (Exec.assign (v := Value.int .i64 ((i1561 : Int))) rfl rfl ?_)
          refine WL_nil (at_normal ?_)
          refine W_seq ?_
          refine W_region ?_
          refine WL_step rfl rfl (Exec.move (v := Value.int .i64 ((i1561 : Int))) rfl rfl ?_)
          refine WL_step rfl rfl (Exec.move (v := Value.int .i64 ((i962 : Int))) rfl p1715 ?_)
          refine WL_step rfl rfl (Exec.neq rfl rfl rfl ?_)
          refine WL_nil (at_normal ?_)
          obtain ⟨l1741, ht1742, hm1709⟩ := bind_some hm1709
          refine W_mid (M := fun f' w' => (fun (l1741 : (List Int)) => ∃ (s1743 : PHeap) , PHeap.le s1710 s1743 ∧ St w0 s1743 (Res.box b957 63 [v1241] :: Res.arr (encInt .i64) 3 v1558 l1741 :: Res.arr encRaw 49 v1241 hs1242 :: Res.rows (encInt .i64) 3 hs1242 z1240 :: H) w' ∧ f' 0 = Value.int .i64 (n24) ∧ f' 4 = Value.pointer (some ⟨b957, 0, none⟩) ∧ f' 5 = Value.int .i64 ((i962 : Int)) ∧ f' 6 = v1558 ∧ f' 17 = Value.int .i64 (n24) ∧ f' 18 = Value.int .i64 ((i962 : Int)) ∧ f' 24 = Value.int .i64 ((l1556.length : Int)) ∧ f' 25 = Value.int .i64 ((i1561 : Int))) l1741) ?_ ?_
          · rcases ite_some ht1742 with ⟨hc1744, ht1742⟩ | ⟨hc1744, ht1742⟩
            · refine W_cond_t rfl hc1744 ?_
              refine W_region ?_
              refine WL_step rfl rfl (Exec.move (v := v1558) rfl p1716 ?_)
              refine WL_step rfl rfl (Exec.move (v := Value.int .i64 ((i1561 : Int))) rfl rfl ?_)
              obtain ⟨x1755, q1756, ht1742⟩ := bind_some ht1742
              obtain ⟨g1757, c1758, e1759⟩ := ((hS1712).f1).arr_at q1756
              refine WL_step rfl rfl (Exec.index_slice S49 rfl e1759 rfl (idx_some q1756).1 (idx_some q1756).2.1 ?_)
              obtain ⟨l1760, q1761, ht1742⟩ := bind_some ht1742
              have hS1762 := (hS1712).f1
              refine WL_step rfl rfl (Exec.store_arr hS1762 e1759 A3 rfl rfl rfl rfl (encInt_val.2 rfl) q1761 ?_)
              intro w1763 hS1764
              refine WL_nil (at_normal ?_)
              have e1765 := Option.some.inj ht1742
              subst l1741
              have hS1766 := ((hS1764).f3).f3
              have hS1767 := (hS1766).f2
              have hS1768 := (hS1767).f3
              exact ⟨s1710, (PHeap.le_refl _), hS1768, p1713, p1714, p1715, p1716, p1717, p1718, p1719, x1720⟩
            · refine W_cond_f rfl hc1744 ?_
              replace hc1744 := not_true hc1744
              refine W_skip (at_normal ?_)
              have e1769 := Option.some.inj ht1742
              subst l1741
              have hS1770 := ((hS1712).f3).f3
              have hS1771 := (hS1770).f3
              have hS1772 := (hS1771).f3
              exact ⟨s1710, (PHeap.le_refl _), hS1772, p1713, p1714, p1715, p1716, p1717, p1718, p1719, x1720⟩
          · intro f1773 w1774 hM1775
            obtain ⟨s1776, l1777, hS1778, p1779, p1780, p1781, p1782, p1783, p1784, p1785, p1786⟩ := hM1775
            refine (ib_normal (at_normal ?_))
            refine W_region ?_
            refine WL_step rfl rfl (Exec.add rfl p1786 rfl ?_)
            refine WL_step rfl rfl (Exec.move (v := Value.int .i64 (IntKind.i64.wrap ((i1561 : Int) + 1))) rfl rfl ?_)
            refine WL_nil (at_normal ?_)
            have e1787 := Option.some.inj hm1709
            subst s1704
            have hS1788 := ((hS1778).f3).f3
            have hS1789 := (hS1788).f3
            have hS1790 := (hS1789).f3
            exact ⟨s1776, (PHeap.le.trans l1711 l1777), hS1790, p1779, p1780, p1781, p1782, p1783, p1784, p1785, (Eq.trans rfl (wrap_up hi1707 (hS1560).arr_le))⟩
        · intro f1791 w1792 hI1793
          obtain ⟨s1794, l1795, hS1796, p1797, p1798, p1799, p1800, p1801, p1802, p1803, x1804⟩ := hI1793
          refine W_seq ?_
          refine W_region ?_
          refine WL_step rfl rfl (Exec.lss rfl x1804 p1803 ?_)
          refine WL_nil (at_normal ?_)
          refine W_seq ?_
          refine W_false (congrArg Value.bool (decide_eq_false (by omega))) ?_
          refine W_exit (at_exit (at_exit (ib_here (at_normal ?_))))
          refine W_region ?_
          refine WL_step rfl rfl (Exec.move (v := Value.pointer (some ⟨b957, 0, none⟩)) rfl p1798 ?_)
          refine WL_step rfl rfl (Exec.move (v := Value.pointer (some ⟨b957, 0, none⟩)) rfl p1798 ?_)
          refine WL_step rfl rfl (Exec.nilCheck_ptr rfl rfl ?_)
          refine WL_step rfl rfl (Exec.field F63_0 rfl rfl rfl ?_)
          refine WL_step rfl rfl (Exec.load_box (hS1796) A61 rfl rfl rfl ?_)
          refine WL_step rfl rfl (Exec.move (v := v1558) rfl p1800 ?_)
          refine WL_step rfl rfl (Exec.buildSlice (Te := 49) (cs := [v1558]) hS1796 rfl (parts_cons (c := [v1558]) (cells_of rfl (cells_one ((hS1796).f1).arr_one)) parts_nil) (fun _ => by kernel_rfl) ?_)
          intro b1821 w1822 hS1823
          obtain ⟨l1824, q1825, hm1543⟩ := bind_some hm1543
          have hS1826 := (hS1823).f2
          have hS1827 := (hS1826).f1
          have hS1828 := ((hS1827).f4).f4
          have hS1829 := ((hS1828).f2).f1
          refine WL_step rfl rfl (Exec.append_grid (E := encRaw) (ys := [v1558]) hS1829 S61 Z49 rfl (by decide) rfl rfl rfl rfl (reps_one ⟨rfl, ((hS1829).f3).arr_one⟩) rfl rfl ((hS1829).f2).rows_len q1825 ?_)
          intro v1830 w1831 hS1832
          have hS1833 := ((hS1832).f1.f2.rows_push).f1
          rw [← (app_some q1825).2] at hS1833
          refine WL_step rfl rfl (Exec.nilCheck_ptr rfl rfl ?_)
          refine WL_step rfl rfl (Exec.field F63_0 rfl rfl rfl ?_)
          have hS1834 := (hS1833).f2
          refine WL_step rfl rfl (Exec.store_box (ds := [v1830]) (es := [v1830]) hS1834 A61 rfl rfl rfl (cells_one (((hS1834).f2).f2).arr_one) (one_cons (((hS1834).f2).f2).arr_one one_nil) (Nat.le_of_ble_eq_true rfl) rfl ?_)
          intro w1835 hS1836
          refine WL_nil (ib_normal (at_normal ?_))
          refine W_region ?_
          refine WL_step rfl rfl (Exec.add rfl p1802 rfl ?_)
          refine WL_step rfl rfl (Exec.move (v := Value.int .i64 (IntKind.i64.wrap ((i962 : Int) + 1))) rfl rfl ?_)
          refine WL_nil (at_normal ?_)
          have e1837 := Option.some.inj hm1543
          subst s1538
          have hS1838 := ((hS1836).f2).f2
          have hS1839 := (hS1838).f2
          exact ⟨s1794, v1830, (hs1242 ++ [v1558]), (PHeap.le.trans l1545 l1795), hS1839, p1797, p1798, p1801, (Eq.trans rfl (wrap_up hi1541 (by have h := must_some q961; simp at h; simp only [maxLen]; omega)))⟩
      · intro f1840 w1841 hI1842
        obtain ⟨s1843, v1241, hs1242, l1844, hS1845, p1846, p1847, p1848, x1849⟩ := hI1842
        refine W_seq ?_
        refine W_region ?_
        refine WL_step rfl rfl (Exec.lss rfl x1849 p1848 ?_)
        refine WL_nil (at_normal ?_)
        refine W_seq ?_
        refine W_false (congrArg Value.bool (decide_eq_false (by omega))) ?_
        refine W_exit (at_exit (at_exit (ib_here (at_normal ?_))))
        refine W_seq ?_
        refine W_region ?_
        refine WL_step rfl rfl (Exec.move (v := Value.pointer (some ⟨b957, 0, none⟩)) rfl p1847 ?_)
        refine WL_step rfl rfl (Exec.assign (v := Value.pointer (some ⟨b957, 0, none⟩)) rfl rfl ?_)
        refine WL_step rfl rfl (Exec.assign (v := errV 30 (none)) rfl rfl ?_)
        refine WL_nil (at_normal ?_)
        refine W_ret ?_
        have e1851 := Option.some.inj hm
        subst r
        refine ⟨_, ret2 rfl, ?_⟩
        have hS1852 := ((hS1845).f2).f2
        have hS1853 := (hS1852).f2
        refine (Or.inl ⟨_, rfl, ?_⟩); exact ⟨s1843, b957, v1241, hs1242, (PHeap.le.trans l947 l1844), hS1853, (tup2 rfl rfl)⟩

theorem S22 : tySlice Try.prog 22 = some (32, 3, 24) := by kernel_rfl

theorem A32 : tyAgg Try.prog 32 = some (true, 3) := by kernel_rfl

theorem Z32 : tyZero Try.prog 32 = some (Value.agg #[Value.int .i64 (0), Value.int .i64 (0), Value.int .i64 (0)]) := by kernel_rfl

theorem F32_0 : tyField Try.prog 32 0 = some 0 := by kernel_rfl

theorem N26 : (Try.f26.name == "runtime.NumGoroutine") = false := by kernel_rfl

theorem stn_Network_point_sim {w0 w : World} {s : PHeap} {H : List Res} {n1944 : stn_Network} {p1948 : Int} {b1945 : Nat} {v1946 : Value} {hs1947 : List Value} {r : Bool} (hm : stn_Network_point_p n1944 p1948 = some r) (hS : St w0 s (Res.box b1945 63 [v1946] :: Res.arr encRaw 49 v1946 hs1947 :: Res.rows (encInt .i64) 3 hs1947 n1944.d :: H) w)  :
    Calls Try.prog 26 #[Value.pointer (some ⟨b1945, 0, none⟩), Value.int .i64 (p1948)] w fun e w' => ∃ v, e = .returned v ∧ ((fun (y1964 : Bool) => ∃ (s1965 : PHeap) , PHeap.le s s1965 ∧ St w0 s1965 (Res.box b1945 63 [v1946] :: Res.arr encRaw 49 v1946 hs1947 :: Res.rows (encInt .i64) 3 hs1947 n1944.d :: H) w' ∧ v = Value.bool (y1964)) r) := by
  unfold stn_Network_point_p at hm
  refine calls_of_W Try.func26 rfl rfl ?_
  refine W_seq ?_
  refine W_region ?_
  refine WL_step rfl rfl (Exec.assign (v := Value.bool (false)) rfl rfl ?_)
  refine WL_nil (at_normal ?_)
  refine W_seq ?_
  refine W_mid (M := fun f' w' => ∃ (s1967 : PHeap) , PHeap.le s s1967 ∧ St w0 s1967 (Res.box b1945 63 [v1946] :: Res.arr encRaw 49 v1946 hs1947 :: Res.rows (encInt .i64) 3 hs1947 n1944.d :: H) w' ∧ f' 4 = Value.bool (((decide (0 ≤ p1948)) && decide (p1948 < (n1944.d.length : Int))))) ?_ ?_
  · refine W_region ?_
    refine WL_step rfl rfl (Exec.move (v := Value.int .i64 (p1948)) rfl rfl ?_)
    refine WL_step rfl rfl (Exec.geq rfl rfl rfl ?_)
    refine WL_step rfl rfl (Exec.move (v := Value.bool (decide (0 ≤ p1948))) rfl rfl ?_)
    by_cases hc1968 : (decide (0 ≤ p1948)) = true
    · refine WL_run rfl (yield_of rfl (congrArg Value.bool hc1968)) rfl (Exec.move (v := Value.int .i64 (p1948)) rfl rfl ?_)
      refine WL_run rfl (yield_of rfl (congrArg Value.bool hc1968)) rfl (Exec.move (v := Value.pointer (some ⟨b1945, 0, none⟩)) rfl rfl ?_)
      refine WL_run rfl (yield_of rfl (congrArg Value.bool hc1968)) rfl (Exec.nilCheck_ptr rfl rfl ?_)
      refine WL_run rfl (yield_of rfl (congrArg Value.bool hc1968)) rfl (Exec.field F63_0 rfl rfl rfl ?_)
      refine WL_run rfl (yield_of rfl (congrArg Value.bool hc1968)) rfl (Exec.load_box (hS) A61 rfl rfl rfl ?_)
      refine WL_run rfl (yield_of rfl (congrArg Value.bool hc1968)) rfl (Exec.len_grid (((hS).f2).f2) (((hS).f2).f2).f1.rows_len S61 rfl rfl ?_)
      refine WL_run rfl (yield_of rfl (congrArg Value.bool hc1968)) rfl (Exec.lss rfl rfl rfl ?_)
      refine WL_step rfl rfl (Exec.pick_t (v := Value.bool (decide (p1948 < (n1944.d.length : Int)))) rfl (congrArg Value.bool hc1968) rfl ?_)
      refine WL_step rfl rfl (Exec.assign (v := Value.bool (decide (p1948 < (n1944.d.length : Int)))) rfl rfl ?_)
      refine WL_nil (at_normal ?_)
      have hS1969 := ((hS).f2).f2
      have hS1970 := (hS1969).f2
      exact ⟨s, (PHeap.le_refl _), hS1970, (congrArg Value.bool (and_t hc1968)).symm⟩
    · replace hc1968 := not_true hc1968
      refine WL_pass rfl (yield_of rfl (congrArg Value.bool hc1968)) rfl rfl ?_
      refine WL_pass rfl (yield_of rfl (congrArg Value.bool hc1968)) rfl rfl ?_
      refine WL_pass rfl (yield_of rfl (congrArg Value.bool hc1968)) rfl rfl ?_
      refine WL_pass rfl (yield_of rfl (congrArg Value.bool hc1968)) rfl rfl ?_
      refine WL_pass rfl (yield_of rfl (congrArg Value.bool hc1968)) rfl rfl ?_
      refine WL_pass rfl (yield_of rfl (congrArg Value.bool hc1968)) rfl rfl ?_
      refine WL_pass rfl (yield_of rfl (congrArg Value.bool hc1968)) rfl rfl ?_
      refine WL_step rfl rfl (Exec.pick_f (v := Value.bool (false)) rfl (congrArg Value.bool hc1968) rfl ?_)
      refine WL_step rfl rfl (Exec.assign (v := Value.bool (false)) rfl rfl ?_)
      refine WL_nil (at_normal ?_)
      have hS1971 := ((hS).f2).f2
      have hS1972 := (hS1971).f2
      exact ⟨s, (PHeap.le_refl _), hS1972, (congrArg Value.bool (and_f hc1968)).symm⟩
  · intro f1973 w1974 hM1975
    obtain ⟨s1976, l1977, hS1978, p1979⟩ := hM1975
    refine (at_normal ?_)
    refine W_ret ?_
    have e1981 := Option.some.inj hm
    subst r
    refine ⟨_, ret1 rfl, ?_⟩
    have hS1982 := ((hS1978).f2).f2
    have hS1983 := (hS1982).f2
    exact ⟨s1976, l1977, hS1983, p1979⟩

theorem F32_1 : tyField Try.prog 32 1 = some 1 := by kernel_rfl

theorem F32_2 : tyField Try.prog 32 2 = some 2 := by kernel_rfl

theorem hmix : Try.prog.follows .mixedOrders = true := by kernel_rfl

theorem A49 : tyAgg Try.prog 49 = some (false, 1) := by kernel_rfl

theorem N14 : (Try.f14.name == "runtime.NumGoroutine") = false := by kernel_rfl

theorem stn_Network_Add_sim {w0 w : World} {s : PHeap} {H : List Res} {n1933 : stn_Network} {b1937 : Bound} {b1934 : Nat} {v1935 : Value} {hs1936 : List Value} {r : (Option Int) × (List (List Int))} (hm : stn_Network_Add_p n1933 b1937 = some r) (hS : St w0 s (Res.box b1934 63 [v1935] :: Res.arr encRaw 49 v1935 hs1936 :: Res.rows (encInt .i64) 3 hs1936 n1933.d :: H) w)  :
    Calls Try.prog 14 #[Value.pointer (some ⟨b1934, 0, none⟩), Value.agg #[Value.int .i64 (b1937.A), Value.int .i64 (b1937.B), Value.int .i64 (b1937.Most)]] w fun e w' => ∃ v, e = .returned v ∧ ((un2 fun (y11203 : (Option Int)) (l11204 : (List (List Int))) => ∃ (s11205 : PHeap) , PHeap.le s s11205 ∧ St w0 s11205 (Res.box b1934 63 [v1935] :: Res.arr encRaw 49 v1935 hs1936 :: Res.rows (encInt .i64) 3 hs1936 l11204 :: H) w' ∧ v = errV 30 (y11203)) r) := by
  unfold stn_Network_Add_p at hm
  refine calls_of_W Try.func14 rfl rfl ?_
  refine W_seq ?_
  refine W_region ?_
  refine WL_step rfl rfl (Exec.box (cs := [Value.int .i64 (b1937.A), Value.int .i64 (b1937.B), Value.int .i64 (b1937.Most)]) hS rfl rfl rfl ?_)
  intro b11209 w11210 hS11211
  refine WL_step rfl rfl (Exec.assign (v := errV 30 (none)) rfl rfl ?_)
  refine WL_nil (at_normal ?_)
  refine W_seq ?_
  refine W_seq ?_
  refine W_region ?_
  refine WL_step rfl rfl (Exec.move (v := Value.pointer (some ⟨b1934, 0, none⟩)) rfl rfl ?_)
  refine WL_step rfl rfl (Exec.ptr_eql_nil Try.underlying24 rfl rfl rfl ?_)
  refine WL_nil (at_normal ?_)
  refine W_false rfl ?_
  refine W_skip (at_normal ?_)
  refine W_seq ?_
  refine W_seq ?_
  obtain ⟨z11227, ht11228, hm⟩ := bind_some hm
  refine W_mid (M := fun f' w' => (fun (z11227 : Bool) => ∃ (s11229 : PHeap) , PHeap.le s s11229 ∧ St w0 s11229 (Res.box b1934 63 [v1935] :: Res.arr encRaw 49 v1935 hs1936 :: Res.rows (encInt .i64) 3 hs1936 n1933.d :: Res.box b11209 32 [Value.int .i64 (b1937.A), Value.int .i64 (b1937.B), Value.int .i64 (b1937.Most)] :: H) w' ∧ f' 0 = Value.pointer (some ⟨b1934, 0, none⟩) ∧ f' 3 = Value.pointer (some ⟨b11209, 0, none⟩) ∧ f' 34 = Value.bool (z11227)) z11227) ?_ ?_
  · refine W_region ?_
    refine WL_step rfl rfl (Exec.move (v := Value.pointer (some ⟨b1934, 0, none⟩)) rfl rfl ?_)
    refine WL_step rfl rfl (Exec.field F32_0 rfl rfl rfl ?_)
    refine WL_step rfl rfl (Exec.load_box (hS11211) A3 rfl rfl rfl ?_)
    have hS11230 := ((hS11211).f3).f3
    have hS11231 := (hS11230).f3
    refine WL_step rfl rfl (Exec.call rfl rfl Try.func26 rfl N26 (args_cons rfl (args_cons rfl args_nil)) ((stn_Network_point_sim (stn_Network_point_tot n1933 b1937.A) hS11231 ).mono ?_))
    rintro _ w11232 ⟨_, rfl, ⟨s11233, l11234, hS11235, rfl⟩⟩
    refine ⟨_, rfl, ?_⟩
    refine WL_step rfl rfl (Exec.not rfl rfl ?_)
    refine WL_step rfl rfl (Exec.move (v := Value.bool (!(stn_Network_point_t n1933 b1937.A))) rfl rfl ?_)
    rcases ite_some ht11228 with ⟨hc11236, ht11228⟩ | ⟨hc11236, ht11228⟩
    · refine WL_pass rfl (yield_of rfl (congrArg Value.bool hc11236)) rfl rfl ?_
      refine WL_pass rfl (yield_of rfl (congrArg Value.bool hc11236)) rfl rfl ?_
      refine WL_pass rfl (yield_of rfl (congrArg Value.bool hc11236)) rfl rfl ?_
      refine WL_pass rfl (yield_of rfl (congrArg Value.bool hc11236)) rfl rfl ?_
      refine WL_pass rfl (yield_of rfl (congrArg Value.bool hc11236)) rfl rfl ?_
      refine WL_step rfl rfl (Exec.pick_t (v := Value.bool (true)) rfl (congrArg Value.bool hc11236) rfl ?_)
      refine WL_step rfl rfl (Exec.move (v := Value.bool (true)) rfl rfl ?_)
      refine WL_pass rfl (yield_of rfl rfl) rfl rfl ?_
      refine WL_pass rfl (yield_of rfl rfl) rfl rfl ?_
      refine WL_pass rfl (yield_of rfl rfl) rfl rfl ?_
      refine WL_step rfl rfl (Exec.pick_t (v := Value.bool (true)) rfl rfl rfl ?_)
      refine WL_step rfl rfl (Exec.move (v := Value.bool (true)) rfl rfl ?_)
      refine WL_pass rfl (yield_of rfl rfl) rfl rfl ?_
      refine WL_pass rfl (yield_of rfl rfl) rfl rfl ?_
      refine WL_pass rfl (yield_of rfl rfl) rfl rfl ?_
      refine WL_step rfl rfl (Exec.pick_t (v := Value.bool (true)) rfl rfl rfl ?_)
      refine WL_nil (at_normal ?_)
      have e11237 := Option.some.inj ht11228
      subst z11227
      have hS11238 := (hS11235).f3
      have hS11239 := ((hS11238).f3).f3
      have hS11240 := (hS11239).f3
      exact ⟨s11233, l11234, hS11240, rfl, rfl, rfl⟩
    · replace hc11236 := not_true hc11236
      refine WL_run rfl (yield_of rfl (congrArg Value.bool hc11236)) rfl (Exec.move (v := Value.pointer (some ⟨b1934, 0, none⟩)) rfl rfl ?_)
      refine WL_run rfl (yield_of rfl (congrArg Value.bool hc11236)) rfl (Exec.field F32_1 rfl rfl rfl ?_)
      refine WL_run rfl (yield_of rfl (congrArg Value.bool hc11236)) rfl (Exec.load_box ((hS11235).f3) A3 rfl rfl rfl ?_)
      have hS11241 := ((hS11235).f2).f2
      have hS11242 := (hS11241).f2
      refine WL_run rfl (yield_of rfl (congrArg Value.bool hc11236)) rfl (Exec.call rfl rfl Try.func26 rfl N26 (args_cons rfl (args_cons rfl args_nil)) ((stn_Network_point_sim (stn_Network_point_tot n1933 b1937.B) hS11242 ).mono ?_))
      rintro _ w11243 ⟨_, rfl, ⟨s11244, l11245, hS11246, rfl⟩⟩
      refine ⟨_, rfl, ?_⟩
      refine WL_run rfl (yield_of rfl (congrArg Value.bool hc11236)) rfl (Exec.not rfl rfl ?_)
      refine WL_step rfl rfl (Exec.pick_f (v := Value.bool (!(stn_Network_point_t n1933 b1937.B))) rfl (congrArg Value.bool hc11236) rfl ?_)
      refine WL_step rfl rfl (Exec.move (v := Value.bool (!(stn_Network_point_t n1933 b1937.B))) rfl rfl ?_)
      rcases ite_some ht11228 with ⟨hc11247, ht11228⟩ | ⟨hc11247, ht11228⟩
      · refine WL_pass rfl (yield_of rfl (congrArg Value.bool hc11247)) rfl rfl ?_
        refine WL_pass rfl (yield_of rfl (congrArg Value.bool hc11247)) rfl rfl ?_
        refine WL_pass rfl (yield_of rfl (congrArg Value.bool hc11247)) rfl rfl ?_
        refine WL_step rfl rfl (Exec.pick_t (v := Value.bool (true)) rfl (congrArg Value.bool hc11247) rfl ?_)
        refine WL_step rfl rfl (Exec.move (v := Value.bool (true)) rfl rfl ?_)
        refine WL_pass rfl (yield_of rfl rfl) rfl rfl ?_
        refine WL_pass rfl (yield_of rfl rfl) rfl rfl ?_
        refine WL_pass rfl (yield_of rfl rfl) rfl rfl ?_
        refine WL_step rfl rfl (Exec.pick_t (v := Value.bool (true)) rfl rfl rfl ?_)
        refine WL_nil (at_normal ?_)
        have e11248 := Option.some.inj ht11228
        subst z11227
        have hS11249 := (hS11246).f3
        have hS11250 := ((hS11249).f3).f3
        have hS11251 := (hS11250).f3
        exact ⟨s11244, (PHeap.le.trans l11234 l11245), hS11251, rfl, rfl, rfl⟩
      · replace hc11247 := not_true hc11247
        refine WL_run rfl (yield_of rfl (congrArg Value.bool hc11247)) rfl (Exec.field F32_2 rfl rfl rfl ?_)
        refine WL_run rfl (yield_of rfl (congrArg Value.bool hc11247)) rfl (Exec.load_box ((hS11246).f3) A3 rfl rfl rfl ?_)
        refine WL_run rfl (yield_of rfl (congrArg Value.bool hc11247)) rfl (Exec.lss rfl rfl rfl ?_)
        refine WL_step rfl rfl (Exec.pick_f (v := Value.bool (decide (b1937.Most < (-1099511627776)))) rfl (congrArg Value.bool hc11247) rfl ?_)
        refine WL_step rfl rfl (Exec.move (v := Value.bool (decide (b1937.Most < (-1099511627776)))) rfl rfl ?_)
        rcases ite_some ht11228 with ⟨hc11252, ht11228⟩ | ⟨hc11252, ht11228⟩
        · refine WL_pass rfl (yield_of rfl (congrArg Value.bool hc11252)) rfl rfl ?_
          refine WL_pass rfl (yield_of rfl (congrArg Value.bool hc11252)) rfl rfl ?_
          refine WL_pass rfl (yield_of rfl (congrArg Value.bool hc11252)) rfl rfl ?_
          refine WL_step rfl rfl (Exec.pick_t (v := Value.bool (true)) rfl (congrArg Value.bool hc11252) rfl ?_)
          refine WL_nil (at_normal ?_)
          have e11253 := Option.some.inj ht11228
          subst z11227
          have hS11254 := (hS11246).f3
          have hS11255 := ((hS11254).f3).f3
          have hS11256 := (hS11255).f3
          exact ⟨s11244, (PHeap.le.trans l11234 l11245), hS11256, rfl, rfl, rfl⟩
        · replace hc11252 := not_true hc11252
          refine WL_run rfl (yield_of rfl (congrArg Value.bool hc11252)) rfl (Exec.field F32_2 rfl rfl rfl ?_)
          refine WL_run rfl (yield_of rfl (congrArg Value.bool hc11252)) rfl (Exec.load_box ((hS11246).f3) A3 rfl rfl rfl ?_)
          refine WL_run rfl (yield_of rfl (congrArg Value.bool hc11252)) rfl (Exec.gtr rfl rfl rfl ?_)
          refine WL_step rfl rfl (Exec.pick_f (v := Value.bool (decide (1099511627776 < b1937.Most))) rfl (congrArg Value.bool hc11252) rfl ?_)
          refine WL_nil (at_normal ?_)
          have e11257 := Option.some.inj ht11228
          subst z11227
          have hS11258 := (hS11246).f3
          have hS11259 := ((hS11258).f3).f3
          have hS11260 := (hS11259).f3
          exact ⟨s11244, (PHeap.le.trans l11234 l11245), hS11260, rfl, rfl, rfl⟩
  · intro f11261 w11262 hM11263
    obtain ⟨s11264, l11265, hS11266, p11267, p11268, p11269⟩ := hM11263
    refine (at_normal ?_)
    rcases ite_some hm with ⟨hc11270, hm⟩ | ⟨hc11270, hm⟩
    · refine W_cond_t p11269 hc11270 ?_
      refine W_seq ?_
      refine W_region ?_
      refine WL_step rfl rfl (Exec.makeInterface C30 rfl rfl ?_)
      refine WL_step rfl rfl (Exec.assign (v := errV 30 (some 1)) rfl rfl ?_)
      refine WL_nil (at_normal ?_)
      refine W_ret (at_ret ?_)
      have e11272 := Option.some.inj hm
      subst r
      refine ⟨_, ret1 rfl, ?_⟩
      have hS11273 := ((hS11266).f3).drop
      have hS11274 := ((hS11273).f2).f2
      have hS11275 := (hS11274).f2
      exact ⟨s11264, l11265, hS11275, rfl⟩
    · refine W_cond_f p11269 hc11270 ?_
      replace hc11270 := not_true hc11270
      refine W_skip (at_normal ?_)
      refine W_seq ?_
      refine W_seq ?_
      obtain ⟨row11442, q11443, hm⟩ := bind_some hm
      obtain ⟨h11444, e11445, e11446, _⟩ := ((((hS11266).f2).f2).f1).rows_at q11443
      obtain ⟨g11447, c11448, e11449⟩ := (((hS11266).f2).f2).arr_at e11445
      obtain ⟨x11450, q11451, hm⟩ := bind_some hm
      obtain ⟨g11452, c11453, e11454⟩ := (((((hS11266).f2).f2).f1).rows_split e11446 (idx_some q11443).2.2).arr_at q11451
      refine W_drawn (n0 := 13) hmix (by kernel_rfl) [RP.eq (Value.pointer (some ⟨b1934, 0, none⟩)), RP.eq (Value.pointer (some ⟨b1934, 0, none⟩)), RP.eq (Value.pointer (some ⟨b1934, 0, none⟩)), RP.eq (v1935), RP.eq (Value.pointer (some ⟨b11209, 1, none⟩)), RP.eq (Value.int .i64 (b1937.B)), RP.eq (Value.pointer (some ⟨g11447, 0 + (b1937.B).toNat * 1, none⟩)), RP.eq (h11444), RP.eq (Value.pointer (some ⟨b11209, 0, none⟩)), RP.eq (Value.int .i64 (b1937.A)), RP.eq (Value.pointer (some ⟨g11452, 0 + (b1937.A).toNat * 1, none⟩)), RP.eq (Value.int .i64 (x11450)), RP.eq (Value.int .i64 (x11450))] hS11266 (HeadAll.cons ?_ (HeadAll.cons ?_ (HeadAll.cons ?_ (HeadAll.cons ?_ (HeadAll.cons ?_ (HeadAll.cons ?_ (HeadAll.cons ?_ (HeadAll.cons ?_ (HeadAll.cons ?_ (HeadAll.cons ?_ (HeadAll.cons ?_ (HeadAll.cons ?_ (HeadAll.cons ?_ (HeadAll.nil)))))))))))))) ?_
      · intro g11455 s11456 w11457 l11458 hS11459 fr11460 pre11461
        refine head_run rfl (Exec.move (v := Value.pointer (some ⟨b1934, 0, none⟩)) rfl (Eq.trans (fr11460 0 rfl) p11267) ?_)
        exact head_done hS11459 rfl
      · intro g11462 s11463 w11464 l11465 hS11466 fr11467 pre11468
        have p11469 : g11462 36 = (Value.pointer (some ⟨b1934, 0, none⟩)) := pre11468 0 _ rfl rfl
        refine head_run rfl (Exec.nilCheck_ptr rfl p11469 ?_)
        exact head_done hS11466 rfl
      · intro g11470 s11471 w11472 l11473 hS11474 fr11475 pre11476
        have p11477 : g11470 37 = (Value.pointer (some ⟨b1934, 0, none⟩)) := pre11476 0 _ rfl rfl
        refine head_run rfl (Exec.field F63_0 rfl p11477 rfl ?_)
        exact head_done hS11474 rfl
      · intro g11478 s11479 w11480 l11481 hS11482 fr11483 pre11484
        have p11485 : g11478 38 = (Value.pointer (some ⟨b1934, 0, none⟩)) := pre11484 0 _ rfl rfl
        refine head_run rfl (Exec.load_box (hS11482) A61 rfl p11485 rfl ?_)
        exact head_done hS11482 rfl
      · intro g11486 s11487 w11488 l11489 hS11490 fr11491 pre11492
        refine head_run rfl (Exec.field F32_1 rfl (Eq.trans (fr11491 3 rfl) p11268) rfl ?_)
        exact head_done hS11490 rfl
      · intro g11493 s11494 w11495 l11496 hS11497 fr11498 pre11499
        have p11500 : g11493 40 = (Value.pointer (some ⟨b11209, 1, none⟩)) := pre11499 0 _ rfl rfl
        refine head_run rfl (Exec.load_box ((hS11497).f3) A3 rfl p11500 rfl ?_)
        exact head_done hS11497 rfl
      · intro g11501 s11502 w11503 l11504 hS11505 fr11506 pre11507
        have p11508 : g11501 41 = (Value.int .i64 (b1937.B)) := pre11507 1 _ rfl rfl
        have p11509 : g11501 39 = (v1935) := pre11507 0 _ rfl rfl
        refine head_run rfl (Exec.index_slice S61 rfl (Eq.trans p11509 e11449) p11508 (idx_some e11445).1 (idx_some e11445).2.1 ?_)
        exact head_done hS11505 rfl
      · intro g11510 s11511 w11512 l11513 hS11514 fr11515 pre11516
        have p11517 : g11510 42 = (Value.pointer (some ⟨g11447, 0 + (b1937.B).toNat * 1, none⟩)) := pre11516 0 _ rfl rfl
        refine head_run rfl (Exec.load_arr (F := encRaw) (((hS11514).f2).f2) e11449 A49 rfl p11517 rfl e11445 (Sub.refl _) ?_)
        intro v11518 q11519
        exact head_done hS11514 (encRaw_val.1 q11519).1
      · intro g11520 s11521 w11522 l11523 hS11524 fr11525 pre11526
        refine head_run rfl (Exec.field F32_0 rfl (Eq.trans (fr11525 3 rfl) p11268) rfl ?_)
        exact head_done hS11524 rfl
      · intro g11527 s11528 w11529 l11530 hS11531 fr11532 pre11533
        have p11534 : g11527 44 = (Value.pointer (some ⟨b11209, 0, none⟩)) := pre11533 0 _ rfl rfl
        refine head_run rfl (Exec.load_box ((hS11531).f3) A3 rfl p11534 rfl ?_)
        exact head_done hS11531 rfl
      · intro g11535 s11536 w11537 l11538 hS11539 fr11540 pre11541
        have p11542 : g11535 43 = (h11444) := pre11541 0 _ rfl rfl
        have p11543 : g11535 45 = (Value.int .i64 (b1937.A)) := pre11541 1 _ rfl rfl
        refine head_run rfl (Exec.index_slice S49 rfl (Eq.trans p11542 e11454) p11543 (idx_some q11451).1 (idx_some q11451).2.1 ?_)
        exact head_done hS11539 rfl
      · intro g11544 s11545 w11546 l11547 hS11548 fr11549 pre11550
        have p11551 : g11544 46 = (Value.pointer (some ⟨g11452, 0 + (b1937.A).toNat * 1, none⟩)) := pre11550 0 _ rfl rfl
        refine head_run rfl (Exec.load_arr (F := (encInt .i64)) (((((hS11548).f2).f2).f1).rows_split e11446 (idx_some q11443).2.2) e11454 A3 rfl p11551 rfl q11451 (Sub.refl _) ?_)
        intro v11552 q11553
        exact head_done hS11548 (encInt_val.1 q11553)
      · intro g11554 s11555 w11556 l11557 hS11558 fr11559 pre11560
        have p11561 : g11554 47 = (Value.int .i64 (x11450)) := pre11560 0 _ rfl rfl
        refine head_run rfl (Exec.assign (v := Value.int .i64 (x11450)) rfl p11561 ?_)
        exact head_done hS11558 rfl
      · intro g11562 s11563 w11564 l11565 hS11566 fr11567 hR11568
        have p11569 : g11562 36 = (Value.pointer (some ⟨b1934, 0, none⟩)) := hR11568 0 rfl
        have p11570 : g11562 37 = (Value.pointer (some ⟨b1934, 0, none⟩)) := hR11568 1 rfl
        have p11571 : g11562 38 = (Value.pointer (some ⟨b1934, 0, none⟩)) := hR11568 2 rfl
        have p11572 : g11562 39 = (v1935) := hR11568 3 rfl
        have p11573 : g11562 40 = (Value.pointer (some ⟨b11209, 1, none⟩)) := hR11568 4 rfl
        have p11574 : g11562 41 = (Value.int .i64 (b1937.B)) := hR11568 5 rfl
        have p11575 : g11562 42 = (Value.pointer (some ⟨g11447, 0 + (b1937.B).toNat * 1, none⟩)) := hR11568 6 rfl
        have p11576 : g11562 43 = (h11444) := hR11568 7 rfl
        have p11577 : g11562 44 = (Value.pointer (some ⟨b11209, 0, none⟩)) := hR11568 8 rfl
        have p11578 : g11562 45 = (Value.int .i64 (b1937.A)) := hR11568 9 rfl
        have p11579 : g11562 46 = (Value.pointer (some ⟨g11452, 0 + (b1937.A).toNat * 1, none⟩)) := hR11568 10 rfl
        have p11580 : g11562 47 = (Value.int .i64 (x11450)) := hR11568 11 rfl
        have p11581 : g11562 5 = (Value.int .i64 (x11450)) := hR11568 12 rfl
        refine WL_nil (at_normal ?_)
        refine W_seq ?_
        refine W_mid (M := fun f' w' => ∃ (s11583 : PHeap) , PHeap.le s11563 s11583 ∧ St w0 s11583 (Res.box b1934 63 [v1935] :: Res.arr encRaw 49 v1935 hs1936 :: Res.rows (encInt .i64) 3 hs1936 n1933.d :: Res.box b11209 32 [Value.int .i64 (b1937.A), Value.int .i64 (b1937.B), Value.int .i64 (b1937.Most)] :: H) w' ∧ f' 0 = Value.pointer (some ⟨b1934, 0, none⟩) ∧ f' 3 = Value.pointer (some ⟨b11209, 0, none⟩) ∧ f' 56 = Value.bool (((decide (x11450 < 1125899906842624)) && decide ((IntKind.i64.wrap (x11450 + b1937.Most)) < 0)))) ?_ ?_
        · refine W_region ?_
          refine WL_step rfl rfl (Exec.move (v := Value.int .i64 (x11450)) rfl p11581 ?_)
          refine WL_step rfl rfl (Exec.lss rfl rfl rfl ?_)
          refine WL_step rfl rfl (Exec.move (v := Value.bool (decide (x11450 < 1125899906842624))) rfl rfl ?_)
          by_cases hc11584 : (decide (x11450 < 1125899906842624)) = true
          · refine WL_run rfl (yield_of rfl (congrArg Value.bool hc11584)) rfl (Exec.move (v := Value.int .i64 (x11450)) rfl p11581 ?_)
            refine WL_run rfl (yield_of rfl (congrArg Value.bool hc11584)) rfl (Exec.field F32_2 rfl (Eq.trans (fr11567 3 rfl) p11268) rfl ?_)
            refine WL_run rfl (yield_of rfl (congrArg Value.bool hc11584)) rfl (Exec.load_box ((hS11566).f3) A3 rfl rfl rfl ?_)
            refine WL_run rfl (yield_of rfl (congrArg Value.bool hc11584)) rfl (Exec.add rfl rfl rfl ?_)
            refine WL_run rfl (yield_of rfl (congrArg Value.bool hc11584)) rfl (Exec.lss rfl rfl rfl ?_)
            refine WL_step rfl rfl (Exec.pick_t (v := Value.bool (decide ((IntKind.i64.wrap (x11450 + b1937.Most)) < 0))) rfl (congrArg Value.bool hc11584) rfl ?_)
            refine WL_nil (at_normal ?_)
            have hS11585 := (hS11566).f3
            have hS11586 := ((hS11585).f3).f3
            have hS11587 := (hS11586).f3
            exact ⟨s11563, (PHeap.le_refl _), hS11587, (Eq.trans (fr11567 0 rfl) p11267), (Eq.trans (fr11567 3 rfl) p11268), (congrArg Value.bool (and_t hc11584)).symm⟩
          · replace hc11584 := not_true hc11584
            refine WL_pass rfl (yield_of rfl (congrArg Value.bool hc11584)) rfl rfl ?_
            refine WL_pass rfl (yield_of rfl (congrArg Value.bool hc11584)) rfl rfl ?_
            refine WL_pass rfl (yield_of rfl (congrArg Value.bool hc11584)) rfl rfl ?_
            refine WL_pass rfl (yield_of rfl (congrArg Value.bool hc11584)) rfl rfl ?_
            refine WL_pass rfl (yield_of rfl (congrArg Value.bool hc11584)) rfl rfl ?_
            refine WL_step rfl rfl (Exec.pick_f (v := Value.bool (false)) rfl (congrArg Value.bool hc11584) rfl ?_)
            refine WL_nil (at_normal ?_)
            have hS11588 := (hS11566).f3
            have hS11589 := ((hS11588).f3).f3
            have hS11590 := (hS11589).f3
            exact ⟨s11563, (PHeap.le_refl _), hS11590, (Eq.trans (fr11567 0 rfl) p11267), (Eq.trans (fr11567 3 rfl) p11268), (congrArg Value.bool (and_f hc11584)).symm⟩
        · intro f11591 w11592 hM11593
          obtain ⟨s11594, l11595, hS11596, p11597, p11598, p11599⟩ := hM11593
          refine (at_normal ?_)
          rcases ite_some hm with ⟨hc11600, hm⟩ | ⟨hc11600, hm⟩
          · refine W_cond_t p11599 hc11600 ?_
            refine W_seq ?_
            refine W_region ?_
            refine WL_step rfl rfl (Exec.makeInterface C30 rfl rfl ?_)
            refine WL_step rfl rfl (Exec.assign (v := errV 30 (some 21)) rfl rfl ?_)
            refine WL_nil (at_normal ?_)
            refine W_ret (at_ret ?_)
            have e11602 := Option.some.inj hm
            subst r
            refine ⟨_, ret1 rfl, ?_⟩
            have hS11603 := ((hS11596).f3).drop
            have hS11604 := ((hS11603).f2).f2
            have hS11605 := (hS11604).f2
            exact ⟨s11594, (PHeap.le.trans (PHeap.le.trans l11265 l11565) l11595), hS11605, rfl⟩
          · refine W_cond_f p11599 hc11600 ?_
            replace hc11600 := not_true hc11600
            refine W_skip (at_normal ?_)
            refine W_seq ?_
            refine W_seq ?_
            refine W_region ?_
            refine WL_step rfl rfl (Exec.move (v := Value.pointer (some ⟨b1934, 0, none⟩)) rfl p11597 ?_)
            refine WL_step rfl rfl (Exec.nilCheck_ptr rfl rfl ?_)
            refine WL_step rfl rfl (Exec.field F63_0 rfl rfl rfl ?_)
            refine WL_step rfl rfl (Exec.load_box (hS11596) A61 rfl rfl rfl ?_)
            refine WL_step rfl rfl (Exec.len_grid (((hS11596).f2).f2) (((hS11596).f2).f2).f1.rows_len S61 rfl rfl ?_)
            refine WL_step rfl rfl (Exec.move (v := Value.int .i64 (0)) rfl rfl ?_)
            refine WL_nil (at_normal ?_)
            obtain ⟨l14538, hB17471, hm⟩ := bind_some hm
            refine W_block (W_forS (fun k' s' f' w' => (fun (l14538 : (List (List Int))) => ∃ (s17472 : PHeap) , PHeap.le s11594 s17472 ∧ St w0 s17472 (Res.box b1934 63 [v1935] :: Res.arr encRaw 49 v1935 hs1936 :: Res.rows (encInt .i64) 3 hs1936 l14538 :: Res.box b11209 32 [Value.int .i64 (b1937.A), Value.int .i64 (b1937.B), Value.int .i64 (b1937.Most)] :: H) w' ∧ f' 0 = Value.pointer (some ⟨b1934, 0, none⟩) ∧ f' 3 = Value.pointer (some ⟨b11209, 0, none⟩) ∧ f' 61 = v1935 ∧ f' 62 = Value.int .i64 ((n1933.d.length : Int)) ∧ f' 63 = Value.int .i64 (k' : Int)) s') hB17471 ?_ ?_ ?_)
            · have hS17473 := (hS11596).f3
              have hS17474 := ((hS17473).f3).f3
              have hS17475 := (hS17474).f3
              exact ⟨s11594, (PHeap.le_refl _), hS17475, p11597, p11598, rfl, rfl, rfl⟩
            · intro i11606 l14538 s17477 f17478 w17479 hi17480 hI17481 hm17482
              obtain ⟨s17483, l17484, hS17485, p17486, p17487, p17488, p17489, x17490⟩ := hI17481
              refine W_seq ?_
              refine W_region ?_
              refine WL_step rfl rfl (Exec.lss rfl x17490 p17489 ?_)
              refine WL_nil (at_normal ?_)
              refine W_seq ?_
              refine W_true (congrArg Value.bool (decide_eq_true (by omega))) ?_
              refine W_skip (at_normal ?_)
              refine W_seq ?_
              refine W_block ?_
              refine W_seq ?_
              refine W_region ?_
              obtain ⟨row17501, q17502, hm17482⟩ := bind_some hm17482
              obtain ⟨h17503, e17504, e17505, _⟩ := ((((hS17485).f2).f2).f1).rows_at q17502
              obtain ⟨g17506, c17507, e17508⟩ := (((hS17485).f2).f2).arr_at e17504
              refine WL_step rfl rfl (Exec.index_slice S61 rfl (Eq.trans p17488 e17508) x17490 (idx_some e17504).1 (idx_some e17504).2.1 ?_)
              refine WL_step rfl rfl (Exec.load_arr (F := encRaw) (((hS17485).f2).f2) e17508 A49 rfl rfl rfl e17504 (Sub.refl _) ?_)
              intro v17509 q17510
              replace q17510 := (encRaw_val.1 q17510).1
              subst v17509
              refine WL_step rfl rfl (Exec.assign (v := h17503) rfl rfl ?_)
              refine WL_nil (at_normal ?_)
              refine W_seq ?_
              refine W_seq ?_
              refine W_region ?_
              refine WL_step rfl rfl (Exec.move (v := h17503) rfl rfl ?_)
              refine WL_step rfl rfl (Exec.field F32_0 rfl p17487 rfl ?_)
              refine WL_step rfl rfl (Exec.load_box ((hS17485).f3) A3 rfl rfl rfl ?_)
              obtain ⟨x17518, q17519, hm17482⟩ := bind_some hm17482
              obtain ⟨g17520, c17521, e17522⟩ := (((((hS17485).f2).f2).f1).rows_split e17505 (idx_some q17502).2.2).arr_at q17519
              refine WL_step rfl rfl (Exec.index_slice S49 rfl e17522 rfl (idx_some q17519).1 (idx_some q17519).2.1 ?_)
              refine WL_step rfl rfl (Exec.load_arr (F := (encInt .i64)) (((((hS17485).f2).f2).f1).rows_split e17505 (idx_some q17502).2.2) e17522 A3 rfl rfl rfl q17519 (Sub.refl _) ?_)
              intro v17523 q17524
              obtain rfl := encInt_val.1 q17524
              refine WL_step rfl rfl (Exec.geq rfl rfl rfl ?_)
              refine WL_nil (at_normal ?_)
              rcases ite_some hm17482 with ⟨hc17525, hm17482⟩ | ⟨hc17525, hm17482⟩
              · refine W_cond_t rfl hc17525 ?_
                refine W_exit (at_exit (ib_here (at_normal ?_)))
                refine W_region ?_
                refine WL_step rfl rfl (Exec.add rfl x17490 rfl ?_)
                refine WL_step rfl rfl (Exec.move (v := Value.int .i64 (IntKind.i64.wrap ((i11606 : Int) + 1))) rfl rfl ?_)
                refine WL_nil (at_normal ?_)
                have e17526 := Option.some.inj hm17482
                subst s17477
                have hS17527 := (hS17485).f3
                have hS17528 := ((hS17527).f3).f3
                have hS17529 := (hS17528).f3
                exact ⟨s17483, l17484, hS17529, p17486, p17487, p17488, p17489, (Eq.trans rfl (wrap_up hi17480 (by have h := (((hS11596).f2).f2).f1.rows_len; have h2 := (((hS11596).f2).f2).arr_le; omega)))⟩
              · refine W_cond_f rfl hc17525 ?_
                replace hc17525 := not_true hc17525
                refine W_skip (at_normal ?_)
                refine W_seq ?_
                obtain ⟨row17651, q17652, hm17482⟩ := bind_some hm17482
                obtain ⟨h17653, e17654, e17655, _⟩ := ((((hS17485).f2).f2).f1).rows_at q17652
                obtain ⟨g17656, c17657, e17658⟩ := (((hS17485).f2).f2).arr_at e17654
                refine W_drawn (n0 := 10) hmix (by kernel_rfl) [RP.eq (Value.pointer (some ⟨b1934, 0, none⟩)), RP.eq (Value.pointer (some ⟨b1934, 0, none⟩)), RP.eq (Value.pointer (some ⟨b1934, 0, none⟩)), RP.eq (v1935), RP.eq (Value.pointer (some ⟨b11209, 1, none⟩)), RP.eq (Value.int .i64 (b1937.B)), RP.eq (Value.pointer (some ⟨g17656, 0 + (b1937.B).toNat * 1, none⟩)), RP.eq (h17653), RP.eq (Value.int .i64 ((row17651.length : Int))), RP.eq (Value.int .i64 (0))] hS17485 (HeadAll.cons ?_ (HeadAll.cons ?_ (HeadAll.cons ?_ (HeadAll.cons ?_ (HeadAll.cons ?_ (HeadAll.cons ?_ (HeadAll.cons ?_ (HeadAll.cons ?_ (HeadAll.cons ?_ (HeadAll.cons ?_ (HeadAll.nil))))))))))) ?_
                · intro g17659 s17660 w17661 l17662 hS17663 fr17664 pre17665
                  refine head_run rfl (Exec.move (v := Value.pointer (some ⟨b1934, 0, none⟩)) rfl (Eq.trans (fr17664 0 rfl) p17486) ?_)
                  exact head_done hS17663 rfl
                · intro g17666 s17667 w17668 l17669 hS17670 fr17671 pre17672
                  have p17673 : g17666 73 = (Value.pointer (some ⟨b1934, 0, none⟩)) := pre17672 0 _ rfl rfl
                  refine head_run rfl (Exec.nilCheck_ptr rfl p17673 ?_)
                  exact head_done hS17670 rfl
                · intro g17674 s17675 w17676 l17677 hS17678 fr17679 pre17680
                  have p17681 : g17674 74 = (Value.pointer (some ⟨b1934, 0, none⟩)) := pre17680 0 _ rfl rfl
                  refine head_run rfl (Exec.field F63_0 rfl p17681 rfl ?_)
                  exact head_done hS17678 rfl
                · intro g17682 s17683 w17684 l17685 hS17686 fr17687 pre17688
                  have p17689 : g17682 75 = (Value.pointer (some ⟨b1934, 0, none⟩)) := pre17688 0 _ rfl rfl
                  refine head_run rfl (Exec.load_box (hS17686) A61 rfl p17689 rfl ?_)
                  exact head_done hS17686 rfl
                · intro g17690 s17691 w17692 l17693 hS17694 fr17695 pre17696
                  refine head_run rfl (Exec.field F32_1 rfl (Eq.trans (fr17695 3 rfl) p17487) rfl ?_)
                  exact head_done hS17694 rfl
                · intro g17697 s17698 w17699 l17700 hS17701 fr17702 pre17703
                  have p17704 : g17697 77 = (Value.pointer (some ⟨b11209, 1, none⟩)) := pre17703 0 _ rfl rfl
                  refine head_run rfl (Exec.load_box ((hS17701).f3) A3 rfl p17704 rfl ?_)
                  exact head_done hS17701 rfl
                · intro g17705 s17706 w17707 l17708 hS17709 fr17710 pre17711
                  have p17712 : g17705 76 = (v1935) := pre17711 0 _ rfl rfl
                  have p17713 : g17705 78 = (Value.int .i64 (b1937.B)) := pre17711 1 _ rfl rfl
                  refine head_run rfl (Exec.index_slice S61 rfl (Eq.trans p17712 e17658) p17713 (idx_some e17654).1 (idx_some e17654).2.1 ?_)
                  exact head_done hS17709 rfl
                · intro g17714 s17715 w17716 l17717 hS17718 fr17719 pre17720
                  have p17721 : g17714 79 = (Value.pointer (some ⟨g17656, 0 + (b1937.B).toNat * 1, none⟩)) := pre17720 0 _ rfl rfl
                  refine head_run rfl (Exec.load_arr (F := encRaw) (((hS17718).f2).f2) e17658 A49 rfl p17721 rfl e17654 (Sub.refl _) ?_)
                  intro v17722 q17723
                  exact head_done hS17718 (encRaw_val.1 q17723).1
                · intro g17724 s17725 w17726 l17727 hS17728 fr17729 pre17730
                  have p17731 : g17724 80 = (h17653) := pre17730 0 _ rfl rfl
                  refine head_run rfl (Exec.len_arr (((((hS17728).f2).f2).f1).rows_split e17655 (idx_some q17652).2.2) S49 rfl p17731 ?_)
                  exact head_done hS17728 rfl
                · intro g17732 s17733 w17734 l17735 hS17736 fr17737 pre17738
                  refine head_run rfl (Exec.move (v := Value.int .i64 (0)) rfl rfl ?_)
                  exact head_done hS17736 rfl
                · intro g17739 s17740 w17741 l17742 hS17743 fr17744 hR17745
                  have p17746 : g17739 73 = (Value.pointer (some ⟨b1934, 0, none⟩)) := hR17745 0 rfl
                  have p17747 : g17739 74 = (Value.pointer (some ⟨b1934, 0, none⟩)) := hR17745 1 rfl
                  have p17748 : g17739 75 = (Value.pointer (some ⟨b1934, 0, none⟩)) := hR17745 2 rfl
                  have p17749 : g17739 76 = (v1935) := hR17745 3 rfl
                  have p17750 : g17739 77 = (Value.pointer (some ⟨b11209, 1, none⟩)) := hR17745 4 rfl
                  have p17751 : g17739 78 = (Value.int .i64 (b1937.B)) := hR17745 5 rfl
                  have p17752 : g17739 79 = (Value.pointer (some ⟨g17656, 0 + (b1937.B).toNat * 1, none⟩)) := hR17745 6 rfl
                  have p17753 : g17739 80 = (h17653) := hR17745 7 rfl
                  have p17754 : g17739 81 = (Value.int .i64 ((row17651.length : Int))) := hR17745 8 rfl
                  have p17755 : g17739 82 = (Value.int .i64 (0)) := hR17745 9 rfl
                  refine WL_nil (at_normal ?_)
                  obtain ⟨u17756, q17757, hm17482⟩ := bind_some hm17482
                  obtain ⟨l18633, hB19509, hm17482⟩ := bind_some hm17482
                  refine W_block (W_forS (fun k' s' f' w' => (fun (l18633 : (List (List Int))) => ∃ (s19510 : PHeap) , PHeap.le s17740 s19510 ∧ St w0 s19510 (Res.box b1934 63 [v1935] :: Res.arr encRaw 49 v1935 hs1936 :: Res.rows (encInt .i64) 3 hs1936 l18633 :: Res.box b11209 32 [Value.int .i64 (b1937.A), Value.int .i64 (b1937.B), Value.int .i64 (b1937.Most)] :: H) w' ∧ f' 0 = Value.pointer (some ⟨b1934, 0, none⟩) ∧ f' 3 = Value.pointer (some ⟨b11209, 0, none⟩) ∧ f' 7 = h17503 ∧ f' 61 = v1935 ∧ f' 62 = Value.int .i64 ((n1933.d.length : Int)) ∧ f' 63 = Value.int .i64 ((i11606 : Int)) ∧ f' 80 = h17653 ∧ f' 81 = Value.int .i64 ((row17651.length : Int)) ∧ f' 82 = Value.int .i64 (k' : Int)) s') hB19509 ?_ ?_ ?_)
                  · have hS19511 := (hS17743).f3
                    have hS19512 := ((hS19511).f3).f3
                    have hS19513 := (hS19512).f3
                    exact ⟨s17740, (PHeap.le_refl _), hS19513, (Eq.trans (fr17744 0 rfl) p17486), (Eq.trans (fr17744 3 rfl) p17487), (fr17744 7 rfl), (Eq.trans (fr17744 61 rfl) p17488), (Eq.trans (fr17744 62 rfl) p17489), (Eq.trans (fr17744 63 rfl) x17490), p17753, p17754, p17755⟩
                  · intro i17758 l18633 s19515 f19516 w19517 hi19518 hI19519 hm19520
                    obtain ⟨s19521, l19522, hS19523, p19524, p19525, p19526, p19527, p19528, p19529, p19530, p19531, x19532⟩ := hI19519
                    refine W_seq ?_
                    refine W_region ?_
                    refine WL_step rfl rfl (Exec.lss rfl x19532 p19531 ?_)
                    refine WL_nil (at_normal ?_)
                    refine W_seq ?_
                    refine W_true (congrArg Value.bool (decide_eq_true (by omega))) ?_
                    refine W_skip (at_normal ?_)
                    refine W_seq ?_
                    refine W_block ?_
                    refine W_seq ?_
                    refine W_region ?_
                    refine WL_step rfl rfl (Exec.move (v := Value.int .i64 ((i17758 : Int))) rfl x19532 ?_)
                    obtain ⟨row19542, q19543, hm19520⟩ := bind_some hm19520
                    obtain ⟨x19544, q19545, hm19520⟩ := bind_some hm19520
                    obtain ⟨g19546, c19547, e19548⟩ := (((((hS19523).f2).f2).f1).rows_split e17655 (idx_some q19543).2.2).arr_at q19545
                    refine WL_step rfl rfl (Exec.index_slice S49 rfl (Eq.trans p19530 e19548) x19532 (idx_some q19545).1 (idx_some q19545).2.1 ?_)
                    refine WL_step rfl rfl (Exec.load_arr (F := (encInt .i64)) (((((hS19523).f2).f2).f1).rows_split e17655 (idx_some q19543).2.2) e19548 A3 rfl rfl rfl q19545 (Sub.refl _) ?_)
                    intro v19549 q19550
                    obtain rfl := encInt_val.1 q19550
                    refine WL_step rfl rfl (Exec.assign (v := Value.int .i64 ((i17758 : Int))) rfl rfl ?_)
                    refine WL_step rfl rfl (Exec.assign (v := Value.int .i64 (x19544)) rfl rfl ?_)
                    refine WL_nil (at_normal ?_)
                    refine W_seq ?_
                    refine W_region ?_
                    refine WL_step rfl rfl (Exec.move (v := Value.int .i64 (x19544)) rfl rfl ?_)
                    refine WL_step rfl rfl (Exec.lss rfl rfl rfl ?_)
                    refine WL_nil (at_normal ?_)
                    obtain ⟨l19965, ht19966, hm19520⟩ := bind_some hm19520
                    refine W_mid (M := fun f' w' => (fun (l19965 : (List (List Int))) => ∃ (s19967 : PHeap) , PHeap.le s19521 s19967 ∧ St w0 s19967 (Res.box b1934 63 [v1935] :: Res.arr encRaw 49 v1935 hs1936 :: Res.rows (encInt .i64) 3 hs1936 l19965 :: Res.box b11209 32 [Value.int .i64 (b1937.A), Value.int .i64 (b1937.B), Value.int .i64 (b1937.Most)] :: H) w' ∧ f' 0 = Value.pointer (some ⟨b1934, 0, none⟩) ∧ f' 3 = Value.pointer (some ⟨b11209, 0, none⟩) ∧ f' 7 = h17503 ∧ f' 61 = v1935 ∧ f' 62 = Value.int .i64 ((n1933.d.length : Int)) ∧ f' 63 = Value.int .i64 ((i11606 : Int)) ∧ f' 80 = h17653 ∧ f' 81 = Value.int .i64 ((row17651.length : Int)) ∧ f' 82 = Value.int .i64 ((i17758 : Int))) l19965) ?_ ?_
                    · rcases ite_some ht19966 with ⟨hc19968, ht19966⟩ | ⟨hc19968, ht19966⟩
                      · refine W_cond_t rfl hc19968 ?_
                        obtain ⟨row20188, q20189, ht19966⟩ := bind_some ht19966
                        obtain ⟨x20190, q20191, ht19966⟩ := bind_some ht19966
                        obtain ⟨g20192, c20193, e20194⟩ := (((((hS19523).f2).f2).f1).rows_split e17505 (idx_some q20189).2.2).arr_at q20191
                        obtain ⟨x20195, q20196, ht19966⟩ := bind_some ht19966
                        obtain ⟨g20197, c20198, e20199⟩ := (((((hS19523).f2).f2).f1).rows_split e17505 (idx_some q20189).2.2).arr_at q20196
                        obtain ⟨g20200, c20201, e20202⟩ := (((((hS19523).f2).f2).f1).rows_split e17505 (idx_some q20189).2.2).arr_at q20191
                        obtain ⟨l20203, q20204, ht19966⟩ := bind_some ht19966
                        obtain ⟨l20205, q20206, ht19966⟩ := bind_some ht19966
                        have hS20207 := ((hS19523).f2).f2
                        refine W_drawn (n0 := 18) hmix (by kernel_rfl) [RP.eq (h17503), RP.eq (Value.int .i64 ((i17758 : Int))), RP.eq (h17503), RP.eq (Value.int .i64 ((i17758 : Int))), RP.eq (Value.pointer (some ⟨g20192, 0 + ((i17758 : Int)).toNat * 1, none⟩)), RP.eq (Value.int .i64 (x20190)), RP.eq (h17503), RP.eq (Value.pointer (some ⟨b11209, 0, none⟩)), RP.eq (Value.int .i64 (b1937.A)), RP.eq (Value.pointer (some ⟨g20197, 0 + (b1937.A).toNat * 1, none⟩)), RP.eq (Value.int .i64 (x20195)), RP.eq (Value.pointer (some ⟨b11209, 2, none⟩)), RP.eq (Value.int .i64 (b1937.Most)), RP.eq (Value.int .i64 (IntKind.i64.wrap (x20195 + b1937.Most))), RP.eq (Value.int .i64 (x19544)), RP.eq (Value.int .i64 (IntKind.i64.wrap ((IntKind.i64.wrap (x20195 + b1937.Most)) + x19544))), RP.eq (Value.int .i64 (min x20190 (IntKind.i64.wrap ((IntKind.i64.wrap (x20195 + b1937.Most)) + x19544)))), RP.eq (Value.pointer (some ⟨g20200, 0 + ((i17758 : Int)).toNat * 1, none⟩))] hS20207 (HeadAll.cons ?_ (HeadAll.cons ?_ (HeadAll.cons ?_ (HeadAll.cons ?_ (HeadAll.cons ?_ (HeadAll.cons ?_ (HeadAll.cons ?_ (HeadAll.cons ?_ (HeadAll.cons ?_ (HeadAll.cons ?_ (HeadAll.cons ?_ (HeadAll.cons ?_ (HeadAll.cons ?_ (HeadAll.cons ?_ (HeadAll.cons ?_ (HeadAll.cons ?_ (HeadAll.cons ?_ (HeadAll.cons ?_ (HeadAll.nil))))))))))))))))))) ?_
                        · intro g20208 s20209 w20210 l20211 hS20212 fr20213 pre20214
                          refine head_run rfl (Exec.move (v := h17503) rfl (Eq.trans (fr20213 7 rfl) p19526) ?_)
                          exact head_done hS20212 rfl
                        · intro g20215 s20216 w20217 l20218 hS20219 fr20220 pre20221
                          refine head_run rfl (Exec.move (v := Value.int .i64 ((i17758 : Int))) rfl (fr20220 8 rfl) ?_)
                          exact head_done hS20219 rfl
                        · intro g20222 s20223 w20224 l20225 hS20226 fr20227 pre20228
                          refine head_run rfl (Exec.move (v := h17503) rfl (Eq.trans (fr20227 7 rfl) p19526) ?_)
                          exact head_done hS20226 rfl
                        · intro g20229 s20230 w20231 l20232 hS20233 fr20234 pre20235
                          refine head_run rfl (Exec.move (v := Value.int .i64 ((i17758 : Int))) rfl (fr20234 8 rfl) ?_)
                          exact head_done hS20233 rfl
                        · intro g20236 s20237 w20238 l20239 hS20240 fr20241 pre20242
                          have p20243 : g20236 91 = (h17503) := pre20242 0 _ rfl rfl
                          have p20244 : g20236 92 = (Value.int .i64 ((i17758 : Int))) := pre20242 1 _ rfl rfl
                          refine head_run rfl (Exec.index_slice S49 rfl (Eq.trans p20243 e20194) p20244 (idx_some q20191).1 (idx_some q20191).2.1 ?_)
                          exact head_done hS20240 rfl
                        · intro g20245 s20246 w20247 l20248 hS20249 fr20250 pre20251
                          have p20252 : g20245 93 = (Value.pointer (some ⟨g20192, 0 + ((i17758 : Int)).toNat * 1, none⟩)) := pre20251 0 _ rfl rfl
                          refine head_run rfl (Exec.load_arr (F := (encInt .i64)) (((hS20249).f1).rows_split e17505 (idx_some q20189).2.2) e20194 A3 rfl p20252 rfl q20191 (Sub.refl _) ?_)
                          intro v20253 q20254
                          exact head_done hS20249 (encInt_val.1 q20254)
                        · intro g20255 s20256 w20257 l20258 hS20259 fr20260 pre20261
                          refine head_run rfl (Exec.move (v := h17503) rfl (Eq.trans (fr20260 7 rfl) p19526) ?_)
                          exact head_done hS20259 rfl
                        · intro g20262 s20263 w20264 l20265 hS20266 fr20267 pre20268
                          refine head_run rfl (Exec.field F32_0 rfl (Eq.trans (fr20267 3 rfl) p19525) rfl ?_)
                          exact head_done hS20266 rfl
                        · intro g20269 s20270 w20271 l20272 hS20273 fr20274 pre20275
                          have p20276 : g20269 96 = (Value.pointer (some ⟨b11209, 0, none⟩)) := pre20275 0 _ rfl rfl
                          refine head_run rfl (Exec.load_box ((hS20273).f3) A3 rfl p20276 rfl ?_)
                          exact head_done hS20273 rfl
                        · intro g20277 s20278 w20279 l20280 hS20281 fr20282 pre20283
                          have p20284 : g20277 97 = (Value.int .i64 (b1937.A)) := pre20283 1 _ rfl rfl
                          have p20285 : g20277 95 = (h17503) := pre20283 0 _ rfl rfl
                          refine head_run rfl (Exec.index_slice S49 rfl (Eq.trans p20285 e20199) p20284 (idx_some q20196).1 (idx_some q20196).2.1 ?_)
                          exact head_done hS20281 rfl
                        · intro g20286 s20287 w20288 l20289 hS20290 fr20291 pre20292
                          have p20293 : g20286 98 = (Value.pointer (some ⟨g20197, 0 + (b1937.A).toNat * 1, none⟩)) := pre20292 0 _ rfl rfl
                          refine head_run rfl (Exec.load_arr (F := (encInt .i64)) (((hS20290).f1).rows_split e17505 (idx_some q20189).2.2) e20199 A3 rfl p20293 rfl q20196 (Sub.refl _) ?_)
                          intro v20294 q20295
                          exact head_done hS20290 (encInt_val.1 q20295)
                        · intro g20296 s20297 w20298 l20299 hS20300 fr20301 pre20302
                          refine head_run rfl (Exec.field F32_2 rfl (Eq.trans (fr20301 3 rfl) p19525) rfl ?_)
                          exact head_done hS20300 rfl
                        · intro g20303 s20304 w20305 l20306 hS20307 fr20308 pre20309
                          have p20310 : g20303 100 = (Value.pointer (some ⟨b11209, 2, none⟩)) := pre20309 0 _ rfl rfl
                          refine head_run rfl (Exec.load_box ((hS20307).f3) A3 rfl p20310 rfl ?_)
                          exact head_done hS20307 rfl
                        · intro g20311 s20312 w20313 l20314 hS20315 fr20316 pre20317
                          have p20318 : g20311 99 = (Value.int .i64 (x20195)) := pre20317 0 _ rfl rfl
                          have p20319 : g20311 101 = (Value.int .i64 (b1937.Most)) := pre20317 1 _ rfl rfl
                          refine head_run rfl (Exec.add rfl p20318 p20319 ?_)
                          exact head_done hS20315 rfl
                        · intro g20320 s20321 w20322 l20323 hS20324 fr20325 pre20326
                          refine head_run rfl (Exec.move (v := Value.int .i64 (x19544)) rfl (fr20325 9 rfl) ?_)
                          exact head_done hS20324 rfl
                        · intro g20327 s20328 w20329 l20330 hS20331 fr20332 pre20333
                          have p20334 : g20327 102 = (Value.int .i64 (IntKind.i64.wrap (x20195 + b1937.Most))) := pre20333 0 _ rfl rfl
                          have p20335 : g20327 103 = (Value.int .i64 (x19544)) := pre20333 1 _ rfl rfl
                          refine head_run rfl (Exec.add rfl p20334 p20335 ?_)
                          exact head_done hS20331 rfl
                        · intro g20336 s20337 w20338 l20339 hS20340 fr20341 pre20342
                          have p20343 : g20336 104 = (Value.int .i64 (IntKind.i64.wrap ((IntKind.i64.wrap (x20195 + b1937.Most)) + x19544))) := pre20342 1 _ rfl rfl
                          have p20344 : g20336 94 = (Value.int .i64 (x20190)) := pre20342 0 _ rfl rfl
                          refine head_run rfl (Exec.min2 rfl p20344 p20343 ?_)
                          exact head_done hS20340 rfl
                        · intro g20345 s20346 w20347 l20348 hS20349 fr20350 pre20351
                          have p20352 : g20345 89 = (h17503) := pre20351 0 _ rfl rfl
                          have p20353 : g20345 90 = (Value.int .i64 ((i17758 : Int))) := pre20351 1 _ rfl rfl
                          refine head_run rfl (Exec.index_slice S49 rfl (Eq.trans p20352 e20202) p20353 (idx_some q20191).1 (idx_some q20191).2.1 ?_)
                          exact head_done hS20349 rfl
                        · intro g20354 s20355 w20356 l20357 hS20358 fr20359 hR20360
                          have p20361 : g20354 89 = (h17503) := hR20360 0 rfl
                          have p20362 : g20354 90 = (Value.int .i64 ((i17758 : Int))) := hR20360 1 rfl
                          have p20363 : g20354 91 = (h17503) := hR20360 2 rfl
                          have p20364 : g20354 92 = (Value.int .i64 ((i17758 : Int))) := hR20360 3 rfl
                          have p20365 : g20354 93 = (Value.pointer (some ⟨g20192, 0 + ((i17758 : Int)).toNat * 1, none⟩)) := hR20360 4 rfl
                          have p20366 : g20354 94 = (Value.int .i64 (x20190)) := hR20360 5 rfl
                          have p20367 : g20354 95 = (h17503) := hR20360 6 rfl
                          have p20368 : g20354 96 = (Value.pointer (some ⟨b11209, 0, none⟩)) := hR20360 7 rfl
                          have p20369 : g20354 97 = (Value.int .i64 (b1937.A)) := hR20360 8 rfl
                          have p20370 : g20354 98 = (Value.pointer (some ⟨g20197, 0 + (b1937.A).toNat * 1, none⟩)) := hR20360 9 rfl
                          have p20371 : g20354 99 = (Value.int .i64 (x20195)) := hR20360 10 rfl
                          have p20372 : g20354 100 = (Value.pointer (some ⟨b11209, 2, none⟩)) := hR20360 11 rfl
                          have p20373 : g20354 101 = (Value.int .i64 (b1937.Most)) := hR20360 12 rfl
                          have p20374 : g20354 102 = (Value.int .i64 (IntKind.i64.wrap (x20195 + b1937.Most))) := hR20360 13 rfl
                          have p20375 : g20354 103 = (Value.int .i64 (x19544)) := hR20360 14 rfl
                          have p20376 : g20354 104 = (Value.int .i64 (IntKind.i64.wrap ((IntKind.i64.wrap (x20195 + b1937.Most)) + x19544))) := hR20360 15 rfl
                          have p20377 : g20354 105 = (Value.int .i64 (min x20190 (IntKind.i64.wrap ((IntKind.i64.wrap (x20195 + b1937.Most)) + x19544)))) := hR20360 16 rfl
                          have p20378 : g20354 106 = (Value.pointer (some ⟨g20200, 0 + ((i17758 : Int)).toNat * 1, none⟩)) := hR20360 17 rfl
                          refine WL_step rfl rfl (Exec.store_arr (((hS20358).f1).rows_split e17505 (idx_some q20189).2.2) e20202 A3 rfl p20378 rfl p20377 (encInt_val.2 rfl) q20204 ?_)
                          intro w20379 hS20380
                          have hS20381 := (hS20380).rows_back e17505 (setI_some q20206).2.1
                          rw [← (setI_some q20206).2.2] at hS20381
                          have hS20382 := (hS20381).f1
                          refine WL_nil (at_normal ?_)
                          have e20383 := Option.some.inj ht19966
                          subst l19965
                          have hS20384 := (hS20382).f3
                          have hS20385 := ((hS20384).f2).f2
                          have hS20386 := (hS20385).f3
                          exact ⟨s20355, l20357, hS20386, (Eq.trans (fr20359 0 rfl) p19524), (Eq.trans (fr20359 3 rfl) p19525), (Eq.trans (fr20359 7 rfl) p19526), (Eq.trans (fr20359 61 rfl) p19527), (Eq.trans (fr20359 62 rfl) p19528), (Eq.trans (fr20359 63 rfl) p19529), (Eq.trans (fr20359 80 rfl) p19530), (Eq.trans (fr20359 81 rfl) p19531), (Eq.trans (fr20359 82 rfl) x19532)⟩
                      · refine W_cond_f rfl hc19968 ?_
                        replace hc19968 := not_true hc19968
                        refine W_skip (at_normal ?_)
                        have e20387 := Option.some.inj ht19966
                        subst l19965
                        have hS20388 := (hS19523).f3
                        have hS20389 := ((hS20388).f3).f3
                        have hS20390 := (hS20389).f3
                        exact ⟨s19521, (PHeap.le_refl _), hS20390, p19524, p19525, p19526, p19527, p19528, p19529, p19530, p19531, x19532⟩
                    · intro f20391 w20392 hM20393
                      obtain ⟨s20394, l20395, hS20396, p20397, p20398, p20399, p20400, p20401, p20402, p20403, p20404, p20405⟩ := hM20393
                      refine (ib_normal (at_normal ?_))
                      refine W_region ?_
                      refine WL_step rfl rfl (Exec.add rfl p20405 rfl ?_)
                      refine WL_step rfl rfl (Exec.move (v := Value.int .i64 (IntKind.i64.wrap ((i17758 : Int) + 1))) rfl rfl ?_)
                      refine WL_nil (at_normal ?_)
                      have e20406 := Option.some.inj hm19520
                      subst s19515
                      have hS20407 := (hS20396).f3
                      have hS20408 := ((hS20407).f3).f3
                      have hS20409 := (hS20408).f3
                      exact ⟨s20394, (PHeap.le.trans l19522 l20395), hS20409, p20397, p20398, p20399, p20400, p20401, p20402, p20403, p20404, (Eq.trans rfl (wrap_up hi19518 (by have h := must_some q17757; simpa [maxLen] using h)))⟩
                  · intro f20410 w20411 hI20412
                    obtain ⟨s20413, l20414, hS20415, p20416, p20417, p20418, p20419, p20420, p20421, p20422, p20423, x20424⟩ := hI20412
                    refine W_seq ?_
                    refine W_region ?_
                    refine WL_step rfl rfl (Exec.lss rfl x20424 p20423 ?_)
                    refine WL_nil (at_normal ?_)
                    refine W_seq ?_
                    refine W_false (congrArg Value.bool (decide_eq_false (by omega))) ?_
                    refine W_exit (at_exit (at_exit (ib_here (ib_normal (at_normal ?_)))))
                    refine W_region ?_
                    refine WL_step rfl rfl (Exec.add rfl p20421 rfl ?_)
                    refine WL_step rfl rfl (Exec.move (v := Value.int .i64 (IntKind.i64.wrap ((i11606 : Int) + 1))) rfl rfl ?_)
                    refine WL_nil (at_normal ?_)
                    have e20425 := Option.some.inj hm17482
                    subst s17477
                    have hS20426 := (hS20415).f3
                    have hS20427 := ((hS20426).f3).f3
                    have hS20428 := (hS20427).f3
                    exact ⟨s20413, (PHeap.le.trans (PHeap.le.trans l17484 l17742) l20414), hS20428, p20416, p20417, p20419, p20420, (Eq.trans rfl (wrap_up hi17480 (by have h := (((hS11596).f2).f2).f1.rows_len; have h2 := (((hS11596).f2).f2).arr_le; omega)))⟩
            · intro f20429 w20430 hI20431
              obtain ⟨s20432, l20433, hS20434, p20435, p20436, p20437, p20438, x20439⟩ := hI20431
              refine W_seq ?_
              refine W_region ?_
              refine WL_step rfl rfl (Exec.lss rfl x20439 p20438 ?_)
              refine WL_nil (at_normal ?_)
              refine W_seq ?_
              refine W_false (congrArg Value.bool (decide_eq_false (by omega))) ?_
              refine W_exit (at_exit (at_exit (ib_here (at_normal ?_))))
              refine W_seq ?_
              refine W_region ?_
              refine WL_step rfl rfl (Exec.assign (v := errV 30 (none)) rfl rfl ?_)
              refine WL_nil (at_normal ?_)
              refine W_ret ?_
              have e20441 := Option.some.inj hm
              subst r
              refine ⟨_, ret1 rfl, ?_⟩
              have hS20442 := ((hS20434).f3).drop
              have hS20443 := ((hS20442).f2).f2
              have hS20444 := (hS20443).f2
              exact ⟨s20432, (PHeap.le.trans (PHeap.le.trans (PHeap.le.trans l11265 l11565) l11595) l20433), hS20444, rfl⟩

theorem N19 : (Try.f19.name == "runtime.NumGoroutine") = false := by kernel_rfl

theorem law54_made_sim {w0 w : World} {s : PHeap} {H : List Res} {n20 : Int} {bounds21 : (List Bound)} {v22 : Value} {r : (Option stn_Network) × Bool} (hm : law54_made_p n20 bounds21 = some r) (hS : St w0 s (H) w) (a23 : SliceRep encBound s v22 bounds21) :
    Calls Try.prog 19 #[Value.int .i64 (n20), v22] w fun e w' => ∃ v, e = .returned v ∧ ((un2 fun (p_d20674 : (Option stn_Network)) (y20675 : Bool) => (∃ d20674 : stn_Network, p_d20674 = some d20674 ∧ ∃ (s20679 : PHeap) (b20676 : Nat) (v20677 : Value) (hs20678 : List Value), PHeap.le s s20679 ∧ St w0 s20679 (Res.box b20676 63 [v20677] :: Res.arr encRaw 49 v20677 hs20678 :: Res.rows (encInt .i64) 3 hs20678 d20674.d :: H) w' ∧ v = Value.tuple #[Value.pointer (some ⟨b20676, 0, none⟩), Value.bool (y20675)]) ∨ (p_d20674 = none ∧ ∃ (s20680 : PHeap) , PHeap.le s s20680 ∧ St w0 s20680 (H) w' ∧ v = Value.tuple #[Value.pointer none, Value.bool (y20675)])) r) := by
  unfold law54_made_p at hm
  refine calls_of_W Try.func19 rfl rfl ?_
  refine W_seq ?_
  refine W_region ?_
  refine WL_step rfl rfl (Exec.assign (v := Value.pointer none) rfl rfl ?_)
  refine WL_step rfl rfl (Exec.assign (v := Value.bool (false)) rfl rfl ?_)
  refine WL_nil (at_normal ?_)
  refine W_seq ?_
  refine W_region ?_
  refine WL_step rfl rfl (Exec.move (v := Value.int .i64 (n20)) rfl rfl ?_)
  obtain ⟨t20699, q20700, hm⟩ := bind_some hm
  obtain ⟨pd20701, y20702⟩ := t20699
  replace hm := un2_eq hm
  refine WL_step rfl rfl (Exec.call rfl rfl Try.func10 rfl N10 (args_cons rfl args_nil) ((stn_New_sim q20700 hS ).mono ?_))
  rintro _ w20703 ⟨_, rfl, hp20704⟩
  refine ⟨_, rfl, ?_⟩
  rcases hp20704 with ⟨d20705, rfl, s20706, v20709, v20710, v20711, l20707, hS20708, rfl⟩ | ⟨rfl, s20713, l20714, hS20715, rfl⟩
  · replace hm := optC_some hm
    refine WL_step rfl rfl (Exec.move (v := Value.tuple #[Value.pointer (some ⟨v20709, 0, none⟩), errV 30 (y20702)]) rfl rfl ?_)
    refine WL_step rfl rfl (Exec.extract (v := Value.pointer (some ⟨v20709, 0, none⟩)) rfl rfl rfl ?_)
    refine WL_step rfl rfl (Exec.extract (v := errV 30 (y20702)) rfl rfl rfl ?_)
    refine WL_step rfl rfl (Exec.assign (v := Value.pointer (some ⟨v20709, 0, none⟩)) rfl rfl ?_)
    refine WL_step rfl rfl (Exec.assign (v := errV 30 (y20702)) rfl rfl ?_)
    refine WL_nil (at_normal ?_)
    refine W_seq ?_
    refine W_seq ?_
    refine W_mid (M := fun f' w' => ∃ (s20718 : PHeap) , PHeap.le s20706 s20718 ∧ St w0 s20718 (Res.box v20709 63 [v20710] :: Res.arr encRaw 49 v20710 v20711 :: Res.rows (encInt .i64) 3 v20711 d20705.d :: H) w' ∧ f' 1 = v22 ∧ f' 6 = Value.pointer (some ⟨v20709, 0, none⟩) ∧ f' 20 = Value.bool ((y20702.isSome && true))) ?_ ?_
    · refine W_region ?_
      refine WL_step rfl rfl (Exec.move (v := errV 30 (y20702)) rfl rfl ?_)
      refine WL_step rfl rfl (Exec.err_neq_nil (T := 30) Try.underlying26 rfl rfl rfl ?_)
      refine WL_step rfl rfl (Exec.move (v := Value.bool (y20702.isSome)) rfl rfl ?_)
      by_cases hc20719 : y20702.isSome = true
      · refine WL_pass rfl (yield_of rfl (congrArg Value.bool hc20719)) rfl rfl ?_
        refine WL_pass rfl (yield_of rfl (congrArg Value.bool hc20719)) rfl rfl ?_
        refine WL_step rfl rfl (Exec.pick_t (v := Value.bool (true)) rfl (congrArg Value.bool hc20719) rfl ?_)
        refine WL_nil (at_normal ?_)
        have hS20720 := ((hS20708).f2).f2
        have hS20721 := (hS20720).f2
        exact ⟨s20706, (PHeap.le_refl _), hS20721, rfl, rfl, (congrArg Value.bool (and_t hc20719)).symm⟩
      · replace hc20719 := not_true hc20719
        refine WL_run rfl (yield_of rfl (congrArg Value.bool hc20719)) rfl (Exec.move (v := Value.pointer (some ⟨v20709, 0, none⟩)) rfl rfl ?_)
        refine WL_run rfl (yield_of rfl (congrArg Value.bool hc20719)) rfl (Exec.ptr_eql_nil Try.underlying24 rfl rfl rfl ?_)
        refine WL_step rfl rfl (Exec.pick_f (v := Value.bool (false)) rfl (congrArg Value.bool hc20719) rfl ?_)
        refine WL_nil (at_normal ?_)
        have hS20722 := ((hS20708).f2).f2
        have hS20723 := (hS20722).f2
        exact ⟨s20706, (PHeap.le_refl _), hS20723, rfl, rfl, (congrArg Value.bool (and_f hc20719)).symm⟩
    · intro f20724 w20725 hM20726
      obtain ⟨s20727, l20728, hS20729, p20730, p20731, p20732⟩ := hM20726
      refine (at_normal ?_)
      rcases ite_some hm with ⟨hc20733, hm⟩ | ⟨hc20733, hm⟩
      · refine W_cond_t p20732 hc20733 ?_
        refine W_seq ?_
        refine W_region ?_
        refine WL_step rfl rfl (Exec.assign (v := Value.pointer none) rfl rfl ?_)
        refine WL_step rfl rfl (Exec.assign (v := Value.bool (false)) rfl rfl ?_)
        refine WL_nil (at_normal ?_)
        refine W_ret (at_ret ?_)
        have e20735 := Option.some.inj hm
        subst r
        refine ⟨_, ret2 rfl, ?_⟩
        have hS20736 := (hS20729).drop
        have hS20737 := ((hS20736).drop).drop
        refine (Or.inr ⟨rfl, ?_⟩); exact ⟨s20727, (PHeap.le.trans l20707 l20728), hS20737, (tup2 rfl rfl)⟩
      · refine W_cond_f p20732 hc20733 ?_
        replace hc20733 := not_true hc20733
        refine W_skip (at_normal ?_)
        refine W_seq ?_
        refine W_seq ?_
        refine W_region ?_
        refine WL_step rfl rfl (Exec.move (v := v22) rfl p20730 ?_)
        refine WL_step rfl rfl (Exec.len_rep S22 rfl rfl (a23.mono (PHeap.le.trans l20707 l20728)) ?_)
        refine WL_step rfl rfl (Exec.move (v := Value.int .i64 (0)) rfl rfl ?_)
        refine WL_nil (at_normal ?_)
        obtain ⟨c20881, hB20882, hr20883, hn20884, hb20885⟩ := ctl_some hm
        refine W_mid (M := fun f' w' => ∃ s', (c20881 = .next s' ∨ c20881 = .brk s') ∧ (fun (l20880 : (List (List Int))) => ∃ (s20887 : PHeap) , PHeap.le s20727 s20887 ∧ St w0 s20887 (Res.box v20709 63 [v20710] :: Res.arr encRaw 49 v20710 v20711 :: Res.rows (encInt .i64) 3 v20711 l20880 :: H) w' ∧ f' 6 = Value.pointer (some ⟨v20709, 0, none⟩) ∧ f' 21 = v22 ∧ f' 22 = Value.int .i64 ((bounds21.length : Int))) s') ?_ ?_
        · refine W_block (W_forC (fun k' s' f' w' => (fun (l20785 : (List (List Int))) => ∃ (s20886 : PHeap) , PHeap.le s20727 s20886 ∧ St w0 s20886 (Res.box v20709 63 [v20710] :: Res.arr encRaw 49 v20710 v20711 :: Res.rows (encInt .i64) 3 v20711 l20785 :: H) w' ∧ f' 6 = Value.pointer (some ⟨v20709, 0, none⟩) ∧ f' 21 = v22 ∧ f' 22 = Value.int .i64 ((bounds21.length : Int)) ∧ f' 23 = Value.int .i64 (k' : Int)) s') hB20882 ?_ ?_ ?_)
          · have hS20888 := ((hS20729).f2).f2
            have hS20889 := (hS20888).f2
            exact ⟨s20727, (PHeap.le_refl _), hS20889, p20731, rfl, rfl, rfl⟩
          · intro i20738 l20785 c20891 f20892 w20893 hi20897 hI20894 hm20895 hres20896
            obtain ⟨s20898, l20899, hS20900, p20901, p20902, p20903, x20904⟩ := hI20894
            refine W_seq ?_
            refine W_region ?_
            refine WL_step rfl rfl (Exec.lss rfl x20904 p20903 ?_)
            refine WL_nil (at_normal ?_)
            refine W_seq ?_
            refine W_true (congrArg Value.bool (decide_eq_true (by omega))) ?_
            refine W_skip (at_normal ?_)
            refine W_seq ?_
            refine W_block ?_
            refine W_seq ?_
            refine W_region ?_
            obtain ⟨x20917, q20918, hm20895⟩ := bind_some hm20895
            refine WL_step rfl rfl (Exec.index_rep S22 rfl p20902 x20904 (a23.mono (PHeap.le.trans (PHeap.le.trans l20707 l20728) l20899)) q20918 ?_)
            intro b20919 o20920 a20921
            refine WL_step rfl rfl (Exec.load_at (E := encBound) hS20900 A32 rfl rfl rfl a20921 ?_)
            intro v20922 q20923
            obtain rfl := encBound_val.1 q20923
            refine WL_step rfl rfl (Exec.alloc (cs := [Value.int .i64 (0), Value.int .i64 (0), Value.int .i64 (0)]) hS20900 Z32 rfl rfl ?_)
            intro b20924 w20925 hS20926
            refine WL_step rfl rfl (Exec.store_box (ds := [Value.int .i64 (x20917.A), Value.int .i64 (x20917.B), Value.int .i64 (x20917.Most)]) (es := [Value.int .i64 (x20917.A), Value.int .i64 (x20917.B), Value.int .i64 (x20917.Most)]) hS20926 A32 rfl rfl rfl rfl (one_cons rfl (one_cons rfl (one_cons rfl one_nil))) (Nat.le_of_ble_eq_true rfl) rfl ?_)
            intro w20927 hS20928
            refine WL_nil (at_normal ?_)
            refine W_seq ?_
            refine W_region ?_
            refine WL_step rfl rfl (Exec.move (v := Value.pointer (some ⟨v20709, 0, none⟩)) rfl p20901 ?_)
            refine WL_step rfl rfl (Exec.load_box_agg (ds := [Value.int .i64 (x20917.A), Value.int .i64 (x20917.B), Value.int .i64 (x20917.Most)]) (hS20928) A32 rfl rfl rfl ?_)
            obtain ⟨t20939, q20940, hm20895⟩ := bind_some hm20895
            obtain ⟨y20941, l20942⟩ := t20939
            replace hm20895 := un2_eq hm20895
            have hS20943 := ((hS20928).f3).f3
            have hS20944 := (hS20943).f3
            refine WL_step rfl rfl (Exec.call rfl rfl Try.func14 rfl N14 (args_cons rfl (args_cons rfl args_nil)) ((stn_Network_Add_sim q20940 hS20944 ).mono ?_))
            rintro _ w20945 ⟨_, rfl, ⟨s20946, l20947, hS20948, rfl⟩⟩
            refine ⟨_, rfl, ?_⟩
            refine WL_step rfl rfl (Exec.err_neq_nil (T := 30) Try.underlying26 rfl rfl rfl ?_)
            refine WL_nil (at_normal ?_)
            rcases ite_some hm20895 with ⟨hc20949, hm20895⟩ | ⟨hc20949, hm20895⟩
            · refine W_cond_t rfl hc20949 ?_
              refine W_seq ?_
              refine W_region ?_
              refine WL_step rfl rfl (Exec.assign (v := Value.pointer none) rfl rfl ?_)
              refine WL_step rfl rfl (Exec.assign (v := Value.bool (false)) rfl rfl ?_)
              refine WL_nil (at_normal ?_)
              refine W_ret (ib_ret (at_ret (at_ret (ib_ret (at_ret (at_ret ?_))))))
              have e20950 := Option.some.inj hm20895
              subst c20891
              have hq20951 := hr20883 _ (hres20896 (by intro _ h; cases h))
              have e20952 := Option.some.inj hq20951
              subst r
              refine ⟨_, ret2 rfl, ?_⟩
              have hS20953 := (hS20948).drop
              have hS20954 := ((hS20953).drop).drop
              have hS20955 := (hS20954).drop
              refine (Or.inr ⟨rfl, ?_⟩); exact ⟨s20946, (PHeap.le.trans (PHeap.le.trans (PHeap.le.trans l20707 l20728) l20899) l20947), hS20955, (tup2 rfl rfl)⟩
            · refine W_cond_f rfl hc20949 ?_
              replace hc20949 := not_true hc20949
              refine W_skip (ib_normal (at_normal ?_))
              refine W_region ?_
              refine WL_step rfl rfl (Exec.add rfl x20904 rfl ?_)
              refine WL_step rfl rfl (Exec.move (v := Value.int .i64 (IntKind.i64.wrap ((i20738 : Int) + 1))) rfl rfl ?_)
              refine WL_nil (at_normal ?_)
              have e20956 := Option.some.inj hm20895
              subst c20891
              have hS20957 := ((hS20948).f3).drop
              have hS20958 := ((hS20957).f2).f2
              have hS20959 := (hS20958).f2
              refine ⟨_, rfl, ?_⟩; exact ⟨s20946, (PHeap.le.trans l20899 l20947), hS20959, p20901, p20902, p20903, (Eq.trans rfl (wrap_up hi20897 (SliceRep.le (a23.mono (PHeap.le.trans l20707 l20728)))))⟩
          · intro l20785 f20960 w20961 hI20962 hres20963
            obtain ⟨s20964, l20965, hS20966, p20967, p20968, p20969, x20970⟩ := hI20962
            refine W_seq ?_
            refine W_region ?_
            refine WL_step rfl rfl (Exec.lss rfl x20970 p20969 ?_)
            refine WL_nil (at_normal ?_)
            refine W_seq ?_
            refine W_false (congrArg Value.bool (decide_eq_false (by omega))) ?_
            refine W_exit (at_exit (at_exit (ib_here (at_normal ?_))))
            have hS20971 := ((hS20966).f2).f2
            have hS20972 := (hS20971).f2
            refine ⟨_, .inl hres20963, ?_⟩; exact ⟨s20964, l20965, hS20972, p20967, p20968, p20969⟩
        · rintro f20973 w20974 ⟨l20880, hc20975, hM20976⟩
          have hm := hc20975.elim (hn20884 _) (hb20885 _)
          clear hc20975
          obtain ⟨s20977, l20978, hS20979, p20980, p20981, p20982⟩ := hM20976
          refine (at_normal ?_)
          refine W_seq ?_
          refine W_region ?_
          refine WL_step rfl rfl (Exec.move (v := Value.pointer (some ⟨v20709, 0, none⟩)) rfl p20980 ?_)
          refine WL_step rfl rfl (Exec.assign (v := Value.pointer (some ⟨v20709, 0, none⟩)) rfl rfl ?_)
          refine WL_step rfl rfl (Exec.assign (v := Value.bool (true)) rfl rfl ?_)
          refine WL_nil (at_normal ?_)
          refine W_ret ?_
          have e20984 := Option.some.inj hm
          subst r
          refine ⟨_, ret2 rfl, ?_⟩
          have hS20985 := ((hS20979).f2).f2
          have hS20986 := (hS20985).f2
          refine (Or.inl ⟨_, rfl, ?_⟩); exact ⟨s20977, v20709, v20710, v20711, (PHeap.le.trans (PHeap.le.trans l20707 l20728) l20978), hS20986, (tup2 rfl rfl)⟩
  · replace hm := optC_none hm
    refine WL_step rfl rfl (Exec.move (v := Value.tuple #[Value.pointer none, errV 30 (y20702)]) rfl rfl ?_)
    refine WL_step rfl rfl (Exec.extract (v := Value.pointer none) rfl rfl rfl ?_)
    refine WL_step rfl rfl (Exec.extract (v := errV 30 (y20702)) rfl rfl rfl ?_)
    refine WL_step rfl rfl (Exec.assign (v := Value.pointer none) rfl rfl ?_)
    refine WL_step rfl rfl (Exec.assign (v := errV 30 (y20702)) rfl rfl ?_)
    refine WL_nil (at_normal ?_)
    refine W_seq ?_
    refine W_seq ?_
    obtain ⟨t20988, ht20989, hm⟩ := bind_some hm
    refine W_mid (M := fun f' w' => (fun (_ : Unit) => ∃ (s20990 : PHeap) , PHeap.le s20713 s20990 ∧ St w0 s20990 (H) w' ∧ f' 1 = v22 ∧ f' 6 = Value.pointer none ∧ f' 20 = Value.bool (true)) t20988) ?_ ?_
    · refine W_region ?_
      refine WL_step rfl rfl (Exec.move (v := errV 30 (y20702)) rfl rfl ?_)
      refine WL_step rfl rfl (Exec.err_neq_nil (T := 30) Try.underlying26 rfl rfl rfl ?_)
      refine WL_step rfl rfl (Exec.move (v := Value.bool (y20702.isSome)) rfl rfl ?_)
      rcases ite_some ht20989 with ⟨hc20991, ht20989⟩ | ⟨hc20991, ht20989⟩
      · refine WL_pass rfl (yield_of rfl (congrArg Value.bool hc20991)) rfl rfl ?_
        refine WL_pass rfl (yield_of rfl (congrArg Value.bool hc20991)) rfl rfl ?_
        refine WL_step rfl rfl (Exec.pick_t (v := Value.bool (true)) rfl (congrArg Value.bool hc20991) rfl ?_)
        refine WL_nil (at_normal ?_)
        have e20992 := Option.some.inj ht20989
        subst t20988
        exact ⟨s20713, (PHeap.le_refl _), hS20715, rfl, rfl, rfl⟩
      · replace hc20991 := not_true hc20991
        refine WL_run rfl (yield_of rfl (congrArg Value.bool hc20991)) rfl (Exec.move (v := Value.pointer none) rfl rfl ?_)
        refine WL_run rfl (yield_of rfl (congrArg Value.bool hc20991)) rfl (Exec.ptr_eql_nil Try.underlying24 rfl rfl rfl ?_)
        refine WL_step rfl rfl (Exec.pick_f (v := Value.bool (true)) rfl (congrArg Value.bool hc20991) rfl ?_)
        refine WL_nil (at_normal ?_)
        have e20993 := Option.some.inj ht20989
        subst t20988
        exact ⟨s20713, (PHeap.le_refl _), hS20715, rfl, rfl, rfl⟩
    · intro f20994 w20995 hM20996
      obtain ⟨s20997, l20998, hS20999, p21000, p21001, p21002⟩ := hM20996
      refine (at_normal ?_)
      refine W_true p21002 ?_
      refine W_seq ?_
      refine W_region ?_
      refine WL_step rfl rfl (Exec.assign (v := Value.pointer none) rfl rfl ?_)
      refine WL_step rfl rfl (Exec.assign (v := Value.bool (false)) rfl rfl ?_)
      refine WL_nil (at_normal ?_)
      refine W_ret (at_ret ?_)
      have e21004 := Option.some.inj hm
      subst r
      refine ⟨_, ret2 rfl, ?_⟩
      refine (Or.inr ⟨rfl, ?_⟩); exact ⟨s20997, (PHeap.le.trans l20714 l20998), hS20999, (tup2 rfl rfl)⟩

theorem N15 : (Try.f15.name == "runtime.NumGoroutine") = false := by kernel_rfl

theorem stn_Network_Distance_sim {w0 w : World} {s : PHeap} {H : List Res} {n21061 : stn_Network} {a21065 : Int} {b21066 : Int} {b21062 : Nat} {v21063 : Value} {hs21064 : List Value} {r : Int × (Option Int)} (hm : stn_Network_Distance_p n21061 a21065 b21066 = some r) (hS : St w0 s (Res.box b21062 63 [v21063] :: Res.arr encRaw 49 v21063 hs21064 :: Res.rows (encInt .i64) 3 hs21064 n21061.d :: H) w)  :
    Calls Try.prog 15 #[Value.pointer (some ⟨b21062, 0, none⟩), Value.int .i64 (a21065), Value.int .i64 (b21066)] w fun e w' => ∃ v, e = .returned v ∧ ((un2 fun (y21144 : Int) (y21145 : (Option Int)) => ∃ (s21146 : PHeap) , PHeap.le s s21146 ∧ St w0 s21146 (Res.box b21062 63 [v21063] :: Res.arr encRaw 49 v21063 hs21064 :: Res.rows (encInt .i64) 3 hs21064 n21061.d :: H) w' ∧ v = Value.tuple #[Value.int .i64 (y21144), errV 30 (y21145)]) r) := by
  unfold stn_Network_Distance_p at hm
  refine calls_of_W Try.func15 rfl rfl ?_
  refine W_seq ?_
  refine W_region ?_
  refine WL_step rfl rfl (Exec.assign (v := Value.int .i64 (0)) rfl rfl ?_)
  refine WL_step rfl rfl (Exec.assign (v := errV 30 (none)) rfl rfl ?_)
  refine WL_nil (at_normal ?_)
  refine W_seq ?_
  refine W_seq ?_
  refine W_region ?_
  refine WL_step rfl rfl (Exec.move (v := Value.pointer (some ⟨b21062, 0, none⟩)) rfl rfl ?_)
  refine WL_step rfl rfl (Exec.ptr_eql_nil Try.underlying24 rfl rfl rfl ?_)
  refine WL_nil (at_normal ?_)
  refine W_false rfl ?_
  refine W_skip (at_normal ?_)
  refine W_seq ?_
  refine W_seq ?_
  refine W_mid (M := fun f' w' => ∃ (s21160 : PHeap) , PHeap.le s s21160 ∧ St w0 s21160 (Res.box b21062 63 [v21063] :: Res.arr encRaw 49 v21063 hs21064 :: Res.rows (encInt .i64) 3 hs21064 n21061.d :: H) w' ∧ f' 0 = Value.pointer (some ⟨b21062, 0, none⟩) ∧ f' 1 = Value.int .i64 (a21065) ∧ f' 2 = Value.int .i64 (b21066) ∧ f' 20 = Value.bool (((!(stn_Network_point_t n21061 a21065)) || !(stn_Network_point_t n21061 b21066)))) ?_ ?_
  · refine W_region ?_
    refine WL_step rfl rfl (Exec.move (v := Value.pointer (some ⟨b21062, 0, none⟩)) rfl rfl ?_)
    refine WL_step rfl rfl (Exec.move (v := Value.int .i64 (a21065)) rfl rfl ?_)
    have hS21161 := ((hS).f2).f2
    have hS21162 := (hS21161).f2
    refine WL_step rfl rfl (Exec.call rfl rfl Try.func26 rfl N26 (args_cons rfl (args_cons rfl args_nil)) ((stn_Network_point_sim (stn_Network_point_tot n21061 a21065) hS21162 ).mono ?_))
    rintro _ w21163 ⟨_, rfl, ⟨s21164, l21165, hS21166, rfl⟩⟩
    refine ⟨_, rfl, ?_⟩
    refine WL_step rfl rfl (Exec.not rfl rfl ?_)
    refine WL_step rfl rfl (Exec.move (v := Value.bool (!(stn_Network_point_t n21061 a21065))) rfl rfl ?_)
    by_cases hc21167 : (!(stn_Network_point_t n21061 a21065)) = true
    · refine WL_pass rfl (yield_of rfl (congrArg Value.bool hc21167)) rfl rfl ?_
      refine WL_pass rfl (yield_of rfl (congrArg Value.bool hc21167)) rfl rfl ?_
      refine WL_pass rfl (yield_of rfl (congrArg Value.bool hc21167)) rfl rfl ?_
      refine WL_pass rfl (yield_of rfl (congrArg Value.bool hc21167)) rfl rfl ?_
      refine WL_step rfl rfl (Exec.pick_t (v := Value.bool (true)) rfl (congrArg Value.bool hc21167) rfl ?_)
      refine WL_nil (at_normal ?_)
      have hS21168 := ((hS21166).f2).f2
      have hS21169 := (hS21168).f2
      exact ⟨s21164, l21165, hS21169, rfl, rfl, rfl, (congrArg Value.bool (or_t hc21167)).symm⟩
    · replace hc21167 := not_true hc21167
      refine WL_run rfl (yield_of rfl (congrArg Value.bool hc21167)) rfl (Exec.move (v := Value.pointer (some ⟨b21062, 0, none⟩)) rfl rfl ?_)
      refine WL_run rfl (yield_of rfl (congrArg Value.bool hc21167)) rfl (Exec.move (v := Value.int .i64 (b21066)) rfl rfl ?_)
      have hS21170 := ((hS21166).f2).f2
      have hS21171 := (hS21170).f2
      refine WL_run rfl (yield_of rfl (congrArg Value.bool hc21167)) rfl (Exec.call rfl rfl Try.func26 rfl N26 (args_cons rfl (args_cons rfl args_nil)) ((stn_Network_point_sim (stn_Network_point_tot n21061 b21066) hS21171 ).mono ?_))
      rintro _ w21172 ⟨_, rfl, ⟨s21173, l21174, hS21175, rfl⟩⟩
      refine ⟨_, rfl, ?_⟩
      refine WL_run rfl (yield_of rfl (congrArg Value.bool hc21167)) rfl (Exec.not rfl rfl ?_)
      refine WL_step rfl rfl (Exec.pick_f (v := Value.bool (!(stn_Network_point_t n21061 b21066))) rfl (congrArg Value.bool hc21167) rfl ?_)
      refine WL_nil (at_normal ?_)
      have hS21176 := ((hS21175).f2).f2
      have hS21177 := (hS21176).f2
      exact ⟨s21173, (PHeap.le.trans l21165 l21174), hS21177, rfl, rfl, rfl, (congrArg Value.bool (or_f hc21167)).symm⟩
  · intro f21178 w21179 hM21180
    obtain ⟨s21181, l21182, hS21183, p21184, p21185, p21186, p21187⟩ := hM21180
    refine (at_normal ?_)
    rcases ite_some hm with ⟨hc21188, hm⟩ | ⟨hc21188, hm⟩
    · refine W_cond_t p21187 hc21188 ?_
      refine W_seq ?_
      refine W_region ?_
      refine WL_step rfl rfl (Exec.makeInterface C30 rfl rfl ?_)
      refine WL_step rfl rfl (Exec.assign (v := Value.int .i64 (0)) rfl rfl ?_)
      refine WL_step rfl rfl (Exec.assign (v := errV 30 (some 1)) rfl rfl ?_)
      refine WL_nil (at_normal ?_)
      refine W_ret (at_ret ?_)
      have e21190 := Option.some.inj hm
      subst r
      refine ⟨_, ret2 rfl, ?_⟩
      have hS21191 := ((hS21183).f2).f2
      have hS21192 := (hS21191).f2
      exact ⟨s21181, l21182, hS21192, (tup2 rfl rfl)⟩
    · refine W_cond_f p21187 hc21188 ?_
      replace hc21188 := not_true hc21188
      refine W_skip (at_normal ?_)
      refine W_seq ?_
      refine W_region ?_
      refine WL_step rfl rfl (Exec.move (v := Value.pointer (some ⟨b21062, 0, none⟩)) rfl p21184 ?_)
      refine WL_step rfl rfl (Exec.nilCheck_ptr rfl rfl ?_)
      refine WL_step rfl rfl (Exec.field F63_0 rfl rfl rfl ?_)
      refine WL_step rfl rfl (Exec.load_box (hS21183) A61 rfl rfl rfl ?_)
      refine WL_step rfl rfl (Exec.move (v := Value.int .i64 (a21065)) rfl p21185 ?_)
      obtain ⟨row21210, q21211, hm⟩ := bind_some hm
      obtain ⟨h21212, e21213, e21214, _⟩ := ((((hS21183).f2).f2).f1).rows_at q21211
      obtain ⟨g21215, c21216, e21217⟩ := (((hS21183).f2).f2).arr_at e21213
      refine WL_step rfl rfl (Exec.index_slice S61 rfl e21217 rfl (idx_some e21213).1 (idx_some e21213).2.1 ?_)
      refine WL_step rfl rfl (Exec.load_arr (F := encRaw) (((hS21183).f2).f2) e21217 A49 rfl rfl rfl e21213 (Sub.refl _) ?_)
      intro v21218 q21219
      replace q21219 := (encRaw_val.1 q21219).1
      subst v21218
      refine WL_step rfl rfl (Exec.move (v := Value.int .i64 (b21066)) rfl p21186 ?_)
      obtain ⟨x21220, q21221, hm⟩ := bind_some hm
      obtain ⟨g21222, c21223, e21224⟩ := (((((hS21183).f2).f2).f1).rows_split e21214 (idx_some q21211).2.2).arr_at q21221
      refine WL_step rfl rfl (Exec.index_slice S49 rfl e21224 rfl (idx_some q21221).1 (idx_some q21221).2.1 ?_)
      refine WL_step rfl rfl (Exec.load_arr (F := (encInt .i64)) (((((hS21183).f2).f2).f1).rows_split e21214 (idx_some q21211).2.2) e21224 A3 rfl rfl rfl q21221 (Sub.refl _) ?_)
      intro v21225 q21226
      obtain rfl := encInt_val.1 q21226
      refine WL_step rfl rfl (Exec.assign (v := Value.int .i64 (x21220)) rfl rfl ?_)
      refine WL_step rfl rfl (Exec.assign (v := errV 30 (none)) rfl rfl ?_)
      refine WL_nil (at_normal ?_)
      refine W_ret ?_
      have e21228 := Option.some.inj hm
      subst r
      refine ⟨_, ret2 rfl, ?_⟩
      have hS21229 := ((hS21183).f2).f2
      have hS21230 := (hS21229).f2
      exact ⟨s21181, l21182, hS21230, (tup2 rfl rfl)⟩

theorem N16 : (Try.f16.name == "runtime.NumGoroutine") = false := by kernel_rfl

theorem stn_Network_Earliest_sim {w0 w : World} {s : PHeap} {H : List Res} {n21056 : stn_Network} {p21060 : Int} {b21057 : Nat} {v21058 : Value} {hs21059 : List Value} {r : Int × (Option Int)} (hm : stn_Network_Earliest_p n21056 p21060 = some r) (hS : St w0 s (Res.box b21057 63 [v21058] :: Res.arr encRaw 49 v21058 hs21059 :: Res.rows (encInt .i64) 3 hs21059 n21056.d :: H) w)  :
    Calls Try.prog 16 #[Value.pointer (some ⟨b21057, 0, none⟩), Value.int .i64 (p21060)] w fun e w' => ∃ v, e = .returned v ∧ ((un2 fun (y21254 : Int) (y21255 : (Option Int)) => ∃ (s21256 : PHeap) , PHeap.le s s21256 ∧ St w0 s21256 (Res.box b21057 63 [v21058] :: Res.arr encRaw 49 v21058 hs21059 :: Res.rows (encInt .i64) 3 hs21059 n21056.d :: H) w' ∧ v = Value.tuple #[Value.int .i64 (y21254), errV 30 (y21255)]) r) := by
  unfold stn_Network_Earliest_p at hm
  refine calls_of_W Try.func16 rfl rfl ?_
  refine W_seq ?_
  refine W_region ?_
  refine WL_step rfl rfl (Exec.assign (v := Value.int .i64 (0)) rfl rfl ?_)
  refine WL_step rfl rfl (Exec.assign (v := errV 30 (none)) rfl rfl ?_)
  refine WL_nil (at_normal ?_)
  refine W_seq ?_
  refine W_region ?_
  refine WL_step rfl rfl (Exec.move (v := Value.pointer (some ⟨b21057, 0, none⟩)) rfl rfl ?_)
  refine WL_step rfl rfl (Exec.move (v := Value.int .i64 (p21060)) rfl rfl ?_)
  obtain ⟨t21267, q21268, hm⟩ := bind_some hm
  obtain ⟨y21269, y21270⟩ := t21267
  replace hm := un2_eq hm
  have hS21271 := ((hS).f2).f2
  have hS21272 := (hS21271).f2
  refine WL_step rfl rfl (Exec.call rfl rfl Try.func15 rfl N15 (args_cons rfl (args_cons rfl (args_cons rfl args_nil))) ((stn_Network_Distance_sim q21268 hS21272 ).mono ?_))
  rintro _ w21273 ⟨_, rfl, ⟨s21274, l21275, hS21276, rfl⟩⟩
  refine ⟨_, rfl, ?_⟩
  refine WL_step rfl rfl (Exec.move (v := Value.tuple #[Value.int .i64 (y21269), errV 30 (y21270)]) rfl rfl ?_)
  refine WL_step rfl rfl (Exec.extract (v := Value.int .i64 (y21269)) rfl rfl rfl ?_)
  refine WL_step rfl rfl (Exec.extract (v := errV 30 (y21270)) rfl rfl rfl ?_)
  refine WL_step rfl rfl (Exec.assign (v := Value.int .i64 (y21269)) rfl rfl ?_)
  refine WL_step rfl rfl (Exec.assign (v := errV 30 (y21270)) rfl rfl ?_)
  refine WL_nil (at_normal ?_)
  refine W_seq ?_
  refine W_seq ?_
  refine W_region ?_
  refine WL_step rfl rfl (Exec.move (v := errV 30 (y21270)) rfl rfl ?_)
  refine WL_step rfl rfl (Exec.err_neq_nil (T := 30) Try.underlying26 rfl rfl rfl ?_)
  refine WL_nil (at_normal ?_)
  rcases ite_some hm with ⟨hc21277, hm⟩ | ⟨hc21277, hm⟩
  · refine W_cond_t rfl hc21277 ?_
    refine W_seq ?_
    refine W_region ?_
    refine WL_step rfl rfl (Exec.move (v := errV 30 (y21270)) rfl rfl ?_)
    refine WL_step rfl rfl (Exec.assign (v := Value.int .i64 (0)) rfl rfl ?_)
    refine WL_step rfl rfl (Exec.assign (v := errV 30 (y21270)) rfl rfl ?_)
    refine WL_nil (at_normal ?_)
    refine W_ret (at_ret ?_)
    have e21279 := Option.some.inj hm
    subst r
    refine ⟨_, ret2 rfl, ?_⟩
    have hS21280 := ((hS21276).f2).f2
    have hS21281 := (hS21280).f2
    exact ⟨s21274, l21275, hS21281, (tup2 rfl rfl)⟩
  · refine W_cond_f rfl hc21277 ?_
    replace hc21277 := not_true hc21277
    refine W_skip (at_normal ?_)
    refine W_seq ?_
    refine W_seq ?_
    refine W_region ?_
    refine WL_step rfl rfl (Exec.move (v := Value.int .i64 (y21269)) rfl rfl ?_)
    refine WL_step rfl rfl (Exec.geq rfl rfl rfl ?_)
    refine WL_nil (at_normal ?_)
    rcases ite_some hm with ⟨hc21282, hm⟩ | ⟨hc21282, hm⟩
    · refine W_cond_t rfl hc21282 ?_
      refine W_seq ?_
      refine W_region ?_
      refine WL_step rfl rfl (Exec.makeInterface C30 rfl rfl ?_)
      refine WL_step rfl rfl (Exec.assign (v := Value.int .i64 (0)) rfl rfl ?_)
      refine WL_step rfl rfl (Exec.assign (v := errV 30 (some 3)) rfl rfl ?_)
      refine WL_nil (at_normal ?_)
      refine W_ret (at_ret ?_)
      have e21284 := Option.some.inj hm
      subst r
      refine ⟨_, ret2 rfl, ?_⟩
      have hS21285 := ((hS21276).f2).f2
      have hS21286 := (hS21285).f2
      exact ⟨s21274, l21275, hS21286, (tup2 rfl rfl)⟩
    · refine W_cond_f rfl hc21282 ?_
      replace hc21282 := not_true hc21282
      refine W_skip (at_normal ?_)
      refine W_seq ?_
      refine W_region ?_
      refine WL_step rfl rfl (Exec.move (v := Value.int .i64 (y21269)) rfl rfl ?_)
      refine WL_step rfl rfl (Exec.neg rfl rfl ?_)
      refine WL_step rfl rfl (Exec.assign (v := Value.int .i64 (IntKind.i64.wrap (0 - y21269))) rfl rfl ?_)
      refine WL_step rfl rfl (Exec.assign (v := errV 30 (none)) rfl rfl ?_)
      refine WL_nil (at_normal ?_)
      refine W_ret ?_
      have e21288 := Option.some.inj hm
      subst r
      refine ⟨_, ret2 rfl, ?_⟩
      have hS21289 := ((hS21276).f2).f2
      have hS21290 := (hS21289).f2
      exact ⟨s21274, l21275, hS21290, (tup2 rfl rfl)⟩

theorem N22 : (Try.f22.name == "runtime.NumGoroutine") = false := by kernel_rfl

theorem stn_Network_Times_sim {w0 w : World} {s : PHeap} {H : List Res} {n21050 : stn_Network} {b21051 : Nat} {v21052 : Value} {hs21053 : List Value} {r : (List Int) × (Option Int)} (hm : stn_Network_Times_p n21050 = some r) (hS : St w0 s (Res.box b21051 63 [v21052] :: Res.arr encRaw 49 v21052 hs21053 :: Res.rows (encInt .i64) 3 hs21053 n21050.d :: H) w)  :
    Calls Try.prog 22 #[Value.pointer (some ⟨b21051, 0, none⟩)] w fun e w' => ∃ v, e = .returned v ∧ ((un2 fun (y21514 : (List Int)) (y21515 : (Option Int)) => ∃ (s21522 : PHeap) (v21521 : Value), PHeap.le s s21522 ∧ St w0 s21522 (Res.box b21051 63 [v21052] :: Res.arr encRaw 49 v21052 hs21053 :: Res.rows (encInt .i64) 3 hs21053 n21050.d :: H) w' ∧ v = Value.tuple #[v21521, errV 30 (y21515)] ∧ SliceRep (encInt .i64) s21522 v21521 y21514) r) := by
  unfold stn_Network_Times_p at hm
  refine calls_of_W Try.func22 rfl rfl ?_
  refine W_seq ?_
  refine W_region ?_
  refine WL_step rfl rfl (Exec.assign (v := Value.slice none 0 0) rfl rfl ?_)
  refine WL_step rfl rfl (Exec.assign (v := errV 30 (none)) rfl rfl ?_)
  refine WL_nil (at_normal ?_)
  refine W_seq ?_
  refine W_seq ?_
  refine W_region ?_
  refine WL_step rfl rfl (Exec.move (v := Value.pointer (some ⟨b21051, 0, none⟩)) rfl rfl ?_)
  refine WL_step rfl rfl (Exec.ptr_eql_nil Try.underlying24 rfl rfl rfl ?_)
  refine WL_nil (at_normal ?_)
  refine W_false rfl ?_
  refine W_skip (at_normal ?_)
  refine W_seq ?_
  refine W_region ?_
  refine WL_step rfl rfl (Exec.assign (v := Value.slice none 0 0) rfl rfl ?_)
  refine WL_nil (at_normal ?_)
  refine W_seq ?_
  refine W_seq ?_
  refine W_region ?_
  refine WL_step rfl rfl (Exec.move (v := Value.pointer (some ⟨b21051, 0, none⟩)) rfl rfl ?_)
  refine WL_step rfl rfl (Exec.nilCheck_ptr rfl rfl ?_)
  refine WL_step rfl rfl (Exec.field F63_0 rfl rfl rfl ?_)
  refine WL_step rfl rfl (Exec.load_box (hS) A61 rfl rfl rfl ?_)
  refine WL_step rfl rfl (Exec.len_grid (((hS).f2).f2) (((hS).f2).f2).f1.rows_len S61 rfl rfl ?_)
  refine WL_step rfl rfl (Exec.move (v := Value.int .i64 (0)) rfl rfl ?_)
  refine WL_nil (at_normal ?_)
  obtain ⟨c21656, hB21657, hr21658, hn21659, hb21660⟩ := ctl_some hm
  refine W_mid (M := fun f' w' => ∃ s', (c21656 = .next s' ∨ c21656 = .brk s') ∧ (fun (out21654 : (List Int)) => ∃ (s21662 : PHeap) (v21655 : Value), PHeap.le s s21662 ∧ St w0 s21662 (Res.box b21051 63 [v21052] :: Res.arr encRaw 49 v21052 hs21053 :: Res.rows (encInt .i64) 3 hs21053 n21050.d :: Res.arr (encInt .i64) 3 v21655 out21654 :: H) w' ∧ f' 0 = Value.pointer (some ⟨b21051, 0, none⟩) ∧ f' 4 = v21655 ∧ f' 15 = Value.int .i64 ((n21050.d.length : Int))) s') ?_ ?_
  · refine W_block (W_forC (fun k' s' f' w' => (fun (out21568 : (List Int)) => ∃ (s21661 : PHeap) (v21569 : Value), PHeap.le s s21661 ∧ St w0 s21661 (Res.box b21051 63 [v21052] :: Res.arr encRaw 49 v21052 hs21053 :: Res.rows (encInt .i64) 3 hs21053 n21050.d :: Res.arr (encInt .i64) 3 v21569 out21568 :: H) w' ∧ f' 0 = Value.pointer (some ⟨b21051, 0, none⟩) ∧ f' 4 = v21569 ∧ f' 15 = Value.int .i64 ((n21050.d.length : Int)) ∧ f' 16 = Value.int .i64 (k' : Int)) s') hB21657 ?_ ?_ ?_)
    · have hS21663 := hS.nilArr (encInt .i64) 3
      have hS21664 := ((hS21663).f3).f3
      have hS21665 := (hS21664).f3
      exact ⟨s, (Value.slice none 0 0), (PHeap.le_refl _), hS21665, rfl, rfl, rfl, rfl⟩
    · intro i21523 out21568 c21667 f21668 w21669 hi21673 hI21670 hm21671 hres21672
      obtain ⟨s21674, v21569, l21675, hS21676, p21677, p21678, p21679, x21680⟩ := hI21670
      refine W_seq ?_
      refine W_region ?_
      refine WL_step rfl rfl (Exec.lss rfl x21680 p21679 ?_)
      refine WL_nil (at_normal ?_)
      refine W_seq ?_
      refine W_true (congrArg Value.bool (decide_eq_true (by omega))) ?_
      refine W_skip (at_normal ?_)
      refine W_seq ?_
      refine W_block ?_
      refine W_seq ?_
      refine W_region ?_
      refine WL_step rfl rfl (Exec.move (v := Value.int .i64 ((i21523 : Int))) rfl x21680 ?_)
      refine WL_step rfl rfl (Exec.assign (v := Value.int .i64 ((i21523 : Int))) rfl rfl ?_)
      refine WL_nil (at_normal ?_)
      refine W_seq ?_
      refine W_region ?_
      refine WL_step rfl rfl (Exec.move (v := Value.pointer (some ⟨b21051, 0, none⟩)) rfl p21677 ?_)
      refine WL_step rfl rfl (Exec.move (v := Value.int .i64 ((i21523 : Int))) rfl rfl ?_)
      obtain ⟨t21691, q21692, hm21671⟩ := bind_some hm21671
      obtain ⟨y21693, y21694⟩ := t21691
      replace hm21671 := un2_eq hm21671
      have hS21695 := ((hS21676).f2).f2
      have hS21696 := (hS21695).f2
      refine WL_step rfl rfl (Exec.call rfl rfl Try.func16 rfl N16 (args_cons rfl (args_cons rfl args_nil)) ((stn_Network_Earliest_sim q21692 hS21696 ).mono ?_))
      rintro _ w21697 ⟨_, rfl, ⟨s21698, l21699, hS21700, rfl⟩⟩
      refine ⟨_, rfl, ?_⟩
      refine WL_step rfl rfl (Exec.move (v := Value.tuple #[Value.int .i64 (y21693), errV 30 (y21694)]) rfl rfl ?_)
      refine WL_step rfl rfl (Exec.extract (v := Value.int .i64 (y21693)) rfl rfl rfl ?_)
      refine WL_step rfl rfl (Exec.extract (v := errV 30 (y21694)) rfl rfl rfl ?_)
      refine WL_step rfl rfl (Exec.assign (v := Value.int .i64 (y21693)) rfl rfl ?_)
      refine WL_step rfl rfl (Exec.assign (v := errV 30 (y21694)) rfl rfl ?_)
      refine WL_nil (at_normal ?_)
      refine W_seq ?_
      refine W_seq ?_
      refine W_region ?_
      refine WL_step rfl rfl (Exec.move (v := errV 30 (y21694)) rfl rfl ?_)
      refine WL_step rfl rfl (Exec.err_neq_nil (T := 30) Try.underlying26 rfl rfl rfl ?_)
      refine WL_nil (at_normal ?_)
      rcases ite_some hm21671 with ⟨hc21701, hm21671⟩ | ⟨hc21701, hm21671⟩
      · refine W_cond_t rfl hc21701 ?_
        refine W_seq ?_
        refine W_region ?_
        refine WL_step rfl rfl (Exec.move (v := errV 30 (y21694)) rfl rfl ?_)
        refine WL_step rfl rfl (Exec.assign (v := Value.slice none 0 0) rfl rfl ?_)
        refine WL_step rfl rfl (Exec.assign (v := errV 30 (y21694)) rfl rfl ?_)
        refine WL_nil (at_normal ?_)
        refine W_ret (at_ret (ib_ret (at_ret (at_ret (ib_ret (at_ret (at_ret ?_)))))))
        have e21702 := Option.some.inj hm21671
        subst c21667
        have hq21703 := hr21658 _ (hres21672 (by intro _ h; cases h))
        have e21704 := Option.some.inj hq21703
        subst r
        refine ⟨_, ret2 rfl, ?_⟩
        have hS21705 := ((hS21700).f3).drop
        have hS21706 := ((hS21705).f2).f2
        have hS21707 := (hS21706).f2
        exact ⟨s21698, (Value.slice none 0 0), (PHeap.le.trans l21675 l21699), hS21707, (tup2 rfl rfl), (SliceRep.nil _ _)⟩
      · refine W_cond_f rfl hc21701 ?_
        replace hc21701 := not_true hc21701
        refine W_skip (at_normal ?_)
        refine W_region ?_
        refine WL_step rfl rfl (Exec.move (v := v21569) rfl p21678 ?_)
        refine WL_step rfl rfl (Exec.move (v := Value.int .i64 (y21693)) rfl rfl ?_)
        refine WL_step rfl rfl (Exec.buildSlice (Te := 3) (cs := [Value.int .i64 (y21693)]) hS21700 rfl (parts_cons (c := [Value.int .i64 (y21693)]) (cells_of rfl rfl) parts_nil) (fun _ => by kernel_rfl) ?_)
        intro b21717 w21718 hS21719
        obtain ⟨l21720, q21721, hm21671⟩ := bind_some hm21671
        have hS21722 := (hS21719).f4
        refine WL_step rfl rfl (Exec.append_box (E := (encInt .i64)) (ys := [y21693]) hS21722 S49 Z3 rfl (by decide) rfl rfl rfl rfl ⟨[Value.int .i64 (y21693)], [], rfl, rfl, rfl⟩ rfl q21721 ?_)
        intro v21723 w21724 hS21725
        refine WL_step rfl rfl (Exec.assign (v := v21723) rfl rfl ?_)
        refine WL_nil (ib_normal (at_normal ?_))
        refine W_region ?_
        refine WL_step rfl rfl (Exec.add rfl x21680 rfl ?_)
        refine WL_step rfl rfl (Exec.move (v := Value.int .i64 (IntKind.i64.wrap ((i21523 : Int) + 1))) rfl rfl ?_)
        refine WL_nil (at_normal ?_)
        have e21726 := Option.some.inj hm21671
        subst c21667
        have hS21727 := ((hS21725).f3).f3
        have hS21728 := (hS21727).f3
        refine ⟨_, rfl, ?_⟩; exact ⟨s21698, v21723, (PHeap.le.trans l21675 l21699), hS21728, p21677, rfl, p21679, (Eq.trans rfl (wrap_up hi21673 (by have h := (((hS).f2).f2).f1.rows_len; have h2 := (((hS).f2).f2).arr_le; omega)))⟩
    · intro out21568 f21729 w21730 hI21731 hres21732
      obtain ⟨s21733, v21569, l21734, hS21735, p21736, p21737, p21738, x21739⟩ := hI21731
      refine W_seq ?_
      refine W_region ?_
      refine WL_step rfl rfl (Exec.lss rfl x21739 p21738 ?_)
      refine WL_nil (at_normal ?_)
      refine W_seq ?_
      refine W_false (congrArg Value.bool (decide_eq_false (by omega))) ?_
      refine W_exit (at_exit (at_exit (ib_here (at_normal ?_))))
      have hS21740 := (hS21735).f3
      have hS21741 := ((hS21740).f3).f3
      have hS21742 := (hS21741).f3
      refine ⟨_, .inl hres21732, ?_⟩; exact ⟨s21733, v21569, l21734, hS21742, p21736, p21737, p21738⟩
  · rintro f21743 w21744 ⟨out21654, hc21745, hM21746⟩
    have hm := hc21745.elim (hn21659 _) (hb21660 _)
    clear hc21745
    obtain ⟨s21747, v21655, l21748, hS21749, p21750, p21751, p21752⟩ := hM21746
    refine (at_normal ?_)
    refine W_seq ?_
    refine W_region ?_
    refine WL_step rfl rfl (Exec.move (v := v21655) rfl p21751 ?_)
    refine WL_step rfl rfl (Exec.assign (v := v21655) rfl rfl ?_)
    refine WL_step rfl rfl (Exec.assign (v := errV 30 (none)) rfl rfl ?_)
    refine WL_nil (at_normal ?_)
    refine W_ret ?_
    have e21754 := Option.some.inj hm
    subst r
    refine ⟨_, ret2 rfl, ?_⟩
    have hS21755 := (hS21749).f3
    obtain ⟨s21756, l21757, hS21758, r21759⟩ := hS21755.freezeArr
    have hS21760 := ((hS21758).f2).f2
    have hS21761 := (hS21760).f2
    exact ⟨s21756, v21655, (PHeap.le.trans l21748 l21757), hS21761, (tup2 rfl rfl), r21759⟩

theorem N17 : (Try.f17.name == "runtime.NumGoroutine") = false := by kernel_rfl

theorem stn_Network_Latest_sim {w0 w : World} {s : PHeap} {H : List Res} {n21786 : stn_Network} {p21790 : Int} {b21787 : Nat} {v21788 : Value} {hs21789 : List Value} {r : Int × (Option Int)} (hm : stn_Network_Latest_p n21786 p21790 = some r) (hS : St w0 s (Res.box b21787 63 [v21788] :: Res.arr encRaw 49 v21788 hs21789 :: Res.rows (encInt .i64) 3 hs21789 n21786.d :: H) w)  :
    Calls Try.prog 17 #[Value.pointer (some ⟨b21787, 0, none⟩), Value.int .i64 (p21790)] w fun e w' => ∃ v, e = .returned v ∧ ((un2 fun (y21814 : Int) (y21815 : (Option Int)) => ∃ (s21816 : PHeap) , PHeap.le s s21816 ∧ St w0 s21816 (Res.box b21787 63 [v21788] :: Res.arr encRaw 49 v21788 hs21789 :: Res.rows (encInt .i64) 3 hs21789 n21786.d :: H) w' ∧ v = Value.tuple #[Value.int .i64 (y21814), errV 30 (y21815)]) r) := by
  unfold stn_Network_Latest_p at hm
  refine calls_of_W Try.func17 rfl rfl ?_
  refine W_seq ?_
  refine W_region ?_
  refine WL_step rfl rfl (Exec.assign (v := Value.int .i64 (0)) rfl rfl ?_)
  refine WL_step rfl rfl (Exec.assign (v := errV 30 (none)) rfl rfl ?_)
  refine WL_nil (at_normal ?_)
  refine W_seq ?_
  refine W_region ?_
  refine WL_step rfl rfl (Exec.move (v := Value.pointer (some ⟨b21787, 0, none⟩)) rfl rfl ?_)
  refine WL_step rfl rfl (Exec.move (v := Value.int .i64 (p21790)) rfl rfl ?_)
  obtain ⟨t21827, q21828, hm⟩ := bind_some hm
  obtain ⟨y21829, y21830⟩ := t21827
  replace hm := un2_eq hm
  have hS21831 := ((hS).f2).f2
  have hS21832 := (hS21831).f2
  refine WL_step rfl rfl (Exec.call rfl rfl Try.func15 rfl N15 (args_cons rfl (args_cons rfl (args_cons rfl args_nil))) ((stn_Network_Distance_sim q21828 hS21832 ).mono ?_))
  rintro _ w21833 ⟨_, rfl, ⟨s21834, l21835, hS21836, rfl⟩⟩
  refine ⟨_, rfl, ?_⟩
  refine WL_step rfl rfl (Exec.move (v := Value.tuple #[Value.int .i64 (y21829), errV 30 (y21830)]) rfl rfl ?_)
  refine WL_step rfl rfl (Exec.extract (v := Value.int .i64 (y21829)) rfl rfl rfl ?_)
  refine WL_step rfl rfl (Exec.extract (v := errV 30 (y21830)) rfl rfl rfl ?_)
  refine WL_step rfl rfl (Exec.assign (v := Value.int .i64 (y21829)) rfl rfl ?_)
  refine WL_step rfl rfl (Exec.assign (v := errV 30 (y21830)) rfl rfl ?_)
  refine WL_nil (at_normal ?_)
  refine W_seq ?_
  refine W_seq ?_
  refine W_region ?_
  refine WL_step rfl rfl (Exec.move (v := errV 30 (y21830)) rfl rfl ?_)
  refine WL_step rfl rfl (Exec.err_neq_nil (T := 30) Try.underlying26 rfl rfl rfl ?_)
  refine WL_nil (at_normal ?_)
  rcases ite_some hm with ⟨hc21837, hm⟩ | ⟨hc21837, hm⟩
  · refine W_cond_t rfl hc21837 ?_
    refine W_seq ?_
    refine W_region ?_
    refine WL_step rfl rfl (Exec.move (v := errV 30 (y21830)) rfl rfl ?_)
    refine WL_step rfl rfl (Exec.assign (v := Value.int .i64 (0)) rfl rfl ?_)
    refine WL_step rfl rfl (Exec.assign (v := errV 30 (y21830)) rfl rfl ?_)
    refine WL_nil (at_normal ?_)
    refine W_ret (at_ret ?_)
    have e21839 := Option.some.inj hm
    subst r
    refine ⟨_, ret2 rfl, ?_⟩
    have hS21840 := ((hS21836).f2).f2
    have hS21841 := (hS21840).f2
    exact ⟨s21834, l21835, hS21841, (tup2 rfl rfl)⟩
  · refine W_cond_f rfl hc21837 ?_
    replace hc21837 := not_true hc21837
    refine W_skip (at_normal ?_)
    refine W_seq ?_
    refine W_seq ?_
    refine W_region ?_
    refine WL_step rfl rfl (Exec.move (v := Value.int .i64 (y21829)) rfl rfl ?_)
    refine WL_step rfl rfl (Exec.geq rfl rfl rfl ?_)
    refine WL_nil (at_normal ?_)
    rcases ite_some hm with ⟨hc21842, hm⟩ | ⟨hc21842, hm⟩
    · refine W_cond_t rfl hc21842 ?_
      refine W_seq ?_
      refine W_region ?_
      refine WL_step rfl rfl (Exec.makeInterface C30 rfl rfl ?_)
      refine WL_step rfl rfl (Exec.assign (v := Value.int .i64 (0)) rfl rfl ?_)
      refine WL_step rfl rfl (Exec.assign (v := errV 30 (some 3)) rfl rfl ?_)
      refine WL_nil (at_normal ?_)
      refine W_ret (at_ret ?_)
      have e21844 := Option.some.inj hm
      subst r
      refine ⟨_, ret2 rfl, ?_⟩
      have hS21845 := ((hS21836).f2).f2
      have hS21846 := (hS21845).f2
      exact ⟨s21834, l21835, hS21846, (tup2 rfl rfl)⟩
    · refine W_cond_f rfl hc21842 ?_
      replace hc21842 := not_true hc21842
      refine W_skip (at_normal ?_)
      refine W_seq ?_
      refine W_region ?_
      refine WL_step rfl rfl (Exec.move (v := Value.int .i64 (y21829)) rfl rfl ?_)
      refine WL_step rfl rfl (Exec.assign (v := Value.int .i64 (y21829)) rfl rfl ?_)
      refine WL_step rfl rfl (Exec.assign (v := errV 30 (none)) rfl rfl ?_)
      refine WL_nil (at_normal ?_)
      refine W_ret ?_
      have e21848 := Option.some.inj hm
      subst r
      refine ⟨_, ret2 rfl, ?_⟩
      have hS21849 := ((hS21836).f2).f2
      have hS21850 := (hS21849).f2
      exact ⟨s21834, l21835, hS21850, (tup2 rfl rfl)⟩

theorem N23 : (Try.f23.name == "runtime.NumGoroutine") = false := by kernel_rfl

theorem base_Ints_sim {w0 w : World} {s : PHeap} {H : List Res} {a21880 : (List Int)} {b21883 : (List Int)} {v21881 : Value} {v21884 : Value} {r : Bool} (hm : base_Ints_p a21880 b21883 = some r) (hS : St w0 s (H) w) (a21882 : SliceRep (encInt .i64) s v21881 a21880) (a21885 : SliceRep (encInt .i64) s v21884 b21883) :
    Calls Try.prog 23 #[v21881, v21884] w fun e w' => ∃ v, e = .returned v ∧ ((fun (y22667 : Bool) => ∃ (s22668 : PHeap) , PHeap.le s s22668 ∧ St w0 s22668 (H) w' ∧ v = Value.bool (y22667)) r) := by
  unfold base_Ints_p at hm
  refine calls_of_W Try.func23 rfl rfl ?_
  refine W_seq ?_
  refine W_region ?_
  refine WL_step rfl rfl (Exec.assign (v := Value.bool (false)) rfl rfl ?_)
  refine WL_nil (at_normal ?_)
  refine W_seq ?_
  refine W_seq ?_
  refine W_region ?_
  refine WL_step rfl rfl (Exec.move (v := v21881) rfl rfl ?_)
  refine WL_step rfl rfl (Exec.len_rep S49 rfl rfl a21882 ?_)
  refine WL_step rfl rfl (Exec.move (v := v21884) rfl rfl ?_)
  refine WL_step rfl rfl (Exec.len_rep S49 rfl rfl a21885 ?_)
  refine WL_step rfl rfl (Exec.neq rfl rfl rfl ?_)
  refine WL_nil (at_normal ?_)
  rcases ite_some hm with ⟨hc22669, hm⟩ | ⟨hc22669, hm⟩
  · refine W_cond_t rfl hc22669 ?_
    refine W_seq ?_
    refine W_region ?_
    refine WL_step rfl rfl (Exec.assign (v := Value.bool (false)) rfl rfl ?_)
    refine WL_nil (at_normal ?_)
    refine W_ret (at_ret ?_)
    have e22671 := Option.some.inj hm
    subst r
    refine ⟨_, ret1 rfl, ?_⟩
    exact ⟨s, (PHeap.le_refl _), hS, rfl⟩
  · refine W_cond_f rfl hc22669 ?_
    replace hc22669 := not_true hc22669
    refine W_skip (at_normal ?_)
    refine W_seq ?_
    refine W_seq ?_
    refine W_region ?_
    refine WL_step rfl rfl (Exec.move (v := v21881) rfl rfl ?_)
    refine WL_step rfl rfl (Exec.len_rep S49 rfl rfl a21882 ?_)
    refine WL_step rfl rfl (Exec.move (v := Value.int .i64 (0)) rfl rfl ?_)
    refine WL_nil (at_normal ?_)
    obtain ⟨c23161, hB23162, hr23163, hn23164, hb23165⟩ := ctl_some hm
    refine W_mid (M := fun f' w' => ∃ s', (c23161 = .next s' ∨ c23161 = .brk s') ∧ (fun (_ : Unit) => ∃ (s23167 : PHeap) , PHeap.le s s23167 ∧ St w0 s23167 (H) w' ∧ f' 0 = v21881 ∧ f' 1 = v21884 ∧ f' 12 = Value.int .i64 ((a21880.length : Int))) s') ?_ ?_
    · refine W_block (W_forC (fun k' s' f' w' => (fun (_ : Unit) => ∃ (s23166 : PHeap) , PHeap.le s s23166 ∧ St w0 s23166 (H) w' ∧ f' 0 = v21881 ∧ f' 1 = v21884 ∧ f' 12 = Value.int .i64 ((a21880.length : Int)) ∧ f' 13 = Value.int .i64 (k' : Int)) s') hB23162 ?_ ?_ ?_)
      · exact ⟨s, (PHeap.le_refl _), hS, rfl, rfl, rfl, rfl⟩
      · intro i22672 t23175 c23169 f23170 w23171 hi23176 hI23172 hm23173 hres23174
        obtain ⟨s23177, l23178, hS23179, p23180, p23181, p23182, x23183⟩ := hI23172
        refine W_seq ?_
        refine W_region ?_
        refine WL_step rfl rfl (Exec.lss rfl x23183 p23182 ?_)
        refine WL_nil (at_normal ?_)
        refine W_seq ?_
        refine W_true (congrArg Value.bool (decide_eq_true (by omega))) ?_
        refine W_skip (at_normal ?_)
        refine W_seq ?_
        refine W_block ?_
        refine W_seq ?_
        refine W_region ?_
        refine WL_step rfl rfl (Exec.move (v := Value.int .i64 ((i22672 : Int))) rfl x23183 ?_)
        refine WL_step rfl rfl (Exec.assign (v := Value.int .i64 ((i22672 : Int))) rfl rfl ?_)
        refine WL_nil (at_normal ?_)
        refine W_seq ?_
        obtain ⟨x23309, q23310, hm23173⟩ := bind_some hm23173
        obtain ⟨x23311, q23312, hm23173⟩ := bind_some hm23173
        refine W_drawn (n0 := 9) hmix (by kernel_rfl) [RP.eq (v21881), RP.eq (Value.int .i64 ((i22672 : Int))), RP.at (encInt .i64) x23309, RP.eq (Value.int .i64 (x23309)), RP.eq (v21884), RP.eq (Value.int .i64 ((i22672 : Int))), RP.at (encInt .i64) x23311, RP.eq (Value.int .i64 (x23311)), RP.eq (Value.bool (!decide (x23309 = x23311)))] hS23179 (HeadAll.cons ?_ (HeadAll.cons ?_ (HeadAll.cons ?_ (HeadAll.cons ?_ (HeadAll.cons ?_ (HeadAll.cons ?_ (HeadAll.cons ?_ (HeadAll.cons ?_ (HeadAll.cons ?_ (HeadAll.nil)))))))))) ?_
        · intro g23313 s23314 w23315 l23316 hS23317 fr23318 pre23319
          refine head_run rfl (Exec.move (v := v21881) rfl (Eq.trans (fr23318 0 rfl) p23180) ?_)
          exact head_done hS23317 rfl
        · intro g23320 s23321 w23322 l23323 hS23324 fr23325 pre23326
          refine head_run rfl (Exec.move (v := Value.int .i64 ((i22672 : Int))) rfl (fr23325 5 rfl) ?_)
          exact head_done hS23324 rfl
        · intro g23327 s23328 w23329 l23330 hS23331 fr23332 pre23333
          have p23334 : g23327 16 = (v21881) := pre23333 0 _ rfl rfl
          have p23335 : g23327 17 = (Value.int .i64 ((i22672 : Int))) := pre23333 1 _ rfl rfl
          refine head_run rfl (Exec.index_rep S49 rfl p23334 p23335 (a21882.mono (PHeap.le.trans l23178 l23330)) q23310 ?_)
          intro b23336 o23337 a23338
          exact head_done hS23331 ⟨_, _, rfl, a23338⟩
        · intro g23339 s23340 w23341 l23342 hS23343 fr23344 pre23345
          obtain ⟨b23347, o23348, e23349, a23350⟩ := (show ∃ b off, g23339 18 = .pointer (some ⟨b, off, none⟩) ∧ At s23340 b off (encInt .i64) x23309 from pre23345 0 _ rfl rfl)
          refine head_run rfl (Exec.load_at (E := (encInt .i64)) hS23343 A3 rfl e23349 rfl a23350 ?_)
          intro v23351 q23352
          exact head_done hS23343 (encInt_val.1 q23352)
        · intro g23353 s23354 w23355 l23356 hS23357 fr23358 pre23359
          refine head_run rfl (Exec.move (v := v21884) rfl (Eq.trans (fr23358 1 rfl) p23181) ?_)
          exact head_done hS23357 rfl
        · intro g23360 s23361 w23362 l23363 hS23364 fr23365 pre23366
          refine head_run rfl (Exec.move (v := Value.int .i64 ((i22672 : Int))) rfl (fr23365 5 rfl) ?_)
          exact head_done hS23364 rfl
        · intro g23367 s23368 w23369 l23370 hS23371 fr23372 pre23373
          have p23374 : g23367 20 = (v21884) := pre23373 0 _ rfl rfl
          have p23375 : g23367 21 = (Value.int .i64 ((i22672 : Int))) := pre23373 1 _ rfl rfl
          refine head_run rfl (Exec.index_rep S49 rfl p23374 p23375 (a21885.mono (PHeap.le.trans l23178 l23370)) q23312 ?_)
          intro b23376 o23377 a23378
          exact head_done hS23371 ⟨_, _, rfl, a23378⟩
        · intro g23379 s23380 w23381 l23382 hS23383 fr23384 pre23385
          obtain ⟨b23387, o23388, e23389, a23390⟩ := (show ∃ b off, g23379 22 = .pointer (some ⟨b, off, none⟩) ∧ At s23380 b off (encInt .i64) x23311 from pre23385 0 _ rfl rfl)
          refine head_run rfl (Exec.load_at (E := (encInt .i64)) hS23383 A3 rfl e23389 rfl a23390 ?_)
          intro v23391 q23392
          exact head_done hS23383 (encInt_val.1 q23392)
        · intro g23393 s23394 w23395 l23396 hS23397 fr23398 pre23399
          have p23400 : g23393 19 = (Value.int .i64 (x23309)) := pre23399 0 _ rfl rfl
          have p23401 : g23393 23 = (Value.int .i64 (x23311)) := pre23399 1 _ rfl rfl
          refine head_run rfl (Exec.neq rfl p23400 p23401 ?_)
          exact head_done hS23397 rfl
        · intro g23402 s23403 w23404 l23405 hS23406 fr23407 hR23408
          have p23409 : g23402 16 = (v21881) := hR23408 0 rfl
          have p23410 : g23402 17 = (Value.int .i64 ((i22672 : Int))) := hR23408 1 rfl
          obtain ⟨b23412, o23413, e23414, a23415⟩ := (show ∃ b off, g23402 18 = .pointer (some ⟨b, off, none⟩) ∧ At s23403 b off (encInt .i64) x23309 from hR23408 2 rfl)
          have p23416 : g23402 19 = (Value.int .i64 (x23309)) := hR23408 3 rfl
          have p23417 : g23402 20 = (v21884) := hR23408 4 rfl
          have p23418 : g23402 21 = (Value.int .i64 ((i22672 : Int))) := hR23408 5 rfl
          obtain ⟨b23420, o23421, e23422, a23423⟩ := (show ∃ b off, g23402 22 = .pointer (some ⟨b, off, none⟩) ∧ At s23403 b off (encInt .i64) x23311 from hR23408 6 rfl)
          have p23424 : g23402 23 = (Value.int .i64 (x23311)) := hR23408 7 rfl
          have p23425 : g23402 24 = (Value.bool (!decide (x23309 = x23311))) := hR23408 8 rfl
          refine WL_nil (at_normal ?_)
          rcases ite_some hm23173 with ⟨hc23426, hm23173⟩ | ⟨hc23426, hm23173⟩
          · refine W_cond_t p23425 hc23426 ?_
            refine W_seq ?_
            refine W_region ?_
            refine WL_step rfl rfl (Exec.assign (v := Value.bool (false)) rfl rfl ?_)
            refine WL_nil (at_normal ?_)
            refine W_ret (ib_ret (at_ret (at_ret (ib_ret (at_ret (at_ret ?_))))))
            have e23427 := Option.some.inj hm23173
            subst c23169
            have hq23428 := hr23163 _ (hres23174 (by intro _ h; cases h))
            have e23429 := Option.some.inj hq23428
            subst r
            refine ⟨_, ret1 rfl, ?_⟩
            exact ⟨s23403, (PHeap.le.trans l23178 l23405), hS23406, rfl⟩
          · refine W_cond_f p23425 hc23426 ?_
            replace hc23426 := not_true hc23426
            refine W_skip (ib_normal (at_normal ?_))
            refine W_region ?_
            refine WL_step rfl rfl (Exec.add rfl (Eq.trans (fr23407 13 rfl) x23183) rfl ?_)
            refine WL_step rfl rfl (Exec.move (v := Value.int .i64 (IntKind.i64.wrap ((i22672 : Int) + 1))) rfl rfl ?_)
            refine WL_nil (at_normal ?_)
            have e23430 := Option.some.inj hm23173
            subst c23169
            refine ⟨_, rfl, ?_⟩; exact ⟨s23403, (PHeap.le.trans l23178 l23405), hS23406, (Eq.trans (fr23407 0 rfl) p23180), (Eq.trans (fr23407 1 rfl) p23181), (Eq.trans (fr23407 12 rfl) p23182), (Eq.trans rfl (wrap_up hi23176 (SliceRep.le a21882)))⟩
      · intro t23431 f23432 w23433 hI23434 hres23435
        obtain ⟨s23436, l23437, hS23438, p23439, p23440, p23441, x23442⟩ := hI23434
        refine W_seq ?_
        refine W_region ?_
        refine WL_step rfl rfl (Exec.lss rfl x23442 p23441 ?_)
        refine WL_nil (at_normal ?_)
        refine W_seq ?_
        refine W_false (congrArg Value.bool (decide_eq_false (by omega))) ?_
        refine W_exit (at_exit (at_exit (ib_here (at_normal ?_))))
        refine ⟨_, .inl hres23435, ?_⟩; exact ⟨s23436, l23437, hS23438, p23439, p23440, p23441⟩
    · rintro f23443 w23444 ⟨t23445, hc23446, hM23447⟩
      have hm := hc23446.elim (hn23164 _) (hb23165 _)
      clear hc23446
      obtain ⟨s23448, l23449, hS23450, p23451, p23452, p23453⟩ := hM23447
      refine (at_normal ?_)
      refine W_seq ?_
      refine W_region ?_
      refine WL_step rfl rfl (Exec.assign (v := Value.bool (true)) rfl rfl ?_)
      refine WL_nil (at_normal ?_)
      refine W_ret ?_
      have e23455 := Option.some.inj hm
      subst r
      refine ⟨_, ret1 rfl, ?_⟩
      exact ⟨s23448, l23449, hS23450, rfl⟩

theorem ZZ30 : (Try.prog.info? 30).map (·.zero) = some (some (.int .i64 0)) := by kernel_rfl

theorem N13 : (Try.f13.name == "runtime.NumGoroutine") = false := by kernel_rfl

theorem base_Num_sim {w0 w : World} {s : PHeap} {H : List Res} {e23467 : (Option Int)}  {r : Int} (hm : base_Num_p e23467 = some r) (hS : St w0 s (H) w)  :
    Calls Try.prog 13 #[errV 30 (e23467)] w fun e w' => ∃ v, e = .returned v ∧ ((fun (y23471 : Int) => ∃ (s23472 : PHeap) , PHeap.le s s23472 ∧ St w0 s23472 (H) w' ∧ v = Value.int .i64 (y23471)) r) := by
  unfold base_Num_p at hm
  refine calls_of_W Try.func13 rfl rfl ?_
  refine W_seq ?_
  refine W_region ?_
  refine WL_step rfl rfl (Exec.assign (v := Value.int .i64 (0)) rfl rfl ?_)
  refine WL_nil (at_normal ?_)
  refine W_seq ?_
  refine W_seq ?_
  refine W_region ?_
  refine WL_step rfl rfl (Exec.move (v := errV 30 (e23467)) rfl rfl ?_)
  refine WL_step rfl rfl (Exec.err_eql_nil (T := 30) Try.underlying26 rfl rfl rfl ?_)
  refine WL_nil (at_normal ?_)
  rcases ite_some hm with ⟨hc23473, hm⟩ | ⟨hc23473, hm⟩
  · refine W_cond_t rfl hc23473 ?_
    refine W_seq ?_
    refine W_region ?_
    refine WL_step rfl rfl (Exec.assign (v := Value.int .i64 (0)) rfl rfl ?_)
    refine WL_nil (at_normal ?_)
    refine W_ret (at_ret ?_)
    have e23475 := Option.some.inj hm
    subst r
    refine ⟨_, ret1 rfl, ?_⟩
    exact ⟨s, (PHeap.le_refl _), hS, rfl⟩
  · refine W_cond_f rfl hc23473 ?_
    replace hc23473 := not_true hc23473
    refine W_skip (at_normal ?_)
    refine W_seq ?_
    refine W_seq ?_
    refine W_region ?_
    refine WL_step rfl rfl (Exec.move (v := errV 30 (e23467)) rfl rfl ?_)
    refine WL_step rfl rfl (Exec.err_assert Try.underlying30 ZZ30 rfl rfl ?_)
    refine WL_step rfl rfl (Exec.move (v := Value.tuple #[Value.int .i64 (e23467.getD 0), Value.bool (e23467.isSome)]) rfl rfl ?_)
    refine WL_step rfl rfl (Exec.extract (v := Value.int .i64 (e23467.getD 0)) rfl rfl rfl ?_)
    refine WL_step rfl rfl (Exec.extract (v := Value.bool (e23467.isSome)) rfl rfl rfl ?_)
    refine WL_step rfl rfl (Exec.assign (v := Value.int .i64 (e23467.getD 0)) rfl rfl ?_)
    refine WL_step rfl rfl (Exec.assign (v := Value.bool (e23467.isSome)) rfl rfl ?_)
    refine WL_nil (at_normal ?_)
    refine W_seq ?_
    refine W_region ?_
    refine WL_step rfl rfl (Exec.move (v := Value.bool (e23467.isSome)) rfl rfl ?_)
    refine WL_nil (at_normal ?_)
    rcases ite_some hm with ⟨hc23476, hm⟩ | ⟨hc23476, hm⟩
    · refine W_cond_t rfl hc23476 ?_
      refine W_seq ?_
      refine W_region ?_
      refine WL_step rfl rfl (Exec.move (v := Value.int .i64 (e23467.getD 0)) rfl rfl ?_)
      refine WL_step rfl rfl (Exec.assign (v := Value.int .i64 (e23467.getD 0)) rfl rfl ?_)
      refine WL_nil (at_normal ?_)
      refine W_ret (at_ret ?_)
      have e23478 := Option.some.inj hm
      subst r
      refine ⟨_, ret1 rfl, ?_⟩
      exact ⟨s, (PHeap.le_refl _), hS, rfl⟩
    · refine W_cond_f rfl hc23476 ?_
      replace hc23476 := not_true hc23476
      refine W_skip (at_normal ?_)
      refine W_seq ?_
      refine W_region ?_
      refine WL_step rfl rfl (Exec.assign (v := Value.int .i64 ((-1))) rfl rfl ?_)
      refine WL_nil (at_normal ?_)
      refine W_ret ?_
      have e23480 := Option.some.inj hm
      subst r
      refine ⟨_, ret1 rfl, ?_⟩
      exact ⟨s, (PHeap.le_refl _), hS, rfl⟩

theorem N11 : (Try.f11.name == "runtime.NumGoroutine") = false := by kernel_rfl

theorem base_Is_sim {w0 w : World} {s : PHeap} {H : List Res} {e23464 : (Option Int)} {code23465 : Int}  {r : Bool} (hm : base_Is_p e23464 code23465 = some r) (hS : St w0 s (H) w)  :
    Calls Try.prog 11 #[errV 30 (e23464), Value.int .i64 (code23465)] w fun e w' => ∃ v, e = .returned v ∧ ((fun (y23499 : Bool) => ∃ (s23500 : PHeap) , PHeap.le s s23500 ∧ St w0 s23500 (H) w' ∧ v = Value.bool (y23499)) r) := by
  unfold base_Is_p at hm
  refine calls_of_W Try.func11 rfl rfl ?_
  refine W_seq ?_
  refine W_region ?_
  refine WL_step rfl rfl (Exec.assign (v := Value.bool (false)) rfl rfl ?_)
  refine WL_nil (at_normal ?_)
  refine W_seq ?_
  refine W_mid (M := fun f' w' => ∃ (s23506 : PHeap) , PHeap.le s s23506 ∧ St w0 s23506 (H) w' ∧ f' 4 = Value.bool ((e23464.isSome && decide ((base_Num_t e23464) = code23465)))) ?_ ?_
  · refine W_region ?_
    refine WL_step rfl rfl (Exec.move (v := errV 30 (e23464)) rfl rfl ?_)
    refine WL_step rfl rfl (Exec.err_neq_nil (T := 30) Try.underlying26 rfl rfl rfl ?_)
    refine WL_step rfl rfl (Exec.move (v := Value.bool (e23464.isSome)) rfl rfl ?_)
    by_cases hc23507 : e23464.isSome = true
    · refine WL_run rfl (yield_of rfl (congrArg Value.bool hc23507)) rfl (Exec.move (v := errV 30 (e23464)) rfl rfl ?_)
      refine WL_run rfl (yield_of rfl (congrArg Value.bool hc23507)) rfl (Exec.call rfl rfl Try.func13 rfl N13 (args_cons rfl args_nil) ((base_Num_sim (base_Num_tot e23464) hS ).mono ?_))
      rintro _ w23508 ⟨_, rfl, ⟨s23509, l23510, hS23511, rfl⟩⟩
      refine ⟨_, rfl, ?_⟩
      refine WL_run rfl (yield_of rfl (congrArg Value.bool hc23507)) rfl (Exec.move (v := Value.int .i64 (code23465)) rfl rfl ?_)
      refine WL_run rfl (yield_of rfl (congrArg Value.bool hc23507)) rfl (Exec.eql rfl rfl rfl ?_)
      refine WL_step rfl rfl (Exec.pick_t (v := Value.bool (decide ((base_Num_t e23464) = code23465))) rfl (congrArg Value.bool hc23507) rfl ?_)
      refine WL_step rfl rfl (Exec.assign (v := Value.bool (decide ((base_Num_t e23464) = code23465))) rfl rfl ?_)
      refine WL_nil (at_normal ?_)
      exact ⟨s23509, l23510, hS23511, (congrArg Value.bool (and_t hc23507)).symm⟩
    · replace hc23507 := not_true hc23507
      refine WL_pass rfl (yield_of rfl (congrArg Value.bool hc23507)) rfl rfl ?_
      refine WL_pass rfl (yield_of rfl (congrArg Value.bool hc23507)) rfl rfl ?_
      refine WL_pass rfl (yield_of rfl (congrArg Value.bool hc23507)) rfl rfl ?_
      refine WL_pass rfl (yield_of rfl (congrArg Value.bool hc23507)) rfl rfl ?_
      refine WL_step rfl rfl (Exec.pick_f (v := Value.bool (false)) rfl (congrArg Value.bool hc23507) rfl ?_)
      refine WL_step rfl rfl (Exec.assign (v := Value.bool (false)) rfl rfl ?_)
      refine WL_nil (at_normal ?_)
      exact ⟨s, (PHeap.le_refl _), hS, (congrArg Value.bool (and_f hc23507)).symm⟩
  · intro f23512 w23513 hM23514
    obtain ⟨s23515, l23516, hS23517, p23518⟩ := hM23514
    refine (at_normal ?_)
    refine W_ret ?_
    have e23520 := Option.some.inj hm
    subst r
    refine ⟨_, ret1 rfl, ?_⟩
    exact ⟨s23515, l23516, hS23517, p23518⟩

theorem stn_Network_Times_nil_sim {w0 w : World} {s : PHeap} {H : List Res}   {r : (List Int) × (Option Int)} (hm : stn_Network_Times_nil_p  = some r) (hS : St w0 s (H) w)  :
    Calls Try.prog 22 #[Value.pointer none] w fun e w' => ∃ v, e = .returned v ∧ ((un2 fun (y23601 : (List Int)) (y23602 : (Option Int)) => ∃ (s23604 : PHeap) (v23603 : Value), PHeap.le s s23604 ∧ St w0 s23604 (H) w' ∧ v = Value.tuple #[v23603, errV 30 (y23602)] ∧ SliceRep (encInt .i64) s23604 v23603 y23601) r) := by
  unfold stn_Network_Times_nil_p at hm
  refine calls_of_W Try.func22 rfl rfl ?_
  refine W_seq ?_
  refine W_region ?_
  refine WL_step rfl rfl (Exec.assign (v := Value.slice none 0 0) rfl rfl ?_)
  refine WL_step rfl rfl (Exec.assign (v := errV 30 (none)) rfl rfl ?_)
  refine WL_nil (at_normal ?_)
  refine W_seq ?_
  refine W_seq ?_
  refine W_region ?_
  refine WL_step rfl rfl (Exec.move (v := Value.pointer none) rfl rfl ?_)
  refine WL_step rfl rfl (Exec.ptr_eql_nil Try.underlying24 rfl rfl rfl ?_)
  refine WL_nil (at_normal ?_)
  refine W_true rfl ?_
  refine W_seq ?_
  refine W_region ?_
  refine WL_step rfl rfl (Exec.makeInterface C30 rfl rfl ?_)
  refine WL_step rfl rfl (Exec.assign (v := Value.slice none 0 0) rfl rfl ?_)
  refine WL_step rfl rfl (Exec.assign (v := errV 30 (some 3)) rfl rfl ?_)
  refine WL_nil (at_normal ?_)
  refine W_ret (at_ret ?_)
  have e23606 := Option.some.inj hm
  subst r
  refine ⟨_, ret2 rfl, ?_⟩
  exact ⟨s, (Value.slice none 0 0), (PHeap.le_refl _), hS, (tup2 rfl rfl), (SliceRep.nil _ _)⟩

theorem stn_Network_Distance_nil_sim {w0 w : World} {s : PHeap} {H : List Res} {a23622 : Int} {b23623 : Int}  {r : Int × (Option Int)} (hm : stn_Network_Distance_nil_p a23622 b23623 = some r) (hS : St w0 s (H) w)  :
    Calls Try.prog 15 #[Value.pointer none, Value.int .i64 (a23622), Value.int .i64 (b23623)] w fun e w' => ∃ v, e = .returned v ∧ ((un2 fun (y23625 : Int) (y23626 : (Option Int)) => ∃ (s23627 : PHeap) , PHeap.le s s23627 ∧ St w0 s23627 (H) w' ∧ v = Value.tuple #[Value.int .i64 (y23625), errV 30 (y23626)]) r) := by
  unfold stn_Network_Distance_nil_p at hm
  refine calls_of_W Try.func15 rfl rfl ?_
  refine W_seq ?_
  refine W_region ?_
  refine WL_step rfl rfl (Exec.assign (v := Value.int .i64 (0)) rfl rfl ?_)
  refine WL_step rfl rfl (Exec.assign (v := errV 30 (none)) rfl rfl ?_)
  refine WL_nil (at_normal ?_)
  refine W_seq ?_
  refine W_seq ?_
  refine W_region ?_
  refine WL_step rfl rfl (Exec.move (v := Value.pointer none) rfl rfl ?_)
  refine WL_step rfl rfl (Exec.ptr_eql_nil Try.underlying24 rfl rfl rfl ?_)
  refine WL_nil (at_normal ?_)
  refine W_true rfl ?_
  refine W_seq ?_
  refine W_region ?_
  refine WL_step rfl rfl (Exec.makeInterface C30 rfl rfl ?_)
  refine WL_step rfl rfl (Exec.assign (v := Value.int .i64 (0)) rfl rfl ?_)
  refine WL_step rfl rfl (Exec.assign (v := errV 30 (some 3)) rfl rfl ?_)
  refine WL_nil (at_normal ?_)
  refine W_ret (at_ret ?_)
  have e23629 := Option.some.inj hm
  subst r
  refine ⟨_, ret2 rfl, ?_⟩
  exact ⟨s, (PHeap.le_refl _), hS, (tup2 rfl rfl)⟩

theorem stn_Network_Latest_nil_sim {w0 w : World} {s : PHeap} {H : List Res} {p23620 : Int}  {r : Int × (Option Int)} (hm : stn_Network_Latest_nil_p p23620 = some r) (hS : St w0 s (H) w)  :
    Calls Try.prog 17 #[Value.pointer none, Value.int .i64 (p23620)] w fun e w' => ∃ v, e = .returned v ∧ ((un2 fun (y23641 : Int) (y23642 : (Option Int)) => ∃ (s23643 : PHeap) , PHeap.le s s23643 ∧ St w0 s23643 (H) w' ∧ v = Value.tuple #[Value.int .i64 (y23641), errV 30 (y23642)]) r) := by
  unfold stn_Network_Latest_nil_p at hm
  refine calls_of_W Try.func17 rfl rfl ?_
  refine W_seq ?_
  refine W_region ?_
  refine WL_step rfl rfl (Exec.assign (v := Value.int .i64 (0)) rfl rfl ?_)
  refine WL_step rfl rfl (Exec.assign (v := errV 30 (none)) rfl rfl ?_)
  refine WL_nil (at_normal ?_)
  refine W_seq ?_
  refine W_region ?_
  refine WL_step rfl rfl (Exec.move (v := Value.pointer none) rfl rfl ?_)
  refine WL_step rfl rfl (Exec.move (v := Value.int .i64 (p23620)) rfl rfl ?_)
  refine WL_step rfl rfl (Exec.call rfl rfl Try.func15 rfl N15 (args_cons rfl (args_cons rfl (args_cons rfl args_nil))) ((stn_Network_Distance_nil_sim (stn_Network_Distance_nil_tot 0 p23620) hS ).mono ?_))
  rintro _ w23648 ⟨_, rfl, ⟨s23649, l23650, hS23651, rfl⟩⟩
  refine ⟨_, rfl, ?_⟩
  refine WL_step rfl rfl (Exec.move (v := Value.tuple #[Value.int .i64 ((stn_Network_Distance_nil_t 0 p23620).1), errV 30 ((stn_Network_Distance_nil_t 0 p23620).2)]) rfl rfl ?_)
  refine WL_step rfl rfl (Exec.extract (v := Value.int .i64 ((stn_Network_Distance_nil_t 0 p23620).1)) rfl rfl rfl ?_)
  refine WL_step rfl rfl (Exec.extract (v := errV 30 ((stn_Network_Distance_nil_t 0 p23620).2)) rfl rfl rfl ?_)
  refine WL_step rfl rfl (Exec.assign (v := Value.int .i64 ((stn_Network_Distance_nil_t 0 p23620).1)) rfl rfl ?_)
  refine WL_step rfl rfl (Exec.assign (v := errV 30 ((stn_Network_Distance_nil_t 0 p23620).2)) rfl rfl ?_)
  refine WL_nil (at_normal ?_)
  refine W_seq ?_
  refine W_seq ?_
  refine W_region ?_
  refine WL_step rfl rfl (Exec.move (v := errV 30 ((stn_Network_Distance_nil_t 0 p23620).2)) rfl rfl ?_)
  refine WL_step rfl rfl (Exec.err_neq_nil (T := 30) Try.underlying26 rfl rfl rfl ?_)
  refine WL_nil (at_normal ?_)
  rcases ite_some hm with ⟨hc23652, hm⟩ | ⟨hc23652, hm⟩
  · refine W_cond_t rfl hc23652 ?_
    refine W_seq ?_
    refine W_region ?_
    refine WL_step rfl rfl (Exec.move (v := errV 30 ((stn_Network_Distance_nil_t 0 p23620).2)) rfl rfl ?_)
    refine WL_step rfl rfl (Exec.assign (v := Value.int .i64 (0)) rfl rfl ?_)
    refine WL_step rfl rfl (Exec.assign (v := errV 30 ((stn_Network_Distance_nil_t 0 p23620).2)) rfl rfl ?_)
    refine WL_nil (at_normal ?_)
    refine W_ret (at_ret ?_)
    have e23654 := Option.some.inj hm
    subst r
    refine ⟨_, ret2 rfl, ?_⟩
    exact ⟨s23649, l23650, hS23651, (tup2 rfl rfl)⟩
  · refine W_cond_f rfl hc23652 ?_
    replace hc23652 := not_true hc23652
    refine W_skip (at_normal ?_)
    refine W_seq ?_
    refine W_seq ?_
    refine W_region ?_
    refine WL_step rfl rfl (Exec.move (v := Value.int .i64 ((stn_Network_Distance_nil_t 0 p23620).1)) rfl rfl ?_)
    refine WL_step rfl rfl (Exec.geq rfl rfl rfl ?_)
    refine WL_nil (at_normal ?_)
    rcases ite_some hm with ⟨hc23655, hm⟩ | ⟨hc23655, hm⟩
    · refine W_cond_t rfl hc23655 ?_
      refine W_seq ?_
      refine W_region ?_
      refine WL_step rfl rfl (Exec.makeInterface C30 rfl rfl ?_)
      refine WL_step rfl rfl (Exec.assign (v := Value.int .i64 (0)) rfl rfl ?_)
      refine WL_step rfl rfl (Exec.assign (v := errV 30 (some 3)) rfl rfl ?_)
      refine WL_nil (at_normal ?_)
      refine W_ret (at_ret ?_)
      have e23657 := Option.some.inj hm
      subst r
      refine ⟨_, ret2 rfl, ?_⟩
      exact ⟨s23649, l23650, hS23651, (tup2 rfl rfl)⟩
    · refine W_cond_f rfl hc23655 ?_
      replace hc23655 := not_true hc23655
      refine W_skip (at_normal ?_)
      refine W_seq ?_
      refine W_region ?_
      refine WL_step rfl rfl (Exec.move (v := Value.int .i64 ((stn_Network_Distance_nil_t 0 p23620).1)) rfl rfl ?_)
      refine WL_step rfl rfl (Exec.assign (v := Value.int .i64 ((stn_Network_Distance_nil_t 0 p23620).1)) rfl rfl ?_)
      refine WL_step rfl rfl (Exec.assign (v := errV 30 (none)) rfl rfl ?_)
      refine WL_nil (at_normal ?_)
      refine W_ret ?_
      have e23659 := Option.some.inj hm
      subst r
      refine ⟨_, ret2 rfl, ?_⟩
      exact ⟨s23649, l23650, hS23651, (tup2 rfl rfl)⟩

theorem stn_Network_Add_nil_sim {w0 w : World} {s : PHeap} {H : List Res} {b23691 : Bound}  {r : (Option Int)} (hm : stn_Network_Add_nil_p b23691 = some r) (hS : St w0 s (H) w)  :
    Calls Try.prog 14 #[Value.pointer none, Value.agg #[Value.int .i64 (b23691.A), Value.int .i64 (b23691.B), Value.int .i64 (b23691.Most)]] w fun e w' => ∃ v, e = .returned v ∧ ((fun (y23699 : (Option Int)) => ∃ (s23700 : PHeap) , PHeap.le s s23700 ∧ St w0 s23700 (H) w' ∧ v = errV 30 (y23699)) r) := by
  unfold stn_Network_Add_nil_p at hm
  refine calls_of_W Try.func14 rfl rfl ?_
  refine W_seq ?_
  refine W_region ?_
  refine WL_step rfl rfl (Exec.box (cs := [Value.int .i64 (b23691.A), Value.int .i64 (b23691.B), Value.int .i64 (b23691.Most)]) hS rfl rfl rfl ?_)
  intro b23704 w23705 hS23706
  refine WL_step rfl rfl (Exec.assign (v := errV 30 (none)) rfl rfl ?_)
  refine WL_nil (at_normal ?_)
  refine W_seq ?_
  refine W_seq ?_
  refine W_region ?_
  refine WL_step rfl rfl (Exec.move (v := Value.pointer none) rfl rfl ?_)
  refine WL_step rfl rfl (Exec.ptr_eql_nil Try.underlying24 rfl rfl rfl ?_)
  refine WL_nil (at_normal ?_)
  refine W_true rfl ?_
  refine W_seq ?_
  refine W_region ?_
  refine WL_step rfl rfl (Exec.makeInterface C30 rfl rfl ?_)
  refine WL_step rfl rfl (Exec.assign (v := errV 30 (some 3)) rfl rfl ?_)
  refine WL_nil (at_normal ?_)
  refine W_ret (at_ret ?_)
  have e23708 := Option.some.inj hm
  subst r
  refine ⟨_, ret1 rfl, ?_⟩
  have hS23709 := (hS23706).drop
  exact ⟨s, (PHeap.le_refl _), hS23709, rfl⟩

theorem N9 : (Try.f9.name == "runtime.NumGoroutine") = false := by kernel_rfl

theorem law54_awake_sim {w0 w : World} {s : PHeap} {H : List Res}   {r : Bool} (hm : law54_awake_p  = some r) (hS : St w0 s (H) w)  :
    Calls Try.prog 9 #[] w fun e w' => ∃ v, e = .returned v ∧ ((fun (y23763 : Bool) => ∃ (s23764 : PHeap) , PHeap.le s s23764 ∧ St w0 s23764 (H) w' ∧ v = Value.bool (y23763)) r) := by
  unfold law54_awake_p at hm
  refine calls_of_W Try.func9 rfl rfl ?_
  refine W_seq ?_
  refine W_region ?_
  refine WL_step rfl rfl (Exec.assign (v := Value.bool (false)) rfl rfl ?_)
  refine WL_nil (at_normal ?_)
  refine W_seq ?_
  refine W_region ?_
  refine WL_step rfl rfl (Exec.build rfl (parts_cons (c := [Value.int .i64 (1)]) (cells_of rfl rfl) (parts_cons (c := [Value.int .i64 (0)]) (cells_of rfl rfl) (parts_cons (c := [Value.int .i64 ((-2))]) (cells_of rfl rfl) parts_nil))) (v := Value.agg #[Value.int .i64 (1), Value.int .i64 (0), Value.int .i64 ((-2))]) (fun _ => by kernel_rfl) ?_)
  refine WL_step rfl rfl (Exec.build rfl (parts_cons (c := [Value.int .i64 (1)]) (cells_of rfl rfl) (parts_cons (c := [Value.int .i64 (2)]) (cells_of rfl rfl) (parts_cons (c := [Value.int .i64 (3)]) (cells_of rfl rfl) parts_nil))) (v := Value.agg #[Value.int .i64 (1), Value.int .i64 (2), Value.int .i64 (3)]) (fun _ => by kernel_rfl) ?_)
  refine WL_step rfl rfl (Exec.build rfl (parts_cons (c := [Value.int .i64 (2)]) (cells_of rfl rfl) (parts_cons (c := [Value.int .i64 (1)]) (cells_of rfl rfl) (parts_cons (c := [Value.int .i64 ((-3))]) (cells_of rfl rfl) parts_nil))) (v := Value.agg #[Value.int .i64 (2), Value.int .i64 (1), Value.int .i64 ((-3))]) (fun _ => by kernel_rfl) ?_)
  refine WL_step rfl rfl (Exec.buildSlice (Te := 32) (cs := [Value.int .i64 (1), Value.int .i64 (0), Value.int .i64 ((-2)), Value.int .i64 (1), Value.int .i64 (2), Value.int .i64 (3), Value.int .i64 (2), Value.int .i64 (1), Value.int .i64 ((-3))]) hS rfl (parts_cons (c := [Value.int .i64 (1), Value.int .i64 (0), Value.int .i64 ((-2))]) (cells_of rfl rfl) (parts_cons (c := [Value.int .i64 (1), Value.int .i64 (2), Value.int .i64 (3)]) (cells_of rfl rfl) (parts_cons (c := [Value.int .i64 (2), Value.int .i64 (1), Value.int .i64 ((-3))]) (cells_of rfl rfl) parts_nil))) (fun _ => by kernel_rfl) ?_)
  intro b23791 w23792 hS23793
  have hS23794 := St.boxArr (E := encBound) (xs := [(⟨1, 0, (-2)⟩ : Bound), (⟨1, 2, 3⟩ : Bound), (⟨2, 1, (-3)⟩ : Bound)]) hS23793 ⟨[Value.int .i64 (1), Value.int .i64 (0), Value.int .i64 ((-2))], [Value.int .i64 (1), Value.int .i64 (2), Value.int .i64 (3), Value.int .i64 (2), Value.int .i64 (1), Value.int .i64 ((-3))], rfl, ⟨[Value.int .i64 (1)], [Value.int .i64 (0), Value.int .i64 ((-2))], rfl, rfl, ⟨[Value.int .i64 (0)], [Value.int .i64 ((-2))], rfl, rfl, rfl⟩⟩, ⟨[Value.int .i64 (1), Value.int .i64 (2), Value.int .i64 (3)], [Value.int .i64 (2), Value.int .i64 (1), Value.int .i64 ((-3))], rfl, ⟨[Value.int .i64 (1)], [Value.int .i64 (2), Value.int .i64 (3)], rfl, rfl, ⟨[Value.int .i64 (2)], [Value.int .i64 (3)], rfl, rfl, rfl⟩⟩, ⟨[Value.int .i64 (2), Value.int .i64 (1), Value.int .i64 ((-3))], [], rfl, ⟨[Value.int .i64 (2)], [Value.int .i64 (1), Value.int .i64 ((-3))], rfl, rfl, ⟨[Value.int .i64 (1)], [Value.int .i64 ((-3))], rfl, rfl, rfl⟩⟩, rfl⟩⟩⟩ (by simp [maxLen])
  obtain ⟨s23795, l23796, hS23797, r23798⟩ := hS23794.freezeArr
  obtain ⟨t23799, q23800, hm⟩ := bind_some hm
  obtain ⟨pd23801, y23802⟩ := t23799
  replace hm := un2_eq hm
  refine WL_step rfl rfl (Exec.call rfl rfl Try.func19 rfl N19 (args_cons rfl (args_cons rfl args_nil)) ((law54_made_sim q23800 hS23797 r23798).mono ?_))
  rintro _ w23803 ⟨_, rfl, hp23804⟩
  refine ⟨_, rfl, ?_⟩
  rcases hp23804 with ⟨d23805, rfl, s23806, v23809, v23810, v23811, l23807, hS23808, rfl⟩ | ⟨rfl, s23813, l23814, hS23815, rfl⟩
  · replace hm := optC_some hm
    refine WL_step rfl rfl (Exec.move (v := Value.tuple #[Value.pointer (some ⟨v23809, 0, none⟩), Value.bool (y23802)]) rfl rfl ?_)
    refine WL_step rfl rfl (Exec.extract (v := Value.pointer (some ⟨v23809, 0, none⟩)) rfl rfl rfl ?_)
    refine WL_step rfl rfl (Exec.extract (v := Value.bool (y23802)) rfl rfl rfl ?_)
    refine WL_step rfl rfl (Exec.assign (v := Value.pointer (some ⟨v23809, 0, none⟩)) rfl rfl ?_)
    refine WL_step rfl rfl (Exec.assign (v := Value.bool (y23802)) rfl rfl ?_)
    refine WL_nil (at_normal ?_)
    refine W_seq ?_
    refine W_seq ?_
    refine W_region ?_
    refine WL_step rfl rfl (Exec.move (v := Value.bool (y23802)) rfl rfl ?_)
    refine WL_step rfl rfl (Exec.not rfl rfl ?_)
    refine WL_nil (at_normal ?_)
    rcases ite_some hm with ⟨hc23817, hm⟩ | ⟨hc23817, hm⟩
    · refine W_cond_t rfl hc23817 ?_
      refine W_seq ?_
      refine W_region ?_
      refine WL_step rfl rfl (Exec.assign (v := Value.bool (false)) rfl rfl ?_)
      refine WL_nil (at_normal ?_)
      refine W_ret (at_ret ?_)
      have e23819 := Option.some.inj hm
      subst r
      refine ⟨_, ret1 rfl, ?_⟩
      have hS23820 := (hS23808).drop
      have hS23821 := ((hS23820).drop).drop
      exact ⟨s23806, (PHeap.le.trans l23796 l23807), hS23821, rfl⟩
    · refine W_cond_f rfl hc23817 ?_
      replace hc23817 := not_true hc23817
      refine W_skip (at_normal ?_)
      refine W_seq ?_
      refine W_region ?_
      refine WL_step rfl rfl (Exec.move (v := Value.pointer (some ⟨v23809, 0, none⟩)) rfl rfl ?_)
      obtain ⟨t23834, q23835, hm⟩ := bind_some hm
      obtain ⟨y23836, y23837⟩ := t23834
      replace hm := un2_eq hm
      have hS23838 := ((hS23808).f2).f2
      have hS23839 := (hS23838).f2
      refine WL_step rfl rfl (Exec.call rfl rfl Try.func22 rfl N22 (args_cons rfl args_nil) ((stn_Network_Times_sim q23835 hS23839 ).mono ?_))
      rintro _ w23840 ⟨_, rfl, ⟨s23841, v23844, l23842, hS23843, rfl, r23845⟩⟩
      refine ⟨_, rfl, ?_⟩
      refine WL_step rfl rfl (Exec.move (v := Value.tuple #[v23844, errV 30 (y23837)]) rfl rfl ?_)
      refine WL_step rfl rfl (Exec.extract (v := v23844) rfl rfl rfl ?_)
      refine WL_step rfl rfl (Exec.extract (v := errV 30 (y23837)) rfl rfl rfl ?_)
      refine WL_step rfl rfl (Exec.assign (v := v23844) rfl rfl ?_)
      refine WL_step rfl rfl (Exec.assign (v := errV 30 (y23837)) rfl rfl ?_)
      refine WL_nil (at_normal ?_)
      refine W_seq ?_
      refine W_region ?_
      refine WL_step rfl rfl (Exec.move (v := Value.pointer (some ⟨v23809, 0, none⟩)) rfl rfl ?_)
      obtain ⟨t23856, q23857, hm⟩ := bind_some hm
      obtain ⟨y23858, y23859⟩ := t23856
      replace hm := un2_eq hm
      have hS23860 := ((hS23843).f2).f2
      have hS23861 := (hS23860).f2
      refine WL_step rfl rfl (Exec.call rfl rfl Try.func17 rfl N17 (args_cons rfl (args_cons rfl args_nil)) ((stn_Network_Latest_sim q23857 hS23861 ).mono ?_))
      rintro _ w23862 ⟨_, rfl, ⟨s23863, l23864, hS23865, rfl⟩⟩
      refine ⟨_, rfl, ?_⟩
      refine WL_step rfl rfl (Exec.move (v := Value.tuple #[Value.int .i64 (y23858), errV 30 (y23859)]) rfl rfl ?_)
      refine WL_step rfl rfl (Exec.extract (v := Value.int .i64 (y23858)) rfl rfl rfl ?_)
      refine WL_step rfl rfl (Exec.extract (v := errV 30 (y23859)) rfl rfl rfl ?_)
      refine WL_step rfl rfl (Exec.assign (v := Value.int .i64 (y23858)) rfl rfl ?_)
      refine WL_step rfl rfl (Exec.assign (v := errV 30 (y23859)) rfl rfl ?_)
      refine WL_nil (at_normal ?_)
      refine W_seq ?_
      obtain ⟨z23902, ht23903, hm⟩ := bind_some hm
      refine W_mid (M := fun f' w' => (fun (z23902 : Bool) => ∃ (s23904 : PHeap) , PHeap.le s23863 s23904 ∧ St w0 s23904 (H) w' ∧ f' 0 = Value.bool (z23902)) z23902) ?_ ?_
      · refine W_region ?_
        refine WL_step rfl rfl (Exec.move (v := errV 30 (y23837)) rfl rfl ?_)
        refine WL_step rfl rfl (Exec.err_eql_nil (T := 30) Try.underlying26 rfl rfl rfl ?_)
        refine WL_step rfl rfl (Exec.move (v := Value.bool (y23837.isNone)) rfl rfl ?_)
        rcases ite_some ht23903 with ⟨hc23905, ht23903⟩ | ⟨hc23905, ht23903⟩
        · refine WL_run rfl (yield_of rfl (congrArg Value.bool hc23905)) rfl (Exec.move (v := v23844) rfl rfl ?_)
          refine WL_run rfl (yield_of rfl (congrArg Value.bool hc23905)) rfl (Exec.buildSlice (Te := 3) (cs := [Value.int .i64 (0), Value.int .i64 (2), Value.int .i64 (5)]) hS23865 rfl (parts_cons (c := [Value.int .i64 (0)]) (cells_of rfl rfl) (parts_cons (c := [Value.int .i64 (2)]) (cells_of rfl rfl) (parts_cons (c := [Value.int .i64 (5)]) (cells_of rfl rfl) parts_nil))) (fun _ => by kernel_rfl) ?_)
          intro b23906 w23907 hS23908
          have hS23909 := St.boxArr (E := (encInt .i64)) (xs := [0, 2, 5]) hS23908 ⟨[Value.int .i64 (0)], [Value.int .i64 (2), Value.int .i64 (5)], rfl, rfl, ⟨[Value.int .i64 (2)], [Value.int .i64 (5)], rfl, rfl, ⟨[Value.int .i64 (5)], [], rfl, rfl, rfl⟩⟩⟩ (by simp [maxLen])
          obtain ⟨s23910, l23911, hS23912, r23913⟩ := hS23909.freezeArr
          obtain ⟨y23916, q23915, ht23903⟩ := bind_some ht23903
          refine WL_run rfl (yield_of rfl (congrArg Value.bool hc23905)) rfl (Exec.call rfl rfl Try.func23 rfl N23 (args_cons rfl (args_cons rfl args_nil)) ((base_Ints_sim q23915 hS23912 (r23845.mono (PHeap.le.trans l23864 l23911)) r23913).mono ?_))
          rintro _ w23917 ⟨_, rfl, ⟨s23918, l23919, hS23920, rfl⟩⟩
          refine ⟨_, rfl, ?_⟩
          refine WL_step rfl rfl (Exec.pick_t (v := Value.bool (y23916)) rfl (congrArg Value.bool hc23905) rfl ?_)
          refine WL_step rfl rfl (Exec.move (v := Value.bool (y23916)) rfl rfl ?_)
          rcases ite_some ht23903 with ⟨hc23921, ht23903⟩ | ⟨hc23921, ht23903⟩
          · refine WL_run rfl (yield_of rfl (congrArg Value.bool hc23921)) rfl (Exec.move (v := errV 30 (y23859)) rfl rfl ?_)
            refine WL_run rfl (yield_of rfl (congrArg Value.bool hc23921)) rfl (Exec.call rfl rfl Try.func11 rfl N11 (args_cons rfl (args_cons rfl args_nil)) ((base_Is_sim (base_Is_tot y23859 3) hS23920 ).mono ?_))
            rintro _ w23922 ⟨_, rfl, ⟨s23923, l23924, hS23925, rfl⟩⟩
            refine ⟨_, rfl, ?_⟩
            refine WL_step rfl rfl (Exec.pick_t (v := Value.bool ((base_Is_t y23859 3))) rfl (congrArg Value.bool hc23921) rfl ?_)
            refine WL_step rfl rfl (Exec.move (v := Value.bool ((base_Is_t y23859 3))) rfl rfl ?_)
            rcases ite_some ht23903 with ⟨hc23926, ht23903⟩ | ⟨hc23926, ht23903⟩
            · refine WL_run rfl (yield_of rfl (congrArg Value.bool hc23926)) rfl (Exec.move (v := Value.pointer (some ⟨v23809, 0, none⟩)) rfl rfl ?_)
              refine WL_run rfl (yield_of rfl (congrArg Value.bool hc23926)) rfl (Exec.build rfl (parts_cons (c := [Value.int .i64 (0)]) (cells_of rfl rfl) (parts_cons (c := [Value.int .i64 (2)]) (cells_of rfl rfl) (parts_cons (c := [Value.int .i64 (4)]) (cells_of rfl rfl) parts_nil))) (v := Value.agg #[Value.int .i64 (0), Value.int .i64 (2), Value.int .i64 (4)]) (fun _ => by kernel_rfl) ?_)
              obtain ⟨t23927, q23928, ht23903⟩ := bind_some ht23903
              obtain ⟨y23929, l23930⟩ := t23927
              replace ht23903 := un2_eq ht23903
              have hS23931 := ((hS23925).f2).f2
              have hS23932 := (hS23931).f2
              refine WL_run rfl (yield_of rfl (congrArg Value.bool hc23926)) rfl (Exec.call rfl rfl Try.func14 rfl N14 (args_cons rfl (args_cons rfl args_nil)) ((stn_Network_Add_sim q23928 hS23932 ).mono ?_))
              rintro _ w23933 ⟨_, rfl, ⟨s23934, l23935, hS23936, rfl⟩⟩
              refine ⟨_, rfl, ?_⟩
              refine WL_run rfl (yield_of rfl (congrArg Value.bool hc23926)) rfl (Exec.call rfl rfl Try.func11 rfl N11 (args_cons rfl (args_cons rfl args_nil)) ((base_Is_sim (base_Is_tot y23929 21) hS23936 ).mono ?_))
              rintro _ w23937 ⟨_, rfl, ⟨s23938, l23939, hS23940, rfl⟩⟩
              refine ⟨_, rfl, ?_⟩
              refine WL_step rfl rfl (Exec.pick_t (v := Value.bool ((base_Is_t y23929 21))) rfl (congrArg Value.bool hc23926) rfl ?_)
              refine WL_step rfl rfl (Exec.assign (v := Value.bool ((base_Is_t y23929 21))) rfl rfl ?_)
              refine WL_nil (at_normal ?_)
              have e23941 := Option.some.inj ht23903
              subst z23902
              have hS23942 := (hS23940).drop
              have hS23943 := ((hS23942).drop).drop
              exact ⟨s23938, (PHeap.le.trans (PHeap.le.trans (PHeap.le.trans (PHeap.le.trans l23911 l23919) l23924) l23935) l23939), hS23943, rfl⟩
            · replace hc23926 := not_true hc23926
              refine WL_pass rfl (yield_of rfl (congrArg Value.bool hc23926)) rfl rfl ?_
              refine WL_pass rfl (yield_of rfl (congrArg Value.bool hc23926)) rfl rfl ?_
              refine WL_pass rfl (yield_of rfl (congrArg Value.bool hc23926)) rfl rfl ?_
              refine WL_pass rfl (yield_of rfl (congrArg Value.bool hc23926)) rfl rfl ?_
              refine WL_step rfl rfl (Exec.pick_f (v := Value.bool (false)) rfl (congrArg Value.bool hc23926) rfl ?_)
              refine WL_step rfl rfl (Exec.assign (v := Value.bool (false)) rfl rfl ?_)
              refine WL_nil (at_normal ?_)
              have e23944 := Option.some.inj ht23903
              subst z23902
              have hS23945 := (hS23925).drop
              have hS23946 := ((hS23945).drop).drop
              exact ⟨s23923, (PHeap.le.trans (PHeap.le.trans l23911 l23919) l23924), hS23946, rfl⟩
          · replace hc23921 := not_true hc23921
            refine WL_pass rfl (yield_of rfl (congrArg Value.bool hc23921)) rfl rfl ?_
            refine WL_pass rfl (yield_of rfl (congrArg Value.bool hc23921)) rfl rfl ?_
            refine WL_step rfl rfl (Exec.pick_f (v := Value.bool (false)) rfl (congrArg Value.bool hc23921) rfl ?_)
            refine WL_step rfl rfl (Exec.move (v := Value.bool (false)) rfl rfl ?_)
            refine WL_pass rfl (yield_of rfl rfl) rfl rfl ?_
            refine WL_pass rfl (yield_of rfl rfl) rfl rfl ?_
            refine WL_pass rfl (yield_of rfl rfl) rfl rfl ?_
            refine WL_pass rfl (yield_of rfl rfl) rfl rfl ?_
            refine WL_step rfl rfl (Exec.pick_f (v := Value.bool (false)) rfl rfl rfl ?_)
            refine WL_step rfl rfl (Exec.assign (v := Value.bool (false)) rfl rfl ?_)
            refine WL_nil (at_normal ?_)
            have e23947 := Option.some.inj ht23903
            subst z23902
            have hS23948 := (hS23920).drop
            have hS23949 := ((hS23948).drop).drop
            exact ⟨s23918, (PHeap.le.trans l23911 l23919), hS23949, rfl⟩
        · replace hc23905 := not_true hc23905
          refine WL_pass rfl (yield_of rfl (congrArg Value.bool hc23905)) rfl rfl ?_
          refine WL_pass rfl (yield_of rfl (congrArg Value.bool hc23905)) rfl rfl ?_
          refine WL_pass rfl (yield_of rfl (congrArg Value.bool hc23905)) rfl rfl ?_
          refine WL_step rfl rfl (Exec.pick_f (v := Value.bool (false)) rfl (congrArg Value.bool hc23905) rfl ?_)
          refine WL_step rfl rfl (Exec.move (v := Value.bool (false)) rfl rfl ?_)
          refine WL_pass rfl (yield_of rfl rfl) rfl rfl ?_
          refine WL_pass rfl (yield_of rfl rfl) rfl rfl ?_
          refine WL_step rfl rfl (Exec.pick_f (v := Value.bool (false)) rfl rfl rfl ?_)
          refine WL_step rfl rfl (Exec.move (v := Value.bool (false)) rfl rfl ?_)
          refine WL_pass rfl (yield_of rfl rfl) rfl rfl ?_
          refine WL_pass rfl (yield_of rfl rfl) rfl rfl ?_
          refine WL_pass rfl (yield_of rfl rfl) rfl rfl ?_
          refine WL_pass rfl (yield_of rfl rfl) rfl rfl ?_
          refine WL_step rfl rfl (Exec.pick_f (v := Value.bool (false)) rfl rfl rfl ?_)
          refine WL_step rfl rfl (Exec.assign (v := Value.bool (false)) rfl rfl ?_)
          refine WL_nil (at_normal ?_)
          have e23950 := Option.some.inj ht23903
          subst z23902
          have hS23951 := (hS23865).drop
          have hS23952 := ((hS23951).drop).drop
          exact ⟨s23863, (PHeap.le_refl _), hS23952, rfl⟩
      · intro f23953 w23954 hM23955
        obtain ⟨s23956, l23957, hS23958, p23959⟩ := hM23955
        refine (at_normal ?_)
        refine W_ret ?_
        have e23961 := Option.some.inj hm
        subst r
        refine ⟨_, ret1 rfl, ?_⟩
        exact ⟨s23956, (PHeap.le.trans (PHeap.le.trans (PHeap.le.trans (PHeap.le.trans l23796 l23807) l23842) l23864) l23957), hS23958, p23959⟩
  · replace hm := optC_none hm
    refine WL_step rfl rfl (Exec.move (v := Value.tuple #[Value.pointer none, Value.bool (y23802)]) rfl rfl ?_)
    refine WL_step rfl rfl (Exec.extract (v := Value.pointer none) rfl rfl rfl ?_)
    refine WL_step rfl rfl (Exec.extract (v := Value.bool (y23802)) rfl rfl rfl ?_)
    refine WL_step rfl rfl (Exec.assign (v := Value.pointer none) rfl rfl ?_)
    refine WL_step rfl rfl (Exec.assign (v := Value.bool (y23802)) rfl rfl ?_)
    refine WL_nil (at_normal ?_)
    refine W_seq ?_
    refine W_seq ?_
    refine W_region ?_
    refine WL_step rfl rfl (Exec.move (v := Value.bool (y23802)) rfl rfl ?_)
    refine WL_step rfl rfl (Exec.not rfl rfl ?_)
    refine WL_nil (at_normal ?_)
    rcases ite_some hm with ⟨hc23962, hm⟩ | ⟨hc23962, hm⟩
    · refine W_cond_t rfl hc23962 ?_
      refine W_seq ?_
      refine W_region ?_
      refine WL_step rfl rfl (Exec.assign (v := Value.bool (false)) rfl rfl ?_)
      refine WL_nil (at_normal ?_)
      refine W_ret (at_ret ?_)
      have e23964 := Option.some.inj hm
      subst r
      refine ⟨_, ret1 rfl, ?_⟩
      exact ⟨s23813, (PHeap.le.trans l23796 l23814), hS23815, rfl⟩
    · refine W_cond_f rfl hc23962 ?_
      replace hc23962 := not_true hc23962
      refine W_skip (at_normal ?_)
      refine W_seq ?_
      refine W_region ?_
      refine WL_step rfl rfl (Exec.move (v := Value.pointer none) rfl rfl ?_)
      refine WL_step rfl rfl (Exec.call rfl rfl Try.func22 rfl N22 (args_cons rfl args_nil) ((stn_Network_Times_nil_sim stn_Network_Times_nil_tot hS23815 ).mono ?_))
      rintro _ w23971 ⟨_, rfl, ⟨s23972, v23975, l23973, hS23974, rfl, r23976⟩⟩
      refine ⟨_, rfl, ?_⟩
      refine WL_step rfl rfl (Exec.move (v := Value.tuple #[v23975, errV 30 ((stn_Network_Times_nil_t).2)]) rfl rfl ?_)
      refine WL_step rfl rfl (Exec.extract (v := v23975) rfl rfl rfl ?_)
      refine WL_step rfl rfl (Exec.extract (v := errV 30 ((stn_Network_Times_nil_t).2)) rfl rfl rfl ?_)
      refine WL_step rfl rfl (Exec.assign (v := v23975) rfl rfl ?_)
      refine WL_step rfl rfl (Exec.assign (v := errV 30 ((stn_Network_Times_nil_t).2)) rfl rfl ?_)
      refine WL_nil (at_normal ?_)
      refine W_seq ?_
      refine W_region ?_
      refine WL_step rfl rfl (Exec.move (v := Value.pointer none) rfl rfl ?_)
      refine WL_step rfl rfl (Exec.call rfl rfl Try.func17 rfl N17 (args_cons rfl (args_cons rfl args_nil)) ((stn_Network_Latest_nil_sim (stn_Network_Latest_nil_tot 1) hS23974 ).mono ?_))
      rintro _ w23981 ⟨_, rfl, ⟨s23982, l23983, hS23984, rfl⟩⟩
      refine ⟨_, rfl, ?_⟩
      refine WL_step rfl rfl (Exec.move (v := Value.tuple #[Value.int .i64 ((stn_Network_Latest_nil_t 1).1), errV 30 ((stn_Network_Latest_nil_t 1).2)]) rfl rfl ?_)
      refine WL_step rfl rfl (Exec.extract (v := Value.int .i64 ((stn_Network_Latest_nil_t 1).1)) rfl rfl rfl ?_)
      refine WL_step rfl rfl (Exec.extract (v := errV 30 ((stn_Network_Latest_nil_t 1).2)) rfl rfl rfl ?_)
      refine WL_step rfl rfl (Exec.assign (v := Value.int .i64 ((stn_Network_Latest_nil_t 1).1)) rfl rfl ?_)
      refine WL_step rfl rfl (Exec.assign (v := errV 30 ((stn_Network_Latest_nil_t 1).2)) rfl rfl ?_)
      refine WL_nil (at_normal ?_)
      refine W_seq ?_
      obtain ⟨z24015, ht24016, hm⟩ := bind_some hm
      refine W_mid (M := fun f' w' => (fun (z24015 : Bool) => ∃ (s24017 : PHeap) , PHeap.le s23982 s24017 ∧ St w0 s24017 (H) w' ∧ f' 0 = Value.bool (z24015)) z24015) ?_ ?_
      · refine W_region ?_
        refine WL_step rfl rfl (Exec.move (v := errV 30 ((stn_Network_Times_nil_t).2)) rfl rfl ?_)
        refine WL_step rfl rfl (Exec.err_eql_nil (T := 30) Try.underlying26 rfl rfl rfl ?_)
        refine WL_step rfl rfl (Exec.move (v := Value.bool (((stn_Network_Times_nil_t).2).isNone)) rfl rfl ?_)
        rcases ite_some ht24016 with ⟨hc24018, ht24016⟩ | ⟨hc24018, ht24016⟩
        · refine WL_run rfl (yield_of rfl (congrArg Value.bool hc24018)) rfl (Exec.move (v := v23975) rfl rfl ?_)
          refine WL_run rfl (yield_of rfl (congrArg Value.bool hc24018)) rfl (Exec.buildSlice (Te := 3) (cs := [Value.int .i64 (0), Value.int .i64 (2), Value.int .i64 (5)]) hS23984 rfl (parts_cons (c := [Value.int .i64 (0)]) (cells_of rfl rfl) (parts_cons (c := [Value.int .i64 (2)]) (cells_of rfl rfl) (parts_cons (c := [Value.int .i64 (5)]) (cells_of rfl rfl) parts_nil))) (fun _ => by kernel_rfl) ?_)
          intro b24019 w24020 hS24021
          have hS24022 := St.boxArr (E := (encInt .i64)) (xs := [0, 2, 5]) hS24021 ⟨[Value.int .i64 (0)], [Value.int .i64 (2), Value.int .i64 (5)], rfl, rfl, ⟨[Value.int .i64 (2)], [Value.int .i64 (5)], rfl, rfl, ⟨[Value.int .i64 (5)], [], rfl, rfl, rfl⟩⟩⟩ (by simp [maxLen])
          obtain ⟨s24023, l24024, hS24025, r24026⟩ := hS24022.freezeArr
          obtain ⟨y24029, q24028, ht24016⟩ := bind_some ht24016
          refine WL_run rfl (yield_of rfl (congrArg Value.bool hc24018)) rfl (Exec.call rfl rfl Try.func23 rfl N23 (args_cons rfl (args_cons rfl args_nil)) ((base_Ints_sim q24028 hS24025 (r23976.mono (PHeap.le.trans l23983 l24024)) r24026).mono ?_))
          rintro _ w24030 ⟨_, rfl, ⟨s24031, l24032, hS24033, rfl⟩⟩
          refine ⟨_, rfl, ?_⟩
          refine WL_step rfl rfl (Exec.pick_t (v := Value.bool (y24029)) rfl (congrArg Value.bool hc24018) rfl ?_)
          refine WL_step rfl rfl (Exec.move (v := Value.bool (y24029)) rfl rfl ?_)
          rcases ite_some ht24016 with ⟨hc24034, ht24016⟩ | ⟨hc24034, ht24016⟩
          · refine WL_run rfl (yield_of rfl (congrArg Value.bool hc24034)) rfl (Exec.move (v := errV 30 ((stn_Network_Latest_nil_t 1).2)) rfl rfl ?_)
            refine WL_run rfl (yield_of rfl (congrArg Value.bool hc24034)) rfl (Exec.call rfl rfl Try.func11 rfl N11 (args_cons rfl (args_cons rfl args_nil)) ((base_Is_sim (base_Is_tot ((stn_Network_Latest_nil_t 1).2) 3) hS24033 ).mono ?_))
            rintro _ w24035 ⟨_, rfl, ⟨s24036, l24037, hS24038, rfl⟩⟩
            refine ⟨_, rfl, ?_⟩
            refine WL_step rfl rfl (Exec.pick_t (v := Value.bool ((base_Is_t ((stn_Network_Latest_nil_t 1).2) 3))) rfl (congrArg Value.bool hc24034) rfl ?_)
            refine WL_step rfl rfl (Exec.move (v := Value.bool ((base_Is_t ((stn_Network_Latest_nil_t 1).2) 3))) rfl rfl ?_)
            rcases ite_some ht24016 with ⟨hc24039, ht24016⟩ | ⟨hc24039, ht24016⟩
            · refine WL_run rfl (yield_of rfl (congrArg Value.bool hc24039)) rfl (Exec.move (v := Value.pointer none) rfl rfl ?_)
              refine WL_run rfl (yield_of rfl (congrArg Value.bool hc24039)) rfl (Exec.build rfl (parts_cons (c := [Value.int .i64 (0)]) (cells_of rfl rfl) (parts_cons (c := [Value.int .i64 (2)]) (cells_of rfl rfl) (parts_cons (c := [Value.int .i64 (4)]) (cells_of rfl rfl) parts_nil))) (v := Value.agg #[Value.int .i64 (0), Value.int .i64 (2), Value.int .i64 (4)]) (fun _ => by kernel_rfl) ?_)
              refine WL_run rfl (yield_of rfl (congrArg Value.bool hc24039)) rfl (Exec.call rfl rfl Try.func14 rfl N14 (args_cons rfl (args_cons rfl args_nil)) ((stn_Network_Add_nil_sim (stn_Network_Add_nil_tot (⟨0, 2, 4⟩ : Bound)) hS24038 ).mono ?_))
              rintro _ w24040 ⟨_, rfl, ⟨s24041, l24042, hS24043, rfl⟩⟩
              refine ⟨_, rfl, ?_⟩
              refine WL_run rfl (yield_of rfl (congrArg Value.bool hc24039)) rfl (Exec.call rfl rfl Try.func11 rfl N11 (args_cons rfl (args_cons rfl args_nil)) ((base_Is_sim (base_Is_tot (stn_Network_Add_nil_t (⟨0, 2, 4⟩ : Bound)) 21) hS24043 ).mono ?_))
              rintro _ w24044 ⟨_, rfl, ⟨s24045, l24046, hS24047, rfl⟩⟩
              refine ⟨_, rfl, ?_⟩
              refine WL_step rfl rfl (Exec.pick_t (v := Value.bool ((base_Is_t (stn_Network_Add_nil_t (⟨0, 2, 4⟩ : Bound)) 21))) rfl (congrArg Value.bool hc24039) rfl ?_)
              refine WL_step rfl rfl (Exec.assign (v := Value.bool ((base_Is_t (stn_Network_Add_nil_t (⟨0, 2, 4⟩ : Bound)) 21))) rfl rfl ?_)
              refine WL_nil (at_normal ?_)
              have e24048 := Option.some.inj ht24016
              subst z24015
              exact ⟨s24045, (PHeap.le.trans (PHeap.le.trans (PHeap.le.trans (PHeap.le.trans l24024 l24032) l24037) l24042) l24046), hS24047, rfl⟩
            · replace hc24039 := not_true hc24039
              refine WL_pass rfl (yield_of rfl (congrArg Value.bool hc24039)) rfl rfl ?_
              refine WL_pass rfl (yield_of rfl (congrArg Value.bool hc24039)) rfl rfl ?_
              refine WL_pass rfl (yield_of rfl (congrArg Value.bool hc24039)) rfl rfl ?_
              refine WL_pass rfl (yield_of rfl (congrArg Value.bool hc24039)) rfl rfl ?_
              refine WL_step rfl rfl (Exec.pick_f (v := Value.bool (false)) rfl (congrArg Value.bool hc24039) rfl ?_)
              refine WL_step rfl rfl (Exec.assign (v := Value.bool (false)) rfl rfl ?_)
              refine WL_nil (at_normal ?_)
              have e24049 := Option.some.inj ht24016
              subst z24015
              exact ⟨s24036, (PHeap.le.trans (PHeap.le.trans l24024 l24032) l24037), hS24038, rfl⟩
          · replace hc24034 := not_true hc24034
            refine WL_pass rfl (yield_of rfl (congrArg Value.bool hc24034)) rfl rfl ?_
            refine WL_pass rfl (yield_of rfl (congrArg Value.bool hc24034)) rfl rfl ?_
            refine WL_step rfl rfl (Exec.pick_f (v := Value.bool (false)) rfl (congrArg Value.bool hc24034) rfl ?_)
            refine WL_step rfl rfl (Exec.move (v := Value.bool (false)) rfl rfl ?_)
            refine WL_pass rfl (yield_of rfl rfl) rfl rfl ?_
            refine WL_pass rfl (yield_of rfl rfl) rfl rfl ?_
            refine WL_pass rfl (yield_of rfl rfl) rfl rfl ?_
            refine WL_pass rfl (yield_of rfl rfl) rfl rfl ?_
            refine WL_step rfl rfl (Exec.pick_f (v := Value.bool (false)) rfl rfl rfl ?_)
            refine WL_step rfl rfl (Exec.assign (v := Value.bool (false)) rfl rfl ?_)
            refine WL_nil (at_normal ?_)
            have e24050 := Option.some.inj ht24016
            subst z24015
            exact ⟨s24031, (PHeap.le.trans l24024 l24032), hS24033, rfl⟩
        · replace hc24018 := not_true hc24018
          refine WL_pass rfl (yield_of rfl (congrArg Value.bool hc24018)) rfl rfl ?_
          refine WL_pass rfl (yield_of rfl (congrArg Value.bool hc24018)) rfl rfl ?_
          refine WL_pass rfl (yield_of rfl (congrArg Value.bool hc24018)) rfl rfl ?_
          refine WL_step rfl rfl (Exec.pick_f (v := Value.bool (false)) rfl (congrArg Value.bool hc24018) rfl ?_)
          refine WL_step rfl rfl (Exec.move (v := Value.bool (false)) rfl rfl ?_)
          refine WL_pass rfl (yield_of rfl rfl) rfl rfl ?_
          refine WL_pass rfl (yield_of rfl rfl) rfl rfl ?_
          refine WL_step rfl rfl (Exec.pick_f (v := Value.bool (false)) rfl rfl rfl ?_)
          refine WL_step rfl rfl (Exec.move (v := Value.bool (false)) rfl rfl ?_)
          refine WL_pass rfl (yield_of rfl rfl) rfl rfl ?_
          refine WL_pass rfl (yield_of rfl rfl) rfl rfl ?_
          refine WL_pass rfl (yield_of rfl rfl) rfl rfl ?_
          refine WL_pass rfl (yield_of rfl rfl) rfl rfl ?_
          refine WL_step rfl rfl (Exec.pick_f (v := Value.bool (false)) rfl rfl rfl ?_)
          refine WL_step rfl rfl (Exec.assign (v := Value.bool (false)) rfl rfl ?_)
          refine WL_nil (at_normal ?_)
          have e24051 := Option.some.inj ht24016
          subst z24015
          exact ⟨s23982, (PHeap.le_refl _), hS23984, rfl⟩
      · intro f24052 w24053 hM24054
        obtain ⟨s24055, l24056, hS24057, p24058⟩ := hM24054
        refine (at_normal ?_)
        refine W_ret ?_
        have e24060 := Option.some.inj hm
        subst r
        refine ⟨_, ret1 rfl, ?_⟩
        exact ⟨s24055, (PHeap.le.trans (PHeap.le.trans (PHeap.le.trans (PHeap.le.trans l23796 l23814) l23973) l23983) l24056), hS24057, p24058⟩

theorem A5 : tyAgg Try.prog 5 = some (false, 1) := by kernel_rfl

theorem N4 : (Try.f4.name == "runtime.NumGoroutine") = false := by kernel_rfl

end Go.Pw
