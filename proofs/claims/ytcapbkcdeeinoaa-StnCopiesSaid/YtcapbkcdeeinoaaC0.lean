/-
  The walks (printed by my generator).
-/
import Derived.Test.YtcapbkcdeeinoaaCP
import Derived.Test.YtcapbkcdeeinoaaL8
import Derived.Test.YtcapbkcdeeinoaaProg
import Derived.KernelRfl
set_option maxRecDepth 100000
set_option linter.unusedVariables false
namespace Go.Pw
open Go.Proofs
theorem C30 : Try.prog.concrete 30 = true := by kernel_rfl

theorem S49 : tySlice Try.prog 49 = some (3, 1, 8) := by kernel_rfl

theorem Z3 : tyZero Try.prog 3 = some (Value.int .i64 (0)) := by kernel_rfl

theorem A3 : tyAgg Try.prog 3 = some (false, 1) := by kernel_rfl

theorem F63_0 : tyField Try.prog 63 0 = some 0 := by kernel_rfl

theorem A61 : tyAgg Try.prog 61 = some (false, 1) := by kernel_rfl

theorem S61 : tySlice Try.prog 61 = some (49, 1, 24) := by kernel_rfl

theorem Z49 : tyZero Try.prog 49 = some (Value.slice none 0 0) := by kernel_rfl

theorem N10 : (Try.f10.name == "runtime.NumGoroutine") = false := by kernel_rfl

theorem stn_New_sim {w0 w : World} {s : PHeap} {H : List Res} {n20 : Int}  {r : (Option stn_Network) × (Option Int)} (hm : stn_New_p n20 = some r) (hS : St w0 s (H) w)  :
    Calls Try.prog 10 #[Value.int .i64 (n20)] w fun e w' => ∃ v, e = .returned v ∧ ((un2 fun (p_d929 : (Option stn_Network)) (y930 : (Option Int)) => (∃ d929 : stn_Network, p_d929 = some d929 ∧ ∃ (s934 : PHeap) (b931 : Nat) (v932 : Value) (hs933 : List Value), PHeap.le s s934 ∧ St w0 s934 (Res.box b931 63 [v932] :: Res.arr encRaw 49 v932 hs933 :: Res.rows (encInt .i64) 3 hs933 d929.d :: H) w' ∧ v = Value.tuple #[Value.pointer (some ⟨b931, 0, none⟩), errV 30 (y930)]) ∨ (p_d929 = none ∧ ∃ (s935 : PHeap) , PHeap.le s s935 ∧ St w0 s935 (H) w' ∧ v = Value.tuple #[Value.pointer none, errV 30 (y930)])) r) := by
  unfold stn_New_p at hm
  refine calls_of_W Try.func10 rfl rfl ?_
  refine W_seq ?_
  refine W_region ?_
  refine WL_step rfl rfl (Exec.assign (v := Value.pointer none) rfl rfl ?_)
  refine WL_step rfl rfl (Exec.assign (v := errV 30 (none)) rfl rfl ?_)
  refine WL_nil (at_normal ?_)
  refine W_seq ?_
  refine W_seq ?_
  refine W_mid (M := fun f' w' => ∃ (s937 : PHeap) , PHeap.le s s937 ∧ St w0 s937 (H) w' ∧ f' 0 = Value.int .i64 (n20) ∧ f' 13 = Value.bool (((decide (n20 < 1)) || decide (128 < n20)))) ?_ ?_
  · refine W_region ?_
    refine WL_step rfl rfl (Exec.move (v := Value.int .i64 (n20)) rfl rfl ?_)
    refine WL_step rfl rfl (Exec.lss rfl rfl rfl ?_)
    refine WL_step rfl rfl (Exec.move (v := Value.bool (decide (n20 < 1))) rfl rfl ?_)
    by_cases hc938 : (decide (n20 < 1)) = true
    · refine WL_pass rfl (yield_of rfl (congrArg Value.bool hc938)) rfl rfl ?_
      refine WL_pass rfl (yield_of rfl (congrArg Value.bool hc938)) rfl rfl ?_
      refine WL_step rfl rfl (Exec.pick_t (v := Value.bool (true)) rfl (congrArg Value.bool hc938) rfl ?_)
      refine WL_nil (at_normal ?_)
      exact ⟨s, (PHeap.le_refl _), hS, rfl, (congrArg Value.bool (or_t hc938)).symm⟩
    · replace hc938 := not_true hc938
      refine WL_run rfl (yield_of rfl (congrArg Value.bool hc938)) rfl (Exec.move (v := Value.int .i64 (n20)) rfl rfl ?_)
      refine WL_run rfl (yield_of rfl (congrArg Value.bool hc938)) rfl (Exec.gtr rfl rfl rfl ?_)
      refine WL_step rfl rfl (Exec.pick_f (v := Value.bool (decide (128 < n20))) rfl (congrArg Value.bool hc938) rfl ?_)
      refine WL_nil (at_normal ?_)
      exact ⟨s, (PHeap.le_refl _), hS, rfl, (congrArg Value.bool (or_f hc938)).symm⟩
  · intro f939 w940 hM941
    obtain ⟨s942, l943, hS944, p945, p946⟩ := hM941
    refine (at_normal ?_)
    rcases ite_some hm with ⟨hc947, hm⟩ | ⟨hc947, hm⟩
    · refine W_cond_t p946 hc947 ?_
      refine W_seq ?_
      refine W_region ?_
      refine WL_step rfl rfl (Exec.makeInterface C30 rfl rfl ?_)
      refine WL_step rfl rfl (Exec.assign (v := Value.pointer none) rfl rfl ?_)
      refine WL_step rfl rfl (Exec.assign (v := errV 30 (some 1)) rfl rfl ?_)
      refine WL_nil (at_normal ?_)
      refine W_ret (at_ret ?_)
      have e949 := Option.some.inj hm
      subst r
      refine ⟨_, ret2 rfl, ?_⟩
      refine (Or.inr ⟨rfl, ?_⟩); exact ⟨s942, l943, hS944, (tup2 rfl rfl)⟩
    · refine W_cond_f p946 hc947 ?_
      replace hc947 := not_true hc947
      refine W_skip (at_normal ?_)
      refine W_seq ?_
      refine W_region ?_
      refine WL_step rfl rfl (Exec.build rfl parts_nil (v := Value.agg #[Value.slice none 0 0]) (fun _ => by kernel_rfl) ?_)
      refine WL_step rfl rfl (Exec.box (cs := [Value.slice none 0 0]) hS944 rfl rfl rfl ?_)
      intro b953 w954 hS955
      refine WL_step rfl rfl (Exec.assign (v := Value.pointer (some ⟨b953, 0, none⟩)) rfl rfl ?_)
      refine WL_nil (at_normal ?_)
      refine W_seq ?_
      refine W_seq ?_
      refine W_region ?_
      refine WL_step rfl rfl (Exec.move (v := Value.int .i64 (n20)) rfl p945 ?_)
      refine WL_step rfl rfl (Exec.move (v := Value.int .i64 (0)) rfl rfl ?_)
      refine WL_nil (at_normal ?_)
      obtain ⟨u956, q957, hm⟩ := bind_some hm
      obtain ⟨z1236, hB1529, hm⟩ := bind_some hm
      refine W_block (W_forS (fun k' s' f' w' => (fun (z1236 : (List (List Int))) => ∃ (s1530 : PHeap) (v1237 : Value) (hs1238 : List Value), PHeap.le s942 s1530 ∧ St w0 s1530 (Res.box b953 63 [v1237] :: Res.arr encRaw 49 v1237 hs1238 :: Res.rows (encInt .i64) 3 hs1238 z1236 :: H) w' ∧ f' 0 = Value.int .i64 (n20) ∧ f' 4 = Value.pointer (some ⟨b953, 0, none⟩) ∧ f' 17 = Value.int .i64 (n20) ∧ f' 18 = Value.int .i64 (k' : Int)) s') hB1529 ?_ ?_ ?_)
      · have hS1531 := (hS955.rows_nil (encInt .i64) 3).nilArr encRaw 49
        have hS1532 := (hS1531).f2
        exact ⟨s942, (Value.slice none 0 0), [], (PHeap.le_refl _), hS1532, p945, rfl, rfl, rfl⟩
      · intro i958 z1236 s1534 f1535 w1536 hi1537 hI1538 hm1539
        obtain ⟨s1540, v1237, hs1238, l1541, hS1542, p1543, p1544, p1545, x1546⟩ := hI1538
        refine W_seq ?_
        refine W_region ?_
        refine WL_step rfl rfl (Exec.lss rfl x1546 p1545 ?_)
        refine WL_nil (at_normal ?_)
        refine W_seq ?_
        refine W_true (congrArg Value.bool (decide_eq_true (by omega))) ?_
        refine W_skip (at_normal ?_)
        refine W_seq ?_
        refine W_block ?_
        refine W_seq ?_
        refine W_region ?_
        refine WL_step rfl rfl (Exec.move (v := Value.int .i64 ((i958 : Int))) rfl x1546 ?_)
        refine WL_step rfl rfl (Exec.assign (v := Value.int .i64 ((i958 : Int))) rfl rfl ?_)
        refine WL_nil (at_normal ?_)
        refine W_seq ?_
        refine W_region ?_
        refine WL_step rfl rfl (Exec.move (v := Value.int .i64 (n20)) rfl p1543 ?_)
        obtain ⟨l1552, q1553, hm1539⟩ := bind_some hm1539
        refine WL_step rfl rfl (Exec.make (E := (encInt .i64)) hS1542 S49 Z3 rfl rfl rfl rfl q1553 ?_)
        intro v1554 w1555 hS1556
        refine WL_step rfl rfl (Exec.assign (v := v1554) rfl rfl ?_)
        refine WL_nil (at_normal ?_)
        refine W_seq ?_
        refine W_seq ?_
        refine W_region ?_
        refine WL_step rfl rfl (Exec.move (v := v1554) rfl rfl ?_)
        refine WL_step rfl rfl (Exec.len_arr (hS1556) S49 rfl rfl ?_)
        refine WL_step rfl rfl (Exec.move (v := Value.int .i64 (0)) rfl rfl ?_)
        refine WL_nil (at_normal ?_)
        obtain ⟨l1625, hB1694, hm1539⟩ := bind_some hm1539
        refine W_block (W_forS (fun k' s' f' w' => (fun (l1625 : (List Int)) => ∃ (s1695 : PHeap) , PHeap.le s1540 s1695 ∧ St w0 s1695 (Res.box b953 63 [v1237] :: Res.arr (encInt .i64) 3 v1554 l1625 :: Res.arr encRaw 49 v1237 hs1238 :: Res.rows (encInt .i64) 3 hs1238 z1236 :: H) w' ∧ f' 0 = Value.int .i64 (n20) ∧ f' 4 = Value.pointer (some ⟨b953, 0, none⟩) ∧ f' 5 = Value.int .i64 ((i958 : Int)) ∧ f' 6 = v1554 ∧ f' 17 = Value.int .i64 (n20) ∧ f' 18 = Value.int .i64 ((i958 : Int)) ∧ f' 24 = Value.int .i64 ((l1552.length : Int)) ∧ f' 25 = Value.int .i64 (k' : Int)) s') hB1694 ?_ ?_ ?_)
        · have hS1696 := ((hS1556).f3).f3
          have hS1697 := (hS1696).f2
          have hS1698 := (hS1697).f3
          exact ⟨s1540, (PHeap.le_refl _), hS1698, p1543, p1544, rfl, rfl, p1545, x1546, rfl, rfl⟩
        · intro i1557 l1625 s1700 f1701 w1702 hi1703 hI1704 hm1705
          obtain ⟨s1706, l1707, hS1708, p1709, p1710, p1711, p1712, p1713, p1714, p1715, x1716⟩ := hI1704
          refine W_seq ?_
          refine W_region ?_
          refine WL_step rfl rfl (Exec.lss rfl x1716 p1715 ?_)
          refine WL_nil (at_normal ?_)
          refine W_seq ?_
          refine W_true (congrArg Value.bool (decide_eq_true (by omega))) ?_
          refine W_skip (at_normal ?_)
          refine W_seq ?_
          refine W_block ?_
          refine W_seq ?_
          refine W_region ?_
          refine WL_step rfl rfl (Exec.move (v := Value.int .i64 ((i1557 : Int))) rfl x1716 ?_)
          refine WL_step rfl rfl (Exec.assign (v := Value.int .i64 ((i1557 : Int))) rfl rfl ?_)
          refine WL_nil (at_normal ?_)
          refine W_seq ?_
          refine W_region ?_
          refine WL_step rfl rfl (Exec.move (v := Value.int .i64 ((i1557 : Int))) rfl rfl ?_)
          refine WL_step rfl rfl (Exec.move (v := Value.int .i64 ((i958 : Int))) rfl p1711 ?_)
          refine WL_step rfl rfl (Exec.neq rfl rfl rfl ?_)
          refine WL_nil (at_normal ?_)
          obtain ⟨l1737, ht1738, hm1705⟩ := bind_some hm1705
          refine W_mid (M := fun f' w' => (fun (l1737 : (List Int)) => ∃ (s1739 : PHeap) , PHeap.le s1706 s1739 ∧ St w0 s1739 (Res.box b953 63 [v1237] :: Res.arr (encInt .i64) 3 v1554 l1737 :: Res.arr encRaw 49 v1237 hs1238 :: Res.rows (encInt .i64) 3 hs1238 z1236 :: H) w' ∧ f' 0 = Value.int .i64 (n20) ∧ f' 4 = Value.pointer (some ⟨b953, 0, none⟩) ∧ f' 5 = Value.int .i64 ((i958 : Int)) ∧ f' 6 = v1554 ∧ f' 17 = Value.int .i64 (n20) ∧ f' 18 = Value.int .i64 ((i958 : Int)) ∧ f' 24 = Value.int .i64 ((l1552.length : Int)) ∧ f' 25 = Value.int .i64 ((i1557 : Int))) l1737) ?_ ?_
          · rcases ite_some ht1738 with ⟨hc1740, ht1738⟩ | ⟨hc1740, ht1738⟩
            · refine W_cond_t rfl hc1740 ?_
              refine W_region ?_
              refine WL_step rfl rfl (Exec.move (v := v1554) rfl p1712 ?_)
              refine WL_step rfl rfl (Exec.move (v := Value.int .i64 ((i1557 : Int))) rfl rfl ?_)
              obtain ⟨x1751, q1752, ht1738⟩ := bind_some ht1738
              obtain ⟨g1753, c1754, e1755⟩ := ((hS1708).f1).arr_at q1752
              refine WL_step rfl rfl (Exec.index_slice S49 rfl e1755 rfl (idx_some q1752).1 (idx_some q1752).2.1 ?_)
              obtain ⟨l1756, q1757, ht1738⟩ := bind_some ht1738
              have hS1758 := (hS1708).f1
              refine WL_step rfl rfl (Exec.store_arr hS1758 e1755 A3 rfl rfl rfl rfl (encInt_val.2 rfl) q1757 ?_)
              intro w1759 hS1760
              refine WL_nil (at_normal ?_)
              have e1761 := Option.some.inj ht1738
              subst l1737
              have hS1762 := ((hS1760).f3).f3
              have hS1763 := (hS1762).f2
              have hS1764 := (hS1763).f3
              exact ⟨s1706, (PHeap.le_refl _), hS1764, p1709, p1710, p1711, p1712, p1713, p1714, p1715, x1716⟩
            · refine W_cond_f rfl hc1740 ?_
              replace hc1740 := not_true hc1740
              refine W_skip (at_normal ?_)
              have e1765 := Option.some.inj ht1738
              subst l1737
              have hS1766 := ((hS1708).f3).f3
              have hS1767 := (hS1766).f3
              have hS1768 := (hS1767).f3
              exact ⟨s1706, (PHeap.le_refl _), hS1768, p1709, p1710, p1711, p1712, p1713, p1714, p1715, x1716⟩
          · intro f1769 w1770 hM1771
            obtain ⟨s1772, l1773, hS1774, p1775, p1776, p1777, p1778, p1779, p1780, p1781, p1782⟩ := hM1771
            refine (ib_normal (at_normal ?_))
            refine W_region ?_
            refine WL_step rfl rfl (Exec.add rfl p1782 rfl ?_)
            refine WL_step rfl rfl (Exec.move (v := Value.int .i64 (IntKind.i64.wrap ((i1557 : Int) + 1))) rfl rfl ?_)
            refine WL_nil (at_normal ?_)
            have e1783 := Option.some.inj hm1705
            subst s1700
            have hS1784 := ((hS1774).f3).f3
            have hS1785 := (hS1784).f3
            have hS1786 := (hS1785).f3
            exact ⟨s1772, (PHeap.le.trans l1707 l1773), hS1786, p1775, p1776, p1777, p1778, p1779, p1780, p1781, (Eq.trans rfl (wrap_up hi1703 (hS1556).arr_le))⟩
        · intro f1787 w1788 hI1789
          obtain ⟨s1790, l1791, hS1792, p1793, p1794, p1795, p1796, p1797, p1798, p1799, x1800⟩ := hI1789
          refine W_seq ?_
          refine W_region ?_
          refine WL_step rfl rfl (Exec.lss rfl x1800 p1799 ?_)
          refine WL_nil (at_normal ?_)
          refine W_seq ?_
          refine W_false (congrArg Value.bool (decide_eq_false (by omega))) ?_
          refine W_exit (at_exit (at_exit (ib_here (at_normal ?_))))
          refine W_region ?_
          refine WL_step rfl rfl (Exec.move (v := Value.pointer (some ⟨b953, 0, none⟩)) rfl p1794 ?_)
          refine WL_step rfl rfl (Exec.move (v := Value.pointer (some ⟨b953, 0, none⟩)) rfl p1794 ?_)
          refine WL_step rfl rfl (Exec.nilCheck_ptr rfl rfl ?_)
          refine WL_step rfl rfl (Exec.field F63_0 rfl rfl rfl ?_)
          refine WL_step rfl rfl (Exec.load_box (hS1792) A61 rfl rfl rfl ?_)
          refine WL_step rfl rfl (Exec.move (v := v1554) rfl p1796 ?_)
          refine WL_step rfl rfl (Exec.buildSlice (Te := 49) (cs := [v1554]) hS1792 rfl (parts_cons (c := [v1554]) (cells_of rfl (cells_one ((hS1792).f1).arr_one)) parts_nil) (fun _ => by kernel_rfl) ?_)
          intro b1817 w1818 hS1819
          obtain ⟨l1820, q1821, hm1539⟩ := bind_some hm1539
          have hS1822 := (hS1819).f2
          have hS1823 := (hS1822).f1
          have hS1824 := ((hS1823).f4).f4
          have hS1825 := ((hS1824).f2).f1
          refine WL_step rfl rfl (Exec.append_grid (E := encRaw) (ys := [v1554]) hS1825 S61 Z49 rfl (by decide) rfl rfl rfl rfl (reps_one ⟨rfl, ((hS1825).f3).arr_one⟩) rfl rfl ((hS1825).f2).rows_len q1821 ?_)
          intro v1826 w1827 hS1828
          have hS1829 := ((hS1828).f1.f2.rows_push).f1
          rw [← (app_some q1821).2] at hS1829
          refine WL_step rfl rfl (Exec.nilCheck_ptr rfl rfl ?_)
          refine WL_step rfl rfl (Exec.field F63_0 rfl rfl rfl ?_)
          have hS1830 := (hS1829).f2
          refine WL_step rfl rfl (Exec.store_box (ds := [v1826]) (es := [v1826]) hS1830 A61 rfl rfl rfl (cells_one (((hS1830).f2).f2).arr_one) (one_cons (((hS1830).f2).f2).arr_one one_nil) (Nat.le_of_ble_eq_true rfl) rfl ?_)
          intro w1831 hS1832
          refine WL_nil (ib_normal (at_normal ?_))
          refine W_region ?_
          refine WL_step rfl rfl (Exec.add rfl p1798 rfl ?_)
          refine WL_step rfl rfl (Exec.move (v := Value.int .i64 (IntKind.i64.wrap ((i958 : Int) + 1))) rfl rfl ?_)
          refine WL_nil (at_normal ?_)
          have e1833 := Option.some.inj hm1539
          subst s1534
          have hS1834 := ((hS1832).f2).f2
          have hS1835 := (hS1834).f2
          exact ⟨s1790, v1826, (hs1238 ++ [v1554]), (PHeap.le.trans l1541 l1791), hS1835, p1793, p1794, p1797, (Eq.trans rfl (wrap_up hi1537 (by have h := must_some q957; simp at h; simp only [maxLen]; omega)))⟩
      · intro f1836 w1837 hI1838
        obtain ⟨s1839, v1237, hs1238, l1840, hS1841, p1842, p1843, p1844, x1845⟩ := hI1838
        refine W_seq ?_
        refine W_region ?_
        refine WL_step rfl rfl (Exec.lss rfl x1845 p1844 ?_)
        refine WL_nil (at_normal ?_)
        refine W_seq ?_
        refine W_false (congrArg Value.bool (decide_eq_false (by omega))) ?_
        refine W_exit (at_exit (at_exit (ib_here (at_normal ?_))))
        refine W_seq ?_
        refine W_region ?_
        refine WL_step rfl rfl (Exec.move (v := Value.pointer (some ⟨b953, 0, none⟩)) rfl p1843 ?_)
        refine WL_step rfl rfl (Exec.assign (v := Value.pointer (some ⟨b953, 0, none⟩)) rfl rfl ?_)
        refine WL_step rfl rfl (Exec.assign (v := errV 30 (none)) rfl rfl ?_)
        refine WL_nil (at_normal ?_)
        refine W_ret ?_
        have e1847 := Option.some.inj hm
        subst r
        refine ⟨_, ret2 rfl, ?_⟩
        have hS1848 := ((hS1841).f2).f2
        have hS1849 := (hS1848).f2
        refine (Or.inl ⟨_, rfl, ?_⟩); exact ⟨s1839, b953, v1237, hs1238, (PHeap.le.trans l943 l1840), hS1849, (tup2 rfl rfl)⟩

theorem S22 : tySlice Try.prog 22 = some (32, 3, 24) := by kernel_rfl

theorem A32 : tyAgg Try.prog 32 = some (true, 3) := by kernel_rfl

theorem Z32 : tyZero Try.prog 32 = some (Value.agg #[Value.int .i64 (0), Value.int .i64 (0), Value.int .i64 (0)]) := by kernel_rfl

theorem F32_0 : tyField Try.prog 32 0 = some 0 := by kernel_rfl

theorem N26 : (Try.f26.name == "runtime.NumGoroutine") = false := by kernel_rfl

theorem stn_Network_point_sim {w0 w : World} {s : PHeap} {H : List Res} {n1940 : stn_Network} {p1944 : Int} {b1941 : Nat} {v1942 : Value} {hs1943 : List Value} {r : Bool} (hm : stn_Network_point_p n1940 p1944 = some r) (hS : St w0 s (Res.box b1941 63 [v1942] :: Res.arr encRaw 49 v1942 hs1943 :: Res.rows (encInt .i64) 3 hs1943 n1940.d :: H) w)  :
    Calls Try.prog 26 #[Value.pointer (some ⟨b1941, 0, none⟩), Value.int .i64 (p1944)] w fun e w' => ∃ v, e = .returned v ∧ ((fun (y1960 : Bool) => ∃ (s1961 : PHeap) , PHeap.le s s1961 ∧ St w0 s1961 (Res.box b1941 63 [v1942] :: Res.arr encRaw 49 v1942 hs1943 :: Res.rows (encInt .i64) 3 hs1943 n1940.d :: H) w' ∧ v = Value.bool (y1960)) r) := by
  unfold stn_Network_point_p at hm
  refine calls_of_W Try.func26 rfl rfl ?_
  refine W_seq ?_
  refine W_region ?_
  refine WL_step rfl rfl (Exec.assign (v := Value.bool (false)) rfl rfl ?_)
  refine WL_nil (at_normal ?_)
  refine W_seq ?_
  refine W_mid (M := fun f' w' => ∃ (s1963 : PHeap) , PHeap.le s s1963 ∧ St w0 s1963 (Res.box b1941 63 [v1942] :: Res.arr encRaw 49 v1942 hs1943 :: Res.rows (encInt .i64) 3 hs1943 n1940.d :: H) w' ∧ f' 4 = Value.bool (((decide (0 ≤ p1944)) && decide (p1944 < (n1940.d.length : Int))))) ?_ ?_
  · refine W_region ?_
    refine WL_step rfl rfl (Exec.move (v := Value.int .i64 (p1944)) rfl rfl ?_)
    refine WL_step rfl rfl (Exec.geq rfl rfl rfl ?_)
    refine WL_step rfl rfl (Exec.move (v := Value.bool (decide (0 ≤ p1944))) rfl rfl ?_)
    by_cases hc1964 : (decide (0 ≤ p1944)) = true
    · refine WL_run rfl (yield_of rfl (congrArg Value.bool hc1964)) rfl (Exec.move (v := Value.int .i64 (p1944)) rfl rfl ?_)
      refine WL_run rfl (yield_of rfl (congrArg Value.bool hc1964)) rfl (Exec.move (v := Value.pointer (some ⟨b1941, 0, none⟩)) rfl rfl ?_)
      refine WL_run rfl (yield_of rfl (congrArg Value.bool hc1964)) rfl (Exec.nilCheck_ptr rfl rfl ?_)
      refine WL_run rfl (yield_of rfl (congrArg Value.bool hc1964)) rfl (Exec.field F63_0 rfl rfl rfl ?_)
      refine WL_run rfl (yield_of rfl (congrArg Value.bool hc1964)) rfl (Exec.load_box (hS) A61 rfl rfl rfl ?_)
      refine WL_run rfl (yield_of rfl (congrArg Value.bool hc1964)) rfl (Exec.len_grid (((hS).f2).f2) (((hS).f2).f2).f1.rows_len S61 rfl rfl ?_)
      refine WL_run rfl (yield_of rfl (congrArg Value.bool hc1964)) rfl (Exec.lss rfl rfl rfl ?_)
      refine WL_step rfl rfl (Exec.pick_t (v := Value.bool (decide (p1944 < (n1940.d.length : Int)))) rfl (congrArg Value.bool hc1964) rfl ?_)
      refine WL_step rfl rfl (Exec.assign (v := Value.bool (decide (p1944 < (n1940.d.length : Int)))) rfl rfl ?_)
      refine WL_nil (at_normal ?_)
      have hS1965 := ((hS).f2).f2
      have hS1966 := (hS1965).f2
      exact ⟨s, (PHeap.le_refl _), hS1966, (congrArg Value.bool (and_t hc1964)).symm⟩
    · replace hc1964 := not_true hc1964
      refine WL_pass rfl (yield_of rfl (congrArg Value.bool hc1964)) rfl rfl ?_
      refine WL_pass rfl (yield_of rfl (congrArg Value.bool hc1964)) rfl rfl ?_
      refine WL_pass rfl (yield_of rfl (congrArg Value.bool hc1964)) rfl rfl ?_
      refine WL_pass rfl (yield_of rfl (congrArg Value.bool hc1964)) rfl rfl ?_
      refine WL_pass rfl (yield_of rfl (congrArg Value.bool hc1964)) rfl rfl ?_
      refine WL_pass rfl (yield_of rfl (congrArg Value.bool hc1964)) rfl rfl ?_
      refine WL_pass rfl (yield_of rfl (congrArg Value.bool hc1964)) rfl rfl ?_
      refine WL_step rfl rfl (Exec.pick_f (v := Value.bool (false)) rfl (congrArg Value.bool hc1964) rfl ?_)
      refine WL_step rfl rfl (Exec.assign (v := Value.bool (false)) rfl rfl ?_)
      refine WL_nil (at_normal ?_)
      have hS1967 := ((hS).f2).f2
      have hS1968 := (hS1967).f2
      exact ⟨s, (PHeap.le_refl _), hS1968, (congrArg Value.bool (and_f hc1964)).symm⟩
  · intro f1969 w1970 hM1971
    obtain ⟨s1972, l1973, hS1974, p1975⟩ := hM1971
    refine (at_normal ?_)
    refine W_ret ?_
    have e1977 := Option.some.inj hm
    subst r
    refine ⟨_, ret1 rfl, ?_⟩
    have hS1978 := ((hS1974).f2).f2
    have hS1979 := (hS1978).f2
    exact ⟨s1972, l1973, hS1979, p1975⟩

theorem F32_1 : tyField Try.prog 32 1 = some 1 := by kernel_rfl

theorem F32_2 : tyField Try.prog 32 2 = some 2 := by kernel_rfl

theorem hmix : Try.prog.follows .mixedOrders = true := by kernel_rfl

theorem A49 : tyAgg Try.prog 49 = some (false, 1) := by kernel_rfl

theorem N14 : (Try.f14.name == "runtime.NumGoroutine") = false := by kernel_rfl

theorem stn_Network_Add_sim {w0 w : World} {s : PHeap} {H : List Res} {n1929 : stn_Network} {b1933 : Bound} {b1930 : Nat} {v1931 : Value} {hs1932 : List Value} {r : (Option Int) × (List (List Int))} (hm : stn_Network_Add_p n1929 b1933 = some r) (hS : St w0 s (Res.box b1930 63 [v1931] :: Res.arr encRaw 49 v1931 hs1932 :: Res.rows (encInt .i64) 3 hs1932 n1929.d :: H) w)  :
    Calls Try.prog 14 #[Value.pointer (some ⟨b1930, 0, none⟩), Value.agg #[Value.int .i64 (b1933.A), Value.int .i64 (b1933.B), Value.int .i64 (b1933.Most)]] w fun e w' => ∃ v, e = .returned v ∧ ((un2 fun (y11199 : (Option Int)) (l11200 : (List (List Int))) => ∃ (s11201 : PHeap) , PHeap.le s s11201 ∧ St w0 s11201 (Res.box b1930 63 [v1931] :: Res.arr encRaw 49 v1931 hs1932 :: Res.rows (encInt .i64) 3 hs1932 l11200 :: H) w' ∧ v = errV 30 (y11199)) r) := by
  unfold stn_Network_Add_p at hm
  refine calls_of_W Try.func14 rfl rfl ?_
  refine W_seq ?_
  refine W_region ?_
  refine WL_step rfl rfl (Exec.box (cs := [Value.int .i64 (b1933.A), Value.int .i64 (b1933.B), Value.int .i64 (b1933.Most)]) hS rfl rfl rfl ?_)
  intro b11205 w11206 hS11207
  refine WL_step rfl rfl (Exec.assign (v := errV 30 (none)) rfl rfl ?_)
  refine WL_nil (at_normal ?_)
  refine W_seq ?_
  refine W_seq ?_
  refine W_region ?_
  refine WL_step rfl rfl (Exec.move (v := Value.pointer (some ⟨b1930, 0, none⟩)) rfl rfl ?_)
  refine WL_step rfl rfl (Exec.ptr_eql_nil Try.underlying24 rfl rfl rfl ?_)
  refine WL_nil (at_normal ?_)
  refine W_false rfl ?_
  refine W_skip (at_normal ?_)
  refine W_seq ?_
  refine W_seq ?_
  obtain ⟨z11223, ht11224, hm⟩ := bind_some hm
  refine W_mid (M := fun f' w' => (fun (z11223 : Bool) => ∃ (s11225 : PHeap) , PHeap.le s s11225 ∧ St w0 s11225 (Res.box b1930 63 [v1931] :: Res.arr encRaw 49 v1931 hs1932 :: Res.rows (encInt .i64) 3 hs1932 n1929.d :: Res.box b11205 32 [Value.int .i64 (b1933.A), Value.int .i64 (b1933.B), Value.int .i64 (b1933.Most)] :: H) w' ∧ f' 0 = Value.pointer (some ⟨b1930, 0, none⟩) ∧ f' 3 = Value.pointer (some ⟨b11205, 0, none⟩) ∧ f' 34 = Value.bool (z11223)) z11223) ?_ ?_
  · refine W_region ?_
    refine WL_step rfl rfl (Exec.move (v := Value.pointer (some ⟨b1930, 0, none⟩)) rfl rfl ?_)
    refine WL_step rfl rfl (Exec.field F32_0 rfl rfl rfl ?_)
    refine WL_step rfl rfl (Exec.load_box (hS11207) A3 rfl rfl rfl ?_)
    have hS11226 := ((hS11207).f3).f3
    have hS11227 := (hS11226).f3
    refine WL_step rfl rfl (Exec.call rfl rfl Try.func26 rfl N26 (args_cons rfl (args_cons rfl args_nil)) ((stn_Network_point_sim (stn_Network_point_tot n1929 b1933.A) hS11227 ).mono ?_))
    rintro _ w11228 ⟨_, rfl, ⟨s11229, l11230, hS11231, rfl⟩⟩
    refine ⟨_, rfl, ?_⟩
    refine WL_step rfl rfl (Exec.not rfl rfl ?_)
    refine WL_step rfl rfl (Exec.move (v := Value.bool (!(stn_Network_point_t n1929 b1933.A))) rfl rfl ?_)
    rcases ite_some ht11224 with ⟨hc11232, ht11224⟩ | ⟨hc11232, ht11224⟩
    · refine WL_pass rfl (yield_of rfl (congrArg Value.bool hc11232)) rfl rfl ?_
      refine WL_pass rfl (yield_of rfl (congrArg Value.bool hc11232)) rfl rfl ?_
      refine WL_pass rfl (yield_of rfl (congrArg Value.bool hc11232)) rfl rfl ?_
      refine WL_pass rfl (yield_of rfl (congrArg Value.bool hc11232)) rfl rfl ?_
      refine WL_pass rfl (yield_of rfl (congrArg Value.bool hc11232)) rfl rfl ?_
      refine WL_step rfl rfl (Exec.pick_t (v := Value.bool (true)) rfl (congrArg Value.bool hc11232) rfl ?_)
      refine WL_step rfl rfl (Exec.move (v := Value.bool (true)) rfl rfl ?_)
      refine WL_pass rfl (yield_of rfl rfl) rfl rfl ?_
      refine WL_pass rfl (yield_of rfl rfl) rfl rfl ?_
      refine WL_pass rfl (yield_of rfl rfl) rfl rfl ?_
      refine WL_step rfl rfl (Exec.pick_t (v := Value.bool (true)) rfl rfl rfl ?_)
      refine WL_step rfl rfl (Exec.move (v := Value.bool (true)) rfl rfl ?_)
      refine WL_pass rfl (yield_of rfl rfl) rfl rfl ?_
      refine WL_pass rfl (yield_of rfl rfl) rfl rfl ?_
      refine WL_pass rfl (yield_of rfl rfl) rfl rfl ?_
      refine WL_step rfl rfl (Exec.pick_t (v := Value.bool (true)) rfl rfl rfl ?_)
      refine WL_nil (at_normal ?_)
      have e11233 := Option.some.inj ht11224
      subst z11223
      have hS11234 := (hS11231).f3
      have hS11235 := ((hS11234).f3).f3
      have hS11236 := (hS11235).f3
      exact ⟨s11229, l11230, hS11236, rfl, rfl, rfl⟩
    · replace hc11232 := not_true hc11232
      refine WL_run rfl (yield_of rfl (congrArg Value.bool hc11232)) rfl (Exec.move (v := Value.pointer (some ⟨b1930, 0, none⟩)) rfl rfl ?_)
      refine WL_run rfl (yield_of rfl (congrArg Value.bool hc11232)) rfl (Exec.field F32_1 rfl rfl rfl ?_)
      refine WL_run rfl (yield_of rfl (congrArg Value.bool hc11232)) rfl (Exec.load_box ((hS11231).f3) A3 rfl rfl rfl ?_)
      have hS11237 := ((hS11231).f2).f2
      have hS11238 := (hS11237).f2
      refine WL_run rfl (yield_of rfl (congrArg Value.bool hc11232)) rfl (Exec.call rfl rfl Try.func26 rfl N26 (args_cons rfl (args_cons rfl args_nil)) ((stn_Network_point_sim (stn_Network_point_tot n1929 b1933.B) hS11238 ).mono ?_))
      rintro _ w11239 ⟨_, rfl, ⟨s11240, l11241, hS11242, rfl⟩⟩
      refine ⟨_, rfl, ?_⟩
      refine WL_run rfl (yield_of rfl (congrArg Value.bool hc11232)) rfl (Exec.not rfl rfl ?_)
      refine WL_step rfl rfl (Exec.pick_f (v := Value.bool (!(stn_Network_point_t n1929 b1933.B))) rfl (congrArg Value.bool hc11232) rfl ?_)
      refine WL_step rfl rfl (Exec.move (v := Value.bool (!(stn_Network_point_t n1929 b1933.B))) rfl rfl ?_)
      rcases ite_some ht11224 with ⟨hc11243, ht11224⟩ | ⟨hc11243, ht11224⟩
      · refine WL_pass rfl (yield_of rfl (congrArg Value.bool hc11243)) rfl rfl ?_
        refine WL_pass rfl (yield_of rfl (congrArg Value.bool hc11243)) rfl rfl ?_
        refine WL_pass rfl (yield_of rfl (congrArg Value.bool hc11243)) rfl rfl ?_
        refine WL_step rfl rfl (Exec.pick_t (v := Value.bool (true)) rfl (congrArg Value.bool hc11243) rfl ?_)
        refine WL_step rfl rfl (Exec.move (v := Value.bool (true)) rfl rfl ?_)
        refine WL_pass rfl (yield_of rfl rfl) rfl rfl ?_
        refine WL_pass rfl (yield_of rfl rfl) rfl rfl ?_
        refine WL_pass rfl (yield_of rfl rfl) rfl rfl ?_
        refine WL_step rfl rfl (Exec.pick_t (v := Value.bool (true)) rfl rfl rfl ?_)
        refine WL_nil (at_normal ?_)
        have e11244 := Option.some.inj ht11224
        subst z11223
        have hS11245 := (hS11242).f3
        have hS11246 := ((hS11245).f3).f3
        have hS11247 := (hS11246).f3
        exact ⟨s11240, (PHeap.le.trans l11230 l11241), hS11247, rfl, rfl, rfl⟩
      · replace hc11243 := not_true hc11243
        refine WL_run rfl (yield_of rfl (congrArg Value.bool hc11243)) rfl (Exec.field F32_2 rfl rfl rfl ?_)
        refine WL_run rfl (yield_of rfl (congrArg Value.bool hc11243)) rfl (Exec.load_box ((hS11242).f3) A3 rfl rfl rfl ?_)
        refine WL_run rfl (yield_of rfl (congrArg Value.bool hc11243)) rfl (Exec.lss rfl rfl rfl ?_)
        refine WL_step rfl rfl (Exec.pick_f (v := Value.bool (decide (b1933.Most < (-1099511627776)))) rfl (congrArg Value.bool hc11243) rfl ?_)
        refine WL_step rfl rfl (Exec.move (v := Value.bool (decide (b1933.Most < (-1099511627776)))) rfl rfl ?_)
        rcases ite_some ht11224 with ⟨hc11248, ht11224⟩ | ⟨hc11248, ht11224⟩
        · refine WL_pass rfl (yield_of rfl (congrArg Value.bool hc11248)) rfl rfl ?_
          refine WL_pass rfl (yield_of rfl (congrArg Value.bool hc11248)) rfl rfl ?_
          refine WL_pass rfl (yield_of rfl (congrArg Value.bool hc11248)) rfl rfl ?_
          refine WL_step rfl rfl (Exec.pick_t (v := Value.bool (true)) rfl (congrArg Value.bool hc11248) rfl ?_)
          refine WL_nil (at_normal ?_)
          have e11249 := Option.some.inj ht11224
          subst z11223
          have hS11250 := (hS11242).f3
          have hS11251 := ((hS11250).f3).f3
          have hS11252 := (hS11251).f3
          exact ⟨s11240, (PHeap.le.trans l11230 l11241), hS11252, rfl, rfl, rfl⟩
        · replace hc11248 := not_true hc11248
          refine WL_run rfl (yield_of rfl (congrArg Value.bool hc11248)) rfl (Exec.field F32_2 rfl rfl rfl ?_)
          refine WL_run rfl (yield_of rfl (congrArg Value.bool hc11248)) rfl (Exec.load_box ((hS11242).f3) A3 rfl rfl rfl ?_)
          refine WL_run rfl (yield_of rfl (congrArg Value.bool hc11248)) rfl (Exec.gtr rfl rfl rfl ?_)
          refine WL_step rfl rfl (Exec.pick_f (v := Value.bool (decide (1099511627776 < b1933.Most))) rfl (congrArg Value.bool hc11248) rfl ?_)
          refine WL_nil (at_normal ?_)
          have e11253 := Option.some.inj ht11224
          subst z11223
          have hS11254 := (hS11242).f3
          have hS11255 := ((hS11254).f3).f3
          have hS11256 := (hS11255).f3
          exact ⟨s11240, (PHeap.le.trans l11230 l11241), hS11256, rfl, rfl, rfl⟩
  · intro f11257 w11258 hM11259
    obtain ⟨s11260, l11261, hS11262, p11263, p11264, p11265⟩ := hM11259
    refine (at_normal ?_)
    rcases ite_some hm with ⟨hc11266, hm⟩ | ⟨hc11266, hm⟩
    · refine W_cond_t p11265 hc11266 ?_
      refine W_seq ?_
      refine W_region ?_
      refine WL_step rfl rfl (Exec.makeInterface C30 rfl rfl ?_)
      refine WL_step rfl rfl (Exec.assign (v := errV 30 (some 1)) rfl rfl ?_)
      refine WL_nil (at_normal ?_)
      refine W_ret (at_ret ?_)
      have e11268 := Option.some.inj hm
      subst r
      refine ⟨_, ret1 rfl, ?_⟩
      have hS11269 := ((hS11262).f3).drop
      have hS11270 := ((hS11269).f2).f2
      have hS11271 := (hS11270).f2
      exact ⟨s11260, l11261, hS11271, rfl⟩
    · refine W_cond_f p11265 hc11266 ?_
      replace hc11266 := not_true hc11266
      refine W_skip (at_normal ?_)
      refine W_seq ?_
      refine W_seq ?_
      obtain ⟨row11438, q11439, hm⟩ := bind_some hm
      obtain ⟨h11440, e11441, e11442, _⟩ := ((((hS11262).f2).f2).f1).rows_at q11439
      obtain ⟨g11443, c11444, e11445⟩ := (((hS11262).f2).f2).arr_at e11441
      obtain ⟨x11446, q11447, hm⟩ := bind_some hm
      obtain ⟨g11448, c11449, e11450⟩ := (((((hS11262).f2).f2).f1).rows_split e11442 (idx_some q11439).2.2).arr_at q11447
      refine W_drawn (n0 := 13) hmix (by kernel_rfl) [RP.eq (Value.pointer (some ⟨b1930, 0, none⟩)), RP.eq (Value.pointer (some ⟨b1930, 0, none⟩)), RP.eq (Value.pointer (some ⟨b1930, 0, none⟩)), RP.eq (v1931), RP.eq (Value.pointer (some ⟨b11205, 1, none⟩)), RP.eq (Value.int .i64 (b1933.B)), RP.eq (Value.pointer (some ⟨g11443, 0 + (b1933.B).toNat * 1, none⟩)), RP.eq (h11440), RP.eq (Value.pointer (some ⟨b11205, 0, none⟩)), RP.eq (Value.int .i64 (b1933.A)), RP.eq (Value.pointer (some ⟨g11448, 0 + (b1933.A).toNat * 1, none⟩)), RP.eq (Value.int .i64 (x11446)), RP.eq (Value.int .i64 (x11446))] hS11262 (HeadAll.cons ?_ (HeadAll.cons ?_ (HeadAll.cons ?_ (HeadAll.cons ?_ (HeadAll.cons ?_ (HeadAll.cons ?_ (HeadAll.cons ?_ (HeadAll.cons ?_ (HeadAll.cons ?_ (HeadAll.cons ?_ (HeadAll.cons ?_ (HeadAll.cons ?_ (HeadAll.cons ?_ (HeadAll.nil)))))))))))))) ?_
      · intro g11451 s11452 w11453 l11454 hS11455 fr11456 pre11457
        refine head_run rfl (Exec.move (v := Value.pointer (some ⟨b1930, 0, none⟩)) rfl (Eq.trans (fr11456 0 rfl) p11263) ?_)
        exact head_done hS11455 rfl
      · intro g11458 s11459 w11460 l11461 hS11462 fr11463 pre11464
        have p11465 : g11458 36 = (Value.pointer (some ⟨b1930, 0, none⟩)) := pre11464 0 _ rfl rfl
        refine head_run rfl (Exec.nilCheck_ptr rfl p11465 ?_)
        exact head_done hS11462 rfl
      · intro g11466 s11467 w11468 l11469 hS11470 fr11471 pre11472
        have p11473 : g11466 37 = (Value.pointer (some ⟨b1930, 0, none⟩)) := pre11472 0 _ rfl rfl
        refine head_run rfl (Exec.field F63_0 rfl p11473 rfl ?_)
        exact head_done hS11470 rfl
      · intro g11474 s11475 w11476 l11477 hS11478 fr11479 pre11480
        have p11481 : g11474 38 = (Value.pointer (some ⟨b1930, 0, none⟩)) := pre11480 0 _ rfl rfl
        refine head_run rfl (Exec.load_box (hS11478) A61 rfl p11481 rfl ?_)
        exact head_done hS11478 rfl
      · intro g11482 s11483 w11484 l11485 hS11486 fr11487 pre11488
        refine head_run rfl (Exec.field F32_1 rfl (Eq.trans (fr11487 3 rfl) p11264) rfl ?_)
        exact head_done hS11486 rfl
      · intro g11489 s11490 w11491 l11492 hS11493 fr11494 pre11495
        have p11496 : g11489 40 = (Value.pointer (some ⟨b11205, 1, none⟩)) := pre11495 0 _ rfl rfl
        refine head_run rfl (Exec.load_box ((hS11493).f3) A3 rfl p11496 rfl ?_)
        exact head_done hS11493 rfl
      · intro g11497 s11498 w11499 l11500 hS11501 fr11502 pre11503
        have p11504 : g11497 41 = (Value.int .i64 (b1933.B)) := pre11503 1 _ rfl rfl
        have p11505 : g11497 39 = (v1931) := pre11503 0 _ rfl rfl
        refine head_run rfl (Exec.index_slice S61 rfl (Eq.trans p11505 e11445) p11504 (idx_some e11441).1 (idx_some e11441).2.1 ?_)
        exact head_done hS11501 rfl
      · intro g11506 s11507 w11508 l11509 hS11510 fr11511 pre11512
        have p11513 : g11506 42 = (Value.pointer (some ⟨g11443, 0 + (b1933.B).toNat * 1, none⟩)) := pre11512 0 _ rfl rfl
        refine head_run rfl (Exec.load_arr (F := encRaw) (((hS11510).f2).f2) e11445 A49 rfl p11513 rfl e11441 (Sub.refl _) ?_)
        intro v11514 q11515
        exact head_done hS11510 (encRaw_val.1 q11515).1
      · intro g11516 s11517 w11518 l11519 hS11520 fr11521 pre11522
        refine head_run rfl (Exec.field F32_0 rfl (Eq.trans (fr11521 3 rfl) p11264) rfl ?_)
        exact head_done hS11520 rfl
      · intro g11523 s11524 w11525 l11526 hS11527 fr11528 pre11529
        have p11530 : g11523 44 = (Value.pointer (some ⟨b11205, 0, none⟩)) := pre11529 0 _ rfl rfl
        refine head_run rfl (Exec.load_box ((hS11527).f3) A3 rfl p11530 rfl ?_)
        exact head_done hS11527 rfl
      · intro g11531 s11532 w11533 l11534 hS11535 fr11536 pre11537
        have p11538 : g11531 43 = (h11440) := pre11537 0 _ rfl rfl
        have p11539 : g11531 45 = (Value.int .i64 (b1933.A)) := pre11537 1 _ rfl rfl
        refine head_run rfl (Exec.index_slice S49 rfl (Eq.trans p11538 e11450) p11539 (idx_some q11447).1 (idx_some q11447).2.1 ?_)
        exact head_done hS11535 rfl
      · intro g11540 s11541 w11542 l11543 hS11544 fr11545 pre11546
        have p11547 : g11540 46 = (Value.pointer (some ⟨g11448, 0 + (b1933.A).toNat * 1, none⟩)) := pre11546 0 _ rfl rfl
        refine head_run rfl (Exec.load_arr (F := (encInt .i64)) (((((hS11544).f2).f2).f1).rows_split e11442 (idx_some q11439).2.2) e11450 A3 rfl p11547 rfl q11447 (Sub.refl _) ?_)
        intro v11548 q11549
        exact head_done hS11544 (encInt_val.1 q11549)
      · intro g11550 s11551 w11552 l11553 hS11554 fr11555 pre11556
        have p11557 : g11550 47 = (Value.int .i64 (x11446)) := pre11556 0 _ rfl rfl
        refine head_run rfl (Exec.assign (v := Value.int .i64 (x11446)) rfl p11557 ?_)
        exact head_done hS11554 rfl
      · intro g11558 s11559 w11560 l11561 hS11562 fr11563 hR11564
        have p11565 : g11558 36 = (Value.pointer (some ⟨b1930, 0, none⟩)) := hR11564 0 rfl
        have p11566 : g11558 37 = (Value.pointer (some ⟨b1930, 0, none⟩)) := hR11564 1 rfl
        have p11567 : g11558 38 = (Value.pointer (some ⟨b1930, 0, none⟩)) := hR11564 2 rfl
        have p11568 : g11558 39 = (v1931) := hR11564 3 rfl
        have p11569 : g11558 40 = (Value.pointer (some ⟨b11205, 1, none⟩)) := hR11564 4 rfl
        have p11570 : g11558 41 = (Value.int .i64 (b1933.B)) := hR11564 5 rfl
        have p11571 : g11558 42 = (Value.pointer (some ⟨g11443, 0 + (b1933.B).toNat * 1, none⟩)) := hR11564 6 rfl
        have p11572 : g11558 43 = (h11440) := hR11564 7 rfl
        have p11573 : g11558 44 = (Value.pointer (some ⟨b11205, 0, none⟩)) := hR11564 8 rfl
        have p11574 : g11558 45 = (Value.int .i64 (b1933.A)) := hR11564 9 rfl
        have p11575 : g11558 46 = (Value.pointer (some ⟨g11448, 0 + (b1933.A).toNat * 1, none⟩)) := hR11564 10 rfl
        have p11576 : g11558 47 = (Value.int .i64 (x11446)) := hR11564 11 rfl
        have p11577 : g11558 5 = (Value.int .i64 (x11446)) := hR11564 12 rfl
        refine WL_nil (at_normal ?_)
        refine W_seq ?_
        refine W_mid (M := fun f' w' => ∃ (s11579 : PHeap) , PHeap.le s11559 s11579 ∧ St w0 s11579 (Res.box b1930 63 [v1931] :: Res.arr encRaw 49 v1931 hs1932 :: Res.rows (encInt .i64) 3 hs1932 n1929.d :: Res.box b11205 32 [Value.int .i64 (b1933.A), Value.int .i64 (b1933.B), Value.int .i64 (b1933.Most)] :: H) w' ∧ f' 0 = Value.pointer (some ⟨b1930, 0, none⟩) ∧ f' 3 = Value.pointer (some ⟨b11205, 0, none⟩) ∧ f' 56 = Value.bool (((decide (x11446 < 1125899906842624)) && decide ((IntKind.i64.wrap (x11446 + b1933.Most)) < 0)))) ?_ ?_
        · refine W_region ?_
          refine WL_step rfl rfl (Exec.move (v := Value.int .i64 (x11446)) rfl p11577 ?_)
          refine WL_step rfl rfl (Exec.lss rfl rfl rfl ?_)
          refine WL_step rfl rfl (Exec.move (v := Value.bool (decide (x11446 < 1125899906842624))) rfl rfl ?_)
          by_cases hc11580 : (decide (x11446 < 1125899906842624)) = true
          · refine WL_run rfl (yield_of rfl (congrArg Value.bool hc11580)) rfl (Exec.move (v := Value.int .i64 (x11446)) rfl p11577 ?_)
            refine WL_run rfl (yield_of rfl (congrArg Value.bool hc11580)) rfl (Exec.field F32_2 rfl (Eq.trans (fr11563 3 rfl) p11264) rfl ?_)
            refine WL_run rfl (yield_of rfl (congrArg Value.bool hc11580)) rfl (Exec.load_box ((hS11562).f3) A3 rfl rfl rfl ?_)
            refine WL_run rfl (yield_of rfl (congrArg Value.bool hc11580)) rfl (Exec.add rfl rfl rfl ?_)
            refine WL_run rfl (yield_of rfl (congrArg Value.bool hc11580)) rfl (Exec.lss rfl rfl rfl ?_)
            refine WL_step rfl rfl (Exec.pick_t (v := Value.bool (decide ((IntKind.i64.wrap (x11446 + b1933.Most)) < 0))) rfl (congrArg Value.bool hc11580) rfl ?_)
            refine WL_nil (at_normal ?_)
            have hS11581 := (hS11562).f3
            have hS11582 := ((hS11581).f3).f3
            have hS11583 := (hS11582).f3
            exact ⟨s11559, (PHeap.le_refl _), hS11583, (Eq.trans (fr11563 0 rfl) p11263), (Eq.trans (fr11563 3 rfl) p11264), (congrArg Value.bool (and_t hc11580)).symm⟩
          · replace hc11580 := not_true hc11580
            refine WL_pass rfl (yield_of rfl (congrArg Value.bool hc11580)) rfl rfl ?_
            refine WL_pass rfl (yield_of rfl (congrArg Value.bool hc11580)) rfl rfl ?_
            refine WL_pass rfl (yield_of rfl (congrArg Value.bool hc11580)) rfl rfl ?_
            refine WL_pass rfl (yield_of rfl (congrArg Value.bool hc11580)) rfl rfl ?_
            refine WL_pass rfl (yield_of rfl (congrArg Value.bool hc11580)) rfl rfl ?_
            refine WL_step rfl rfl (Exec.pick_f (v := Value.bool (false)) rfl (congrArg Value.bool hc11580) rfl ?_)
            refine WL_nil (at_normal ?_)
            have hS11584 := (hS11562).f3
            have hS11585 := ((hS11584).f3).f3
            have hS11586 := (hS11585).f3
            exact ⟨s11559, (PHeap.le_refl _), hS11586, (Eq.trans (fr11563 0 rfl) p11263), (Eq.trans (fr11563 3 rfl) p11264), (congrArg Value.bool (and_f hc11580)).symm⟩
        · intro f11587 w11588 hM11589
          obtain ⟨s11590, l11591, hS11592, p11593, p11594, p11595⟩ := hM11589
          refine (at_normal ?_)
          rcases ite_some hm with ⟨hc11596, hm⟩ | ⟨hc11596, hm⟩
          · refine W_cond_t p11595 hc11596 ?_
            refine W_seq ?_
            refine W_region ?_
            refine WL_step rfl rfl (Exec.makeInterface C30 rfl rfl ?_)
            refine WL_step rfl rfl (Exec.assign (v := errV 30 (some 21)) rfl rfl ?_)
            refine WL_nil (at_normal ?_)
            refine W_ret (at_ret ?_)
            have e11598 := Option.some.inj hm
            subst r
            refine ⟨_, ret1 rfl, ?_⟩
            have hS11599 := ((hS11592).f3).drop
            have hS11600 := ((hS11599).f2).f2
            have hS11601 := (hS11600).f2
            exact ⟨s11590, (PHeap.le.trans (PHeap.le.trans l11261 l11561) l11591), hS11601, rfl⟩
          · refine W_cond_f p11595 hc11596 ?_
            replace hc11596 := not_true hc11596
            refine W_skip (at_normal ?_)
            refine W_seq ?_
            refine W_seq ?_
            refine W_region ?_
            refine WL_step rfl rfl (Exec.move (v := Value.pointer (some ⟨b1930, 0, none⟩)) rfl p11593 ?_)
            refine WL_step rfl rfl (Exec.nilCheck_ptr rfl rfl ?_)
            refine WL_step rfl rfl (Exec.field F63_0 rfl rfl rfl ?_)
            refine WL_step rfl rfl (Exec.load_box (hS11592) A61 rfl rfl rfl ?_)
            refine WL_step rfl rfl (Exec.len_grid (((hS11592).f2).f2) (((hS11592).f2).f2).f1.rows_len S61 rfl rfl ?_)
            refine WL_step rfl rfl (Exec.move (v := Value.int .i64 (0)) rfl rfl ?_)
            refine WL_nil (at_normal ?_)
            obtain ⟨l14534, hB17467, hm⟩ := bind_some hm
            refine W_block (W_forS (fun k' s' f' w' => (fun (l14534 : (List (List Int))) => ∃ (s17468 : PHeap) , PHeap.le s11590 s17468 ∧ St w0 s17468 (Res.box b1930 63 [v1931] :: Res.arr encRaw 49 v1931 hs1932 :: Res.rows (encInt .i64) 3 hs1932 l14534 :: Res.box b11205 32 [Value.int .i64 (b1933.A), Value.int .i64 (b1933.B), Value.int .i64 (b1933.Most)] :: H) w' ∧ f' 0 = Value.pointer (some ⟨b1930, 0, none⟩) ∧ f' 3 = Value.pointer (some ⟨b11205, 0, none⟩) ∧ f' 61 = v1931 ∧ f' 62 = Value.int .i64 ((n1929.d.length : Int)) ∧ f' 63 = Value.int .i64 (k' : Int)) s') hB17467 ?_ ?_ ?_)
            · have hS17469 := (hS11592).f3
              have hS17470 := ((hS17469).f3).f3
              have hS17471 := (hS17470).f3
              exact ⟨s11590, (PHeap.le_refl _), hS17471, p11593, p11594, rfl, rfl, rfl⟩
            · intro i11602 l14534 s17473 f17474 w17475 hi17476 hI17477 hm17478
              obtain ⟨s17479, l17480, hS17481, p17482, p17483, p17484, p17485, x17486⟩ := hI17477
              refine W_seq ?_
              refine W_region ?_
              refine WL_step rfl rfl (Exec.lss rfl x17486 p17485 ?_)
              refine WL_nil (at_normal ?_)
              refine W_seq ?_
              refine W_true (congrArg Value.bool (decide_eq_true (by omega))) ?_
              refine W_skip (at_normal ?_)
              refine W_seq ?_
              refine W_block ?_
              refine W_seq ?_
              refine W_region ?_
              obtain ⟨row17497, q17498, hm17478⟩ := bind_some hm17478
              obtain ⟨h17499, e17500, e17501, _⟩ := ((((hS17481).f2).f2).f1).rows_at q17498
              obtain ⟨g17502, c17503, e17504⟩ := (((hS17481).f2).f2).arr_at e17500
              refine WL_step rfl rfl (Exec.index_slice S61 rfl (Eq.trans p17484 e17504) x17486 (idx_some e17500).1 (idx_some e17500).2.1 ?_)
              refine WL_step rfl rfl (Exec.load_arr (F := encRaw) (((hS17481).f2).f2) e17504 A49 rfl rfl rfl e17500 (Sub.refl _) ?_)
              intro v17505 q17506
              replace q17506 := (encRaw_val.1 q17506).1
              subst v17505
              refine WL_step rfl rfl (Exec.assign (v := h17499) rfl rfl ?_)
              refine WL_nil (at_normal ?_)
              refine W_seq ?_
              refine W_seq ?_
              refine W_region ?_
              refine WL_step rfl rfl (Exec.move (v := h17499) rfl rfl ?_)
              refine WL_step rfl rfl (Exec.field F32_0 rfl p17483 rfl ?_)
              refine WL_step rfl rfl (Exec.load_box ((hS17481).f3) A3 rfl rfl rfl ?_)
              obtain ⟨x17514, q17515, hm17478⟩ := bind_some hm17478
              obtain ⟨g17516, c17517, e17518⟩ := (((((hS17481).f2).f2).f1).rows_split e17501 (idx_some q17498).2.2).arr_at q17515
              refine WL_step rfl rfl (Exec.index_slice S49 rfl e17518 rfl (idx_some q17515).1 (idx_some q17515).2.1 ?_)
              refine WL_step rfl rfl (Exec.load_arr (F := (encInt .i64)) (((((hS17481).f2).f2).f1).rows_split e17501 (idx_some q17498).2.2) e17518 A3 rfl rfl rfl q17515 (Sub.refl _) ?_)
              intro v17519 q17520
              obtain rfl := encInt_val.1 q17520
              refine WL_step rfl rfl (Exec.geq rfl rfl rfl ?_)
              refine WL_nil (at_normal ?_)
              rcases ite_some hm17478 with ⟨hc17521, hm17478⟩ | ⟨hc17521, hm17478⟩
              · refine W_cond_t rfl hc17521 ?_
                refine W_exit (at_exit (ib_here (at_normal ?_)))
                refine W_region ?_
                refine WL_step rfl rfl (Exec.add rfl x17486 rfl ?_)
                refine WL_step rfl rfl (Exec.move (v := Value.int .i64 (IntKind.i64.wrap ((i11602 : Int) + 1))) rfl rfl ?_)
                refine WL_nil (at_normal ?_)
                have e17522 := Option.some.inj hm17478
                subst s17473
                have hS17523 := (hS17481).f3
                have hS17524 := ((hS17523).f3).f3
                have hS17525 := (hS17524).f3
                exact ⟨s17479, l17480, hS17525, p17482, p17483, p17484, p17485, (Eq.trans rfl (wrap_up hi17476 (by have h := (((hS11592).f2).f2).f1.rows_len; have h2 := (((hS11592).f2).f2).arr_le; omega)))⟩
              · refine W_cond_f rfl hc17521 ?_
                replace hc17521 := not_true hc17521
                refine W_skip (at_normal ?_)
                refine W_seq ?_
                obtain ⟨row17647, q17648, hm17478⟩ := bind_some hm17478
                obtain ⟨h17649, e17650, e17651, _⟩ := ((((hS17481).f2).f2).f1).rows_at q17648
                obtain ⟨g17652, c17653, e17654⟩ := (((hS17481).f2).f2).arr_at e17650
                refine W_drawn (n0 := 10) hmix (by kernel_rfl) [RP.eq (Value.pointer (some ⟨b1930, 0, none⟩)), RP.eq (Value.pointer (some ⟨b1930, 0, none⟩)), RP.eq (Value.pointer (some ⟨b1930, 0, none⟩)), RP.eq (v1931), RP.eq (Value.pointer (some ⟨b11205, 1, none⟩)), RP.eq (Value.int .i64 (b1933.B)), RP.eq (Value.pointer (some ⟨g17652, 0 + (b1933.B).toNat * 1, none⟩)), RP.eq (h17649), RP.eq (Value.int .i64 ((row17647.length : Int))), RP.eq (Value.int .i64 (0))] hS17481 (HeadAll.cons ?_ (HeadAll.cons ?_ (HeadAll.cons ?_ (HeadAll.cons ?_ (HeadAll.cons ?_ (HeadAll.cons ?_ (HeadAll.cons ?_ (HeadAll.cons ?_ (HeadAll.cons ?_ (HeadAll.cons ?_ (HeadAll.nil))))))))))) ?_
                · intro g17655 s17656 w17657 l17658 hS17659 fr17660 pre17661
                  refine head_run rfl (Exec.move (v := Value.pointer (some ⟨b1930, 0, none⟩)) rfl (Eq.trans (fr17660 0 rfl) p17482) ?_)
                  exact head_done hS17659 rfl
                · intro g17662 s17663 w17664 l17665 hS17666 fr17667 pre17668
                  have p17669 : g17662 73 = (Value.pointer (some ⟨b1930, 0, none⟩)) := pre17668 0 _ rfl rfl
                  refine head_run rfl (Exec.nilCheck_ptr rfl p17669 ?_)
                  exact head_done hS17666 rfl
                · intro g17670 s17671 w17672 l17673 hS17674 fr17675 pre17676
                  have p17677 : g17670 74 = (Value.pointer (some ⟨b1930, 0, none⟩)) := pre17676 0 _ rfl rfl
                  refine head_run rfl (Exec.field F63_0 rfl p17677 rfl ?_)
                  exact head_done hS17674 rfl
                · intro g17678 s17679 w17680 l17681 hS17682 fr17683 pre17684
                  have p17685 : g17678 75 = (Value.pointer (some ⟨b1930, 0, none⟩)) := pre17684 0 _ rfl rfl
                  refine head_run rfl (Exec.load_box (hS17682) A61 rfl p17685 rfl ?_)
                  exact head_done hS17682 rfl
                · intro g17686 s17687 w17688 l17689 hS17690 fr17691 pre17692
                  refine head_run rfl (Exec.field F32_1 rfl (Eq.trans (fr17691 3 rfl) p17483) rfl ?_)
                  exact head_done hS17690 rfl
                · intro g17693 s17694 w17695 l17696 hS17697 fr17698 pre17699
                  have p17700 : g17693 77 = (Value.pointer (some ⟨b11205, 1, none⟩)) := pre17699 0 _ rfl rfl
                  refine head_run rfl (Exec.load_box ((hS17697).f3) A3 rfl p17700 rfl ?_)
                  exact head_done hS17697 rfl
                · intro g17701 s17702 w17703 l17704 hS17705 fr17706 pre17707
                  have p17708 : g17701 76 = (v1931) := pre17707 0 _ rfl rfl
                  have p17709 : g17701 78 = (Value.int .i64 (b1933.B)) := pre17707 1 _ rfl rfl
                  refine head_run rfl (Exec.index_slice S61 rfl (Eq.trans p17708 e17654) p17709 (idx_some e17650).1 (idx_some e17650).2.1 ?_)
                  exact head_done hS17705 rfl
                · intro g17710 s17711 w17712 l17713 hS17714 fr17715 pre17716
                  have p17717 : g17710 79 = (Value.pointer (some ⟨g17652, 0 + (b1933.B).toNat * 1, none⟩)) := pre17716 0 _ rfl rfl
                  refine head_run rfl (Exec.load_arr (F := encRaw) (((hS17714).f2).f2) e17654 A49 rfl p17717 rfl e17650 (Sub.refl _) ?_)
                  intro v17718 q17719
                  exact head_done hS17714 (encRaw_val.1 q17719).1
                · intro g17720 s17721 w17722 l17723 hS17724 fr17725 pre17726
                  have p17727 : g17720 80 = (h17649) := pre17726 0 _ rfl rfl
                  refine head_run rfl (Exec.len_arr (((((hS17724).f2).f2).f1).rows_split e17651 (idx_some q17648).2.2) S49 rfl p17727 ?_)
                  exact head_done hS17724 rfl
                · intro g17728 s17729 w17730 l17731 hS17732 fr17733 pre17734
                  refine head_run rfl (Exec.move (v := Value.int .i64 (0)) rfl rfl ?_)
                  exact head_done hS17732 rfl
                · intro g17735 s17736 w17737 l17738 hS17739 fr17740 hR17741
                  have p17742 : g17735 73 = (Value.pointer (some ⟨b1930, 0, none⟩)) := hR17741 0 rfl
                  have p17743 : g17735 74 = (Value.pointer (some ⟨b1930, 0, none⟩)) := hR17741 1 rfl
                  have p17744 : g17735 75 = (Value.pointer (some ⟨b1930, 0, none⟩)) := hR17741 2 rfl
                  have p17745 : g17735 76 = (v1931) := hR17741 3 rfl
                  have p17746 : g17735 77 = (Value.pointer (some ⟨b11205, 1, none⟩)) := hR17741 4 rfl
                  have p17747 : g17735 78 = (Value.int .i64 (b1933.B)) := hR17741 5 rfl
                  have p17748 : g17735 79 = (Value.pointer (some ⟨g17652, 0 + (b1933.B).toNat * 1, none⟩)) := hR17741 6 rfl
                  have p17749 : g17735 80 = (h17649) := hR17741 7 rfl
                  have p17750 : g17735 81 = (Value.int .i64 ((row17647.length : Int))) := hR17741 8 rfl
                  have p17751 : g17735 82 = (Value.int .i64 (0)) := hR17741 9 rfl
                  refine WL_nil (at_normal ?_)
                  obtain ⟨u17752, q17753, hm17478⟩ := bind_some hm17478
                  obtain ⟨l18629, hB19505, hm17478⟩ := bind_some hm17478
                  refine W_block (W_forS (fun k' s' f' w' => (fun (l18629 : (List (List Int))) => ∃ (s19506 : PHeap) , PHeap.le s17736 s19506 ∧ St w0 s19506 (Res.box b1930 63 [v1931] :: Res.arr encRaw 49 v1931 hs1932 :: Res.rows (encInt .i64) 3 hs1932 l18629 :: Res.box b11205 32 [Value.int .i64 (b1933.A), Value.int .i64 (b1933.B), Value.int .i64 (b1933.Most)] :: H) w' ∧ f' 0 = Value.pointer (some ⟨b1930, 0, none⟩) ∧ f' 3 = Value.pointer (some ⟨b11205, 0, none⟩) ∧ f' 7 = h17499 ∧ f' 61 = v1931 ∧ f' 62 = Value.int .i64 ((n1929.d.length : Int)) ∧ f' 63 = Value.int .i64 ((i11602 : Int)) ∧ f' 80 = h17649 ∧ f' 81 = Value.int .i64 ((row17647.length : Int)) ∧ f' 82 = Value.int .i64 (k' : Int)) s') hB19505 ?_ ?_ ?_)
                  · have hS19507 := (hS17739).f3
                    have hS19508 := ((hS19507).f3).f3
                    have hS19509 := (hS19508).f3
                    exact ⟨s17736, (PHeap.le_refl _), hS19509, (Eq.trans (fr17740 0 rfl) p17482), (Eq.trans (fr17740 3 rfl) p17483), (fr17740 7 rfl), (Eq.trans (fr17740 61 rfl) p17484), (Eq.trans (fr17740 62 rfl) p17485), (Eq.trans (fr17740 63 rfl) x17486), p17749, p17750, p17751⟩
                  · intro i17754 l18629 s19511 f19512 w19513 hi19514 hI19515 hm19516
                    obtain ⟨s19517, l19518, hS19519, p19520, p19521, p19522, p19523, p19524, p19525, p19526, p19527, x19528⟩ := hI19515
                    refine W_seq ?_
                    refine W_region ?_
                    refine WL_step rfl rfl (Exec.lss rfl x19528 p19527 ?_)
                    refine WL_nil (at_normal ?_)
                    refine W_seq ?_
                    refine W_true (congrArg Value.bool (decide_eq_true (by omega))) ?_
                    refine W_skip (at_normal ?_)
                    refine W_seq ?_
                    refine W_block ?_
                    refine W_seq ?_
                    refine W_region ?_
                    refine WL_step rfl rfl (Exec.move (v := Value.int .i64 ((i17754 : Int))) rfl x19528 ?_)
                    obtain ⟨row19538, q19539, hm19516⟩ := bind_some hm19516
                    obtain ⟨x19540, q19541, hm19516⟩ := bind_some hm19516
                    obtain ⟨g19542, c19543, e19544⟩ := (((((hS19519).f2).f2).f1).rows_split e17651 (idx_some q19539).2.2).arr_at q19541
                    refine WL_step rfl rfl (Exec.index_slice S49 rfl (Eq.trans p19526 e19544) x19528 (idx_some q19541).1 (idx_some q19541).2.1 ?_)
                    refine WL_step rfl rfl (Exec.load_arr (F := (encInt .i64)) (((((hS19519).f2).f2).f1).rows_split e17651 (idx_some q19539).2.2) e19544 A3 rfl rfl rfl q19541 (Sub.refl _) ?_)
                    intro v19545 q19546
                    obtain rfl := encInt_val.1 q19546
                    refine WL_step rfl rfl (Exec.assign (v := Value.int .i64 ((i17754 : Int))) rfl rfl ?_)
                    refine WL_step rfl rfl (Exec.assign (v := Value.int .i64 (x19540)) rfl rfl ?_)
                    refine WL_nil (at_normal ?_)
                    refine W_seq ?_
                    refine W_region ?_
                    refine WL_step rfl rfl (Exec.move (v := Value.int .i64 (x19540)) rfl rfl ?_)
                    refine WL_step rfl rfl (Exec.lss rfl rfl rfl ?_)
                    refine WL_nil (at_normal ?_)
                    obtain ⟨l19961, ht19962, hm19516⟩ := bind_some hm19516
                    refine W_mid (M := fun f' w' => (fun (l19961 : (List (List Int))) => ∃ (s19963 : PHeap) , PHeap.le s19517 s19963 ∧ St w0 s19963 (Res.box b1930 63 [v1931] :: Res.arr encRaw 49 v1931 hs1932 :: Res.rows (encInt .i64) 3 hs1932 l19961 :: Res.box b11205 32 [Value.int .i64 (b1933.A), Value.int .i64 (b1933.B), Value.int .i64 (b1933.Most)] :: H) w' ∧ f' 0 = Value.pointer (some ⟨b1930, 0, none⟩) ∧ f' 3 = Value.pointer (some ⟨b11205, 0, none⟩) ∧ f' 7 = h17499 ∧ f' 61 = v1931 ∧ f' 62 = Value.int .i64 ((n1929.d.length : Int)) ∧ f' 63 = Value.int .i64 ((i11602 : Int)) ∧ f' 80 = h17649 ∧ f' 81 = Value.int .i64 ((row17647.length : Int)) ∧ f' 82 = Value.int .i64 ((i17754 : Int))) l19961) ?_ ?_
                    · rcases ite_some ht19962 with ⟨hc19964, ht19962⟩ | ⟨hc19964, ht19962⟩
                      · refine W_cond_t rfl hc19964 ?_
                        obtain ⟨row20184, q20185, ht19962⟩ := bind_some ht19962
                        obtain ⟨x20186, q20187, ht19962⟩ := bind_some ht19962
                        obtain ⟨g20188, c20189, e20190⟩ := (((((hS19519).f2).f2).f1).rows_split e17501 (idx_some q20185).2.2).arr_at q20187
                        obtain ⟨x20191, q20192, ht19962⟩ := bind_some ht19962
                        obtain ⟨g20193, c20194, e20195⟩ := (((((hS19519).f2).f2).f1).rows_split e17501 (idx_some q20185).2.2).arr_at q20192
                        obtain ⟨g20196, c20197, e20198⟩ := (((((hS19519).f2).f2).f1).rows_split e17501 (idx_some q20185).2.2).arr_at q20187
                        obtain ⟨l20199, q20200, ht19962⟩ := bind_some ht19962
                        obtain ⟨l20201, q20202, ht19962⟩ := bind_some ht19962
                        have hS20203 := ((hS19519).f2).f2
                        refine W_drawn (n0 := 18) hmix (by kernel_rfl) [RP.eq (h17499), RP.eq (Value.int .i64 ((i17754 : Int))), RP.eq (h17499), RP.eq (Value.int .i64 ((i17754 : Int))), RP.eq (Value.pointer (some ⟨g20188, 0 + ((i17754 : Int)).toNat * 1, none⟩)), RP.eq (Value.int .i64 (x20186)), RP.eq (h17499), RP.eq (Value.pointer (some ⟨b11205, 0, none⟩)), RP.eq (Value.int .i64 (b1933.A)), RP.eq (Value.pointer (some ⟨g20193, 0 + (b1933.A).toNat * 1, none⟩)), RP.eq (Value.int .i64 (x20191)), RP.eq (Value.pointer (some ⟨b11205, 2, none⟩)), RP.eq (Value.int .i64 (b1933.Most)), RP.eq (Value.int .i64 (IntKind.i64.wrap (x20191 + b1933.Most))), RP.eq (Value.int .i64 (x19540)), RP.eq (Value.int .i64 (IntKind.i64.wrap ((IntKind.i64.wrap (x20191 + b1933.Most)) + x19540))), RP.eq (Value.int .i64 (min x20186 (IntKind.i64.wrap ((IntKind.i64.wrap (x20191 + b1933.Most)) + x19540)))), RP.eq (Value.pointer (some ⟨g20196, 0 + ((i17754 : Int)).toNat * 1, none⟩))] hS20203 (HeadAll.cons ?_ (HeadAll.cons ?_ (HeadAll.cons ?_ (HeadAll.cons ?_ (HeadAll.cons ?_ (HeadAll.cons ?_ (HeadAll.cons ?_ (HeadAll.cons ?_ (HeadAll.cons ?_ (HeadAll.cons ?_ (HeadAll.cons ?_ (HeadAll.cons ?_ (HeadAll.cons ?_ (HeadAll.cons ?_ (HeadAll.cons ?_ (HeadAll.cons ?_ (HeadAll.cons ?_ (HeadAll.cons ?_ (HeadAll.nil))))))))))))))))))) ?_
                        · intro g20204 s20205 w20206 l20207 hS20208 fr20209 pre20210
                          refine head_run rfl (Exec.move (v := h17499) rfl (Eq.trans (fr20209 7 rfl) p19522) ?_)
                          exact head_done hS20208 rfl
                        · intro g20211 s20212 w20213 l20214 hS20215 fr20216 pre20217
                          refine head_run rfl (Exec.move (v := Value.int .i64 ((i17754 : Int))) rfl (fr20216 8 rfl) ?_)
                          exact head_done hS20215 rfl
                        · intro g20218 s20219 w20220 l20221 hS20222 fr20223 pre20224
                          refine head_run rfl (Exec.move (v := h17499) rfl (Eq.trans (fr20223 7 rfl) p19522) ?_)
                          exact head_done hS20222 rfl
                        · intro g20225 s20226 w20227 l20228 hS20229 fr20230 pre20231
                          refine head_run rfl (Exec.move (v := Value.int .i64 ((i17754 : Int))) rfl (fr20230 8 rfl) ?_)
                          exact head_done hS20229 rfl
                        · intro g20232 s20233 w20234 l20235 hS20236 fr20237 pre20238
                          have p20239 : g20232 91 = (h17499) := pre20238 0 _ rfl rfl
                          have p20240 : g20232 92 = (Value.int .i64 ((i17754 : Int))) := pre20238 1 _ rfl rfl
                          refine head_run rfl (Exec.index_slice S49 rfl (Eq.trans p20239 e20190) p20240 (idx_some q20187).1 (idx_some q20187).2.1 ?_)
                          exact head_done hS20236 rfl
                        · intro g20241 s20242 w20243 l20244 hS20245 fr20246 pre20247
                          have p20248 : g20241 93 = (Value.pointer (some ⟨g20188, 0 + ((i17754 : Int)).toNat * 1, none⟩)) := pre20247 0 _ rfl rfl
                          refine head_run rfl (Exec.load_arr (F := (encInt .i64)) (((hS20245).f1).rows_split e17501 (idx_some q20185).2.2) e20190 A3 rfl p20248 rfl q20187 (Sub.refl _) ?_)
                          intro v20249 q20250
                          exact head_done hS20245 (encInt_val.1 q20250)
                        · intro g20251 s20252 w20253 l20254 hS20255 fr20256 pre20257
                          refine head_run rfl (Exec.move (v := h17499) rfl (Eq.trans (fr20256 7 rfl) p19522) ?_)
                          exact head_done hS20255 rfl
                        · intro g20258 s20259 w20260 l20261 hS20262 fr20263 pre20264
                          refine head_run rfl (Exec.field F32_0 rfl (Eq.trans (fr20263 3 rfl) p19521) rfl ?_)
                          exact head_done hS20262 rfl
                        · intro g20265 s20266 w20267 l20268 hS20269 fr20270 pre20271
                          have p20272 : g20265 96 = (Value.pointer (some ⟨b11205, 0, none⟩)) := pre20271 0 _ rfl rfl
                          refine head_run rfl (Exec.load_box ((hS20269).f3) A3 rfl p20272 rfl ?_)
                          exact head_done hS20269 rfl
                        · intro g20273 s20274 w20275 l20276 hS20277 fr20278 pre20279
                          have p20280 : g20273 97 = (Value.int .i64 (b1933.A)) := pre20279 1 _ rfl rfl
                          have p20281 : g20273 95 = (h17499) := pre20279 0 _ rfl rfl
                          refine head_run rfl (Exec.index_slice S49 rfl (Eq.trans p20281 e20195) p20280 (idx_some q20192).1 (idx_some q20192).2.1 ?_)
                          exact head_done hS20277 rfl
                        · intro g20282 s20283 w20284 l20285 hS20286 fr20287 pre20288
                          have p20289 : g20282 98 = (Value.pointer (some ⟨g20193, 0 + (b1933.A).toNat * 1, none⟩)) := pre20288 0 _ rfl rfl
                          refine head_run rfl (Exec.load_arr (F := (encInt .i64)) (((hS20286).f1).rows_split e17501 (idx_some q20185).2.2) e20195 A3 rfl p20289 rfl q20192 (Sub.refl _) ?_)
                          intro v20290 q20291
                          exact head_done hS20286 (encInt_val.1 q20291)
                        · intro g20292 s20293 w20294 l20295 hS20296 fr20297 pre20298
                          refine head_run rfl (Exec.field F32_2 rfl (Eq.trans (fr20297 3 rfl) p19521) rfl ?_)
                          exact head_done hS20296 rfl
                        · intro g20299 s20300 w20301 l20302 hS20303 fr20304 pre20305
                          have p20306 : g20299 100 = (Value.pointer (some ⟨b11205, 2, none⟩)) := pre20305 0 _ rfl rfl
                          refine head_run rfl (Exec.load_box ((hS20303).f3) A3 rfl p20306 rfl ?_)
                          exact head_done hS20303 rfl
                        · intro g20307 s20308 w20309 l20310 hS20311 fr20312 pre20313
                          have p20314 : g20307 99 = (Value.int .i64 (x20191)) := pre20313 0 _ rfl rfl
                          have p20315 : g20307 101 = (Value.int .i64 (b1933.Most)) := pre20313 1 _ rfl rfl
                          refine head_run rfl (Exec.add rfl p20314 p20315 ?_)
                          exact head_done hS20311 rfl
                        · intro g20316 s20317 w20318 l20319 hS20320 fr20321 pre20322
                          refine head_run rfl (Exec.move (v := Value.int .i64 (x19540)) rfl (fr20321 9 rfl) ?_)
                          exact head_done hS20320 rfl
                        · intro g20323 s20324 w20325 l20326 hS20327 fr20328 pre20329
                          have p20330 : g20323 102 = (Value.int .i64 (IntKind.i64.wrap (x20191 + b1933.Most))) := pre20329 0 _ rfl rfl
                          have p20331 : g20323 103 = (Value.int .i64 (x19540)) := pre20329 1 _ rfl rfl
                          refine head_run rfl (Exec.add rfl p20330 p20331 ?_)
                          exact head_done hS20327 rfl
                        · intro g20332 s20333 w20334 l20335 hS20336 fr20337 pre20338
                          have p20339 : g20332 104 = (Value.int .i64 (IntKind.i64.wrap ((IntKind.i64.wrap (x20191 + b1933.Most)) + x19540))) := pre20338 1 _ rfl rfl
                          have p20340 : g20332 94 = (Value.int .i64 (x20186)) := pre20338 0 _ rfl rfl
                          refine head_run rfl (Exec.min2 rfl p20340 p20339 ?_)
                          exact head_done hS20336 rfl
                        · intro g20341 s20342 w20343 l20344 hS20345 fr20346 pre20347
                          have p20348 : g20341 89 = (h17499) := pre20347 0 _ rfl rfl
                          have p20349 : g20341 90 = (Value.int .i64 ((i17754 : Int))) := pre20347 1 _ rfl rfl
                          refine head_run rfl (Exec.index_slice S49 rfl (Eq.trans p20348 e20198) p20349 (idx_some q20187).1 (idx_some q20187).2.1 ?_)
                          exact head_done hS20345 rfl
                        · intro g20350 s20351 w20352 l20353 hS20354 fr20355 hR20356
                          have p20357 : g20350 89 = (h17499) := hR20356 0 rfl
                          have p20358 : g20350 90 = (Value.int .i64 ((i17754 : Int))) := hR20356 1 rfl
                          have p20359 : g20350 91 = (h17499) := hR20356 2 rfl
                          have p20360 : g20350 92 = (Value.int .i64 ((i17754 : Int))) := hR20356 3 rfl
                          have p20361 : g20350 93 = (Value.pointer (some ⟨g20188, 0 + ((i17754 : Int)).toNat * 1, none⟩)) := hR20356 4 rfl
                          have p20362 : g20350 94 = (Value.int .i64 (x20186)) := hR20356 5 rfl
                          have p20363 : g20350 95 = (h17499) := hR20356 6 rfl
                          have p20364 : g20350 96 = (Value.pointer (some ⟨b11205, 0, none⟩)) := hR20356 7 rfl
                          have p20365 : g20350 97 = (Value.int .i64 (b1933.A)) := hR20356 8 rfl
                          have p20366 : g20350 98 = (Value.pointer (some ⟨g20193, 0 + (b1933.A).toNat * 1, none⟩)) := hR20356 9 rfl
                          have p20367 : g20350 99 = (Value.int .i64 (x20191)) := hR20356 10 rfl
                          have p20368 : g20350 100 = (Value.pointer (some ⟨b11205, 2, none⟩)) := hR20356 11 rfl
                          have p20369 : g20350 101 = (Value.int .i64 (b1933.Most)) := hR20356 12 rfl
                          have p20370 : g20350 102 = (Value.int .i64 (IntKind.i64.wrap (x20191 + b1933.Most))) := hR20356 13 rfl
                          have p20371 : g20350 103 = (Value.int .i64 (x19540)) := hR20356 14 rfl
                          have p20372 : g20350 104 = (Value.int .i64 (IntKind.i64.wrap ((IntKind.i64.wrap (x20191 + b1933.Most)) + x19540))) := hR20356 15 rfl
                          have p20373 : g20350 105 = (Value.int .i64 (min x20186 (IntKind.i64.wrap ((IntKind.i64.wrap (x20191 + b1933.Most)) + x19540)))) := hR20356 16 rfl
                          have p20374 : g20350 106 = (Value.pointer (some ⟨g20196, 0 + ((i17754 : Int)).toNat * 1, none⟩)) := hR20356 17 rfl
                          refine WL_step rfl rfl (Exec.store_arr (((hS20354).f1).rows_split e17501 (idx_some q20185).2.2) e20198 A3 rfl p20374 rfl p20373 (encInt_val.2 rfl) q20200 ?_)
                          intro w20375 hS20376
                          have hS20377 := (hS20376).rows_back e17501 (setI_some q20202).2.1
                          rw [← (setI_some q20202).2.2] at hS20377
                          have hS20378 := (hS20377).f1
                          refine WL_nil (at_normal ?_)
                          have e20379 := Option.some.inj ht19962
                          subst l19961
                          have hS20380 := (hS20378).f3
                          have hS20381 := ((hS20380).f2).f2
                          have hS20382 := (hS20381).f3
                          exact ⟨s20351, l20353, hS20382, (Eq.trans (fr20355 0 rfl) p19520), (Eq.trans (fr20355 3 rfl) p19521), (Eq.trans (fr20355 7 rfl) p19522), (Eq.trans (fr20355 61 rfl) p19523), (Eq.trans (fr20355 62 rfl) p19524), (Eq.trans (fr20355 63 rfl) p19525), (Eq.trans (fr20355 80 rfl) p19526), (Eq.trans (fr20355 81 rfl) p19527), (Eq.trans (fr20355 82 rfl) x19528)⟩
                      · refine W_cond_f rfl hc19964 ?_
                        replace hc19964 := not_true hc19964
                        refine W_skip (at_normal ?_)
                        have e20383 := Option.some.inj ht19962
                        subst l19961
                        have hS20384 := (hS19519).f3
                        have hS20385 := ((hS20384).f3).f3
                        have hS20386 := (hS20385).f3
                        exact ⟨s19517, (PHeap.le_refl _), hS20386, p19520, p19521, p19522, p19523, p19524, p19525, p19526, p19527, x19528⟩
                    · intro f20387 w20388 hM20389
                      obtain ⟨s20390, l20391, hS20392, p20393, p20394, p20395, p20396, p20397, p20398, p20399, p20400, p20401⟩ := hM20389
                      refine (ib_normal (at_normal ?_))
                      refine W_region ?_
                      refine WL_step rfl rfl (Exec.add rfl p20401 rfl ?_)
                      refine WL_step rfl rfl (Exec.move (v := Value.int .i64 (IntKind.i64.wrap ((i17754 : Int) + 1))) rfl rfl ?_)
                      refine WL_nil (at_normal ?_)
                      have e20402 := Option.some.inj hm19516
                      subst s19511
                      have hS20403 := (hS20392).f3
                      have hS20404 := ((hS20403).f3).f3
                      have hS20405 := (hS20404).f3
                      exact ⟨s20390, (PHeap.le.trans l19518 l20391), hS20405, p20393, p20394, p20395, p20396, p20397, p20398, p20399, p20400, (Eq.trans rfl (wrap_up hi19514 (by have h := must_some q17753; simpa [maxLen] using h)))⟩
                  · intro f20406 w20407 hI20408
                    obtain ⟨s20409, l20410, hS20411, p20412, p20413, p20414, p20415, p20416, p20417, p20418, p20419, x20420⟩ := hI20408
                    refine W_seq ?_
                    refine W_region ?_
                    refine WL_step rfl rfl (Exec.lss rfl x20420 p20419 ?_)
                    refine WL_nil (at_normal ?_)
                    refine W_seq ?_
                    refine W_false (congrArg Value.bool (decide_eq_false (by omega))) ?_
                    refine W_exit (at_exit (at_exit (ib_here (ib_normal (at_normal ?_)))))
                    refine W_region ?_
                    refine WL_step rfl rfl (Exec.add rfl p20417 rfl ?_)
                    refine WL_step rfl rfl (Exec.move (v := Value.int .i64 (IntKind.i64.wrap ((i11602 : Int) + 1))) rfl rfl ?_)
                    refine WL_nil (at_normal ?_)
                    have e20421 := Option.some.inj hm17478
                    subst s17473
                    have hS20422 := (hS20411).f3
                    have hS20423 := ((hS20422).f3).f3
                    have hS20424 := (hS20423).f3
                    exact ⟨s20409, (PHeap.le.trans (PHeap.le.trans l17480 l17738) l20410), hS20424, p20412, p20413, p20415, p20416, (Eq.trans rfl (wrap_up hi17476 (by have h := (((hS11592).f2).f2).f1.rows_len; have h2 := (((hS11592).f2).f2).arr_le; omega)))⟩
            · intro f20425 w20426 hI20427
              obtain ⟨s20428, l20429, hS20430, p20431, p20432, p20433, p20434, x20435⟩ := hI20427
              refine W_seq ?_
              refine W_region ?_
              refine WL_step rfl rfl (Exec.lss rfl x20435 p20434 ?_)
              refine WL_nil (at_normal ?_)
              refine W_seq ?_
              refine W_false (congrArg Value.bool (decide_eq_false (by omega))) ?_
              refine W_exit (at_exit (at_exit (ib_here (at_normal ?_))))
              refine W_seq ?_
              refine W_region ?_
              refine WL_step rfl rfl (Exec.assign (v := errV 30 (none)) rfl rfl ?_)
              refine WL_nil (at_normal ?_)
              refine W_ret ?_
              have e20437 := Option.some.inj hm
              subst r
              refine ⟨_, ret1 rfl, ?_⟩
              have hS20438 := ((hS20430).f3).drop
              have hS20439 := ((hS20438).f2).f2
              have hS20440 := (hS20439).f2
              exact ⟨s20428, (PHeap.le.trans (PHeap.le.trans (PHeap.le.trans l11261 l11561) l11591) l20429), hS20440, rfl⟩

theorem N19 : (Try.f19.name == "runtime.NumGoroutine") = false := by kernel_rfl

theorem law54_made_sim {w0 w : World} {s : PHeap} {H : List Res} {n16 : Int} {bounds17 : (List Bound)} {v18 : Value} {r : (Option stn_Network) × Bool} (hm : law54_made_p n16 bounds17 = some r) (hS : St w0 s (H) w) (a19 : SliceRep encBound s v18 bounds17) :
    Calls Try.prog 19 #[Value.int .i64 (n16), v18] w fun e w' => ∃ v, e = .returned v ∧ ((un2 fun (p_d20670 : (Option stn_Network)) (y20671 : Bool) => (∃ d20670 : stn_Network, p_d20670 = some d20670 ∧ ∃ (s20675 : PHeap) (b20672 : Nat) (v20673 : Value) (hs20674 : List Value), PHeap.le s s20675 ∧ St w0 s20675 (Res.box b20672 63 [v20673] :: Res.arr encRaw 49 v20673 hs20674 :: Res.rows (encInt .i64) 3 hs20674 d20670.d :: H) w' ∧ v = Value.tuple #[Value.pointer (some ⟨b20672, 0, none⟩), Value.bool (y20671)]) ∨ (p_d20670 = none ∧ ∃ (s20676 : PHeap) , PHeap.le s s20676 ∧ St w0 s20676 (H) w' ∧ v = Value.tuple #[Value.pointer none, Value.bool (y20671)])) r) := by
  unfold law54_made_p at hm
  refine calls_of_W Try.func19 rfl rfl ?_
  refine W_seq ?_
  refine W_region ?_
  refine WL_step rfl rfl (Exec.assign (v := Value.pointer none) rfl rfl ?_)
  refine WL_step rfl rfl (Exec.assign (v := Value.bool (false)) rfl rfl ?_)
  refine WL_nil (at_normal ?_)
  refine W_seq ?_
  refine W_region ?_
  refine WL_step rfl rfl (Exec.move (v := Value.int .i64 (n16)) rfl rfl ?_)
  obtain ⟨t20695, q20696, hm⟩ := bind_some hm
  obtain ⟨pd20697, y20698⟩ := t20695
  replace hm := un2_eq hm
  refine WL_step rfl rfl (Exec.call rfl rfl Try.func10 rfl N10 (args_cons rfl args_nil) ((stn_New_sim q20696 hS ).mono ?_))
  rintro _ w20699 ⟨_, rfl, hp20700⟩
  refine ⟨_, rfl, ?_⟩
  rcases hp20700 with ⟨d20701, rfl, s20702, v20705, v20706, v20707, l20703, hS20704, rfl⟩ | ⟨rfl, s20709, l20710, hS20711, rfl⟩
  · replace hm := optC_some hm
    refine WL_step rfl rfl (Exec.move (v := Value.tuple #[Value.pointer (some ⟨v20705, 0, none⟩), errV 30 (y20698)]) rfl rfl ?_)
    refine WL_step rfl rfl (Exec.extract (v := Value.pointer (some ⟨v20705, 0, none⟩)) rfl rfl rfl ?_)
    refine WL_step rfl rfl (Exec.extract (v := errV 30 (y20698)) rfl rfl rfl ?_)
    refine WL_step rfl rfl (Exec.assign (v := Value.pointer (some ⟨v20705, 0, none⟩)) rfl rfl ?_)
    refine WL_step rfl rfl (Exec.assign (v := errV 30 (y20698)) rfl rfl ?_)
    refine WL_nil (at_normal ?_)
    refine W_seq ?_
    refine W_seq ?_
    refine W_mid (M := fun f' w' => ∃ (s20714 : PHeap) , PHeap.le s20702 s20714 ∧ St w0 s20714 (Res.box v20705 63 [v20706] :: Res.arr encRaw 49 v20706 v20707 :: Res.rows (encInt .i64) 3 v20707 d20701.d :: H) w' ∧ f' 1 = v18 ∧ f' 6 = Value.pointer (some ⟨v20705, 0, none⟩) ∧ f' 20 = Value.bool ((y20698.isSome && true))) ?_ ?_
    · refine W_region ?_
      refine WL_step rfl rfl (Exec.move (v := errV 30 (y20698)) rfl rfl ?_)
      refine WL_step rfl rfl (Exec.err_neq_nil (T := 30) Try.underlying26 rfl rfl rfl ?_)
      refine WL_step rfl rfl (Exec.move (v := Value.bool (y20698.isSome)) rfl rfl ?_)
      by_cases hc20715 : y20698.isSome = true
      · refine WL_pass rfl (yield_of rfl (congrArg Value.bool hc20715)) rfl rfl ?_
        refine WL_pass rfl (yield_of rfl (congrArg Value.bool hc20715)) rfl rfl ?_
        refine WL_step rfl rfl (Exec.pick_t (v := Value.bool (true)) rfl (congrArg Value.bool hc20715) rfl ?_)
        refine WL_nil (at_normal ?_)
        have hS20716 := ((hS20704).f2).f2
        have hS20717 := (hS20716).f2
        exact ⟨s20702, (PHeap.le_refl _), hS20717, rfl, rfl, (congrArg Value.bool (and_t hc20715)).symm⟩
      · replace hc20715 := not_true hc20715
        refine WL_run rfl (yield_of rfl (congrArg Value.bool hc20715)) rfl (Exec.move (v := Value.pointer (some ⟨v20705, 0, none⟩)) rfl rfl ?_)
        refine WL_run rfl (yield_of rfl (congrArg Value.bool hc20715)) rfl (Exec.ptr_eql_nil Try.underlying24 rfl rfl rfl ?_)
        refine WL_step rfl rfl (Exec.pick_f (v := Value.bool (false)) rfl (congrArg Value.bool hc20715) rfl ?_)
        refine WL_nil (at_normal ?_)
        have hS20718 := ((hS20704).f2).f2
        have hS20719 := (hS20718).f2
        exact ⟨s20702, (PHeap.le_refl _), hS20719, rfl, rfl, (congrArg Value.bool (and_f hc20715)).symm⟩
    · intro f20720 w20721 hM20722
      obtain ⟨s20723, l20724, hS20725, p20726, p20727, p20728⟩ := hM20722
      refine (at_normal ?_)
      rcases ite_some hm with ⟨hc20729, hm⟩ | ⟨hc20729, hm⟩
      · refine W_cond_t p20728 hc20729 ?_
        refine W_seq ?_
        refine W_region ?_
        refine WL_step rfl rfl (Exec.assign (v := Value.pointer none) rfl rfl ?_)
        refine WL_step rfl rfl (Exec.assign (v := Value.bool (false)) rfl rfl ?_)
        refine WL_nil (at_normal ?_)
        refine W_ret (at_ret ?_)
        have e20731 := Option.some.inj hm
        subst r
        refine ⟨_, ret2 rfl, ?_⟩
        have hS20732 := (hS20725).drop
        have hS20733 := ((hS20732).drop).drop
        refine (Or.inr ⟨rfl, ?_⟩); exact ⟨s20723, (PHeap.le.trans l20703 l20724), hS20733, (tup2 rfl rfl)⟩
      · refine W_cond_f p20728 hc20729 ?_
        replace hc20729 := not_true hc20729
        refine W_skip (at_normal ?_)
        refine W_seq ?_
        refine W_seq ?_
        refine W_region ?_
        refine WL_step rfl rfl (Exec.move (v := v18) rfl p20726 ?_)
        refine WL_step rfl rfl (Exec.len_rep S22 rfl rfl (a19.mono (PHeap.le.trans l20703 l20724)) ?_)
        refine WL_step rfl rfl (Exec.move (v := Value.int .i64 (0)) rfl rfl ?_)
        refine WL_nil (at_normal ?_)
        obtain ⟨c20877, hB20878, hr20879, hn20880, hb20881⟩ := ctl_some hm
        refine W_mid (M := fun f' w' => ∃ s', (c20877 = .next s' ∨ c20877 = .brk s') ∧ (fun (l20876 : (List (List Int))) => ∃ (s20883 : PHeap) , PHeap.le s20723 s20883 ∧ St w0 s20883 (Res.box v20705 63 [v20706] :: Res.arr encRaw 49 v20706 v20707 :: Res.rows (encInt .i64) 3 v20707 l20876 :: H) w' ∧ f' 6 = Value.pointer (some ⟨v20705, 0, none⟩) ∧ f' 21 = v18 ∧ f' 22 = Value.int .i64 ((bounds17.length : Int))) s') ?_ ?_
        · refine W_block (W_forC (fun k' s' f' w' => (fun (l20781 : (List (List Int))) => ∃ (s20882 : PHeap) , PHeap.le s20723 s20882 ∧ St w0 s20882 (Res.box v20705 63 [v20706] :: Res.arr encRaw 49 v20706 v20707 :: Res.rows (encInt .i64) 3 v20707 l20781 :: H) w' ∧ f' 6 = Value.pointer (some ⟨v20705, 0, none⟩) ∧ f' 21 = v18 ∧ f' 22 = Value.int .i64 ((bounds17.length : Int)) ∧ f' 23 = Value.int .i64 (k' : Int)) s') hB20878 ?_ ?_ ?_)
          · have hS20884 := ((hS20725).f2).f2
            have hS20885 := (hS20884).f2
            exact ⟨s20723, (PHeap.le_refl _), hS20885, p20727, rfl, rfl, rfl⟩
          · intro i20734 l20781 c20887 f20888 w20889 hi20893 hI20890 hm20891 hres20892
            obtain ⟨s20894, l20895, hS20896, p20897, p20898, p20899, x20900⟩ := hI20890
            refine W_seq ?_
            refine W_region ?_
            refine WL_step rfl rfl (Exec.lss rfl x20900 p20899 ?_)
            refine WL_nil (at_normal ?_)
            refine W_seq ?_
            refine W_true (congrArg Value.bool (decide_eq_true (by omega))) ?_
            refine W_skip (at_normal ?_)
            refine W_seq ?_
            refine W_block ?_
            refine W_seq ?_
            refine W_region ?_
            obtain ⟨x20913, q20914, hm20891⟩ := bind_some hm20891
            refine WL_step rfl rfl (Exec.index_rep S22 rfl p20898 x20900 (a19.mono (PHeap.le.trans (PHeap.le.trans l20703 l20724) l20895)) q20914 ?_)
            intro b20915 o20916 a20917
            refine WL_step rfl rfl (Exec.load_at (E := encBound) hS20896 A32 rfl rfl rfl a20917 ?_)
            intro v20918 q20919
            obtain rfl := encBound_val.1 q20919
            refine WL_step rfl rfl (Exec.alloc (cs := [Value.int .i64 (0), Value.int .i64 (0), Value.int .i64 (0)]) hS20896 Z32 rfl rfl ?_)
            intro b20920 w20921 hS20922
            refine WL_step rfl rfl (Exec.store_box (ds := [Value.int .i64 (x20913.A), Value.int .i64 (x20913.B), Value.int .i64 (x20913.Most)]) (es := [Value.int .i64 (x20913.A), Value.int .i64 (x20913.B), Value.int .i64 (x20913.Most)]) hS20922 A32 rfl rfl rfl rfl (one_cons rfl (one_cons rfl (one_cons rfl one_nil))) (Nat.le_of_ble_eq_true rfl) rfl ?_)
            intro w20923 hS20924
            refine WL_nil (at_normal ?_)
            refine W_seq ?_
            refine W_region ?_
            refine WL_step rfl rfl (Exec.move (v := Value.pointer (some ⟨v20705, 0, none⟩)) rfl p20897 ?_)
            refine WL_step rfl rfl (Exec.load_box_agg (ds := [Value.int .i64 (x20913.A), Value.int .i64 (x20913.B), Value.int .i64 (x20913.Most)]) (hS20924) A32 rfl rfl rfl ?_)
            obtain ⟨t20935, q20936, hm20891⟩ := bind_some hm20891
            obtain ⟨y20937, l20938⟩ := t20935
            replace hm20891 := un2_eq hm20891
            have hS20939 := ((hS20924).f3).f3
            have hS20940 := (hS20939).f3
            refine WL_step rfl rfl (Exec.call rfl rfl Try.func14 rfl N14 (args_cons rfl (args_cons rfl args_nil)) ((stn_Network_Add_sim q20936 hS20940 ).mono ?_))
            rintro _ w20941 ⟨_, rfl, ⟨s20942, l20943, hS20944, rfl⟩⟩
            refine ⟨_, rfl, ?_⟩
            refine WL_step rfl rfl (Exec.err_neq_nil (T := 30) Try.underlying26 rfl rfl rfl ?_)
            refine WL_nil (at_normal ?_)
            rcases ite_some hm20891 with ⟨hc20945, hm20891⟩ | ⟨hc20945, hm20891⟩
            · refine W_cond_t rfl hc20945 ?_
              refine W_seq ?_
              refine W_region ?_
              refine WL_step rfl rfl (Exec.assign (v := Value.pointer none) rfl rfl ?_)
              refine WL_step rfl rfl (Exec.assign (v := Value.bool (false)) rfl rfl ?_)
              refine WL_nil (at_normal ?_)
              refine W_ret (ib_ret (at_ret (at_ret (ib_ret (at_ret (at_ret ?_))))))
              have e20946 := Option.some.inj hm20891
              subst c20887
              have hq20947 := hr20879 _ (hres20892 (by intro _ h; cases h))
              have e20948 := Option.some.inj hq20947
              subst r
              refine ⟨_, ret2 rfl, ?_⟩
              have hS20949 := (hS20944).drop
              have hS20950 := ((hS20949).drop).drop
              have hS20951 := (hS20950).drop
              refine (Or.inr ⟨rfl, ?_⟩); exact ⟨s20942, (PHeap.le.trans (PHeap.le.trans (PHeap.le.trans l20703 l20724) l20895) l20943), hS20951, (tup2 rfl rfl)⟩
            · refine W_cond_f rfl hc20945 ?_
              replace hc20945 := not_true hc20945
              refine W_skip (ib_normal (at_normal ?_))
              refine W_region ?_
              refine WL_step rfl rfl (Exec.add rfl x20900 rfl ?_)
              refine WL_step rfl rfl (Exec.move (v := Value.int .i64 (IntKind.i64.wrap ((i20734 : Int) + 1))) rfl rfl ?_)
              refine WL_nil (at_normal ?_)
              have e20952 := Option.some.inj hm20891
              subst c20887
              have hS20953 := ((hS20944).f3).drop
              have hS20954 := ((hS20953).f2).f2
              have hS20955 := (hS20954).f2
              refine ⟨_, rfl, ?_⟩; exact ⟨s20942, (PHeap.le.trans l20895 l20943), hS20955, p20897, p20898, p20899, (Eq.trans rfl (wrap_up hi20893 (SliceRep.le (a19.mono (PHeap.le.trans l20703 l20724)))))⟩
          · intro l20781 f20956 w20957 hI20958 hres20959
            obtain ⟨s20960, l20961, hS20962, p20963, p20964, p20965, x20966⟩ := hI20958
            refine W_seq ?_
            refine W_region ?_
            refine WL_step rfl rfl (Exec.lss rfl x20966 p20965 ?_)
            refine WL_nil (at_normal ?_)
            refine W_seq ?_
            refine W_false (congrArg Value.bool (decide_eq_false (by omega))) ?_
            refine W_exit (at_exit (at_exit (ib_here (at_normal ?_))))
            have hS20967 := ((hS20962).f2).f2
            have hS20968 := (hS20967).f2
            refine ⟨_, .inl hres20959, ?_⟩; exact ⟨s20960, l20961, hS20968, p20963, p20964, p20965⟩
        · rintro f20969 w20970 ⟨l20876, hc20971, hM20972⟩
          have hm := hc20971.elim (hn20880 _) (hb20881 _)
          clear hc20971
          obtain ⟨s20973, l20974, hS20975, p20976, p20977, p20978⟩ := hM20972
          refine (at_normal ?_)
          refine W_seq ?_
          refine W_region ?_
          refine WL_step rfl rfl (Exec.move (v := Value.pointer (some ⟨v20705, 0, none⟩)) rfl p20976 ?_)
          refine WL_step rfl rfl (Exec.assign (v := Value.pointer (some ⟨v20705, 0, none⟩)) rfl rfl ?_)
          refine WL_step rfl rfl (Exec.assign (v := Value.bool (true)) rfl rfl ?_)
          refine WL_nil (at_normal ?_)
          refine W_ret ?_
          have e20980 := Option.some.inj hm
          subst r
          refine ⟨_, ret2 rfl, ?_⟩
          have hS20981 := ((hS20975).f2).f2
          have hS20982 := (hS20981).f2
          refine (Or.inl ⟨_, rfl, ?_⟩); exact ⟨s20973, v20705, v20706, v20707, (PHeap.le.trans (PHeap.le.trans l20703 l20724) l20974), hS20982, (tup2 rfl rfl)⟩
  · replace hm := optC_none hm
    refine WL_step rfl rfl (Exec.move (v := Value.tuple #[Value.pointer none, errV 30 (y20698)]) rfl rfl ?_)
    refine WL_step rfl rfl (Exec.extract (v := Value.pointer none) rfl rfl rfl ?_)
    refine WL_step rfl rfl (Exec.extract (v := errV 30 (y20698)) rfl rfl rfl ?_)
    refine WL_step rfl rfl (Exec.assign (v := Value.pointer none) rfl rfl ?_)
    refine WL_step rfl rfl (Exec.assign (v := errV 30 (y20698)) rfl rfl ?_)
    refine WL_nil (at_normal ?_)
    refine W_seq ?_
    refine W_seq ?_
    obtain ⟨t20984, ht20985, hm⟩ := bind_some hm
    refine W_mid (M := fun f' w' => (fun (_ : Unit) => ∃ (s20986 : PHeap) , PHeap.le s20709 s20986 ∧ St w0 s20986 (H) w' ∧ f' 1 = v18 ∧ f' 6 = Value.pointer none ∧ f' 20 = Value.bool (true)) t20984) ?_ ?_
    · refine W_region ?_
      refine WL_step rfl rfl (Exec.move (v := errV 30 (y20698)) rfl rfl ?_)
      refine WL_step rfl rfl (Exec.err_neq_nil (T := 30) Try.underlying26 rfl rfl rfl ?_)
      refine WL_step rfl rfl (Exec.move (v := Value.bool (y20698.isSome)) rfl rfl ?_)
      rcases ite_some ht20985 with ⟨hc20987, ht20985⟩ | ⟨hc20987, ht20985⟩
      · refine WL_pass rfl (yield_of rfl (congrArg Value.bool hc20987)) rfl rfl ?_
        refine WL_pass rfl (yield_of rfl (congrArg Value.bool hc20987)) rfl rfl ?_
        refine WL_step rfl rfl (Exec.pick_t (v := Value.bool (true)) rfl (congrArg Value.bool hc20987) rfl ?_)
        refine WL_nil (at_normal ?_)
        have e20988 := Option.some.inj ht20985
        subst t20984
        exact ⟨s20709, (PHeap.le_refl _), hS20711, rfl, rfl, rfl⟩
      · replace hc20987 := not_true hc20987
        refine WL_run rfl (yield_of rfl (congrArg Value.bool hc20987)) rfl (Exec.move (v := Value.pointer none) rfl rfl ?_)
        refine WL_run rfl (yield_of rfl (congrArg Value.bool hc20987)) rfl (Exec.ptr_eql_nil Try.underlying24 rfl rfl rfl ?_)
        refine WL_step rfl rfl (Exec.pick_f (v := Value.bool (true)) rfl (congrArg Value.bool hc20987) rfl ?_)
        refine WL_nil (at_normal ?_)
        have e20989 := Option.some.inj ht20985
        subst t20984
        exact ⟨s20709, (PHeap.le_refl _), hS20711, rfl, rfl, rfl⟩
    · intro f20990 w20991 hM20992
      obtain ⟨s20993, l20994, hS20995, p20996, p20997, p20998⟩ := hM20992
      refine (at_normal ?_)
      refine W_true p20998 ?_
      refine W_seq ?_
      refine W_region ?_
      refine WL_step rfl rfl (Exec.assign (v := Value.pointer none) rfl rfl ?_)
      refine WL_step rfl rfl (Exec.assign (v := Value.bool (false)) rfl rfl ?_)
      refine WL_nil (at_normal ?_)
      refine W_ret (at_ret ?_)
      have e21000 := Option.some.inj hm
      subst r
      refine ⟨_, ret2 rfl, ?_⟩
      refine (Or.inr ⟨rfl, ?_⟩); exact ⟨s20993, (PHeap.le.trans l20710 l20994), hS20995, (tup2 rfl rfl)⟩

theorem N15 : (Try.f15.name == "runtime.NumGoroutine") = false := by kernel_rfl

theorem stn_Network_Distance_sim {w0 w : World} {s : PHeap} {H : List Res} {n21057 : stn_Network} {a21061 : Int} {b21062 : Int} {b21058 : Nat} {v21059 : Value} {hs21060 : List Value} {r : Int × (Option Int)} (hm : stn_Network_Distance_p n21057 a21061 b21062 = some r) (hS : St w0 s (Res.box b21058 63 [v21059] :: Res.arr encRaw 49 v21059 hs21060 :: Res.rows (encInt .i64) 3 hs21060 n21057.d :: H) w)  :
    Calls Try.prog 15 #[Value.pointer (some ⟨b21058, 0, none⟩), Value.int .i64 (a21061), Value.int .i64 (b21062)] w fun e w' => ∃ v, e = .returned v ∧ ((un2 fun (y21140 : Int) (y21141 : (Option Int)) => ∃ (s21142 : PHeap) , PHeap.le s s21142 ∧ St w0 s21142 (Res.box b21058 63 [v21059] :: Res.arr encRaw 49 v21059 hs21060 :: Res.rows (encInt .i64) 3 hs21060 n21057.d :: H) w' ∧ v = Value.tuple #[Value.int .i64 (y21140), errV 30 (y21141)]) r) := by
  unfold stn_Network_Distance_p at hm
  refine calls_of_W Try.func15 rfl rfl ?_
  refine W_seq ?_
  refine W_region ?_
  refine WL_step rfl rfl (Exec.assign (v := Value.int .i64 (0)) rfl rfl ?_)
  refine WL_step rfl rfl (Exec.assign (v := errV 30 (none)) rfl rfl ?_)
  refine WL_nil (at_normal ?_)
  refine W_seq ?_
  refine W_seq ?_
  refine W_region ?_
  refine WL_step rfl rfl (Exec.move (v := Value.pointer (some ⟨b21058, 0, none⟩)) rfl rfl ?_)
  refine WL_step rfl rfl (Exec.ptr_eql_nil Try.underlying24 rfl rfl rfl ?_)
  refine WL_nil (at_normal ?_)
  refine W_false rfl ?_
  refine W_skip (at_normal ?_)
  refine W_seq ?_
  refine W_seq ?_
  refine W_mid (M := fun f' w' => ∃ (s21156 : PHeap) , PHeap.le s s21156 ∧ St w0 s21156 (Res.box b21058 63 [v21059] :: Res.arr encRaw 49 v21059 hs21060 :: Res.rows (encInt .i64) 3 hs21060 n21057.d :: H) w' ∧ f' 0 = Value.pointer (some ⟨b21058, 0, none⟩) ∧ f' 1 = Value.int .i64 (a21061) ∧ f' 2 = Value.int .i64 (b21062) ∧ f' 20 = Value.bool (((!(stn_Network_point_t n21057 a21061)) || !(stn_Network_point_t n21057 b21062)))) ?_ ?_
  · refine W_region ?_
    refine WL_step rfl rfl (Exec.move (v := Value.pointer (some ⟨b21058, 0, none⟩)) rfl rfl ?_)
    refine WL_step rfl rfl (Exec.move (v := Value.int .i64 (a21061)) rfl rfl ?_)
    have hS21157 := ((hS).f2).f2
    have hS21158 := (hS21157).f2
    refine WL_step rfl rfl (Exec.call rfl rfl Try.func26 rfl N26 (args_cons rfl (args_cons rfl args_nil)) ((stn_Network_point_sim (stn_Network_point_tot n21057 a21061) hS21158 ).mono ?_))
    rintro _ w21159 ⟨_, rfl, ⟨s21160, l21161, hS21162, rfl⟩⟩
    refine ⟨_, rfl, ?_⟩
    refine WL_step rfl rfl (Exec.not rfl rfl ?_)
    refine WL_step rfl rfl (Exec.move (v := Value.bool (!(stn_Network_point_t n21057 a21061))) rfl rfl ?_)
    by_cases hc21163 : (!(stn_Network_point_t n21057 a21061)) = true
    · refine WL_pass rfl (yield_of rfl (congrArg Value.bool hc21163)) rfl rfl ?_
      refine WL_pass rfl (yield_of rfl (congrArg Value.bool hc21163)) rfl rfl ?_
      refine WL_pass rfl (yield_of rfl (congrArg Value.bool hc21163)) rfl rfl ?_
      refine WL_pass rfl (yield_of rfl (congrArg Value.bool hc21163)) rfl rfl ?_
      refine WL_step rfl rfl (Exec.pick_t (v := Value.bool (true)) rfl (congrArg Value.bool hc21163) rfl ?_)
      refine WL_nil (at_normal ?_)
      have hS21164 := ((hS21162).f2).f2
      have hS21165 := (hS21164).f2
      exact ⟨s21160, l21161, hS21165, rfl, rfl, rfl, (congrArg Value.bool (or_t hc21163)).symm⟩
    · replace hc21163 := not_true hc21163
      refine WL_run rfl (yield_of rfl (congrArg Value.bool hc21163)) rfl (Exec.move (v := Value.pointer (some ⟨b21058, 0, none⟩)) rfl rfl ?_)
      refine WL_run rfl (yield_of rfl (congrArg Value.bool hc21163)) rfl (Exec.move (v := Value.int .i64 (b21062)) rfl rfl ?_)
      have hS21166 := ((hS21162).f2).f2
      have hS21167 := (hS21166).f2
      refine WL_run rfl (yield_of rfl (congrArg Value.bool hc21163)) rfl (Exec.call rfl rfl Try.func26 rfl N26 (args_cons rfl (args_cons rfl args_nil)) ((stn_Network_point_sim (stn_Network_point_tot n21057 b21062) hS21167 ).mono ?_))
      rintro _ w21168 ⟨_, rfl, ⟨s21169, l21170, hS21171, rfl⟩⟩
      refine ⟨_, rfl, ?_⟩
      refine WL_run rfl (yield_of rfl (congrArg Value.bool hc21163)) rfl (Exec.not rfl rfl ?_)
      refine WL_step rfl rfl (Exec.pick_f (v := Value.bool (!(stn_Network_point_t n21057 b21062))) rfl (congrArg Value.bool hc21163) rfl ?_)
      refine WL_nil (at_normal ?_)
      have hS21172 := ((hS21171).f2).f2
      have hS21173 := (hS21172).f2
      exact ⟨s21169, (PHeap.le.trans l21161 l21170), hS21173, rfl, rfl, rfl, (congrArg Value.bool (or_f hc21163)).symm⟩
  · intro f21174 w21175 hM21176
    obtain ⟨s21177, l21178, hS21179, p21180, p21181, p21182, p21183⟩ := hM21176
    refine (at_normal ?_)
    rcases ite_some hm with ⟨hc21184, hm⟩ | ⟨hc21184, hm⟩
    · refine W_cond_t p21183 hc21184 ?_
      refine W_seq ?_
      refine W_region ?_
      refine WL_step rfl rfl (Exec.makeInterface C30 rfl rfl ?_)
      refine WL_step rfl rfl (Exec.assign (v := Value.int .i64 (0)) rfl rfl ?_)
      refine WL_step rfl rfl (Exec.assign (v := errV 30 (some 1)) rfl rfl ?_)
      refine WL_nil (at_normal ?_)
      refine W_ret (at_ret ?_)
      have e21186 := Option.some.inj hm
      subst r
      refine ⟨_, ret2 rfl, ?_⟩
      have hS21187 := ((hS21179).f2).f2
      have hS21188 := (hS21187).f2
      exact ⟨s21177, l21178, hS21188, (tup2 rfl rfl)⟩
    · refine W_cond_f p21183 hc21184 ?_
      replace hc21184 := not_true hc21184
      refine W_skip (at_normal ?_)
      refine W_seq ?_
      refine W_region ?_
      refine WL_step rfl rfl (Exec.move (v := Value.pointer (some ⟨b21058, 0, none⟩)) rfl p21180 ?_)
      refine WL_step rfl rfl (Exec.nilCheck_ptr rfl rfl ?_)
      refine WL_step rfl rfl (Exec.field F63_0 rfl rfl rfl ?_)
      refine WL_step rfl rfl (Exec.load_box (hS21179) A61 rfl rfl rfl ?_)
      refine WL_step rfl rfl (Exec.move (v := Value.int .i64 (a21061)) rfl p21181 ?_)
      obtain ⟨row21206, q21207, hm⟩ := bind_some hm
      obtain ⟨h21208, e21209, e21210, _⟩ := ((((hS21179).f2).f2).f1).rows_at q21207
      obtain ⟨g21211, c21212, e21213⟩ := (((hS21179).f2).f2).arr_at e21209
      refine WL_step rfl rfl (Exec.index_slice S61 rfl e21213 rfl (idx_some e21209).1 (idx_some e21209).2.1 ?_)
      refine WL_step rfl rfl (Exec.load_arr (F := encRaw) (((hS21179).f2).f2) e21213 A49 rfl rfl rfl e21209 (Sub.refl _) ?_)
      intro v21214 q21215
      replace q21215 := (encRaw_val.1 q21215).1
      subst v21214
      refine WL_step rfl rfl (Exec.move (v := Value.int .i64 (b21062)) rfl p21182 ?_)
      obtain ⟨x21216, q21217, hm⟩ := bind_some hm
      obtain ⟨g21218, c21219, e21220⟩ := (((((hS21179).f2).f2).f1).rows_split e21210 (idx_some q21207).2.2).arr_at q21217
      refine WL_step rfl rfl (Exec.index_slice S49 rfl e21220 rfl (idx_some q21217).1 (idx_some q21217).2.1 ?_)
      refine WL_step rfl rfl (Exec.load_arr (F := (encInt .i64)) (((((hS21179).f2).f2).f1).rows_split e21210 (idx_some q21207).2.2) e21220 A3 rfl rfl rfl q21217 (Sub.refl _) ?_)
      intro v21221 q21222
      obtain rfl := encInt_val.1 q21222
      refine WL_step rfl rfl (Exec.assign (v := Value.int .i64 (x21216)) rfl rfl ?_)
      refine WL_step rfl rfl (Exec.assign (v := errV 30 (none)) rfl rfl ?_)
      refine WL_nil (at_normal ?_)
      refine W_ret ?_
      have e21224 := Option.some.inj hm
      subst r
      refine ⟨_, ret2 rfl, ?_⟩
      have hS21225 := ((hS21179).f2).f2
      have hS21226 := (hS21225).f2
      exact ⟨s21177, l21178, hS21226, (tup2 rfl rfl)⟩

theorem N16 : (Try.f16.name == "runtime.NumGoroutine") = false := by kernel_rfl

theorem stn_Network_Earliest_sim {w0 w : World} {s : PHeap} {H : List Res} {n21052 : stn_Network} {p21056 : Int} {b21053 : Nat} {v21054 : Value} {hs21055 : List Value} {r : Int × (Option Int)} (hm : stn_Network_Earliest_p n21052 p21056 = some r) (hS : St w0 s (Res.box b21053 63 [v21054] :: Res.arr encRaw 49 v21054 hs21055 :: Res.rows (encInt .i64) 3 hs21055 n21052.d :: H) w)  :
    Calls Try.prog 16 #[Value.pointer (some ⟨b21053, 0, none⟩), Value.int .i64 (p21056)] w fun e w' => ∃ v, e = .returned v ∧ ((un2 fun (y21250 : Int) (y21251 : (Option Int)) => ∃ (s21252 : PHeap) , PHeap.le s s21252 ∧ St w0 s21252 (Res.box b21053 63 [v21054] :: Res.arr encRaw 49 v21054 hs21055 :: Res.rows (encInt .i64) 3 hs21055 n21052.d :: H) w' ∧ v = Value.tuple #[Value.int .i64 (y21250), errV 30 (y21251)]) r) := by
  unfold stn_Network_Earliest_p at hm
  refine calls_of_W Try.func16 rfl rfl ?_
  refine W_seq ?_
  refine W_region ?_
  refine WL_step rfl rfl (Exec.assign (v := Value.int .i64 (0)) rfl rfl ?_)
  refine WL_step rfl rfl (Exec.assign (v := errV 30 (none)) rfl rfl ?_)
  refine WL_nil (at_normal ?_)
  refine W_seq ?_
  refine W_region ?_
  refine WL_step rfl rfl (Exec.move (v := Value.pointer (some ⟨b21053, 0, none⟩)) rfl rfl ?_)
  refine WL_step rfl rfl (Exec.move (v := Value.int .i64 (p21056)) rfl rfl ?_)
  obtain ⟨t21263, q21264, hm⟩ := bind_some hm
  obtain ⟨y21265, y21266⟩ := t21263
  replace hm := un2_eq hm
  have hS21267 := ((hS).f2).f2
  have hS21268 := (hS21267).f2
  refine WL_step rfl rfl (Exec.call rfl rfl Try.func15 rfl N15 (args_cons rfl (args_cons rfl (args_cons rfl args_nil))) ((stn_Network_Distance_sim q21264 hS21268 ).mono ?_))
  rintro _ w21269 ⟨_, rfl, ⟨s21270, l21271, hS21272, rfl⟩⟩
  refine ⟨_, rfl, ?_⟩
  refine WL_step rfl rfl (Exec.move (v := Value.tuple #[Value.int .i64 (y21265), errV 30 (y21266)]) rfl rfl ?_)
  refine WL_step rfl rfl (Exec.extract (v := Value.int .i64 (y21265)) rfl rfl rfl ?_)
  refine WL_step rfl rfl (Exec.extract (v := errV 30 (y21266)) rfl rfl rfl ?_)
  refine WL_step rfl rfl (Exec.assign (v := Value.int .i64 (y21265)) rfl rfl ?_)
  refine WL_step rfl rfl (Exec.assign (v := errV 30 (y21266)) rfl rfl ?_)
  refine WL_nil (at_normal ?_)
  refine W_seq ?_
  refine W_seq ?_
  refine W_region ?_
  refine WL_step rfl rfl (Exec.move (v := errV 30 (y21266)) rfl rfl ?_)
  refine WL_step rfl rfl (Exec.err_neq_nil (T := 30) Try.underlying26 rfl rfl rfl ?_)
  refine WL_nil (at_normal ?_)
  rcases ite_some hm with ⟨hc21273, hm⟩ | ⟨hc21273, hm⟩
  · refine W_cond_t rfl hc21273 ?_
    refine W_seq ?_
    refine W_region ?_
    refine WL_step rfl rfl (Exec.move (v := errV 30 (y21266)) rfl rfl ?_)
    refine WL_step rfl rfl (Exec.assign (v := Value.int .i64 (0)) rfl rfl ?_)
    refine WL_step rfl rfl (Exec.assign (v := errV 30 (y21266)) rfl rfl ?_)
    refine WL_nil (at_normal ?_)
    refine W_ret (at_ret ?_)
    have e21275 := Option.some.inj hm
    subst r
    refine ⟨_, ret2 rfl, ?_⟩
    have hS21276 := ((hS21272).f2).f2
    have hS21277 := (hS21276).f2
    exact ⟨s21270, l21271, hS21277, (tup2 rfl rfl)⟩
  · refine W_cond_f rfl hc21273 ?_
    replace hc21273 := not_true hc21273
    refine W_skip (at_normal ?_)
    refine W_seq ?_
    refine W_seq ?_
    refine W_region ?_
    refine WL_step rfl rfl (Exec.move (v := Value.int .i64 (y21265)) rfl rfl ?_)
    refine WL_step rfl rfl (Exec.geq rfl rfl rfl ?_)
    refine WL_nil (at_normal ?_)
    rcases ite_some hm with ⟨hc21278, hm⟩ | ⟨hc21278, hm⟩
    · refine W_cond_t rfl hc21278 ?_
      refine W_seq ?_
      refine W_region ?_
      refine WL_step rfl rfl (Exec.makeInterface C30 rfl rfl ?_)
      refine WL_step rfl rfl (Exec.assign (v := Value.int .i64 (0)) rfl rfl ?_)
      refine WL_step rfl rfl (Exec.assign (v := errV 30 (some 3)) rfl rfl ?_)
      refine WL_nil (at_normal ?_)
      refine W_ret (at_ret ?_)
      have e21280 := Option.some.inj hm
      subst r
      refine ⟨_, ret2 rfl, ?_⟩
      have hS21281 := ((hS21272).f2).f2
      have hS21282 := (hS21281).f2
      exact ⟨s21270, l21271, hS21282, (tup2 rfl rfl)⟩
    · refine W_cond_f rfl hc21278 ?_
      replace hc21278 := not_true hc21278
      refine W_skip (at_normal ?_)
      refine W_seq ?_
      refine W_region ?_
      refine WL_step rfl rfl (Exec.move (v := Value.int .i64 (y21265)) rfl rfl ?_)
      refine WL_step rfl rfl (Exec.neg rfl rfl ?_)
      refine WL_step rfl rfl (Exec.assign (v := Value.int .i64 (IntKind.i64.wrap (0 - y21265))) rfl rfl ?_)
      refine WL_step rfl rfl (Exec.assign (v := errV 30 (none)) rfl rfl ?_)
      refine WL_nil (at_normal ?_)
      refine W_ret ?_
      have e21284 := Option.some.inj hm
      subst r
      refine ⟨_, ret2 rfl, ?_⟩
      have hS21285 := ((hS21272).f2).f2
      have hS21286 := (hS21285).f2
      exact ⟨s21270, l21271, hS21286, (tup2 rfl rfl)⟩

theorem N22 : (Try.f22.name == "runtime.NumGoroutine") = false := by kernel_rfl

theorem stn_Network_Times_sim {w0 w : World} {s : PHeap} {H : List Res} {n21046 : stn_Network} {b21047 : Nat} {v21048 : Value} {hs21049 : List Value} {r : (List Int) × (Option Int)} (hm : stn_Network_Times_p n21046 = some r) (hS : St w0 s (Res.box b21047 63 [v21048] :: Res.arr encRaw 49 v21048 hs21049 :: Res.rows (encInt .i64) 3 hs21049 n21046.d :: H) w)  :
    Calls Try.prog 22 #[Value.pointer (some ⟨b21047, 0, none⟩)] w fun e w' => ∃ v, e = .returned v ∧ ((un2 fun (y21510 : (List Int)) (y21511 : (Option Int)) => ∃ (s21518 : PHeap) (v21517 : Value), PHeap.le s s21518 ∧ St w0 s21518 (Res.box b21047 63 [v21048] :: Res.arr encRaw 49 v21048 hs21049 :: Res.rows (encInt .i64) 3 hs21049 n21046.d :: H) w' ∧ v = Value.tuple #[v21517, errV 30 (y21511)] ∧ SliceRep (encInt .i64) s21518 v21517 y21510) r) := by
  unfold stn_Network_Times_p at hm
  refine calls_of_W Try.func22 rfl rfl ?_
  refine W_seq ?_
  refine W_region ?_
  refine WL_step rfl rfl (Exec.assign (v := Value.slice none 0 0) rfl rfl ?_)
  refine WL_step rfl rfl (Exec.assign (v := errV 30 (none)) rfl rfl ?_)
  refine WL_nil (at_normal ?_)
  refine W_seq ?_
  refine W_seq ?_
  refine W_region ?_
  refine WL_step rfl rfl (Exec.move (v := Value.pointer (some ⟨b21047, 0, none⟩)) rfl rfl ?_)
  refine WL_step rfl rfl (Exec.ptr_eql_nil Try.underlying24 rfl rfl rfl ?_)
  refine WL_nil (at_normal ?_)
  refine W_false rfl ?_
  refine W_skip (at_normal ?_)
  refine W_seq ?_
  refine W_region ?_
  refine WL_step rfl rfl (Exec.assign (v := Value.slice none 0 0) rfl rfl ?_)
  refine WL_nil (at_normal ?_)
  refine W_seq ?_
  refine W_seq ?_
  refine W_region ?_
  refine WL_step rfl rfl (Exec.move (v := Value.pointer (some ⟨b21047, 0, none⟩)) rfl rfl ?_)
  refine WL_step rfl rfl (Exec.nilCheck_ptr rfl rfl ?_)
  refine WL_step rfl rfl (Exec.field F63_0 rfl rfl rfl ?_)
  refine WL_step rfl rfl (Exec.load_box (hS) A61 rfl rfl rfl ?_)
  refine WL_step rfl rfl (Exec.len_grid (((hS).f2).f2) (((hS).f2).f2).f1.rows_len S61 rfl rfl ?_)
  refine WL_step rfl rfl (Exec.move (v := Value.int .i64 (0)) rfl rfl ?_)
  refine WL_nil (at_normal ?_)
  obtain ⟨c21652, hB21653, hr21654, hn21655, hb21656⟩ := ctl_some hm
  refine W_mid (M := fun f' w' => ∃ s', (c21652 = .next s' ∨ c21652 = .brk s') ∧ (fun (out21650 : (List Int)) => ∃ (s21658 : PHeap) (v21651 : Value), PHeap.le s s21658 ∧ St w0 s21658 (Res.box b21047 63 [v21048] :: Res.arr encRaw 49 v21048 hs21049 :: Res.rows (encInt .i64) 3 hs21049 n21046.d :: Res.arr (encInt .i64) 3 v21651 out21650 :: H) w' ∧ f' 0 = Value.pointer (some ⟨b21047, 0, none⟩) ∧ f' 4 = v21651 ∧ f' 15 = Value.int .i64 ((n21046.d.length : Int))) s') ?_ ?_
  · refine W_block (W_forC (fun k' s' f' w' => (fun (out21564 : (List Int)) => ∃ (s21657 : PHeap) (v21565 : Value), PHeap.le s s21657 ∧ St w0 s21657 (Res.box b21047 63 [v21048] :: Res.arr encRaw 49 v21048 hs21049 :: Res.rows (encInt .i64) 3 hs21049 n21046.d :: Res.arr (encInt .i64) 3 v21565 out21564 :: H) w' ∧ f' 0 = Value.pointer (some ⟨b21047, 0, none⟩) ∧ f' 4 = v21565 ∧ f' 15 = Value.int .i64 ((n21046.d.length : Int)) ∧ f' 16 = Value.int .i64 (k' : Int)) s') hB21653 ?_ ?_ ?_)
    · have hS21659 := hS.nilArr (encInt .i64) 3
      have hS21660 := ((hS21659).f3).f3
      have hS21661 := (hS21660).f3
      exact ⟨s, (Value.slice none 0 0), (PHeap.le_refl _), hS21661, rfl, rfl, rfl, rfl⟩
    · intro i21519 out21564 c21663 f21664 w21665 hi21669 hI21666 hm21667 hres21668
      obtain ⟨s21670, v21565, l21671, hS21672, p21673, p21674, p21675, x21676⟩ := hI21666
      refine W_seq ?_
      refine W_region ?_
      refine WL_step rfl rfl (Exec.lss rfl x21676 p21675 ?_)
      refine WL_nil (at_normal ?_)
      refine W_seq ?_
      refine W_true (congrArg Value.bool (decide_eq_true (by omega))) ?_
      refine W_skip (at_normal ?_)
      refine W_seq ?_
      refine W_block ?_
      refine W_seq ?_
      refine W_region ?_
      refine WL_step rfl rfl (Exec.move (v := Value.int .i64 ((i21519 : Int))) rfl x21676 ?_)
      refine WL_step rfl rfl (Exec.assign (v := Value.int .i64 ((i21519 : Int))) rfl rfl ?_)
      refine WL_nil (at_normal ?_)
      refine W_seq ?_
      refine W_region ?_
      refine WL_step rfl rfl (Exec.move (v := Value.pointer (some ⟨b21047, 0, none⟩)) rfl p21673 ?_)
      refine WL_step rfl rfl (Exec.move (v := Value.int .i64 ((i21519 : Int))) rfl rfl ?_)
      obtain ⟨t21687, q21688, hm21667⟩ := bind_some hm21667
      obtain ⟨y21689, y21690⟩ := t21687
      replace hm21667 := un2_eq hm21667
      have hS21691 := ((hS21672).f2).f2
      have hS21692 := (hS21691).f2
      refine WL_step rfl rfl (Exec.call rfl rfl Try.func16 rfl N16 (args_cons rfl (args_cons rfl args_nil)) ((stn_Network_Earliest_sim q21688 hS21692 ).mono ?_))
      rintro _ w21693 ⟨_, rfl, ⟨s21694, l21695, hS21696, rfl⟩⟩
      refine ⟨_, rfl, ?_⟩
      refine WL_step rfl rfl (Exec.move (v := Value.tuple #[Value.int .i64 (y21689), errV 30 (y21690)]) rfl rfl ?_)
      refine WL_step rfl rfl (Exec.extract (v := Value.int .i64 (y21689)) rfl rfl rfl ?_)
      refine WL_step rfl rfl (Exec.extract (v := errV 30 (y21690)) rfl rfl rfl ?_)
      refine WL_step rfl rfl (Exec.assign (v := Value.int .i64 (y21689)) rfl rfl ?_)
      refine WL_step rfl rfl (Exec.assign (v := errV 30 (y21690)) rfl rfl ?_)
      refine WL_nil (at_normal ?_)
      refine W_seq ?_
      refine W_seq ?_
      refine W_region ?_
      refine WL_step rfl rfl (Exec.move (v := errV 30 (y21690)) rfl rfl ?_)
      refine WL_step rfl rfl (Exec.err_neq_nil (T := 30) Try.underlying26 rfl rfl rfl ?_)
      refine WL_nil (at_normal ?_)
      rcases ite_some hm21667 with ⟨hc21697, hm21667⟩ | ⟨hc21697, hm21667⟩
      · refine W_cond_t rfl hc21697 ?_
        refine W_seq ?_
        refine W_region ?_
        refine WL_step rfl rfl (Exec.move (v := errV 30 (y21690)) rfl rfl ?_)
        refine WL_step rfl rfl (Exec.assign (v := Value.slice none 0 0) rfl rfl ?_)
        refine WL_step rfl rfl (Exec.assign (v := errV 30 (y21690)) rfl rfl ?_)
        refine WL_nil (at_normal ?_)
        refine W_ret (at_ret (ib_ret (at_ret (at_ret (ib_ret (at_ret (at_ret ?_)))))))
        have e21698 := Option.some.inj hm21667
        subst c21663
        have hq21699 := hr21654 _ (hres21668 (by intro _ h; cases h))
        have e21700 := Option.some.inj hq21699
        subst r
        refine ⟨_, ret2 rfl, ?_⟩
        have hS21701 := ((hS21696).f3).drop
        have hS21702 := ((hS21701).f2).f2
        have hS21703 := (hS21702).f2
        exact ⟨s21694, (Value.slice none 0 0), (PHeap.le.trans l21671 l21695), hS21703, (tup2 rfl rfl), (SliceRep.nil _ _)⟩
      · refine W_cond_f rfl hc21697 ?_
        replace hc21697 := not_true hc21697
        refine W_skip (at_normal ?_)
        refine W_region ?_
        refine WL_step rfl rfl (Exec.move (v := v21565) rfl p21674 ?_)
        refine WL_step rfl rfl (Exec.move (v := Value.int .i64 (y21689)) rfl rfl ?_)
        refine WL_step rfl rfl (Exec.buildSlice (Te := 3) (cs := [Value.int .i64 (y21689)]) hS21696 rfl (parts_cons (c := [Value.int .i64 (y21689)]) (cells_of rfl rfl) parts_nil) (fun _ => by kernel_rfl) ?_)
        intro b21713 w21714 hS21715
        obtain ⟨l21716, q21717, hm21667⟩ := bind_some hm21667
        have hS21718 := (hS21715).f4
        refine WL_step rfl rfl (Exec.append_box (E := (encInt .i64)) (ys := [y21689]) hS21718 S49 Z3 rfl (by decide) rfl rfl rfl rfl ⟨[Value.int .i64 (y21689)], [], rfl, rfl, rfl⟩ rfl q21717 ?_)
        intro v21719 w21720 hS21721
        refine WL_step rfl rfl (Exec.assign (v := v21719) rfl rfl ?_)
        refine WL_nil (ib_normal (at_normal ?_))
        refine W_region ?_
        refine WL_step rfl rfl (Exec.add rfl x21676 rfl ?_)
        refine WL_step rfl rfl (Exec.move (v := Value.int .i64 (IntKind.i64.wrap ((i21519 : Int) + 1))) rfl rfl ?_)
        refine WL_nil (at_normal ?_)
        have e21722 := Option.some.inj hm21667
        subst c21663
        have hS21723 := ((hS21721).f3).f3
        have hS21724 := (hS21723).f3
        refine ⟨_, rfl, ?_⟩; exact ⟨s21694, v21719, (PHeap.le.trans l21671 l21695), hS21724, p21673, rfl, p21675, (Eq.trans rfl (wrap_up hi21669 (by have h := (((hS).f2).f2).f1.rows_len; have h2 := (((hS).f2).f2).arr_le; omega)))⟩
    · intro out21564 f21725 w21726 hI21727 hres21728
      obtain ⟨s21729, v21565, l21730, hS21731, p21732, p21733, p21734, x21735⟩ := hI21727
      refine W_seq ?_
      refine W_region ?_
      refine WL_step rfl rfl (Exec.lss rfl x21735 p21734 ?_)
      refine WL_nil (at_normal ?_)
      refine W_seq ?_
      refine W_false (congrArg Value.bool (decide_eq_false (by omega))) ?_
      refine W_exit (at_exit (at_exit (ib_here (at_normal ?_))))
      have hS21736 := (hS21731).f3
      have hS21737 := ((hS21736).f3).f3
      have hS21738 := (hS21737).f3
      refine ⟨_, .inl hres21728, ?_⟩; exact ⟨s21729, v21565, l21730, hS21738, p21732, p21733, p21734⟩
  · rintro f21739 w21740 ⟨out21650, hc21741, hM21742⟩
    have hm := hc21741.elim (hn21655 _) (hb21656 _)
    clear hc21741
    obtain ⟨s21743, v21651, l21744, hS21745, p21746, p21747, p21748⟩ := hM21742
    refine (at_normal ?_)
    refine W_seq ?_
    refine W_region ?_
    refine WL_step rfl rfl (Exec.move (v := v21651) rfl p21747 ?_)
    refine WL_step rfl rfl (Exec.assign (v := v21651) rfl rfl ?_)
    refine WL_step rfl rfl (Exec.assign (v := errV 30 (none)) rfl rfl ?_)
    refine WL_nil (at_normal ?_)
    refine W_ret ?_
    have e21750 := Option.some.inj hm
    subst r
    refine ⟨_, ret2 rfl, ?_⟩
    have hS21751 := (hS21745).f3
    obtain ⟨s21752, l21753, hS21754, r21755⟩ := hS21751.freezeArr
    have hS21756 := ((hS21754).f2).f2
    have hS21757 := (hS21756).f2
    exact ⟨s21752, v21651, (PHeap.le.trans l21744 l21753), hS21757, (tup2 rfl rfl), r21755⟩

theorem N17 : (Try.f17.name == "runtime.NumGoroutine") = false := by kernel_rfl

theorem stn_Network_Latest_sim {w0 w : World} {s : PHeap} {H : List Res} {n21782 : stn_Network} {p21786 : Int} {b21783 : Nat} {v21784 : Value} {hs21785 : List Value} {r : Int × (Option Int)} (hm : stn_Network_Latest_p n21782 p21786 = some r) (hS : St w0 s (Res.box b21783 63 [v21784] :: Res.arr encRaw 49 v21784 hs21785 :: Res.rows (encInt .i64) 3 hs21785 n21782.d :: H) w)  :
    Calls Try.prog 17 #[Value.pointer (some ⟨b21783, 0, none⟩), Value.int .i64 (p21786)] w fun e w' => ∃ v, e = .returned v ∧ ((un2 fun (y21810 : Int) (y21811 : (Option Int)) => ∃ (s21812 : PHeap) , PHeap.le s s21812 ∧ St w0 s21812 (Res.box b21783 63 [v21784] :: Res.arr encRaw 49 v21784 hs21785 :: Res.rows (encInt .i64) 3 hs21785 n21782.d :: H) w' ∧ v = Value.tuple #[Value.int .i64 (y21810), errV 30 (y21811)]) r) := by
  unfold stn_Network_Latest_p at hm
  refine calls_of_W Try.func17 rfl rfl ?_
  refine W_seq ?_
  refine W_region ?_
  refine WL_step rfl rfl (Exec.assign (v := Value.int .i64 (0)) rfl rfl ?_)
  refine WL_step rfl rfl (Exec.assign (v := errV 30 (none)) rfl rfl ?_)
  refine WL_nil (at_normal ?_)
  refine W_seq ?_
  refine W_region ?_
  refine WL_step rfl rfl (Exec.move (v := Value.pointer (some ⟨b21783, 0, none⟩)) rfl rfl ?_)
  refine WL_step rfl rfl (Exec.move (v := Value.int .i64 (p21786)) rfl rfl ?_)
  obtain ⟨t21823, q21824, hm⟩ := bind_some hm
  obtain ⟨y21825, y21826⟩ := t21823
  replace hm := un2_eq hm
  have hS21827 := ((hS).f2).f2
  have hS21828 := (hS21827).f2
  refine WL_step rfl rfl (Exec.call rfl rfl Try.func15 rfl N15 (args_cons rfl (args_cons rfl (args_cons rfl args_nil))) ((stn_Network_Distance_sim q21824 hS21828 ).mono ?_))
  rintro _ w21829 ⟨_, rfl, ⟨s21830, l21831, hS21832, rfl⟩⟩
  refine ⟨_, rfl, ?_⟩
  refine WL_step rfl rfl (Exec.move (v := Value.tuple #[Value.int .i64 (y21825), errV 30 (y21826)]) rfl rfl ?_)
  refine WL_step rfl rfl (Exec.extract (v := Value.int .i64 (y21825)) rfl rfl rfl ?_)
  refine WL_step rfl rfl (Exec.extract (v := errV 30 (y21826)) rfl rfl rfl ?_)
  refine WL_step rfl rfl (Exec.assign (v := Value.int .i64 (y21825)) rfl rfl ?_)
  refine WL_step rfl rfl (Exec.assign (v := errV 30 (y21826)) rfl rfl ?_)
  refine WL_nil (at_normal ?_)
  refine W_seq ?_
  refine W_seq ?_
  refine W_region ?_
  refine WL_step rfl rfl (Exec.move (v := errV 30 (y21826)) rfl rfl ?_)
  refine WL_step rfl rfl (Exec.err_neq_nil (T := 30) Try.underlying26 rfl rfl rfl ?_)
  refine WL_nil (at_normal ?_)
  rcases ite_some hm with ⟨hc21833, hm⟩ | ⟨hc21833, hm⟩
  · refine W_cond_t rfl hc21833 ?_
    refine W_seq ?_
    refine W_region ?_
    refine WL_step rfl rfl (Exec.move (v := errV 30 (y21826)) rfl rfl ?_)
    refine WL_step rfl rfl (Exec.assign (v := Value.int .i64 (0)) rfl rfl ?_)
    refine WL_step rfl rfl (Exec.assign (v := errV 30 (y21826)) rfl rfl ?_)
    refine WL_nil (at_normal ?_)
    refine W_ret (at_ret ?_)
    have e21835 := Option.some.inj hm
    subst r
    refine ⟨_, ret2 rfl, ?_⟩
    have hS21836 := ((hS21832).f2).f2
    have hS21837 := (hS21836).f2
    exact ⟨s21830, l21831, hS21837, (tup2 rfl rfl)⟩
  · refine W_cond_f rfl hc21833 ?_
    replace hc21833 := not_true hc21833
    refine W_skip (at_normal ?_)
    refine W_seq ?_
    refine W_seq ?_
    refine W_region ?_
    refine WL_step rfl rfl (Exec.move (v := Value.int .i64 (y21825)) rfl rfl ?_)
    refine WL_step rfl rfl (Exec.geq rfl rfl rfl ?_)
    refine WL_nil (at_normal ?_)
    rcases ite_some hm with ⟨hc21838, hm⟩ | ⟨hc21838, hm⟩
    · refine W_cond_t rfl hc21838 ?_
      refine W_seq ?_
      refine W_region ?_
      refine WL_step rfl rfl (Exec.makeInterface C30 rfl rfl ?_)
      refine WL_step rfl rfl (Exec.assign (v := Value.int .i64 (0)) rfl rfl ?_)
      refine WL_step rfl rfl (Exec.assign (v := errV 30 (some 3)) rfl rfl ?_)
      refine WL_nil (at_normal ?_)
      refine W_ret (at_ret ?_)
      have e21840 := Option.some.inj hm
      subst r
      refine ⟨_, ret2 rfl, ?_⟩
      have hS21841 := ((hS21832).f2).f2
      have hS21842 := (hS21841).f2
      exact ⟨s21830, l21831, hS21842, (tup2 rfl rfl)⟩
    · refine W_cond_f rfl hc21838 ?_
      replace hc21838 := not_true hc21838
      refine W_skip (at_normal ?_)
      refine W_seq ?_
      refine W_region ?_
      refine WL_step rfl rfl (Exec.move (v := Value.int .i64 (y21825)) rfl rfl ?_)
      refine WL_step rfl rfl (Exec.assign (v := Value.int .i64 (y21825)) rfl rfl ?_)
      refine WL_step rfl rfl (Exec.assign (v := errV 30 (none)) rfl rfl ?_)
      refine WL_nil (at_normal ?_)
      refine W_ret ?_
      have e21844 := Option.some.inj hm
      subst r
      refine ⟨_, ret2 rfl, ?_⟩
      have hS21845 := ((hS21832).f2).f2
      have hS21846 := (hS21845).f2
      exact ⟨s21830, l21831, hS21846, (tup2 rfl rfl)⟩

theorem N23 : (Try.f23.name == "runtime.NumGoroutine") = false := by kernel_rfl

theorem base_Ints_sim {w0 w : World} {s : PHeap} {H : List Res} {a21876 : (List Int)} {b21879 : (List Int)} {v21877 : Value} {v21880 : Value} {r : Bool} (hm : base_Ints_p a21876 b21879 = some r) (hS : St w0 s (H) w) (a21878 : SliceRep (encInt .i64) s v21877 a21876) (a21881 : SliceRep (encInt .i64) s v21880 b21879) :
    Calls Try.prog 23 #[v21877, v21880] w fun e w' => ∃ v, e = .returned v ∧ ((fun (y22663 : Bool) => ∃ (s22664 : PHeap) , PHeap.le s s22664 ∧ St w0 s22664 (H) w' ∧ v = Value.bool (y22663)) r) := by
  unfold base_Ints_p at hm
  refine calls_of_W Try.func23 rfl rfl ?_
  refine W_seq ?_
  refine W_region ?_
  refine WL_step rfl rfl (Exec.assign (v := Value.bool (false)) rfl rfl ?_)
  refine WL_nil (at_normal ?_)
  refine W_seq ?_
  refine W_seq ?_
  refine W_region ?_
  refine WL_step rfl rfl (Exec.move (v := v21877) rfl rfl ?_)
  refine WL_step rfl rfl (Exec.len_rep S49 rfl rfl a21878 ?_)
  refine WL_step rfl rfl (Exec.move (v := v21880) rfl rfl ?_)
  refine WL_step rfl rfl (Exec.len_rep S49 rfl rfl a21881 ?_)
  refine WL_step rfl rfl (Exec.neq rfl rfl rfl ?_)
  refine WL_nil (at_normal ?_)
  rcases ite_some hm with ⟨hc22665, hm⟩ | ⟨hc22665, hm⟩
  · refine W_cond_t rfl hc22665 ?_
    refine W_seq ?_
    refine W_region ?_
    refine WL_step rfl rfl (Exec.assign (v := Value.bool (false)) rfl rfl ?_)
    refine WL_nil (at_normal ?_)
    refine W_ret (at_ret ?_)
    have e22667 := Option.some.inj hm
    subst r
    refine ⟨_, ret1 rfl, ?_⟩
    exact ⟨s, (PHeap.le_refl _), hS, rfl⟩
  · refine W_cond_f rfl hc22665 ?_
    replace hc22665 := not_true hc22665
    refine W_skip (at_normal ?_)
    refine W_seq ?_
    refine W_seq ?_
    refine W_region ?_
    refine WL_step rfl rfl (Exec.move (v := v21877) rfl rfl ?_)
    refine WL_step rfl rfl (Exec.len_rep S49 rfl rfl a21878 ?_)
    refine WL_step rfl rfl (Exec.move (v := Value.int .i64 (0)) rfl rfl ?_)
    refine WL_nil (at_normal ?_)
    obtain ⟨c23157, hB23158, hr23159, hn23160, hb23161⟩ := ctl_some hm
    refine W_mid (M := fun f' w' => ∃ s', (c23157 = .next s' ∨ c23157 = .brk s') ∧ (fun (_ : Unit) => ∃ (s23163 : PHeap) , PHeap.le s s23163 ∧ St w0 s23163 (H) w' ∧ f' 0 = v21877 ∧ f' 1 = v21880 ∧ f' 12 = Value.int .i64 ((a21876.length : Int))) s') ?_ ?_
    · refine W_block (W_forC (fun k' s' f' w' => (fun (_ : Unit) => ∃ (s23162 : PHeap) , PHeap.le s s23162 ∧ St w0 s23162 (H) w' ∧ f' 0 = v21877 ∧ f' 1 = v21880 ∧ f' 12 = Value.int .i64 ((a21876.length : Int)) ∧ f' 13 = Value.int .i64 (k' : Int)) s') hB23158 ?_ ?_ ?_)
      · exact ⟨s, (PHeap.le_refl _), hS, rfl, rfl, rfl, rfl⟩
      · intro i22668 t23171 c23165 f23166 w23167 hi23172 hI23168 hm23169 hres23170
        obtain ⟨s23173, l23174, hS23175, p23176, p23177, p23178, x23179⟩ := hI23168
        refine W_seq ?_
        refine W_region ?_
        refine WL_step rfl rfl (Exec.lss rfl x23179 p23178 ?_)
        refine WL_nil (at_normal ?_)
        refine W_seq ?_
        refine W_true (congrArg Value.bool (decide_eq_true (by omega))) ?_
        refine W_skip (at_normal ?_)
        refine W_seq ?_
        refine W_block ?_
        refine W_seq ?_
        refine W_region ?_
        refine WL_step rfl rfl (Exec.move (v := Value.int .i64 ((i22668 : Int))) rfl x23179 ?_)
        refine WL_step rfl rfl (Exec.assign (v := Value.int .i64 ((i22668 : Int))) rfl rfl ?_)
        refine WL_nil (at_normal ?_)
        refine W_seq ?_
        obtain ⟨x23305, q23306, hm23169⟩ := bind_some hm23169
        obtain ⟨x23307, q23308, hm23169⟩ := bind_some hm23169
        refine W_drawn (n0 := 9) hmix (by kernel_rfl) [RP.eq (v21877), RP.eq (Value.int .i64 ((i22668 : Int))), RP.at (encInt .i64) x23305, RP.eq (Value.int .i64 (x23305)), RP.eq (v21880), RP.eq (Value.int .i64 ((i22668 : Int))), RP.at (encInt .i64) x23307, RP.eq (Value.int .i64 (x23307)), RP.eq (Value.bool (!decide (x23305 = x23307)))] hS23175 (HeadAll.cons ?_ (HeadAll.cons ?_ (HeadAll.cons ?_ (HeadAll.cons ?_ (HeadAll.cons ?_ (HeadAll.cons ?_ (HeadAll.cons ?_ (HeadAll.cons ?_ (HeadAll.cons ?_ (HeadAll.nil)))))))))) ?_
        · intro g23309 s23310 w23311 l23312 hS23313 fr23314 pre23315
          refine head_run rfl (Exec.move (v := v21877) rfl (Eq.trans (fr23314 0 rfl) p23176) ?_)
          exact head_done hS23313 rfl
        · intro g23316 s23317 w23318 l23319 hS23320 fr23321 pre23322
          refine head_run rfl (Exec.move (v := Value.int .i64 ((i22668 : Int))) rfl (fr23321 5 rfl) ?_)
          exact head_done hS23320 rfl
        · intro g23323 s23324 w23325 l23326 hS23327 fr23328 pre23329
          have p23330 : g23323 16 = (v21877) := pre23329 0 _ rfl rfl
          have p23331 : g23323 17 = (Value.int .i64 ((i22668 : Int))) := pre23329 1 _ rfl rfl
          refine head_run rfl (Exec.index_rep S49 rfl p23330 p23331 (a21878.mono (PHeap.le.trans l23174 l23326)) q23306 ?_)
          intro b23332 o23333 a23334
          exact head_done hS23327 ⟨_, _, rfl, a23334⟩
        · intro g23335 s23336 w23337 l23338 hS23339 fr23340 pre23341
          obtain ⟨b23343, o23344, e23345, a23346⟩ := (show ∃ b off, g23335 18 = .pointer (some ⟨b, off, none⟩) ∧ At s23336 b off (encInt .i64) x23305 from pre23341 0 _ rfl rfl)
          refine head_run rfl (Exec.load_at (E := (encInt .i64)) hS23339 A3 rfl e23345 rfl a23346 ?_)
          intro v23347 q23348
          exact head_done hS23339 (encInt_val.1 q23348)
        · intro g23349 s23350 w23351 l23352 hS23353 fr23354 pre23355
          refine head_run rfl (Exec.move (v := v21880) rfl (Eq.trans (fr23354 1 rfl) p23177) ?_)
          exact head_done hS23353 rfl
        · intro g23356 s23357 w23358 l23359 hS23360 fr23361 pre23362
          refine head_run rfl (Exec.move (v := Value.int .i64 ((i22668 : Int))) rfl (fr23361 5 rfl) ?_)
          exact head_done hS23360 rfl
        · intro g23363 s23364 w23365 l23366 hS23367 fr23368 pre23369
          have p23370 : g23363 20 = (v21880) := pre23369 0 _ rfl rfl
          have p23371 : g23363 21 = (Value.int .i64 ((i22668 : Int))) := pre23369 1 _ rfl rfl
          refine head_run rfl (Exec.index_rep S49 rfl p23370 p23371 (a21881.mono (PHeap.le.trans l23174 l23366)) q23308 ?_)
          intro b23372 o23373 a23374
          exact head_done hS23367 ⟨_, _, rfl, a23374⟩
        · intro g23375 s23376 w23377 l23378 hS23379 fr23380 pre23381
          obtain ⟨b23383, o23384, e23385, a23386⟩ := (show ∃ b off, g23375 22 = .pointer (some ⟨b, off, none⟩) ∧ At s23376 b off (encInt .i64) x23307 from pre23381 0 _ rfl rfl)
          refine head_run rfl (Exec.load_at (E := (encInt .i64)) hS23379 A3 rfl e23385 rfl a23386 ?_)
          intro v23387 q23388
          exact head_done hS23379 (encInt_val.1 q23388)
        · intro g23389 s23390 w23391 l23392 hS23393 fr23394 pre23395
          have p23396 : g23389 19 = (Value.int .i64 (x23305)) := pre23395 0 _ rfl rfl
          have p23397 : g23389 23 = (Value.int .i64 (x23307)) := pre23395 1 _ rfl rfl
          refine head_run rfl (Exec.neq rfl p23396 p23397 ?_)
          exact head_done hS23393 rfl
        · intro g23398 s23399 w23400 l23401 hS23402 fr23403 hR23404
          have p23405 : g23398 16 = (v21877) := hR23404 0 rfl
          have p23406 : g23398 17 = (Value.int .i64 ((i22668 : Int))) := hR23404 1 rfl
          obtain ⟨b23408, o23409, e23410, a23411⟩ := (show ∃ b off, g23398 18 = .pointer (some ⟨b, off, none⟩) ∧ At s23399 b off (encInt .i64) x23305 from hR23404 2 rfl)
          have p23412 : g23398 19 = (Value.int .i64 (x23305)) := hR23404 3 rfl
          have p23413 : g23398 20 = (v21880) := hR23404 4 rfl
          have p23414 : g23398 21 = (Value.int .i64 ((i22668 : Int))) := hR23404 5 rfl
          obtain ⟨b23416, o23417, e23418, a23419⟩ := (show ∃ b off, g23398 22 = .pointer (some ⟨b, off, none⟩) ∧ At s23399 b off (encInt .i64) x23307 from hR23404 6 rfl)
          have p23420 : g23398 23 = (Value.int .i64 (x23307)) := hR23404 7 rfl
          have p23421 : g23398 24 = (Value.bool (!decide (x23305 = x23307))) := hR23404 8 rfl
          refine WL_nil (at_normal ?_)
          rcases ite_some hm23169 with ⟨hc23422, hm23169⟩ | ⟨hc23422, hm23169⟩
          · refine W_cond_t p23421 hc23422 ?_
            refine W_seq ?_
            refine W_region ?_
            refine WL_step rfl rfl (Exec.assign (v := Value.bool (false)) rfl rfl ?_)
            refine WL_nil (at_normal ?_)
            refine W_ret (ib_ret (at_ret (at_ret (ib_ret (at_ret (at_ret ?_))))))
            have e23423 := Option.some.inj hm23169
            subst c23165
            have hq23424 := hr23159 _ (hres23170 (by intro _ h; cases h))
            have e23425 := Option.some.inj hq23424
            subst r
            refine ⟨_, ret1 rfl, ?_⟩
            exact ⟨s23399, (PHeap.le.trans l23174 l23401), hS23402, rfl⟩
          · refine W_cond_f p23421 hc23422 ?_
            replace hc23422 := not_true hc23422
            refine W_skip (ib_normal (at_normal ?_))
            refine W_region ?_
            refine WL_step rfl rfl (Exec.add rfl (Eq.trans (fr23403 13 rfl) x23179) rfl ?_)
            refine WL_step rfl rfl (Exec.move (v := Value.int .i64 (IntKind.i64.wrap ((i22668 : Int) + 1))) rfl rfl ?_)
            refine WL_nil (at_normal ?_)
            have e23426 := Option.some.inj hm23169
            subst c23165
            refine ⟨_, rfl, ?_⟩; exact ⟨s23399, (PHeap.le.trans l23174 l23401), hS23402, (Eq.trans (fr23403 0 rfl) p23176), (Eq.trans (fr23403 1 rfl) p23177), (Eq.trans (fr23403 12 rfl) p23178), (Eq.trans rfl (wrap_up hi23172 (SliceRep.le a21878)))⟩
      · intro t23427 f23428 w23429 hI23430 hres23431
        obtain ⟨s23432, l23433, hS23434, p23435, p23436, p23437, x23438⟩ := hI23430
        refine W_seq ?_
        refine W_region ?_
        refine WL_step rfl rfl (Exec.lss rfl x23438 p23437 ?_)
        refine WL_nil (at_normal ?_)
        refine W_seq ?_
        refine W_false (congrArg Value.bool (decide_eq_false (by omega))) ?_
        refine W_exit (at_exit (at_exit (ib_here (at_normal ?_))))
        refine ⟨_, .inl hres23431, ?_⟩; exact ⟨s23432, l23433, hS23434, p23435, p23436, p23437⟩
    · rintro f23439 w23440 ⟨t23441, hc23442, hM23443⟩
      have hm := hc23442.elim (hn23160 _) (hb23161 _)
      clear hc23442
      obtain ⟨s23444, l23445, hS23446, p23447, p23448, p23449⟩ := hM23443
      refine (at_normal ?_)
      refine W_seq ?_
      refine W_region ?_
      refine WL_step rfl rfl (Exec.assign (v := Value.bool (true)) rfl rfl ?_)
      refine WL_nil (at_normal ?_)
      refine W_ret ?_
      have e23451 := Option.some.inj hm
      subst r
      refine ⟨_, ret1 rfl, ?_⟩
      exact ⟨s23444, l23445, hS23446, rfl⟩

theorem ZZ30 : (Try.prog.info? 30).map (·.zero) = some (some (.int .i64 0)) := by kernel_rfl

theorem N13 : (Try.f13.name == "runtime.NumGoroutine") = false := by kernel_rfl

theorem base_Num_sim {w0 w : World} {s : PHeap} {H : List Res} {e23463 : (Option Int)}  {r : Int} (hm : base_Num_p e23463 = some r) (hS : St w0 s (H) w)  :
    Calls Try.prog 13 #[errV 30 (e23463)] w fun e w' => ∃ v, e = .returned v ∧ ((fun (y23467 : Int) => ∃ (s23468 : PHeap) , PHeap.le s s23468 ∧ St w0 s23468 (H) w' ∧ v = Value.int .i64 (y23467)) r) := by
  unfold base_Num_p at hm
  refine calls_of_W Try.func13 rfl rfl ?_
  refine W_seq ?_
  refine W_region ?_
  refine WL_step rfl rfl (Exec.assign (v := Value.int .i64 (0)) rfl rfl ?_)
  refine WL_nil (at_normal ?_)
  refine W_seq ?_
  refine W_seq ?_
  refine W_region ?_
  refine WL_step rfl rfl (Exec.move (v := errV 30 (e23463)) rfl rfl ?_)
  refine WL_step rfl rfl (Exec.err_eql_nil (T := 30) Try.underlying26 rfl rfl rfl ?_)
  refine WL_nil (at_normal ?_)
  rcases ite_some hm with ⟨hc23469, hm⟩ | ⟨hc23469, hm⟩
  · refine W_cond_t rfl hc23469 ?_
    refine W_seq ?_
    refine W_region ?_
    refine WL_step rfl rfl (Exec.assign (v := Value.int .i64 (0)) rfl rfl ?_)
    refine WL_nil (at_normal ?_)
    refine W_ret (at_ret ?_)
    have e23471 := Option.some.inj hm
    subst r
    refine ⟨_, ret1 rfl, ?_⟩
    exact ⟨s, (PHeap.le_refl _), hS, rfl⟩
  · refine W_cond_f rfl hc23469 ?_
    replace hc23469 := not_true hc23469
    refine W_skip (at_normal ?_)
    refine W_seq ?_
    refine W_seq ?_
    refine W_region ?_
    refine WL_step rfl rfl (Exec.move (v := errV 30 (e23463)) rfl rfl ?_)
    refine WL_step rfl rfl (Exec.err_assert Try.underlying30 ZZ30 rfl rfl ?_)
    refine WL_step rfl rfl (Exec.move (v := Value.tuple #[Value.int .i64 (e23463.getD 0), Value.bool (e23463.isSome)]) rfl rfl ?_)
    refine WL_step rfl rfl (Exec.extract (v := Value.int .i64 (e23463.getD 0)) rfl rfl rfl ?_)
    refine WL_step rfl rfl (Exec.extract (v := Value.bool (e23463.isSome)) rfl rfl rfl ?_)
    refine WL_step rfl rfl (Exec.assign (v := Value.int .i64 (e23463.getD 0)) rfl rfl ?_)
    refine WL_step rfl rfl (Exec.assign (v := Value.bool (e23463.isSome)) rfl rfl ?_)
    refine WL_nil (at_normal ?_)
    refine W_seq ?_
    refine W_region ?_
    refine WL_step rfl rfl (Exec.move (v := Value.bool (e23463.isSome)) rfl rfl ?_)
    refine WL_nil (at_normal ?_)
    rcases ite_some hm with ⟨hc23472, hm⟩ | ⟨hc23472, hm⟩
    · refine W_cond_t rfl hc23472 ?_
      refine W_seq ?_
      refine W_region ?_
      refine WL_step rfl rfl (Exec.move (v := Value.int .i64 (e23463.getD 0)) rfl rfl ?_)
      refine WL_step rfl rfl (Exec.assign (v := Value.int .i64 (e23463.getD 0)) rfl rfl ?_)
      refine WL_nil (at_normal ?_)
      refine W_ret (at_ret ?_)
      have e23474 := Option.some.inj hm
      subst r
      refine ⟨_, ret1 rfl, ?_⟩
      exact ⟨s, (PHeap.le_refl _), hS, rfl⟩
    · refine W_cond_f rfl hc23472 ?_
      replace hc23472 := not_true hc23472
      refine W_skip (at_normal ?_)
      refine W_seq ?_
      refine W_region ?_
      refine WL_step rfl rfl (Exec.assign (v := Value.int .i64 ((-1))) rfl rfl ?_)
      refine WL_nil (at_normal ?_)
      refine W_ret ?_
      have e23476 := Option.some.inj hm
      subst r
      refine ⟨_, ret1 rfl, ?_⟩
      exact ⟨s, (PHeap.le_refl _), hS, rfl⟩

theorem N11 : (Try.f11.name == "runtime.NumGoroutine") = false := by kernel_rfl

theorem base_Is_sim {w0 w : World} {s : PHeap} {H : List Res} {e23460 : (Option Int)} {code23461 : Int}  {r : Bool} (hm : base_Is_p e23460 code23461 = some r) (hS : St w0 s (H) w)  :
    Calls Try.prog 11 #[errV 30 (e23460), Value.int .i64 (code23461)] w fun e w' => ∃ v, e = .returned v ∧ ((fun (y23495 : Bool) => ∃ (s23496 : PHeap) , PHeap.le s s23496 ∧ St w0 s23496 (H) w' ∧ v = Value.bool (y23495)) r) := by
  unfold base_Is_p at hm
  refine calls_of_W Try.func11 rfl rfl ?_
  refine W_seq ?_
  refine W_region ?_
  refine WL_step rfl rfl (Exec.assign (v := Value.bool (false)) rfl rfl ?_)
  refine WL_nil (at_normal ?_)
  refine W_seq ?_
  refine W_mid (M := fun f' w' => ∃ (s23502 : PHeap) , PHeap.le s s23502 ∧ St w0 s23502 (H) w' ∧ f' 4 = Value.bool ((e23460.isSome && decide ((base_Num_t e23460) = code23461)))) ?_ ?_
  · refine W_region ?_
    refine WL_step rfl rfl (Exec.move (v := errV 30 (e23460)) rfl rfl ?_)
    refine WL_step rfl rfl (Exec.err_neq_nil (T := 30) Try.underlying26 rfl rfl rfl ?_)
    refine WL_step rfl rfl (Exec.move (v := Value.bool (e23460.isSome)) rfl rfl ?_)
    by_cases hc23503 : e23460.isSome = true
    · refine WL_run rfl (yield_of rfl (congrArg Value.bool hc23503)) rfl (Exec.move (v := errV 30 (e23460)) rfl rfl ?_)
      refine WL_run rfl (yield_of rfl (congrArg Value.bool hc23503)) rfl (Exec.call rfl rfl Try.func13 rfl N13 (args_cons rfl args_nil) ((base_Num_sim (base_Num_tot e23460) hS ).mono ?_))
      rintro _ w23504 ⟨_, rfl, ⟨s23505, l23506, hS23507, rfl⟩⟩
      refine ⟨_, rfl, ?_⟩
      refine WL_run rfl (yield_of rfl (congrArg Value.bool hc23503)) rfl (Exec.move (v := Value.int .i64 (code23461)) rfl rfl ?_)
      refine WL_run rfl (yield_of rfl (congrArg Value.bool hc23503)) rfl (Exec.eql rfl rfl rfl ?_)
      refine WL_step rfl rfl (Exec.pick_t (v := Value.bool (decide ((base_Num_t e23460) = code23461))) rfl (congrArg Value.bool hc23503) rfl ?_)
      refine WL_step rfl rfl (Exec.assign (v := Value.bool (decide ((base_Num_t e23460) = code23461))) rfl rfl ?_)
      refine WL_nil (at_normal ?_)
      exact ⟨s23505, l23506, hS23507, (congrArg Value.bool (and_t hc23503)).symm⟩
    · replace hc23503 := not_true hc23503
      refine WL_pass rfl (yield_of rfl (congrArg Value.bool hc23503)) rfl rfl ?_
      refine WL_pass rfl (yield_of rfl (congrArg Value.bool hc23503)) rfl rfl ?_
      refine WL_pass rfl (yield_of rfl (congrArg Value.bool hc23503)) rfl rfl ?_
      refine WL_pass rfl (yield_of rfl (congrArg Value.bool hc23503)) rfl rfl ?_
      refine WL_step rfl rfl (Exec.pick_f (v := Value.bool (false)) rfl (congrArg Value.bool hc23503) rfl ?_)
      refine WL_step rfl rfl (Exec.assign (v := Value.bool (false)) rfl rfl ?_)
      refine WL_nil (at_normal ?_)
      exact ⟨s, (PHeap.le_refl _), hS, (congrArg Value.bool (and_f hc23503)).symm⟩
  · intro f23508 w23509 hM23510
    obtain ⟨s23511, l23512, hS23513, p23514⟩ := hM23510
    refine (at_normal ?_)
    refine W_ret ?_
    have e23516 := Option.some.inj hm
    subst r
    refine ⟨_, ret1 rfl, ?_⟩
    exact ⟨s23511, l23512, hS23513, p23514⟩

theorem stn_Network_Times_nil_sim {w0 w : World} {s : PHeap} {H : List Res}   {r : (List Int) × (Option Int)} (hm : stn_Network_Times_nil_p  = some r) (hS : St w0 s (H) w)  :
    Calls Try.prog 22 #[Value.pointer none] w fun e w' => ∃ v, e = .returned v ∧ ((un2 fun (y23597 : (List Int)) (y23598 : (Option Int)) => ∃ (s23600 : PHeap) (v23599 : Value), PHeap.le s s23600 ∧ St w0 s23600 (H) w' ∧ v = Value.tuple #[v23599, errV 30 (y23598)] ∧ SliceRep (encInt .i64) s23600 v23599 y23597) r) := by
  unfold stn_Network_Times_nil_p at hm
  refine calls_of_W Try.func22 rfl rfl ?_
  refine W_seq ?_
  refine W_region ?_
  refine WL_step rfl rfl (Exec.assign (v := Value.slice none 0 0) rfl rfl ?_)
  refine WL_step rfl rfl (Exec.assign (v := errV 30 (none)) rfl rfl ?_)
  refine WL_nil (at_normal ?_)
  refine W_seq ?_
  refine W_seq ?_
  refine W_region ?_
  refine WL_step rfl rfl (Exec.move (v := Value.pointer none) rfl rfl ?_)
  refine WL_step rfl rfl (Exec.ptr_eql_nil Try.underlying24 rfl rfl rfl ?_)
  refine WL_nil (at_normal ?_)
  refine W_true rfl ?_
  refine W_seq ?_
  refine W_region ?_
  refine WL_step rfl rfl (Exec.makeInterface C30 rfl rfl ?_)
  refine WL_step rfl rfl (Exec.assign (v := Value.slice none 0 0) rfl rfl ?_)
  refine WL_step rfl rfl (Exec.assign (v := errV 30 (some 3)) rfl rfl ?_)
  refine WL_nil (at_normal ?_)
  refine W_ret (at_ret ?_)
  have e23602 := Option.some.inj hm
  subst r
  refine ⟨_, ret2 rfl, ?_⟩
  exact ⟨s, (Value.slice none 0 0), (PHeap.le_refl _), hS, (tup2 rfl rfl), (SliceRep.nil _ _)⟩

theorem stn_Network_Distance_nil_sim {w0 w : World} {s : PHeap} {H : List Res} {a23618 : Int} {b23619 : Int}  {r : Int × (Option Int)} (hm : stn_Network_Distance_nil_p a23618 b23619 = some r) (hS : St w0 s (H) w)  :
    Calls Try.prog 15 #[Value.pointer none, Value.int .i64 (a23618), Value.int .i64 (b23619)] w fun e w' => ∃ v, e = .returned v ∧ ((un2 fun (y23621 : Int) (y23622 : (Option Int)) => ∃ (s23623 : PHeap) , PHeap.le s s23623 ∧ St w0 s23623 (H) w' ∧ v = Value.tuple #[Value.int .i64 (y23621), errV 30 (y23622)]) r) := by
  unfold stn_Network_Distance_nil_p at hm
  refine calls_of_W Try.func15 rfl rfl ?_
  refine W_seq ?_
  refine W_region ?_
  refine WL_step rfl rfl (Exec.assign (v := Value.int .i64 (0)) rfl rfl ?_)
  refine WL_step rfl rfl (Exec.assign (v := errV 30 (none)) rfl rfl ?_)
  refine WL_nil (at_normal ?_)
  refine W_seq ?_
  refine W_seq ?_
  refine W_region ?_
  refine WL_step rfl rfl (Exec.move (v := Value.pointer none) rfl rfl ?_)
  refine WL_step rfl rfl (Exec.ptr_eql_nil Try.underlying24 rfl rfl rfl ?_)
  refine WL_nil (at_normal ?_)
  refine W_true rfl ?_
  refine W_seq ?_
  refine W_region ?_
  refine WL_step rfl rfl (Exec.makeInterface C30 rfl rfl ?_)
  refine WL_step rfl rfl (Exec.assign (v := Value.int .i64 (0)) rfl rfl ?_)
  refine WL_step rfl rfl (Exec.assign (v := errV 30 (some 3)) rfl rfl ?_)
  refine WL_nil (at_normal ?_)
  refine W_ret (at_ret ?_)
  have e23625 := Option.some.inj hm
  subst r
  refine ⟨_, ret2 rfl, ?_⟩
  exact ⟨s, (PHeap.le_refl _), hS, (tup2 rfl rfl)⟩

theorem stn_Network_Latest_nil_sim {w0 w : World} {s : PHeap} {H : List Res} {p23616 : Int}  {r : Int × (Option Int)} (hm : stn_Network_Latest_nil_p p23616 = some r) (hS : St w0 s (H) w)  :
    Calls Try.prog 17 #[Value.pointer none, Value.int .i64 (p23616)] w fun e w' => ∃ v, e = .returned v ∧ ((un2 fun (y23637 : Int) (y23638 : (Option Int)) => ∃ (s23639 : PHeap) , PHeap.le s s23639 ∧ St w0 s23639 (H) w' ∧ v = Value.tuple #[Value.int .i64 (y23637), errV 30 (y23638)]) r) := by
  unfold stn_Network_Latest_nil_p at hm
  refine calls_of_W Try.func17 rfl rfl ?_
  refine W_seq ?_
  refine W_region ?_
  refine WL_step rfl rfl (Exec.assign (v := Value.int .i64 (0)) rfl rfl ?_)
  refine WL_step rfl rfl (Exec.assign (v := errV 30 (none)) rfl rfl ?_)
  refine WL_nil (at_normal ?_)
  refine W_seq ?_
  refine W_region ?_
  refine WL_step rfl rfl (Exec.move (v := Value.pointer none) rfl rfl ?_)
  refine WL_step rfl rfl (Exec.move (v := Value.int .i64 (p23616)) rfl rfl ?_)
  refine WL_step rfl rfl (Exec.call rfl rfl Try.func15 rfl N15 (args_cons rfl (args_cons rfl (args_cons rfl args_nil))) ((stn_Network_Distance_nil_sim (stn_Network_Distance_nil_tot 0 p23616) hS ).mono ?_))
  rintro _ w23644 ⟨_, rfl, ⟨s23645, l23646, hS23647, rfl⟩⟩
  refine ⟨_, rfl, ?_⟩
  refine WL_step rfl rfl (Exec.move (v := Value.tuple #[Value.int .i64 ((stn_Network_Distance_nil_t 0 p23616).1), errV 30 ((stn_Network_Distance_nil_t 0 p23616).2)]) rfl rfl ?_)
  refine WL_step rfl rfl (Exec.extract (v := Value.int .i64 ((stn_Network_Distance_nil_t 0 p23616).1)) rfl rfl rfl ?_)
  refine WL_step rfl rfl (Exec.extract (v := errV 30 ((stn_Network_Distance_nil_t 0 p23616).2)) rfl rfl rfl ?_)
  refine WL_step rfl rfl (Exec.assign (v := Value.int .i64 ((stn_Network_Distance_nil_t 0 p23616).1)) rfl rfl ?_)
  refine WL_step rfl rfl (Exec.assign (v := errV 30 ((stn_Network_Distance_nil_t 0 p23616).2)) rfl rfl ?_)
  refine WL_nil (at_normal ?_)
  refine W_seq ?_
  refine W_seq ?_
  refine W_region ?_
  refine WL_step rfl rfl (Exec.move (v := errV 30 ((stn_Network_Distance_nil_t 0 p23616).2)) rfl rfl ?_)
  refine WL_step rfl rfl (Exec.err_neq_nil (T := 30) Try.underlying26 rfl rfl rfl ?_)
  refine WL_nil (at_normal ?_)
  rcases ite_some hm with ⟨hc23648, hm⟩ | ⟨hc23648, hm⟩
  · refine W_cond_t rfl hc23648 ?_
    refine W_seq ?_
    refine W_region ?_
    refine WL_step rfl rfl (Exec.move (v := errV 30 ((stn_Network_Distance_nil_t 0 p23616).2)) rfl rfl ?_)
    refine WL_step rfl rfl (Exec.assign (v := Value.int .i64 (0)) rfl rfl ?_)
    refine WL_step rfl rfl (Exec.assign (v := errV 30 ((stn_Network_Distance_nil_t 0 p23616).2)) rfl rfl ?_)
    refine WL_nil (at_normal ?_)
    refine W_ret (at_ret ?_)
    have e23650 := Option.some.inj hm
    subst r
    refine ⟨_, ret2 rfl, ?_⟩
    exact ⟨s23645, l23646, hS23647, (tup2 rfl rfl)⟩
  · refine W_cond_f rfl hc23648 ?_
    replace hc23648 := not_true hc23648
    refine W_skip (at_normal ?_)
    refine W_seq ?_
    refine W_seq ?_
    refine W_region ?_
    refine WL_step rfl rfl (Exec.move (v := Value.int .i64 ((stn_Network_Distance_nil_t 0 p23616).1)) rfl rfl ?_)
    refine WL_step rfl rfl (Exec.geq rfl rfl rfl ?_)
    refine WL_nil (at_normal ?_)
    rcases ite_some hm with ⟨hc23651, hm⟩ | ⟨hc23651, hm⟩
    · refine W_cond_t rfl hc23651 ?_
      refine W_seq ?_
      refine W_region ?_
      refine WL_step rfl rfl (Exec.makeInterface C30 rfl rfl ?_)
      refine WL_step rfl rfl (Exec.assign (v := Value.int .i64 (0)) rfl rfl ?_)
      refine WL_step rfl rfl (Exec.assign (v := errV 30 (some 3)) rfl rfl ?_)
      refine WL_nil (at_normal ?_)
      refine W_ret (at_ret ?_)
      have e23653 := Option.some.inj hm
      subst r
      refine ⟨_, ret2 rfl, ?_⟩
      exact ⟨s23645, l23646, hS23647, (tup2 rfl rfl)⟩
    · refine W_cond_f rfl hc23651 ?_
      replace hc23651 := not_true hc23651
      refine W_skip (at_normal ?_)
      refine W_seq ?_
      refine W_region ?_
      refine WL_step rfl rfl (Exec.move (v := Value.int .i64 ((stn_Network_Distance_nil_t 0 p23616).1)) rfl rfl ?_)
      refine WL_step rfl rfl (Exec.assign (v := Value.int .i64 ((stn_Network_Distance_nil_t 0 p23616).1)) rfl rfl ?_)
      refine WL_step rfl rfl (Exec.assign (v := errV 30 (none)) rfl rfl ?_)
      refine WL_nil (at_normal ?_)
      refine W_ret ?_
      have e23655 := Option.some.inj hm
      subst r
      refine ⟨_, ret2 rfl, ?_⟩
      exact ⟨s23645, l23646, hS23647, (tup2 rfl rfl)⟩

theorem stn_Network_Add_nil_sim {w0 w : World} {s : PHeap} {H : List Res} {b23687 : Bound}  {r : (Option Int)} (hm : stn_Network_Add_nil_p b23687 = some r) (hS : St w0 s (H) w)  :
    Calls Try.prog 14 #[Value.pointer none, Value.agg #[Value.int .i64 (b23687.A), Value.int .i64 (b23687.B), Value.int .i64 (b23687.Most)]] w fun e w' => ∃ v, e = .returned v ∧ ((fun (y23695 : (Option Int)) => ∃ (s23696 : PHeap) , PHeap.le s s23696 ∧ St w0 s23696 (H) w' ∧ v = errV 30 (y23695)) r) := by
  unfold stn_Network_Add_nil_p at hm
  refine calls_of_W Try.func14 rfl rfl ?_
  refine W_seq ?_
  refine W_region ?_
  refine WL_step rfl rfl (Exec.box (cs := [Value.int .i64 (b23687.A), Value.int .i64 (b23687.B), Value.int .i64 (b23687.Most)]) hS rfl rfl rfl ?_)
  intro b23700 w23701 hS23702
  refine WL_step rfl rfl (Exec.assign (v := errV 30 (none)) rfl rfl ?_)
  refine WL_nil (at_normal ?_)
  refine W_seq ?_
  refine W_seq ?_
  refine W_region ?_
  refine WL_step rfl rfl (Exec.move (v := Value.pointer none) rfl rfl ?_)
  refine WL_step rfl rfl (Exec.ptr_eql_nil Try.underlying24 rfl rfl rfl ?_)
  refine WL_nil (at_normal ?_)
  refine W_true rfl ?_
  refine W_seq ?_
  refine W_region ?_
  refine WL_step rfl rfl (Exec.makeInterface C30 rfl rfl ?_)
  refine WL_step rfl rfl (Exec.assign (v := errV 30 (some 3)) rfl rfl ?_)
  refine WL_nil (at_normal ?_)
  refine W_ret (at_ret ?_)
  have e23704 := Option.some.inj hm
  subst r
  refine ⟨_, ret1 rfl, ?_⟩
  have hS23705 := (hS23702).drop
  exact ⟨s, (PHeap.le_refl _), hS23705, rfl⟩

theorem N9 : (Try.f9.name == "runtime.NumGoroutine") = false := by kernel_rfl

theorem law54_awake_sim {w0 w : World} {s : PHeap} {H : List Res}   {r : Bool} (hm : law54_awake_p  = some r) (hS : St w0 s (H) w)  :
    Calls Try.prog 9 #[] w fun e w' => ∃ v, e = .returned v ∧ ((fun (y23759 : Bool) => ∃ (s23760 : PHeap) , PHeap.le s s23760 ∧ St w0 s23760 (H) w' ∧ v = Value.bool (y23759)) r) := by
  unfold law54_awake_p at hm
  refine calls_of_W Try.func9 rfl rfl ?_
  refine W_seq ?_
  refine W_region ?_
  refine WL_step rfl rfl (Exec.assign (v := Value.bool (false)) rfl rfl ?_)
  refine WL_nil (at_normal ?_)
  refine W_seq ?_
  refine W_region ?_
  refine WL_step rfl rfl (Exec.build rfl (parts_cons (c := [Value.int .i64 (1)]) (cells_of rfl rfl) (parts_cons (c := [Value.int .i64 (0)]) (cells_of rfl rfl) (parts_cons (c := [Value.int .i64 ((-2))]) (cells_of rfl rfl) parts_nil))) (v := Value.agg #[Value.int .i64 (1), Value.int .i64 (0), Value.int .i64 ((-2))]) (fun _ => by kernel_rfl) ?_)
  refine WL_step rfl rfl (Exec.build rfl (parts_cons (c := [Value.int .i64 (1)]) (cells_of rfl rfl) (parts_cons (c := [Value.int .i64 (2)]) (cells_of rfl rfl) (parts_cons (c := [Value.int .i64 (3)]) (cells_of rfl rfl) parts_nil))) (v := Value.agg #[Value.int .i64 (1), Value.int .i64 (2), Value.int .i64 (3)]) (fun _ => by kernel_rfl) ?_)
  refine WL_step rfl rfl (Exec.build rfl (parts_cons (c := [Value.int .i64 (2)]) (cells_of rfl rfl) (parts_cons (c := [Value.int .i64 (1)]) (cells_of rfl rfl) (parts_cons (c := [Value.int .i64 ((-3))]) (cells_of rfl rfl) parts_nil))) (v := Value.agg #[Value.int .i64 (2), Value.int .i64 (1), Value.int .i64 ((-3))]) (fun _ => by kernel_rfl) ?_)
  refine WL_step rfl rfl (Exec.buildSlice (Te := 32) (cs := [Value.int .i64 (1), Value.int .i64 (0), Value.int .i64 ((-2)), Value.int .i64 (1), Value.int .i64 (2), Value.int .i64 (3), Value.int .i64 (2), Value.int .i64 (1), Value.int .i64 ((-3))]) hS rfl (parts_cons (c := [Value.int .i64 (1), Value.int .i64 (0), Value.int .i64 ((-2))]) (cells_of rfl rfl) (parts_cons (c := [Value.int .i64 (1), Value.int .i64 (2), Value.int .i64 (3)]) (cells_of rfl rfl) (parts_cons (c := [Value.int .i64 (2), Value.int .i64 (1), Value.int .i64 ((-3))]) (cells_of rfl rfl) parts_nil))) (fun _ => by kernel_rfl) ?_)
  intro b23787 w23788 hS23789
  have hS23790 := St.boxArr (E := encBound) (xs := [(⟨1, 0, (-2)⟩ : Bound), (⟨1, 2, 3⟩ : Bound), (⟨2, 1, (-3)⟩ : Bound)]) hS23789 ⟨[Value.int .i64 (1), Value.int .i64 (0), Value.int .i64 ((-2))], [Value.int .i64 (1), Value.int .i64 (2), Value.int .i64 (3), Value.int .i64 (2), Value.int .i64 (1), Value.int .i64 ((-3))], rfl, ⟨[Value.int .i64 (1)], [Value.int .i64 (0), Value.int .i64 ((-2))], rfl, rfl, ⟨[Value.int .i64 (0)], [Value.int .i64 ((-2))], rfl, rfl, rfl⟩⟩, ⟨[Value.int .i64 (1), Value.int .i64 (2), Value.int .i64 (3)], [Value.int .i64 (2), Value.int .i64 (1), Value.int .i64 ((-3))], rfl, ⟨[Value.int .i64 (1)], [Value.int .i64 (2), Value.int .i64 (3)], rfl, rfl, ⟨[Value.int .i64 (2)], [Value.int .i64 (3)], rfl, rfl, rfl⟩⟩, ⟨[Value.int .i64 (2), Value.int .i64 (1), Value.int .i64 ((-3))], [], rfl, ⟨[Value.int .i64 (2)], [Value.int .i64 (1), Value.int .i64 ((-3))], rfl, rfl, ⟨[Value.int .i64 (1)], [Value.int .i64 ((-3))], rfl, rfl, rfl⟩⟩, rfl⟩⟩⟩ (by simp [maxLen])
  obtain ⟨s23791, l23792, hS23793, r23794⟩ := hS23790.freezeArr
  obtain ⟨t23795, q23796, hm⟩ := bind_some hm
  obtain ⟨pd23797, y23798⟩ := t23795
  replace hm := un2_eq hm
  refine WL_step rfl rfl (Exec.call rfl rfl Try.func19 rfl N19 (args_cons rfl (args_cons rfl args_nil)) ((law54_made_sim q23796 hS23793 r23794).mono ?_))
  rintro _ w23799 ⟨_, rfl, hp23800⟩
  refine ⟨_, rfl, ?_⟩
  rcases hp23800 with ⟨d23801, rfl, s23802, v23805, v23806, v23807, l23803, hS23804, rfl⟩ | ⟨rfl, s23809, l23810, hS23811, rfl⟩
  · replace hm := optC_some hm
    refine WL_step rfl rfl (Exec.move (v := Value.tuple #[Value.pointer (some ⟨v23805, 0, none⟩), Value.bool (y23798)]) rfl rfl ?_)
    refine WL_step rfl rfl (Exec.extract (v := Value.pointer (some ⟨v23805, 0, none⟩)) rfl rfl rfl ?_)
    refine WL_step rfl rfl (Exec.extract (v := Value.bool (y23798)) rfl rfl rfl ?_)
    refine WL_step rfl rfl (Exec.assign (v := Value.pointer (some ⟨v23805, 0, none⟩)) rfl rfl ?_)
    refine WL_step rfl rfl (Exec.assign (v := Value.bool (y23798)) rfl rfl ?_)
    refine WL_nil (at_normal ?_)
    refine W_seq ?_
    refine W_seq ?_
    refine W_region ?_
    refine WL_step rfl rfl (Exec.move (v := Value.bool (y23798)) rfl rfl ?_)
    refine WL_step rfl rfl (Exec.not rfl rfl ?_)
    refine WL_nil (at_normal ?_)
    rcases ite_some hm with ⟨hc23813, hm⟩ | ⟨hc23813, hm⟩
    · refine W_cond_t rfl hc23813 ?_
      refine W_seq ?_
      refine W_region ?_
      refine WL_step rfl rfl (Exec.assign (v := Value.bool (false)) rfl rfl ?_)
      refine WL_nil (at_normal ?_)
      refine W_ret (at_ret ?_)
      have e23815 := Option.some.inj hm
      subst r
      refine ⟨_, ret1 rfl, ?_⟩
      have hS23816 := (hS23804).drop
      have hS23817 := ((hS23816).drop).drop
      exact ⟨s23802, (PHeap.le.trans l23792 l23803), hS23817, rfl⟩
    · refine W_cond_f rfl hc23813 ?_
      replace hc23813 := not_true hc23813
      refine W_skip (at_normal ?_)
      refine W_seq ?_
      refine W_region ?_
      refine WL_step rfl rfl (Exec.move (v := Value.pointer (some ⟨v23805, 0, none⟩)) rfl rfl ?_)
      obtain ⟨t23830, q23831, hm⟩ := bind_some hm
      obtain ⟨y23832, y23833⟩ := t23830
      replace hm := un2_eq hm
      have hS23834 := ((hS23804).f2).f2
      have hS23835 := (hS23834).f2
      refine WL_step rfl rfl (Exec.call rfl rfl Try.func22 rfl N22 (args_cons rfl args_nil) ((stn_Network_Times_sim q23831 hS23835 ).mono ?_))
      rintro _ w23836 ⟨_, rfl, ⟨s23837, v23840, l23838, hS23839, rfl, r23841⟩⟩
      refine ⟨_, rfl, ?_⟩
      refine WL_step rfl rfl (Exec.move (v := Value.tuple #[v23840, errV 30 (y23833)]) rfl rfl ?_)
      refine WL_step rfl rfl (Exec.extract (v := v23840) rfl rfl rfl ?_)
      refine WL_step rfl rfl (Exec.extract (v := errV 30 (y23833)) rfl rfl rfl ?_)
      refine WL_step rfl rfl (Exec.assign (v := v23840) rfl rfl ?_)
      refine WL_step rfl rfl (Exec.assign (v := errV 30 (y23833)) rfl rfl ?_)
      refine WL_nil (at_normal ?_)
      refine W_seq ?_
      refine W_region ?_
      refine WL_step rfl rfl (Exec.move (v := Value.pointer (some ⟨v23805, 0, none⟩)) rfl rfl ?_)
      obtain ⟨t23852, q23853, hm⟩ := bind_some hm
      obtain ⟨y23854, y23855⟩ := t23852
      replace hm := un2_eq hm
      have hS23856 := ((hS23839).f2).f2
      have hS23857 := (hS23856).f2
      refine WL_step rfl rfl (Exec.call rfl rfl Try.func17 rfl N17 (args_cons rfl (args_cons rfl args_nil)) ((stn_Network_Latest_sim q23853 hS23857 ).mono ?_))
      rintro _ w23858 ⟨_, rfl, ⟨s23859, l23860, hS23861, rfl⟩⟩
      refine ⟨_, rfl, ?_⟩
      refine WL_step rfl rfl (Exec.move (v := Value.tuple #[Value.int .i64 (y23854), errV 30 (y23855)]) rfl rfl ?_)
      refine WL_step rfl rfl (Exec.extract (v := Value.int .i64 (y23854)) rfl rfl rfl ?_)
      refine WL_step rfl rfl (Exec.extract (v := errV 30 (y23855)) rfl rfl rfl ?_)
      refine WL_step rfl rfl (Exec.assign (v := Value.int .i64 (y23854)) rfl rfl ?_)
      refine WL_step rfl rfl (Exec.assign (v := errV 30 (y23855)) rfl rfl ?_)
      refine WL_nil (at_normal ?_)
      refine W_seq ?_
      obtain ⟨z23898, ht23899, hm⟩ := bind_some hm
      refine W_mid (M := fun f' w' => (fun (z23898 : Bool) => ∃ (s23900 : PHeap) , PHeap.le s23859 s23900 ∧ St w0 s23900 (H) w' ∧ f' 0 = Value.bool (z23898)) z23898) ?_ ?_
      · refine W_region ?_
        refine WL_step rfl rfl (Exec.move (v := errV 30 (y23833)) rfl rfl ?_)
        refine WL_step rfl rfl (Exec.err_eql_nil (T := 30) Try.underlying26 rfl rfl rfl ?_)
        refine WL_step rfl rfl (Exec.move (v := Value.bool (y23833.isNone)) rfl rfl ?_)
        rcases ite_some ht23899 with ⟨hc23901, ht23899⟩ | ⟨hc23901, ht23899⟩
        · refine WL_run rfl (yield_of rfl (congrArg Value.bool hc23901)) rfl (Exec.move (v := v23840) rfl rfl ?_)
          refine WL_run rfl (yield_of rfl (congrArg Value.bool hc23901)) rfl (Exec.buildSlice (Te := 3) (cs := [Value.int .i64 (0), Value.int .i64 (2), Value.int .i64 (5)]) hS23861 rfl (parts_cons (c := [Value.int .i64 (0)]) (cells_of rfl rfl) (parts_cons (c := [Value.int .i64 (2)]) (cells_of rfl rfl) (parts_cons (c := [Value.int .i64 (5)]) (cells_of rfl rfl) parts_nil))) (fun _ => by kernel_rfl) ?_)
          intro b23902 w23903 hS23904
          have hS23905 := St.boxArr (E := (encInt .i64)) (xs := [0, 2, 5]) hS23904 ⟨[Value.int .i64 (0)], [Value.int .i64 (2), Value.int .i64 (5)], rfl, rfl, ⟨[Value.int .i64 (2)], [Value.int .i64 (5)], rfl, rfl, ⟨[Value.int .i64 (5)], [], rfl, rfl, rfl⟩⟩⟩ (by simp [maxLen])
          obtain ⟨s23906, l23907, hS23908, r23909⟩ := hS23905.freezeArr
          obtain ⟨y23912, q23911, ht23899⟩ := bind_some ht23899
          refine WL_run rfl (yield_of rfl (congrArg Value.bool hc23901)) rfl (Exec.call rfl rfl Try.func23 rfl N23 (args_cons rfl (args_cons rfl args_nil)) ((base_Ints_sim q23911 hS23908 (r23841.mono (PHeap.le.trans l23860 l23907)) r23909).mono ?_))
          rintro _ w23913 ⟨_, rfl, ⟨s23914, l23915, hS23916, rfl⟩⟩
          refine ⟨_, rfl, ?_⟩
          refine WL_step rfl rfl (Exec.pick_t (v := Value.bool (y23912)) rfl (congrArg Value.bool hc23901) rfl ?_)
          refine WL_step rfl rfl (Exec.move (v := Value.bool (y23912)) rfl rfl ?_)
          rcases ite_some ht23899 with ⟨hc23917, ht23899⟩ | ⟨hc23917, ht23899⟩
          · refine WL_run rfl (yield_of rfl (congrArg Value.bool hc23917)) rfl (Exec.move (v := errV 30 (y23855)) rfl rfl ?_)
            refine WL_run rfl (yield_of rfl (congrArg Value.bool hc23917)) rfl (Exec.call rfl rfl Try.func11 rfl N11 (args_cons rfl (args_cons rfl args_nil)) ((base_Is_sim (base_Is_tot y23855 3) hS23916 ).mono ?_))
            rintro _ w23918 ⟨_, rfl, ⟨s23919, l23920, hS23921, rfl⟩⟩
            refine ⟨_, rfl, ?_⟩
            refine WL_step rfl rfl (Exec.pick_t (v := Value.bool ((base_Is_t y23855 3))) rfl (congrArg Value.bool hc23917) rfl ?_)
            refine WL_step rfl rfl (Exec.move (v := Value.bool ((base_Is_t y23855 3))) rfl rfl ?_)
            rcases ite_some ht23899 with ⟨hc23922, ht23899⟩ | ⟨hc23922, ht23899⟩
            · refine WL_run rfl (yield_of rfl (congrArg Value.bool hc23922)) rfl (Exec.move (v := Value.pointer (some ⟨v23805, 0, none⟩)) rfl rfl ?_)
              refine WL_run rfl (yield_of rfl (congrArg Value.bool hc23922)) rfl (Exec.build rfl (parts_cons (c := [Value.int .i64 (0)]) (cells_of rfl rfl) (parts_cons (c := [Value.int .i64 (2)]) (cells_of rfl rfl) (parts_cons (c := [Value.int .i64 (4)]) (cells_of rfl rfl) parts_nil))) (v := Value.agg #[Value.int .i64 (0), Value.int .i64 (2), Value.int .i64 (4)]) (fun _ => by kernel_rfl) ?_)
              obtain ⟨t23923, q23924, ht23899⟩ := bind_some ht23899
              obtain ⟨y23925, l23926⟩ := t23923
              replace ht23899 := un2_eq ht23899
              have hS23927 := ((hS23921).f2).f2
              have hS23928 := (hS23927).f2
              refine WL_run rfl (yield_of rfl (congrArg Value.bool hc23922)) rfl (Exec.call rfl rfl Try.func14 rfl N14 (args_cons rfl (args_cons rfl args_nil)) ((stn_Network_Add_sim q23924 hS23928 ).mono ?_))
              rintro _ w23929 ⟨_, rfl, ⟨s23930, l23931, hS23932, rfl⟩⟩
              refine ⟨_, rfl, ?_⟩
              refine WL_run rfl (yield_of rfl (congrArg Value.bool hc23922)) rfl (Exec.call rfl rfl Try.func11 rfl N11 (args_cons rfl (args_cons rfl args_nil)) ((base_Is_sim (base_Is_tot y23925 21) hS23932 ).mono ?_))
              rintro _ w23933 ⟨_, rfl, ⟨s23934, l23935, hS23936, rfl⟩⟩
              refine ⟨_, rfl, ?_⟩
              refine WL_step rfl rfl (Exec.pick_t (v := Value.bool ((base_Is_t y23925 21))) rfl (congrArg Value.bool hc23922) rfl ?_)
              refine WL_step rfl rfl (Exec.assign (v := Value.bool ((base_Is_t y23925 21))) rfl rfl ?_)
              refine WL_nil (at_normal ?_)
              have e23937 := Option.some.inj ht23899
              subst z23898
              have hS23938 := (hS23936).drop
              have hS23939 := ((hS23938).drop).drop
              exact ⟨s23934, (PHeap.le.trans (PHeap.le.trans (PHeap.le.trans (PHeap.le.trans l23907 l23915) l23920) l23931) l23935), hS23939, rfl⟩
            · replace hc23922 := not_true hc23922
              refine WL_pass rfl (yield_of rfl (congrArg Value.bool hc23922)) rfl rfl ?_
              refine WL_pass rfl (yield_of rfl (congrArg Value.bool hc23922)) rfl rfl ?_
              refine WL_pass rfl (yield_of rfl (congrArg Value.bool hc23922)) rfl rfl ?_
              refine WL_pass rfl (yield_of rfl (congrArg Value.bool hc23922)) rfl rfl ?_
              refine WL_step rfl rfl (Exec.pick_f (v := Value.bool (false)) rfl (congrArg Value.bool hc23922) rfl ?_)
              refine WL_step rfl rfl (Exec.assign (v := Value.bool (false)) rfl rfl ?_)
              refine WL_nil (at_normal ?_)
              have e23940 := Option.some.inj ht23899
              subst z23898
              have hS23941 := (hS23921).drop
              have hS23942 := ((hS23941).drop).drop
              exact ⟨s23919, (PHeap.le.trans (PHeap.le.trans l23907 l23915) l23920), hS23942, rfl⟩
          · replace hc23917 := not_true hc23917
            refine WL_pass rfl (yield_of rfl (congrArg Value.bool hc23917)) rfl rfl ?_
            refine WL_pass rfl (yield_of rfl (congrArg Value.bool hc23917)) rfl rfl ?_
            refine WL_step rfl rfl (Exec.pick_f (v := Value.bool (false)) rfl (congrArg Value.bool hc23917) rfl ?_)
            refine WL_step rfl rfl (Exec.move (v := Value.bool (false)) rfl rfl ?_)
            refine WL_pass rfl (yield_of rfl rfl) rfl rfl ?_
            refine WL_pass rfl (yield_of rfl rfl) rfl rfl ?_
            refine WL_pass rfl (yield_of rfl rfl) rfl rfl ?_
            refine WL_pass rfl (yield_of rfl rfl) rfl rfl ?_
            refine WL_step rfl rfl (Exec.pick_f (v := Value.bool (false)) rfl rfl rfl ?_)
            refine WL_step rfl rfl (Exec.assign (v := Value.bool (false)) rfl rfl ?_)
            refine WL_nil (at_normal ?_)
            have e23943 := Option.some.inj ht23899
            subst z23898
            have hS23944 := (hS23916).drop
            have hS23945 := ((hS23944).drop).drop
            exact ⟨s23914, (PHeap.le.trans l23907 l23915), hS23945, rfl⟩
        · replace hc23901 := not_true hc23901
          refine WL_pass rfl (yield_of rfl (congrArg Value.bool hc23901)) rfl rfl ?_
          refine WL_pass rfl (yield_of rfl (congrArg Value.bool hc23901)) rfl rfl ?_
          refine WL_pass rfl (yield_of rfl (congrArg Value.bool hc23901)) rfl rfl ?_
          refine WL_step rfl rfl (Exec.pick_f (v := Value.bool (false)) rfl (congrArg Value.bool hc23901) rfl ?_)
          refine WL_step rfl rfl (Exec.move (v := Value.bool (false)) rfl rfl ?_)
          refine WL_pass rfl (yield_of rfl rfl) rfl rfl ?_
          refine WL_pass rfl (yield_of rfl rfl) rfl rfl ?_
          refine WL_step rfl rfl (Exec.pick_f (v := Value.bool (false)) rfl rfl rfl ?_)
          refine WL_step rfl rfl (Exec.move (v := Value.bool (false)) rfl rfl ?_)
          refine WL_pass rfl (yield_of rfl rfl) rfl rfl ?_
          refine WL_pass rfl (yield_of rfl rfl) rfl rfl ?_
          refine WL_pass rfl (yield_of rfl rfl) rfl rfl ?_
          refine WL_pass rfl (yield_of rfl rfl) rfl rfl ?_
          refine WL_step rfl rfl (Exec.pick_f (v := Value.bool (false)) rfl rfl rfl ?_)
          refine WL_step rfl rfl (Exec.assign (v := Value.bool (false)) rfl rfl ?_)
          refine WL_nil (at_normal ?_)
          have e23946 := Option.some.inj ht23899
          subst z23898
          have hS23947 := (hS23861).drop
          have hS23948 := ((hS23947).drop).drop
          exact ⟨s23859, (PHeap.le_refl _), hS23948, rfl⟩
      · intro f23949 w23950 hM23951
        obtain ⟨s23952, l23953, hS23954, p23955⟩ := hM23951
        refine (at_normal ?_)
        refine W_ret ?_
        have e23957 := Option.some.inj hm
        subst r
        refine ⟨_, ret1 rfl, ?_⟩
        exact ⟨s23952, (PHeap.le.trans (PHeap.le.trans (PHeap.le.trans (PHeap.le.trans l23792 l23803) l23838) l23860) l23953), hS23954, p23955⟩
  · replace hm := optC_none hm
    refine WL_step rfl rfl (Exec.move (v := Value.tuple #[Value.pointer none, Value.bool (y23798)]) rfl rfl ?_)
    refine WL_step rfl rfl (Exec.extract (v := Value.pointer none) rfl rfl rfl ?_)
    refine WL_step rfl rfl (Exec.extract (v := Value.bool (y23798)) rfl rfl rfl ?_)
    refine WL_step rfl rfl (Exec.assign (v := Value.pointer none) rfl rfl ?_)
    refine WL_step rfl rfl (Exec.assign (v := Value.bool (y23798)) rfl rfl ?_)
    refine WL_nil (at_normal ?_)
    refine W_seq ?_
    refine W_seq ?_
    refine W_region ?_
    refine WL_step rfl rfl (Exec.move (v := Value.bool (y23798)) rfl rfl ?_)
    refine WL_step rfl rfl (Exec.not rfl rfl ?_)
    refine WL_nil (at_normal ?_)
    rcases ite_some hm with ⟨hc23958, hm⟩ | ⟨hc23958, hm⟩
    · refine W_cond_t rfl hc23958 ?_
      refine W_seq ?_
      refine W_region ?_
      refine WL_step rfl rfl (Exec.assign (v := Value.bool (false)) rfl rfl ?_)
      refine WL_nil (at_normal ?_)
      refine W_ret (at_ret ?_)
      have e23960 := Option.some.inj hm
      subst r
      refine ⟨_, ret1 rfl, ?_⟩
      exact ⟨s23809, (PHeap.le.trans l23792 l23810), hS23811, rfl⟩
    · refine W_cond_f rfl hc23958 ?_
      replace hc23958 := not_true hc23958
      refine W_skip (at_normal ?_)
      refine W_seq ?_
      refine W_region ?_
      refine WL_step rfl rfl (Exec.move (v := Value.pointer none) rfl rfl ?_)
      refine WL_step rfl rfl (Exec.call rfl rfl Try.func22 rfl N22 (args_cons rfl args_nil) ((stn_Network_Times_nil_sim stn_Network_Times_nil_tot hS23811 ).mono ?_))
      rintro _ w23967 ⟨_, rfl, ⟨s23968, v23971, l23969, hS23970, rfl, r23972⟩⟩
      refine ⟨_, rfl, ?_⟩
      refine WL_step rfl rfl (Exec.move (v := Value.tuple #[v23971, errV 30 ((stn_Network_Times_nil_t).2)]) rfl rfl ?_)
      refine WL_step rfl rfl (Exec.extract (v := v23971) rfl rfl rfl ?_)
      refine WL_step rfl rfl (Exec.extract (v := errV 30 ((stn_Network_Times_nil_t).2)) rfl rfl rfl ?_)
      refine WL_step rfl rfl (Exec.assign (v := v23971) rfl rfl ?_)
      refine WL_step rfl rfl (Exec.assign (v := errV 30 ((stn_Network_Times_nil_t).2)) rfl rfl ?_)
      refine WL_nil (at_normal ?_)
      refine W_seq ?_
      refine W_region ?_
      refine WL_step rfl rfl (Exec.move (v := Value.pointer none) rfl rfl ?_)
      refine WL_step rfl rfl (Exec.call rfl rfl Try.func17 rfl N17 (args_cons rfl (args_cons rfl args_nil)) ((stn_Network_Latest_nil_sim (stn_Network_Latest_nil_tot 1) hS23970 ).mono ?_))
      rintro _ w23977 ⟨_, rfl, ⟨s23978, l23979, hS23980, rfl⟩⟩
      refine ⟨_, rfl, ?_⟩
      refine WL_step rfl rfl (Exec.move (v := Value.tuple #[Value.int .i64 ((stn_Network_Latest_nil_t 1).1), errV 30 ((stn_Network_Latest_nil_t 1).2)]) rfl rfl ?_)
      refine WL_step rfl rfl (Exec.extract (v := Value.int .i64 ((stn_Network_Latest_nil_t 1).1)) rfl rfl rfl ?_)
      refine WL_step rfl rfl (Exec.extract (v := errV 30 ((stn_Network_Latest_nil_t 1).2)) rfl rfl rfl ?_)
      refine WL_step rfl rfl (Exec.assign (v := Value.int .i64 ((stn_Network_Latest_nil_t 1).1)) rfl rfl ?_)
      refine WL_step rfl rfl (Exec.assign (v := errV 30 ((stn_Network_Latest_nil_t 1).2)) rfl rfl ?_)
      refine WL_nil (at_normal ?_)
      refine W_seq ?_
      obtain ⟨z24011, ht24012, hm⟩ := bind_some hm
      refine W_mid (M := fun f' w' => (fun (z24011 : Bool) => ∃ (s24013 : PHeap) , PHeap.le s23978 s24013 ∧ St w0 s24013 (H) w' ∧ f' 0 = Value.bool (z24011)) z24011) ?_ ?_
      · refine W_region ?_
        refine WL_step rfl rfl (Exec.move (v := errV 30 ((stn_Network_Times_nil_t).2)) rfl rfl ?_)
        refine WL_step rfl rfl (Exec.err_eql_nil (T := 30) Try.underlying26 rfl rfl rfl ?_)
        refine WL_step rfl rfl (Exec.move (v := Value.bool (((stn_Network_Times_nil_t).2).isNone)) rfl rfl ?_)
        rcases ite_some ht24012 with ⟨hc24014, ht24012⟩ | ⟨hc24014, ht24012⟩
        · refine WL_run rfl (yield_of rfl (congrArg Value.bool hc24014)) rfl (Exec.move (v := v23971) rfl rfl ?_)
          refine WL_run rfl (yield_of rfl (congrArg Value.bool hc24014)) rfl (Exec.buildSlice (Te := 3) (cs := [Value.int .i64 (0), Value.int .i64 (2), Value.int .i64 (5)]) hS23980 rfl (parts_cons (c := [Value.int .i64 (0)]) (cells_of rfl rfl) (parts_cons (c := [Value.int .i64 (2)]) (cells_of rfl rfl) (parts_cons (c := [Value.int .i64 (5)]) (cells_of rfl rfl) parts_nil))) (fun _ => by kernel_rfl) ?_)
          intro b24015 w24016 hS24017
          have hS24018 := St.boxArr (E := (encInt .i64)) (xs := [0, 2, 5]) hS24017 ⟨[Value.int .i64 (0)], [Value.int .i64 (2), Value.int .i64 (5)], rfl, rfl, ⟨[Value.int .i64 (2)], [Value.int .i64 (5)], rfl, rfl, ⟨[Value.int .i64 (5)], [], rfl, rfl, rfl⟩⟩⟩ (by simp [maxLen])
          obtain ⟨s24019, l24020, hS24021, r24022⟩ := hS24018.freezeArr
          obtain ⟨y24025, q24024, ht24012⟩ := bind_some ht24012
          refine WL_run rfl (yield_of rfl (congrArg Value.bool hc24014)) rfl (Exec.call rfl rfl Try.func23 rfl N23 (args_cons rfl (args_cons rfl args_nil)) ((base_Ints_sim q24024 hS24021 (r23972.mono (PHeap.le.trans l23979 l24020)) r24022).mono ?_))
          rintro _ w24026 ⟨_, rfl, ⟨s24027, l24028, hS24029, rfl⟩⟩
          refine ⟨_, rfl, ?_⟩
          refine WL_step rfl rfl (Exec.pick_t (v := Value.bool (y24025)) rfl (congrArg Value.bool hc24014) rfl ?_)
          refine WL_step rfl rfl (Exec.move (v := Value.bool (y24025)) rfl rfl ?_)
          rcases ite_some ht24012 with ⟨hc24030, ht24012⟩ | ⟨hc24030, ht24012⟩
          · refine WL_run rfl (yield_of rfl (congrArg Value.bool hc24030)) rfl (Exec.move (v := errV 30 ((stn_Network_Latest_nil_t 1).2)) rfl rfl ?_)
            refine WL_run rfl (yield_of rfl (congrArg Value.bool hc24030)) rfl (Exec.call rfl rfl Try.func11 rfl N11 (args_cons rfl (args_cons rfl args_nil)) ((base_Is_sim (base_Is_tot ((stn_Network_Latest_nil_t 1).2) 3) hS24029 ).mono ?_))
            rintro _ w24031 ⟨_, rfl, ⟨s24032, l24033, hS24034, rfl⟩⟩
            refine ⟨_, rfl, ?_⟩
            refine WL_step rfl rfl (Exec.pick_t (v := Value.bool ((base_Is_t ((stn_Network_Latest_nil_t 1).2) 3))) rfl (congrArg Value.bool hc24030) rfl ?_)
            refine WL_step rfl rfl (Exec.move (v := Value.bool ((base_Is_t ((stn_Network_Latest_nil_t 1).2) 3))) rfl rfl ?_)
            rcases ite_some ht24012 with ⟨hc24035, ht24012⟩ | ⟨hc24035, ht24012⟩
            · refine WL_run rfl (yield_of rfl (congrArg Value.bool hc24035)) rfl (Exec.move (v := Value.pointer none) rfl rfl ?_)
              refine WL_run rfl (yield_of rfl (congrArg Value.bool hc24035)) rfl (Exec.build rfl (parts_cons (c := [Value.int .i64 (0)]) (cells_of rfl rfl) (parts_cons (c := [Value.int .i64 (2)]) (cells_of rfl rfl) (parts_cons (c := [Value.int .i64 (4)]) (cells_of rfl rfl) parts_nil))) (v := Value.agg #[Value.int .i64 (0), Value.int .i64 (2), Value.int .i64 (4)]) (fun _ => by kernel_rfl) ?_)
              refine WL_run rfl (yield_of rfl (congrArg Value.bool hc24035)) rfl (Exec.call rfl rfl Try.func14 rfl N14 (args_cons rfl (args_cons rfl args_nil)) ((stn_Network_Add_nil_sim (stn_Network_Add_nil_tot (⟨0, 2, 4⟩ : Bound)) hS24034 ).mono ?_))
              rintro _ w24036 ⟨_, rfl, ⟨s24037, l24038, hS24039, rfl⟩⟩
              refine ⟨_, rfl, ?_⟩
              refine WL_run rfl (yield_of rfl (congrArg Value.bool hc24035)) rfl (Exec.call rfl rfl Try.func11 rfl N11 (args_cons rfl (args_cons rfl args_nil)) ((base_Is_sim (base_Is_tot (stn_Network_Add_nil_t (⟨0, 2, 4⟩ : Bound)) 21) hS24039 ).mono ?_))
              rintro _ w24040 ⟨_, rfl, ⟨s24041, l24042, hS24043, rfl⟩⟩
              refine ⟨_, rfl, ?_⟩
              refine WL_step rfl rfl (Exec.pick_t (v := Value.bool ((base_Is_t (stn_Network_Add_nil_t (⟨0, 2, 4⟩ : Bound)) 21))) rfl (congrArg Value.bool hc24035) rfl ?_)
              refine WL_step rfl rfl (Exec.assign (v := Value.bool ((base_Is_t (stn_Network_Add_nil_t (⟨0, 2, 4⟩ : Bound)) 21))) rfl rfl ?_)
              refine WL_nil (at_normal ?_)
              have e24044 := Option.some.inj ht24012
              subst z24011
              exact ⟨s24041, (PHeap.le.trans (PHeap.le.trans (PHeap.le.trans (PHeap.le.trans l24020 l24028) l24033) l24038) l24042), hS24043, rfl⟩
            · replace hc24035 := not_true hc24035
              refine WL_pass rfl (yield_of rfl (congrArg Value.bool hc24035)) rfl rfl ?_
              refine WL_pass rfl (yield_of rfl (congrArg Value.bool hc24035)) rfl rfl ?_
              refine WL_pass rfl (yield_of rfl (congrArg Value.bool hc24035)) rfl rfl ?_
              refine WL_pass rfl (yield_of rfl (congrArg Value.bool hc24035)) rfl rfl ?_
              refine WL_step rfl rfl (Exec.pick_f (v := Value.bool (false)) rfl (congrArg Value.bool hc24035) rfl ?_)
              refine WL_step rfl rfl (Exec.assign (v := Value.bool (false)) rfl rfl ?_)
              refine WL_nil (at_normal ?_)
              have e24045 := Option.some.inj ht24012
              subst z24011
              exact ⟨s24032, (PHeap.le.trans (PHeap.le.trans l24020 l24028) l24033), hS24034, rfl⟩
          · replace hc24030 := not_true hc24030
            refine WL_pass rfl (yield_of rfl (congrArg Value.bool hc24030)) rfl rfl ?_
            refine WL_pass rfl (yield_of rfl (congrArg Value.bool hc24030)) rfl rfl ?_
            refine WL_step rfl rfl (Exec.pick_f (v := Value.bool (false)) rfl (congrArg Value.bool hc24030) rfl ?_)
            refine WL_step rfl rfl (Exec.move (v := Value.bool (false)) rfl rfl ?_)
            refine WL_pass rfl (yield_of rfl rfl) rfl rfl ?_
            refine WL_pass rfl (yield_of rfl rfl) rfl rfl ?_
            refine WL_pass rfl (yield_of rfl rfl) rfl rfl ?_
            refine WL_pass rfl (yield_of rfl rfl) rfl rfl ?_
            refine WL_step rfl rfl (Exec.pick_f (v := Value.bool (false)) rfl rfl rfl ?_)
            refine WL_step rfl rfl (Exec.assign (v := Value.bool (false)) rfl rfl ?_)
            refine WL_nil (at_normal ?_)
            have e24046 := Option.some.inj ht24012
            subst z24011
            exact ⟨s24027, (PHeap.le.trans l24020 l24028), hS24029, rfl⟩
        · replace hc24014 := not_true hc24014
          refine WL_pass rfl (yield_of rfl (congrArg Value.bool hc24014)) rfl rfl ?_
          refine WL_pass rfl (yield_of rfl (congrArg Value.bool hc24014)) rfl rfl ?_
          refine WL_pass rfl (yield_of rfl (congrArg Value.bool hc24014)) rfl rfl ?_
          refine WL_step rfl rfl (Exec.pick_f (v := Value.bool (false)) rfl (congrArg Value.bool hc24014) rfl ?_)
          refine WL_step rfl rfl (Exec.move (v := Value.bool (false)) rfl rfl ?_)
          refine WL_pass rfl (yield_of rfl rfl) rfl rfl ?_
          refine WL_pass rfl (yield_of rfl rfl) rfl rfl ?_
          refine WL_step rfl rfl (Exec.pick_f (v := Value.bool (false)) rfl rfl rfl ?_)
          refine WL_step rfl rfl (Exec.move (v := Value.bool (false)) rfl rfl ?_)
          refine WL_pass rfl (yield_of rfl rfl) rfl rfl ?_
          refine WL_pass rfl (yield_of rfl rfl) rfl rfl ?_
          refine WL_pass rfl (yield_of rfl rfl) rfl rfl ?_
          refine WL_pass rfl (yield_of rfl rfl) rfl rfl ?_
          refine WL_step rfl rfl (Exec.pick_f (v := Value.bool (false)) rfl rfl rfl ?_)
          refine WL_step rfl rfl (Exec.assign (v := Value.bool (false)) rfl rfl ?_)
          refine WL_nil (at_normal ?_)
          have e24047 := Option.some.inj ht24012
          subst z24011
          exact ⟨s23978, (PHeap.le_refl _), hS23980, rfl⟩
      · intro f24048 w24049 hM24050
        obtain ⟨s24051, l24052, hS24053, p24054⟩ := hM24050
        refine (at_normal ?_)
        refine W_ret ?_
        have e24056 := Option.some.inj hm
        subst r
        refine ⟨_, ret1 rfl, ?_⟩
        exact ⟨s24051, (PHeap.le.trans (PHeap.le.trans (PHeap.le.trans (PHeap.le.trans l23792 l23810) l23969) l23979) l24052), hS24053, p24054⟩

theorem N24 : (Try.f24.name == "runtime.NumGoroutine") = false := by kernel_rfl

theorem ref54_Right_sim {w0 w : World} {s : PHeap} {H : List Res} {n24180 : Int} {b24181 : Bound}  {r : Bool} (hm : ref54_Right_p n24180 b24181 = some r) (hS : St w0 s (H) w)  :
    Calls Try.prog 24 #[Value.int .i64 (n24180), Value.agg #[Value.int .i64 (b24181.A), Value.int .i64 (b24181.B), Value.int .i64 (b24181.Most)]] w fun e w' => ∃ v, e = .returned v ∧ ((fun (y24213 : Bool) => ∃ (s24214 : PHeap) , PHeap.le s s24214 ∧ St w0 s24214 (H) w' ∧ v = Value.bool (y24213)) r) := by
  unfold ref54_Right_p at hm
  refine calls_of_W Try.func24 rfl rfl ?_
  refine W_seq ?_
  refine W_region ?_
  refine WL_step rfl rfl (Exec.box (cs := [Value.int .i64 (b24181.A), Value.int .i64 (b24181.B), Value.int .i64 (b24181.Most)]) hS rfl rfl rfl ?_)
  intro b24218 w24219 hS24220
  refine WL_step rfl rfl (Exec.assign (v := Value.bool (false)) rfl rfl ?_)
  refine WL_nil (at_normal ?_)
  refine W_seq ?_
  refine W_mid (M := fun f' w' => ∃ (s24226 : PHeap) , PHeap.le s s24226 ∧ St w0 s24226 (H) w' ∧ f' 4 = Value.bool (((decide (0 ≤ b24181.A)) && ((decide (b24181.A < n24180)) && ((decide (0 ≤ b24181.B)) && ((decide (b24181.B < n24180)) && ((decide ((-1099511627776) ≤ b24181.Most)) && decide (b24181.Most ≤ 1099511627776)))))))) ?_ ?_
  · refine W_region ?_
    refine WL_step rfl rfl (Exec.field F32_0 rfl rfl rfl ?_)
    refine WL_step rfl rfl (Exec.load_box (hS24220) A3 rfl rfl rfl ?_)
    refine WL_step rfl rfl (Exec.geq rfl rfl rfl ?_)
    refine WL_step rfl rfl (Exec.move (v := Value.bool (decide (0 ≤ b24181.A))) rfl rfl ?_)
    by_cases hc24227 : (decide (0 ≤ b24181.A)) = true
    · refine WL_run rfl (yield_of rfl (congrArg Value.bool hc24227)) rfl (Exec.field F32_0 rfl rfl rfl ?_)
      refine WL_run rfl (yield_of rfl (congrArg Value.bool hc24227)) rfl (Exec.load_box (hS24220) A3 rfl rfl rfl ?_)
      refine WL_run rfl (yield_of rfl (congrArg Value.bool hc24227)) rfl (Exec.move (v := Value.int .i64 (n24180)) rfl rfl ?_)
      refine WL_run rfl (yield_of rfl (congrArg Value.bool hc24227)) rfl (Exec.lss rfl rfl rfl ?_)
      refine WL_step rfl rfl (Exec.pick_t (v := Value.bool (decide (b24181.A < n24180))) rfl (congrArg Value.bool hc24227) rfl ?_)
      refine WL_step rfl rfl (Exec.move (v := Value.bool (decide (b24181.A < n24180))) rfl rfl ?_)
      by_cases hc24228 : (decide (b24181.A < n24180)) = true
      · refine WL_run rfl (yield_of rfl (congrArg Value.bool hc24228)) rfl (Exec.field F32_1 rfl rfl rfl ?_)
        refine WL_run rfl (yield_of rfl (congrArg Value.bool hc24228)) rfl (Exec.load_box (hS24220) A3 rfl rfl rfl ?_)
        refine WL_run rfl (yield_of rfl (congrArg Value.bool hc24228)) rfl (Exec.geq rfl rfl rfl ?_)
        refine WL_step rfl rfl (Exec.pick_t (v := Value.bool (decide (0 ≤ b24181.B))) rfl (congrArg Value.bool hc24228) rfl ?_)
        refine WL_step rfl rfl (Exec.move (v := Value.bool (decide (0 ≤ b24181.B))) rfl rfl ?_)
        by_cases hc24229 : (decide (0 ≤ b24181.B)) = true
        · refine WL_run rfl (yield_of rfl (congrArg Value.bool hc24229)) rfl (Exec.field F32_1 rfl rfl rfl ?_)
          refine WL_run rfl (yield_of rfl (congrArg Value.bool hc24229)) rfl (Exec.load_box (hS24220) A3 rfl rfl rfl ?_)
          refine WL_run rfl (yield_of rfl (congrArg Value.bool hc24229)) rfl (Exec.move (v := Value.int .i64 (n24180)) rfl rfl ?_)
          refine WL_run rfl (yield_of rfl (congrArg Value.bool hc24229)) rfl (Exec.lss rfl rfl rfl ?_)
          refine WL_step rfl rfl (Exec.pick_t (v := Value.bool (decide (b24181.B < n24180))) rfl (congrArg Value.bool hc24229) rfl ?_)
          refine WL_step rfl rfl (Exec.move (v := Value.bool (decide (b24181.B < n24180))) rfl rfl ?_)
          by_cases hc24230 : (decide (b24181.B < n24180)) = true
          · refine WL_run rfl (yield_of rfl (congrArg Value.bool hc24230)) rfl (Exec.field F32_2 rfl rfl rfl ?_)
            refine WL_run rfl (yield_of rfl (congrArg Value.bool hc24230)) rfl (Exec.load_box (hS24220) A3 rfl rfl rfl ?_)
            refine WL_run rfl (yield_of rfl (congrArg Value.bool hc24230)) rfl (Exec.geq rfl rfl rfl ?_)
            refine WL_step rfl rfl (Exec.pick_t (v := Value.bool (decide ((-1099511627776) ≤ b24181.Most))) rfl (congrArg Value.bool hc24230) rfl ?_)
            refine WL_step rfl rfl (Exec.move (v := Value.bool (decide ((-1099511627776) ≤ b24181.Most))) rfl rfl ?_)
            by_cases hc24231 : (decide ((-1099511627776) ≤ b24181.Most)) = true
            · refine WL_run rfl (yield_of rfl (congrArg Value.bool hc24231)) rfl (Exec.field F32_2 rfl rfl rfl ?_)
              refine WL_run rfl (yield_of rfl (congrArg Value.bool hc24231)) rfl (Exec.load_box (hS24220) A3 rfl rfl rfl ?_)
              refine WL_run rfl (yield_of rfl (congrArg Value.bool hc24231)) rfl (Exec.leq rfl rfl rfl ?_)
              refine WL_step rfl rfl (Exec.pick_t (v := Value.bool (decide (b24181.Most ≤ 1099511627776))) rfl (congrArg Value.bool hc24231) rfl ?_)
              refine WL_step rfl rfl (Exec.assign (v := Value.bool (decide (b24181.Most ≤ 1099511627776))) rfl rfl ?_)
              refine WL_nil (at_normal ?_)
              have hS24232 := (hS24220).drop
              exact ⟨s, (PHeap.le_refl _), hS24232, (congrArg Value.bool (Eq.trans (and_t hc24227) (Eq.trans (and_t hc24228) (Eq.trans (and_t hc24229) (Eq.trans (and_t hc24230) (and_t hc24231)))))).symm⟩
            · replace hc24231 := not_true hc24231
              refine WL_pass rfl (yield_of rfl (congrArg Value.bool hc24231)) rfl rfl ?_
              refine WL_pass rfl (yield_of rfl (congrArg Value.bool hc24231)) rfl rfl ?_
              refine WL_pass rfl (yield_of rfl (congrArg Value.bool hc24231)) rfl rfl ?_
              refine WL_step rfl rfl (Exec.pick_f (v := Value.bool (false)) rfl (congrArg Value.bool hc24231) rfl ?_)
              refine WL_step rfl rfl (Exec.assign (v := Value.bool (false)) rfl rfl ?_)
              refine WL_nil (at_normal ?_)
              have hS24233 := (hS24220).drop
              exact ⟨s, (PHeap.le_refl _), hS24233, (congrArg Value.bool (Eq.trans (and_t hc24227) (Eq.trans (and_t hc24228) (Eq.trans (and_t hc24229) (Eq.trans (and_t hc24230) (and_f hc24231)))))).symm⟩
          · replace hc24230 := not_true hc24230
            refine WL_pass rfl (yield_of rfl (congrArg Value.bool hc24230)) rfl rfl ?_
            refine WL_pass rfl (yield_of rfl (congrArg Value.bool hc24230)) rfl rfl ?_
            refine WL_pass rfl (yield_of rfl (congrArg Value.bool hc24230)) rfl rfl ?_
            refine WL_step rfl rfl (Exec.pick_f (v := Value.bool (false)) rfl (congrArg Value.bool hc24230) rfl ?_)
            refine WL_step rfl rfl (Exec.move (v := Value.bool (false)) rfl rfl ?_)
            refine WL_pass rfl (yield_of rfl rfl) rfl rfl ?_
            refine WL_pass rfl (yield_of rfl rfl) rfl rfl ?_
            refine WL_pass rfl (yield_of rfl rfl) rfl rfl ?_
            refine WL_step rfl rfl (Exec.pick_f (v := Value.bool (false)) rfl rfl rfl ?_)
            refine WL_step rfl rfl (Exec.assign (v := Value.bool (false)) rfl rfl ?_)
            refine WL_nil (at_normal ?_)
            have hS24234 := (hS24220).drop
            exact ⟨s, (PHeap.le_refl _), hS24234, (congrArg Value.bool (Eq.trans (and_t hc24227) (Eq.trans (and_t hc24228) (Eq.trans (and_t hc24229) (and_f hc24230))))).symm⟩
        · replace hc24229 := not_true hc24229
          refine WL_pass rfl (yield_of rfl (congrArg Value.bool hc24229)) rfl rfl ?_
          refine WL_pass rfl (yield_of rfl (congrArg Value.bool hc24229)) rfl rfl ?_
          refine WL_pass rfl (yield_of rfl (congrArg Value.bool hc24229)) rfl rfl ?_
          refine WL_pass rfl (yield_of rfl (congrArg Value.bool hc24229)) rfl rfl ?_
          refine WL_step rfl rfl (Exec.pick_f (v := Value.bool (false)) rfl (congrArg Value.bool hc24229) rfl ?_)
          refine WL_step rfl rfl (Exec.move (v := Value.bool (false)) rfl rfl ?_)
          refine WL_pass rfl (yield_of rfl rfl) rfl rfl ?_
          refine WL_pass rfl (yield_of rfl rfl) rfl rfl ?_
          refine WL_pass rfl (yield_of rfl rfl) rfl rfl ?_
          refine WL_step rfl rfl (Exec.pick_f (v := Value.bool (false)) rfl rfl rfl ?_)
          refine WL_step rfl rfl (Exec.move (v := Value.bool (false)) rfl rfl ?_)
          refine WL_pass rfl (yield_of rfl rfl) rfl rfl ?_
          refine WL_pass rfl (yield_of rfl rfl) rfl rfl ?_
          refine WL_pass rfl (yield_of rfl rfl) rfl rfl ?_
          refine WL_step rfl rfl (Exec.pick_f (v := Value.bool (false)) rfl rfl rfl ?_)
          refine WL_step rfl rfl (Exec.assign (v := Value.bool (false)) rfl rfl ?_)
          refine WL_nil (at_normal ?_)
          have hS24235 := (hS24220).drop
          exact ⟨s, (PHeap.le_refl _), hS24235, (congrArg Value.bool (Eq.trans (and_t hc24227) (Eq.trans (and_t hc24228) (and_f hc24229)))).symm⟩
      · replace hc24228 := not_true hc24228
        refine WL_pass rfl (yield_of rfl (congrArg Value.bool hc24228)) rfl rfl ?_
        refine WL_pass rfl (yield_of rfl (congrArg Value.bool hc24228)) rfl rfl ?_
        refine WL_pass rfl (yield_of rfl (congrArg Value.bool hc24228)) rfl rfl ?_
        refine WL_step rfl rfl (Exec.pick_f (v := Value.bool (false)) rfl (congrArg Value.bool hc24228) rfl ?_)
        refine WL_step rfl rfl (Exec.move (v := Value.bool (false)) rfl rfl ?_)
        refine WL_pass rfl (yield_of rfl rfl) rfl rfl ?_
        refine WL_pass rfl (yield_of rfl rfl) rfl rfl ?_
        refine WL_pass rfl (yield_of rfl rfl) rfl rfl ?_
        refine WL_pass rfl (yield_of rfl rfl) rfl rfl ?_
        refine WL_step rfl rfl (Exec.pick_f (v := Value.bool (false)) rfl rfl rfl ?_)
        refine WL_step rfl rfl (Exec.move (v := Value.bool (false)) rfl rfl ?_)
        refine WL_pass rfl (yield_of rfl rfl) rfl rfl ?_
        refine WL_pass rfl (yield_of rfl rfl) rfl rfl ?_
        refine WL_pass rfl (yield_of rfl rfl) rfl rfl ?_
        refine WL_step rfl rfl (Exec.pick_f (v := Value.bool (false)) rfl rfl rfl ?_)
        refine WL_step rfl rfl (Exec.move (v := Value.bool (false)) rfl rfl ?_)
        refine WL_pass rfl (yield_of rfl rfl) rfl rfl ?_
        refine WL_pass rfl (yield_of rfl rfl) rfl rfl ?_
        refine WL_pass rfl (yield_of rfl rfl) rfl rfl ?_
        refine WL_step rfl rfl (Exec.pick_f (v := Value.bool (false)) rfl rfl rfl ?_)
        refine WL_step rfl rfl (Exec.assign (v := Value.bool (false)) rfl rfl ?_)
        refine WL_nil (at_normal ?_)
        have hS24236 := (hS24220).drop
        exact ⟨s, (PHeap.le_refl _), hS24236, (congrArg Value.bool (Eq.trans (and_t hc24227) (and_f hc24228))).symm⟩
    · replace hc24227 := not_true hc24227
      refine WL_pass rfl (yield_of rfl (congrArg Value.bool hc24227)) rfl rfl ?_
      refine WL_pass rfl (yield_of rfl (congrArg Value.bool hc24227)) rfl rfl ?_
      refine WL_pass rfl (yield_of rfl (congrArg Value.bool hc24227)) rfl rfl ?_
      refine WL_pass rfl (yield_of rfl (congrArg Value.bool hc24227)) rfl rfl ?_
      refine WL_step rfl rfl (Exec.pick_f (v := Value.bool (false)) rfl (congrArg Value.bool hc24227) rfl ?_)
      refine WL_step rfl rfl (Exec.move (v := Value.bool (false)) rfl rfl ?_)
      refine WL_pass rfl (yield_of rfl rfl) rfl rfl ?_
      refine WL_pass rfl (yield_of rfl rfl) rfl rfl ?_
      refine WL_pass rfl (yield_of rfl rfl) rfl rfl ?_
      refine WL_step rfl rfl (Exec.pick_f (v := Value.bool (false)) rfl rfl rfl ?_)
      refine WL_step rfl rfl (Exec.move (v := Value.bool (false)) rfl rfl ?_)
      refine WL_pass rfl (yield_of rfl rfl) rfl rfl ?_
      refine WL_pass rfl (yield_of rfl rfl) rfl rfl ?_
      refine WL_pass rfl (yield_of rfl rfl) rfl rfl ?_
      refine WL_pass rfl (yield_of rfl rfl) rfl rfl ?_
      refine WL_step rfl rfl (Exec.pick_f (v := Value.bool (false)) rfl rfl rfl ?_)
      refine WL_step rfl rfl (Exec.move (v := Value.bool (false)) rfl rfl ?_)
      refine WL_pass rfl (yield_of rfl rfl) rfl rfl ?_
      refine WL_pass rfl (yield_of rfl rfl) rfl rfl ?_
      refine WL_pass rfl (yield_of rfl rfl) rfl rfl ?_
      refine WL_step rfl rfl (Exec.pick_f (v := Value.bool (false)) rfl rfl rfl ?_)
      refine WL_step rfl rfl (Exec.move (v := Value.bool (false)) rfl rfl ?_)
      refine WL_pass rfl (yield_of rfl rfl) rfl rfl ?_
      refine WL_pass rfl (yield_of rfl rfl) rfl rfl ?_
      refine WL_pass rfl (yield_of rfl rfl) rfl rfl ?_
      refine WL_step rfl rfl (Exec.pick_f (v := Value.bool (false)) rfl rfl rfl ?_)
      refine WL_step rfl rfl (Exec.assign (v := Value.bool (false)) rfl rfl ?_)
      refine WL_nil (at_normal ?_)
      have hS24237 := (hS24220).drop
      exact ⟨s, (PHeap.le_refl _), hS24237, (congrArg Value.bool (and_f hc24227)).symm⟩
  · intro f24238 w24239 hM24240
    obtain ⟨s24241, l24242, hS24243, p24244⟩ := hM24240
    refine (at_normal ?_)
    refine W_ret ?_
    have e24246 := Option.some.inj hm
    subst r
    refine ⟨_, ret1 rfl, ?_⟩
    exact ⟨s24241, l24242, hS24243, p24244⟩

theorem N25 : (Try.f25.name == "runtime.NumGoroutine") = false := by kernel_rfl

end Go.Pw
