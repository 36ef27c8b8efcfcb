/-
  The walks (printed by my generator).
-/
import Derived.Test.YtcapbkcdeeinoaaKP
import Derived.Test.YtcapbkcdeeinoaaProg
import Derived.KernelRfl
set_option maxRecDepth 100000
set_option linter.unusedVariables false
namespace Go.Pw
open Go.Proofs
theorem C30 : Try.prog.concrete 30 = true := by kernel_rfl

theorem S49 : tySlice Try.prog 49 = some (3, 1, 8) := by kernel_rfl

theorem Z3 : tyZero Try.prog 3 = some (Value.int .i64 (0)) := by kernel_rfl

theorem A3 : tyAgg Try.prog 3 = some (false, 1) := by kernel_rfl

theorem F63_0 : tyField Try.prog 63 0 = some 0 := by kernel_rfl

theorem A61 : tyAgg Try.prog 61 = some (false, 1) := by kernel_rfl

theorem S61 : tySlice Try.prog 61 = some (49, 1, 24) := by kernel_rfl

theorem Z49 : tyZero Try.prog 49 = some (Value.slice none 0 0) := by kernel_rfl

theorem N10 : (Try.f10.name == "runtime.NumGoroutine") = false := by kernel_rfl

theorem stn_New_sim {w0 w : World} {s : PHeap} {H : List Res} {n22 : Int}  {r : (Option stn_Network) × (Option Int)} (hm : stn_New_p n22 = some r) (hS : St w0 s (H) w)  :
    Calls Try.prog 10 #[Value.int .i64 (n22)] w fun e w' => ∃ v, e = .returned v ∧ ((un2 fun (p_d931 : (Option stn_Network)) (y932 : (Option Int)) => (∃ d931 : stn_Network, p_d931 = some d931 ∧ ∃ (s936 : PHeap) (b933 : Nat) (v934 : Value) (hs935 : List Value), PHeap.le s s936 ∧ St w0 s936 (Res.box b933 63 [v934] :: Res.arr encRaw 49 v934 hs935 :: Res.rows (encInt .i64) 3 hs935 d931.d :: H) w' ∧ v = Value.tuple #[Value.pointer (some ⟨b933, 0, none⟩), errV 30 (y932)]) ∨ (p_d931 = none ∧ ∃ (s937 : PHeap) , PHeap.le s s937 ∧ St w0 s937 (H) w' ∧ v = Value.tuple #[Value.pointer none, errV 30 (y932)])) r) := by
  unfold stn_New_p at hm
  refine calls_of_W Try.func10 rfl rfl ?_
  refine W_seq ?_
  refine W_region ?_
  refine WL_step rfl rfl (Exec.assign (v := Value.pointer none) rfl rfl ?_)
  refine WL_step rfl rfl (Exec.assign (v := errV 30 (none)) rfl rfl ?_)
  refine WL_nil (at_normal ?_)
  refine W_seq ?_
  refine W_seq ?_
  refine W_mid (M := fun f' w' => ∃ (s939 : PHeap) , PHeap.le s s939 ∧ St w0 s939 (H) w' ∧ f' 0 = Value.int .i64 (n22) ∧ f' 13 = Value.bool (((decide (n22 < 1)) || decide (128 < n22)))) ?_ ?_
  · refine W_region ?_
    refine WL_step rfl rfl (Exec.move (v := Value.int .i64 (n22)) rfl rfl ?_)
    refine WL_step rfl rfl (Exec.lss rfl rfl rfl ?_)
    refine WL_step rfl rfl (Exec.move (v := Value.bool (decide (n22 < 1))) rfl rfl ?_)
    by_cases hc940 : (decide (n22 < 1)) = true
    · refine WL_pass rfl (yield_of rfl (congrArg Value.bool hc940)) rfl rfl ?_
      refine WL_pass rfl (yield_of rfl (congrArg Value.bool hc940)) rfl rfl ?_
      refine WL_step rfl rfl (Exec.pick_t (v := Value.bool (true)) rfl (congrArg Value.bool hc940) rfl ?_)
      refine WL_nil (at_normal ?_)
      exact ⟨s, (PHeap.le_refl _), hS, rfl, (congrArg Value.bool (or_t hc940)).symm⟩
    · replace hc940 := not_true hc940
      refine WL_run rfl (yield_of rfl (congrArg Value.bool hc940)) rfl (Exec.move (v := Value.int .i64 (n22)) rfl rfl ?_)
      refine WL_run rfl (yield_of rfl (congrArg Value.bool hc940)) rfl (Exec.gtr rfl rfl rfl ?_)
      refine WL_step rfl rfl (Exec.pick_f (v := Value.bool (decide (128 < n22))) rfl (congrArg Value.bool hc940) rfl ?_)
      refine WL_nil (at_normal ?_)
      exact ⟨s, (PHeap.le_refl _), hS, rfl, (congrArg Value.bool (or_f hc940)).symm⟩
  · intro f941 w942 hM943
    obtain ⟨s944, l945, hS946, p947, p948⟩ := hM943
    refine (at_normal ?_)
    rcases ite_some hm with ⟨hc949, hm⟩ | ⟨hc949, hm⟩
    · refine W_cond_t p948 hc949 ?_
      refine W_seq ?_
      refine W_region ?_
      refine WL_step rfl rfl (Exec.makeInterface C30 rfl rfl ?_)
      refine WL_step rfl rfl (Exec.assign (v := Value.pointer none) rfl rfl ?_)
      refine WL_step rfl rfl (Exec.assign (v := errV 30 (some 1)) rfl rfl ?_)
      refine WL_nil (at_normal ?_)
      refine W_ret (at_ret ?_)
      have e951 := Option.some.inj hm
      subst r
      refine ⟨_, ret2 rfl, ?_⟩
      refine (Or.inr ⟨rfl, ?_⟩); exact ⟨s944, l945, hS946, (tup2 rfl rfl)⟩
    · refine W_cond_f p948 hc949 ?_
      replace hc949 := not_true hc949
      refine W_skip (at_normal ?_)
      refine W_seq ?_
      refine W_region ?_
      refine WL_step rfl rfl (Exec.build rfl parts_nil (v := Value.agg #[Value.slice none 0 0]) (fun _ => by kernel_rfl) ?_)
      refine WL_step rfl rfl (Exec.box (cs := [Value.slice none 0 0]) hS946 rfl rfl rfl ?_)
      intro b955 w956 hS957
      refine WL_step rfl rfl (Exec.assign (v := Value.pointer (some ⟨b955, 0, none⟩)) rfl rfl ?_)
      refine WL_nil (at_normal ?_)
      refine W_seq ?_
      refine W_seq ?_
      refine W_region ?_
      refine WL_step rfl rfl (Exec.move (v := Value.int .i64 (n22)) rfl p947 ?_)
      refine WL_step rfl rfl (Exec.move (v := Value.int .i64 (0)) rfl rfl ?_)
      refine WL_nil (at_normal ?_)
      obtain ⟨u958, q959, hm⟩ := bind_some hm
      obtain ⟨z1238, hB1531, hm⟩ := bind_some hm
      refine W_block (W_forS (fun k' s' f' w' => (fun (z1238 : (List (List Int))) => ∃ (s1532 : PHeap) (v1239 : Value) (hs1240 : List Value), PHeap.le s944 s1532 ∧ St w0 s1532 (Res.box b955 63 [v1239] :: Res.arr encRaw 49 v1239 hs1240 :: Res.rows (encInt .i64) 3 hs1240 z1238 :: H) w' ∧ f' 0 = Value.int .i64 (n22) ∧ f' 4 = Value.pointer (some ⟨b955, 0, none⟩) ∧ f' 17 = Value.int .i64 (n22) ∧ f' 18 = Value.int .i64 (k' : Int)) s') hB1531 ?_ ?_ ?_)
      · have hS1533 := (hS957.rows_nil (encInt .i64) 3).nilArr encRaw 49
        have hS1534 := (hS1533).f2
        exact ⟨s944, (Value.slice none 0 0), [], (PHeap.le_refl _), hS1534, p947, rfl, rfl, rfl⟩
      · intro i960 z1238 s1536 f1537 w1538 hi1539 hI1540 hm1541
        obtain ⟨s1542, v1239, hs1240, l1543, hS1544, p1545, p1546, p1547, x1548⟩ := hI1540
        refine W_seq ?_
        refine W_region ?_
        refine WL_step rfl rfl (Exec.lss rfl x1548 p1547 ?_)
        refine WL_nil (at_normal ?_)
        refine W_seq ?_
        refine W_true (congrArg Value.bool (decide_eq_true (by omega))) ?_
        refine W_skip (at_normal ?_)
        refine W_seq ?_
        refine W_block ?_
        refine W_seq ?_
        refine W_region ?_
        refine WL_step rfl rfl (Exec.move (v := Value.int .i64 ((i960 : Int))) rfl x1548 ?_)
        refine WL_step rfl rfl (Exec.assign (v := Value.int .i64 ((i960 : Int))) rfl rfl ?_)
        refine WL_nil (at_normal ?_)
        refine W_seq ?_
        refine W_region ?_
        refine WL_step rfl rfl (Exec.move (v := Value.int .i64 (n22)) rfl p1545 ?_)
        obtain ⟨l1554, q1555, hm1541⟩ := bind_some hm1541
        refine WL_step rfl rfl (Exec.make (E := (encInt .i64)) hS1544 S49 Z3 rfl rfl rfl rfl q1555 ?_)
        intro v1556 w1557 hS1558
        refine WL_step rfl rfl (Exec.assign (v := v1556) rfl rfl ?_)
        refine WL_nil (at_normal ?_)
        refine W_seq ?_
        refine W_seq ?_
        refine W_region ?_
        refine WL_step rfl rfl (Exec.move (v := v1556) rfl rfl ?_)
        refine WL_step rfl rfl (Exec.len_arr (hS1558) S49 rfl rfl ?_)
        refine WL_step rfl rfl (Exec.move (v := Value.int .i64 (0)) rfl rfl ?_)
        refine WL_nil (at_normal ?_)
        obtain ⟨l1627, hB1696, hm1541⟩ := bind_some hm1541
        refine W_block (W_forS (fun k' s' f' w' => (fun (l1627 : (List Int)) => ∃ (s1697 : PHeap) , PHeap.le s1542 s1697 ∧ St w0 s1697 (Res.box b955 63 [v1239] :: Res.arr (encInt .i64) 3 v1556 l1627 :: Res.arr encRaw 49 v1239 hs1240 :: Res.rows (encInt .i64) 3 hs1240 z1238 :: H) w' ∧ f' 0 = Value.int .i64 (n22) ∧ f' 4 = Value.pointer (some ⟨b955, 0, none⟩) ∧ f' 5 = Value.int .i64 ((i960 : Int)) ∧ f' 6 = v1556 ∧ f' 17 = Value.int .i64 (n22) ∧ f' 18 = Value.int .i64 ((i960 : Int)) ∧ f' 24 = Value.int .i64 ((l1554.length : Int)) ∧ f' 25 = Value.int .i64 (k' : Int)) s') hB1696 ?_ ?_ ?_)
        · have hS1698 := ((hS1558).f3).f3
          have hS1699 := (hS1698).f2
          have hS1700 := (hS1699).f3
          exact ⟨s1542, (PHeap.le_refl _), hS1700, p1545, p1546, rfl, rfl, p1547, x1548, rfl, rfl⟩
        · intro i1559 l1627 s1702 f1703 w1704 hi1705 hI1706 hm1707
          obtain ⟨s1708, l1709, hS1710, p1711, p1712, p1713, p1714, p1715, p1716, p1717, x1718⟩ := hI1706
          refine W_seq ?_
          refine W_region ?_
          refine WL_step rfl rfl (Exec.lss rfl x1718 p1717 ?_)
          refine WL_nil (at_normal ?_)
          refine W_seq ?_
          refine W_true (congrArg Value.bool (decide_eq_true (by omega))) ?_
          refine W_skip (at_normal ?_)
          refine W_seq ?_
          refine W_block ?_
          refine W_seq ?_
          refine W_region ?_
          refine WL_step rfl rfl (Exec.move (v := Value.int .i64 ((i1559 : Int))) rfl x1718 ?_)
          refine WL_step rfl rfl (Exec.assign (v := Value.int .i64 ((i1559 : Int))) rfl rfl ?_)
          refine WL_nil (at_normal ?_)
          refine W_seq ?_
          refine W_region ?_
          refine WL_step rfl rfl (Exec.move (v := Value.int .i64 ((i1559 : Int))) rfl rfl ?_)
          refine WL_step rfl rfl (Exec.move (v := Value.int .i64 ((i960 : Int))) rfl p1713 ?_)
          refine WL_step rfl rfl (Exec.neq rfl rfl rfl ?_)
          refine WL_nil (at_normal ?_)
          obtain ⟨l1739, ht1740, hm1707⟩ := bind_some hm1707
          refine W_mid (M := fun f' w' => (fun (l1739 : (List Int)) => ∃ (s1741 : PHeap) , PHeap.le s1708 s1741 ∧ St w0 s1741 (Res.box b955 63 [v1239] :: Res.arr (encInt .i64) 3 v1556 l1739 :: Res.arr encRaw 49 v1239 hs1240 :: Res.rows (encInt .i64) 3 hs1240 z1238 :: H) w' ∧ f' 0 = Value.int .i64 (n22) ∧ f' 4 = Value.pointer (some ⟨b955, 0, none⟩) ∧ f' 5 = Value.int .i64 ((i960 : Int)) ∧ f' 6 = v1556 ∧ f' 17 = Value.int .i64 (n22) ∧ f' 18 = Value.int .i64 ((i960 : Int)) ∧ f' 24 = Value.int .i64 ((l1554.length : Int)) ∧ f' 25 = Value.int .i64 ((i1559 : Int))) l1739) ?_ ?_
          · rcases ite_some ht1740 with ⟨hc1742, ht1740⟩ | ⟨hc1742, ht1740⟩
            · refine W_cond_t rfl hc1742 ?_
              refine W_region ?_
              refine WL_step rfl rfl (Exec.move (v := v1556) rfl p1714 ?_)
              refine WL_step rfl rfl (Exec.move (v := Value.int .i64 ((i1559 : Int))) rfl rfl ?_)
              obtain ⟨x1753, q1754, ht1740⟩ := bind_some ht1740
              obtain ⟨g1755, c1756, e1757⟩ := ((hS1710).f1).arr_at q1754
              refine WL_step rfl rfl (Exec.index_slice S49 rfl e1757 rfl (idx_some q1754).1 (idx_some q1754).2.1 ?_)
              obtain ⟨l1758, q1759, ht1740⟩ := bind_some ht1740
              have hS1760 := (hS1710).f1
              refine WL_step rfl rfl (Exec.store_arr hS1760 e1757 A3 rfl rfl rfl rfl (encInt_val.2 rfl) q1759 ?_)
              intro w1761 hS1762
              refine WL_nil (at_normal ?_)
              have e1763 := Option.some.inj ht1740
              subst l1739
              have hS1764 := ((hS1762).f3).f3
              have hS1765 := (hS1764).f2
              have hS1766 := (hS1765).f3
              exact ⟨s1708, (PHeap.le_refl _), hS1766, p1711, p1712, p1713, p1714, p1715, p1716, p1717, x1718⟩
            · refine W_cond_f rfl hc1742 ?_
              replace hc1742 := not_true hc1742
              refine W_skip (at_normal ?_)
              have e1767 := Option.some.inj ht1740
              subst l1739
              have hS1768 := ((hS1710).f3).f3
              have hS1769 := (hS1768).f3
              have hS1770 := (hS1769).f3
              exact ⟨s1708, (PHeap.le_refl _), hS1770, p1711, p1712, p1713, p1714, p1715, p1716, p1717, x1718⟩
          · intro f1771 w1772 hM1773
            obtain ⟨s1774, l1775, hS1776, p1777, p1778, p1779, p1780, p1781, p1782, p1783, p1784⟩ := hM1773
            refine (ib_normal (at_normal ?_))
            refine W_region ?_
            refine WL_step rfl rfl (Exec.add rfl p1784 rfl ?_)
            refine WL_step rfl rfl (Exec.move (v := Value.int .i64 (IntKind.i64.wrap ((i1559 : Int) + 1))) rfl rfl ?_)
            refine WL_nil (at_normal ?_)
            have e1785 := Option.some.inj hm1707
            subst s1702
            have hS1786 := ((hS1776).f3).f3
            have hS1787 := (hS1786).f3
            have hS1788 := (hS1787).f3
            exact ⟨s1774, (PHeap.le.trans l1709 l1775), hS1788, p1777, p1778, p1779, p1780, p1781, p1782, p1783, (Eq.trans rfl (wrap_up hi1705 (hS1558).arr_le))⟩
        · intro f1789 w1790 hI1791
          obtain ⟨s1792, l1793, hS1794, p1795, p1796, p1797, p1798, p1799, p1800, p1801, x1802⟩ := hI1791
          refine W_seq ?_
          refine W_region ?_
          refine WL_step rfl rfl (Exec.lss rfl x1802 p1801 ?_)
          refine WL_nil (at_normal ?_)
          refine W_seq ?_
          refine W_false (congrArg Value.bool (decide_eq_false (by omega))) ?_
          refine W_exit (at_exit (at_exit (ib_here (at_normal ?_))))
          refine W_region ?_
          refine WL_step rfl rfl (Exec.move (v := Value.pointer (some ⟨b955, 0, none⟩)) rfl p1796 ?_)
          refine WL_step rfl rfl (Exec.move (v := Value.pointer (some ⟨b955, 0, none⟩)) rfl p1796 ?_)
          refine WL_step rfl rfl (Exec.nilCheck_ptr rfl rfl ?_)
          refine WL_step rfl rfl (Exec.field F63_0 rfl rfl rfl ?_)
          refine WL_step rfl rfl (Exec.load_box (hS1794) A61 rfl rfl rfl ?_)
          refine WL_step rfl rfl (Exec.move (v := v1556) rfl p1798 ?_)
          refine WL_step rfl rfl (Exec.buildSlice (Te := 49) (cs := [v1556]) hS1794 rfl (parts_cons (c := [v1556]) (cells_of rfl (cells_one ((hS1794).f1).arr_one)) parts_nil) (fun _ => by kernel_rfl) ?_)
          intro b1819 w1820 hS1821
          obtain ⟨l1822, q1823, hm1541⟩ := bind_some hm1541
          have hS1824 := (hS1821).f2
          have hS1825 := (hS1824).f1
          have hS1826 := ((hS1825).f4).f4
          have hS1827 := ((hS1826).f2).f1
          refine WL_step rfl rfl (Exec.append_grid (E := encRaw) (ys := [v1556]) hS1827 S61 Z49 rfl (by decide) rfl rfl rfl rfl (reps_one ⟨rfl, ((hS1827).f3).arr_one⟩) rfl rfl ((hS1827).f2).rows_len q1823 ?_)
          intro v1828 w1829 hS1830
          have hS1831 := ((hS1830).f1.f2.rows_push).f1
          rw [← (app_some q1823).2] at hS1831
          refine WL_step rfl rfl (Exec.nilCheck_ptr rfl rfl ?_)
          refine WL_step rfl rfl (Exec.field F63_0 rfl rfl rfl ?_)
          have hS1832 := (hS1831).f2
          refine WL_step rfl rfl (Exec.store_box (ds := [v1828]) (es := [v1828]) hS1832 A61 rfl rfl rfl (cells_one (((hS1832).f2).f2).arr_one) (one_cons (((hS1832).f2).f2).arr_one one_nil) (Nat.le_of_ble_eq_true rfl) rfl ?_)
          intro w1833 hS1834
          refine WL_nil (ib_normal (at_normal ?_))
          refine W_region ?_
          refine WL_step rfl rfl (Exec.add rfl p1800 rfl ?_)
          refine WL_step rfl rfl (Exec.move (v := Value.int .i64 (IntKind.i64.wrap ((i960 : Int) + 1))) rfl rfl ?_)
          refine WL_nil (at_normal ?_)
          have e1835 := Option.some.inj hm1541
          subst s1536
          have hS1836 := ((hS1834).f2).f2
          have hS1837 := (hS1836).f2
          exact ⟨s1792, v1828, (hs1240 ++ [v1556]), (PHeap.le.trans l1543 l1793), hS1837, p1795, p1796, p1799, (Eq.trans rfl (wrap_up hi1539 (by have h := must_some q959; simp at h; simp only [maxLen]; omega)))⟩
      · intro f1838 w1839 hI1840
        obtain ⟨s1841, v1239, hs1240, l1842, hS1843, p1844, p1845, p1846, x1847⟩ := hI1840
        refine W_seq ?_
        refine W_region ?_
        refine WL_step rfl rfl (Exec.lss rfl x1847 p1846 ?_)
        refine WL_nil (at_normal ?_)
        refine W_seq ?_
        refine W_false (congrArg Value.bool (decide_eq_false (by omega))) ?_
        refine W_exit (at_exit (at_exit (ib_here (at_normal ?_))))
        refine W_seq ?_
        refine W_region ?_
        refine WL_step rfl rfl (Exec.move (v := Value.pointer (some ⟨b955, 0, none⟩)) rfl p1845 ?_)
        refine WL_step rfl rfl (Exec.assign (v := Value.pointer (some ⟨b955, 0, none⟩)) rfl rfl ?_)
        refine WL_step rfl rfl (Exec.assign (v := errV 30 (none)) rfl rfl ?_)
        refine WL_nil (at_normal ?_)
        refine W_ret ?_
        have e1849 := Option.some.inj hm
        subst r
        refine ⟨_, ret2 rfl, ?_⟩
        have hS1850 := ((hS1843).f2).f2
        have hS1851 := (hS1850).f2
        refine (Or.inl ⟨_, rfl, ?_⟩); exact ⟨s1841, b955, v1239, hs1240, (PHeap.le.trans l945 l1842), hS1851, (tup2 rfl rfl)⟩

theorem S22 : tySlice Try.prog 22 = some (32, 3, 24) := by kernel_rfl

theorem A32 : tyAgg Try.prog 32 = some (true, 3) := by kernel_rfl

theorem Z32 : tyZero Try.prog 32 = some (Value.agg #[Value.int .i64 (0), Value.int .i64 (0), Value.int .i64 (0)]) := by kernel_rfl

theorem F32_0 : tyField Try.prog 32 0 = some 0 := by kernel_rfl

theorem N26 : (Try.f26.name == "runtime.NumGoroutine") = false := by kernel_rfl

theorem stn_Network_point_sim {w0 w : World} {s : PHeap} {H : List Res} {n1942 : stn_Network} {p1946 : Int} {b1943 : Nat} {v1944 : Value} {hs1945 : List Value} {r : Bool} (hm : stn_Network_point_p n1942 p1946 = some r) (hS : St w0 s (Res.box b1943 63 [v1944] :: Res.arr encRaw 49 v1944 hs1945 :: Res.rows (encInt .i64) 3 hs1945 n1942.d :: H) w)  :
    Calls Try.prog 26 #[Value.pointer (some ⟨b1943, 0, none⟩), Value.int .i64 (p1946)] w fun e w' => ∃ v, e = .returned v ∧ ((fun (y1962 : Bool) => ∃ (s1963 : PHeap) , PHeap.le s s1963 ∧ St w0 s1963 (Res.box b1943 63 [v1944] :: Res.arr encRaw 49 v1944 hs1945 :: Res.rows (encInt .i64) 3 hs1945 n1942.d :: H) w' ∧ v = Value.bool (y1962)) r) := by
  unfold stn_Network_point_p at hm
  refine calls_of_W Try.func26 rfl rfl ?_
  refine W_seq ?_
  refine W_region ?_
  refine WL_step rfl rfl (Exec.assign (v := Value.bool (false)) rfl rfl ?_)
  refine WL_nil (at_normal ?_)
  refine W_seq ?_
  refine W_mid (M := fun f' w' => ∃ (s1965 : PHeap) , PHeap.le s s1965 ∧ St w0 s1965 (Res.box b1943 63 [v1944] :: Res.arr encRaw 49 v1944 hs1945 :: Res.rows (encInt .i64) 3 hs1945 n1942.d :: H) w' ∧ f' 4 = Value.bool (((decide (0 ≤ p1946)) && decide (p1946 < (n1942.d.length : Int))))) ?_ ?_
  · refine W_region ?_
    refine WL_step rfl rfl (Exec.move (v := Value.int .i64 (p1946)) rfl rfl ?_)
    refine WL_step rfl rfl (Exec.geq rfl rfl rfl ?_)
    refine WL_step rfl rfl (Exec.move (v := Value.bool (decide (0 ≤ p1946))) rfl rfl ?_)
    by_cases hc1966 : (decide (0 ≤ p1946)) = true
    · refine WL_run rfl (yield_of rfl (congrArg Value.bool hc1966)) rfl (Exec.move (v := Value.int .i64 (p1946)) rfl rfl ?_)
      refine WL_run rfl (yield_of rfl (congrArg Value.bool hc1966)) rfl (Exec.move (v := Value.pointer (some ⟨b1943, 0, none⟩)) rfl rfl ?_)
      refine WL_run rfl (yield_of rfl (congrArg Value.bool hc1966)) rfl (Exec.nilCheck_ptr rfl rfl ?_)
      refine WL_run rfl (yield_of rfl (congrArg Value.bool hc1966)) rfl (Exec.field F63_0 rfl rfl rfl ?_)
      refine WL_run rfl (yield_of rfl (congrArg Value.bool hc1966)) rfl (Exec.load_box (hS) A61 rfl rfl rfl ?_)
      refine WL_run rfl (yield_of rfl (congrArg Value.bool hc1966)) rfl (Exec.len_grid (((hS).f2).f2) (((hS).f2).f2).f1.rows_len S61 rfl rfl ?_)
      refine WL_run rfl (yield_of rfl (congrArg Value.bool hc1966)) rfl (Exec.lss rfl rfl rfl ?_)
      refine WL_step rfl rfl (Exec.pick_t (v := Value.bool (decide (p1946 < (n1942.d.length : Int)))) rfl (congrArg Value.bool hc1966) rfl ?_)
      refine WL_step rfl rfl (Exec.assign (v := Value.bool (decide (p1946 < (n1942.d.length : Int)))) rfl rfl ?_)
      refine WL_nil (at_normal ?_)
      have hS1967 := ((hS).f2).f2
      have hS1968 := (hS1967).f2
      exact ⟨s, (PHeap.le_refl _), hS1968, (congrArg Value.bool (and_t hc1966)).symm⟩
    · replace hc1966 := not_true hc1966
      refine WL_pass rfl (yield_of rfl (congrArg Value.bool hc1966)) rfl rfl ?_
      refine WL_pass rfl (yield_of rfl (congrArg Value.bool hc1966)) rfl rfl ?_
      refine WL_pass rfl (yield_of rfl (congrArg Value.bool hc1966)) rfl rfl ?_
      refine WL_pass rfl (yield_of rfl (congrArg Value.bool hc1966)) rfl rfl ?_
      refine WL_pass rfl (yield_of rfl (congrArg Value.bool hc1966)) rfl rfl ?_
      refine WL_pass rfl (yield_of rfl (congrArg Value.bool hc1966)) rfl rfl ?_
      refine WL_pass rfl (yield_of rfl (congrArg Value.bool hc1966)) rfl rfl ?_
      refine WL_step rfl rfl (Exec.pick_f (v := Value.bool (false)) rfl (congrArg Value.bool hc1966) rfl ?_)
      refine WL_step rfl rfl (Exec.assign (v := Value.bool (false)) rfl rfl ?_)
      refine WL_nil (at_normal ?_)
      have hS1969 := ((hS).f2).f2
      have hS1970 := (hS1969).f2
      exact ⟨s, (PHeap.le_refl _), hS1970, (congrArg Value.bool (and_f hc1966)).symm⟩
  · intro f1971 w1972 hM1973
    obtain ⟨s1974, l1975, hS1976, p1977⟩ := hM1973
    refine (at_normal ?_)
    refine W_ret ?_
    have e1979 := Option.some.inj hm
    subst r
    refine ⟨_, ret1 rfl, ?_⟩
    have hS1980 := ((hS1976).f2).f2
    have hS1981 := (hS1980).f2
    exact ⟨s1974, l1975, hS1981, p1977⟩

theorem F32_1 : tyField Try.prog 32 1 = some 1 := by kernel_rfl

theorem F32_2 : tyField Try.prog 32 2 = some 2 := by kernel_rfl

theorem hmix : Try.prog.follows .mixedOrders = true := by kernel_rfl

theorem A49 : tyAgg Try.prog 49 = some (false, 1) := by kernel_rfl

theorem N14 : (Try.f14.name == "runtime.NumGoroutine") = false := by kernel_rfl

theorem stn_Network_Add_sim {w0 w : World} {s : PHeap} {H : List Res} {n1931 : stn_Network} {b1935 : Bound} {b1932 : Nat} {v1933 : Value} {hs1934 : List Value} {r : (Option Int) × (List (List Int))} (hm : stn_Network_Add_p n1931 b1935 = some r) (hS : St w0 s (Res.box b1932 63 [v1933] :: Res.arr encRaw 49 v1933 hs1934 :: Res.rows (encInt .i64) 3 hs1934 n1931.d :: H) w)  :
    Calls Try.prog 14 #[Value.pointer (some ⟨b1932, 0, none⟩), Value.agg #[Value.int .i64 (b1935.A), Value.int .i64 (b1935.B), Value.int .i64 (b1935.Most)]] w fun e w' => ∃ v, e = .returned v ∧ ((un2 fun (y11201 : (Option Int)) (l11202 : (List (List Int))) => ∃ (s11203 : PHeap) , PHeap.le s s11203 ∧ St w0 s11203 (Res.box b1932 63 [v1933] :: Res.arr encRaw 49 v1933 hs1934 :: Res.rows (encInt .i64) 3 hs1934 l11202 :: H) w' ∧ v = errV 30 (y11201)) r) := by
  unfold stn_Network_Add_p at hm
  refine calls_of_W Try.func14 rfl rfl ?_
  refine W_seq ?_
  refine W_region ?_
  refine WL_step rfl rfl (Exec.box (cs := [Value.int .i64 (b1935.A), Value.int .i64 (b1935.B), Value.int .i64 (b1935.Most)]) hS rfl rfl rfl ?_)
  intro b11207 w11208 hS11209
  refine WL_step rfl rfl (Exec.assign (v := errV 30 (none)) rfl rfl ?_)
  refine WL_nil (at_normal ?_)
  refine W_seq ?_
  refine W_seq ?_
  refine W_region ?_
  refine WL_step rfl rfl (Exec.move (v := Value.pointer (some ⟨b1932, 0, none⟩)) rfl rfl ?_)
  refine WL_step rfl rfl (Exec.ptr_eql_nil Try.underlying24 rfl rfl rfl ?_)
  refine WL_nil (at_normal ?_)
  refine W_false rfl ?_
  refine W_skip (at_normal ?_)
  refine W_seq ?_
  refine W_seq ?_
  obtain ⟨z11225, ht11226, hm⟩ := bind_some hm
  refine W_mid (M := fun f' w' => (fun (z11225 : Bool) => ∃ (s11227 : PHeap) , PHeap.le s s11227 ∧ St w0 s11227 (Res.box b1932 63 [v1933] :: Res.arr encRaw 49 v1933 hs1934 :: Res.rows (encInt .i64) 3 hs1934 n1931.d :: Res.box b11207 32 [Value.int .i64 (b1935.A), Value.int .i64 (b1935.B), Value.int .i64 (b1935.Most)] :: H) w' ∧ f' 0 = Value.pointer (some ⟨b1932, 0, none⟩) ∧ f' 3 = Value.pointer (some ⟨b11207, 0, none⟩) ∧ f' 34 = Value.bool (z11225)) z11225) ?_ ?_
  · refine W_region ?_
    refine WL_step rfl rfl (Exec.move (v := Value.pointer (some ⟨b1932, 0, none⟩)) rfl rfl ?_)
    refine WL_step rfl rfl (Exec.field F32_0 rfl rfl rfl ?_)
    refine WL_step rfl rfl (Exec.load_box (hS11209) A3 rfl rfl rfl ?_)
    have hS11228 := ((hS11209).f3).f3
    have hS11229 := (hS11228).f3
    refine WL_step rfl rfl (Exec.call rfl rfl Try.func26 rfl N26 (args_cons rfl (args_cons rfl args_nil)) ((stn_Network_point_sim (stn_Network_point_tot n1931 b1935.A) hS11229 ).mono ?_))
    rintro _ w11230 ⟨_, rfl, ⟨s11231, l11232, hS11233, rfl⟩⟩
    refine ⟨_, rfl, ?_⟩
    refine WL_step rfl rfl (Exec.not rfl rfl ?_)
    refine WL_step rfl rfl (Exec.move (v := Value.bool (!(stn_Network_point_t n1931 b1935.A))) rfl rfl ?_)
    rcases ite_some ht11226 with ⟨hc11234, ht11226⟩ | ⟨hc11234, ht11226⟩
    · refine WL_pass rfl (yield_of rfl (congrArg Value.bool hc11234)) rfl rfl ?_
      refine WL_pass rfl (yield_of rfl (congrArg Value.bool hc11234)) rfl rfl ?_
      refine WL_pass rfl (yield_of rfl (congrArg Value.bool hc11234)) rfl rfl ?_
      refine WL_pass rfl (yield_of rfl (congrArg Value.bool hc11234)) rfl rfl ?_
      refine WL_pass rfl (yield_of rfl (congrArg Value.bool hc11234)) rfl rfl ?_
      refine WL_step rfl rfl (Exec.pick_t (v := Value.bool (true)) rfl (congrArg Value.bool hc11234) rfl ?_)
      refine WL_step rfl rfl (Exec.move (v := Value.bool (true)) rfl rfl ?_)
      refine WL_pass rfl (yield_of rfl rfl) rfl rfl ?_
      refine WL_pass rfl (yield_of rfl rfl) rfl rfl ?_
      refine WL_pass rfl (yield_of rfl rfl) rfl rfl ?_
      refine WL_step rfl rfl (Exec.pick_t (v := Value.bool (true)) rfl rfl rfl ?_)
      refine WL_step rfl rfl (Exec.move (v := Value.bool (true)) rfl rfl ?_)
      refine WL_pass rfl (yield_of rfl rfl) rfl rfl ?_
      refine WL_pass rfl (yield_of rfl rfl) rfl rfl ?_
      refine WL_pass rfl (yield_of rfl rfl) rfl rfl ?_
      refine WL_step rfl rfl (Exec.pick_t (v := Value.bool (true)) rfl rfl rfl ?_)
      refine WL_nil (at_normal ?_)
      have e11235 := Option.some.inj ht11226
      subst z11225
      have hS11236 := (hS11233).f3
      have hS11237 := ((hS11236).f3).f3
      have hS11238 := (hS11237).f3
      exact ⟨s11231, l11232, hS11238, rfl, rfl, rfl⟩
    · replace hc11234 := not_true hc11234
      refine WL_run rfl (yield_of rfl (congrArg Value.bool hc11234)) rfl (Exec.move (v := Value.pointer (some ⟨b1932, 0, none⟩)) rfl rfl ?_)
      refine WL_run rfl (yield_of rfl (congrArg Value.bool hc11234)) rfl (Exec.field F32_1 rfl rfl rfl ?_)
      refine WL_run rfl (yield_of rfl (congrArg Value.bool hc11234)) rfl (Exec.load_box ((hS11233).f3) A3 rfl rfl rfl ?_)
      have hS11239 := ((hS11233).f2).f2
      have hS11240 := (hS11239).f2
      refine WL_run rfl (yield_of rfl (congrArg Value.bool hc11234)) rfl (Exec.call rfl rfl Try.func26 rfl N26 (args_cons rfl (args_cons rfl args_nil)) ((stn_Network_point_sim (stn_Network_point_tot n1931 b1935.B) hS11240 ).mono ?_))
      rintro _ w11241 ⟨_, rfl, ⟨s11242, l11243, hS11244, rfl⟩⟩
      refine ⟨_, rfl, ?_⟩
      refine WL_run rfl (yield_of rfl (congrArg Value.bool hc11234)) rfl (Exec.not rfl rfl ?_)
      refine WL_step rfl rfl (Exec.pick_f (v := Value.bool (!(stn_Network_point_t n1931 b1935.B))) rfl (congrArg Value.bool hc11234) rfl ?_)
      refine WL_step rfl rfl (Exec.move (v := Value.bool (!(stn_Network_point_t n1931 b1935.B))) rfl rfl ?_)
      rcases ite_some ht11226 with ⟨hc11245, ht11226⟩ | ⟨hc11245, ht11226⟩
      · refine WL_pass rfl (yield_of rfl (congrArg Value.bool hc11245)) rfl rfl ?_
        refine WL_pass rfl (yield_of rfl (congrArg Value.bool hc11245)) rfl rfl ?_
        refine WL_pass rfl (yield_of rfl (congrArg Value.bool hc11245)) rfl rfl ?_
        refine WL_step rfl rfl (Exec.pick_t (v := Value.bool (true)) rfl (congrArg Value.bool hc11245) rfl ?_)
        refine WL_step rfl rfl (Exec.move (v := Value.bool (true)) rfl rfl ?_)
        refine WL_pass rfl (yield_of rfl rfl) rfl rfl ?_
        refine WL_pass rfl (yield_of rfl rfl) rfl rfl ?_
        refine WL_pass rfl (yield_of rfl rfl) rfl rfl ?_
        refine WL_step rfl rfl (Exec.pick_t (v := Value.bool (true)) rfl rfl rfl ?_)
        refine WL_nil (at_normal ?_)
        have e11246 := Option.some.inj ht11226
        subst z11225
        have hS11247 := (hS11244).f3
        have hS11248 := ((hS11247).f3).f3
        have hS11249 := (hS11248).f3
        exact ⟨s11242, (PHeap.le.trans l11232 l11243), hS11249, rfl, rfl, rfl⟩
      · replace hc11245 := not_true hc11245
        refine WL_run rfl (yield_of rfl (congrArg Value.bool hc11245)) rfl (Exec.field F32_2 rfl rfl rfl ?_)
        refine WL_run rfl (yield_of rfl (congrArg Value.bool hc11245)) rfl (Exec.load_box ((hS11244).f3) A3 rfl rfl rfl ?_)
        refine WL_run rfl (yield_of rfl (congrArg Value.bool hc11245)) rfl (Exec.lss rfl rfl rfl ?_)
        refine WL_step rfl rfl (Exec.pick_f (v := Value.bool (decide (b1935.Most < (-1099511627776)))) rfl (congrArg Value.bool hc11245) rfl ?_)
        refine WL_step rfl rfl (Exec.move (v := Value.bool (decide (b1935.Most < (-1099511627776)))) rfl rfl ?_)
        rcases ite_some ht11226 with ⟨hc11250, ht11226⟩ | ⟨hc11250, ht11226⟩
        · refine WL_pass rfl (yield_of rfl (congrArg Value.bool hc11250)) rfl rfl ?_
          refine WL_pass rfl (yield_of rfl (congrArg Value.bool hc11250)) rfl rfl ?_
          refine WL_pass rfl (yield_of rfl (congrArg Value.bool hc11250)) rfl rfl ?_
          refine WL_step rfl rfl (Exec.pick_t (v := Value.bool (true)) rfl (congrArg Value.bool hc11250) rfl ?_)
          refine WL_nil (at_normal ?_)
          have e11251 := Option.some.inj ht11226
          subst z11225
          have hS11252 := (hS11244).f3
          have hS11253 := ((hS11252).f3).f3
          have hS11254 := (hS11253).f3
          exact ⟨s11242, (PHeap.le.trans l11232 l11243), hS11254, rfl, rfl, rfl⟩
        · replace hc11250 := not_true hc11250
          refine WL_run rfl (yield_of rfl (congrArg Value.bool hc11250)) rfl (Exec.field F32_2 rfl rfl rfl ?_)
          refine WL_run rfl (yield_of rfl (congrArg Value.bool hc11250)) rfl (Exec.load_box ((hS11244).f3) A3 rfl rfl rfl ?_)
          refine WL_run rfl (yield_of rfl (congrArg Value.bool hc11250)) rfl (Exec.gtr rfl rfl rfl ?_)
          refine WL_step rfl rfl (Exec.pick_f (v := Value.bool (decide (1099511627776 < b1935.Most))) rfl (congrArg Value.bool hc11250) rfl ?_)
          refine WL_nil (at_normal ?_)
          have e11255 := Option.some.inj ht11226
          subst z11225
          have hS11256 := (hS11244).f3
          have hS11257 := ((hS11256).f3).f3
          have hS11258 := (hS11257).f3
          exact ⟨s11242, (PHeap.le.trans l11232 l11243), hS11258, rfl, rfl, rfl⟩
  · intro f11259 w11260 hM11261
    obtain ⟨s11262, l11263, hS11264, p11265, p11266, p11267⟩ := hM11261
    refine (at_normal ?_)
    rcases ite_some hm with ⟨hc11268, hm⟩ | ⟨hc11268, hm⟩
    · refine W_cond_t p11267 hc11268 ?_
      refine W_seq ?_
      refine W_region ?_
      refine WL_step rfl rfl (Exec.makeInterface C30 rfl rfl ?_)
      refine WL_step rfl rfl (Exec.assign (v := errV 30 (some 1)) rfl rfl ?_)
      refine WL_nil (at_normal ?_)
      refine W_ret (at_ret ?_)
      have e11270 := Option.some.inj hm
      subst r
      refine ⟨_, ret1 rfl, ?_⟩
      have hS11271 := ((hS11264).f3).drop
      have hS11272 := ((hS11271).f2).f2
      have hS11273 := (hS11272).f2
      exact ⟨s11262, l11263, hS11273, rfl⟩
    · refine W_cond_f p11267 hc11268 ?_
      replace hc11268 := not_true hc11268
      refine W_skip (at_normal ?_)
      refine W_seq ?_
      refine W_seq ?_
      obtain ⟨row11440, q11441, hm⟩ := bind_some hm
      obtain ⟨h11442, e11443, e11444, _⟩ := ((((hS11264).f2).f2).f1).rows_at q11441
      obtain ⟨g11445, c11446, e11447⟩ := (((hS11264).f2).f2).arr_at e11443
      obtain ⟨x11448, q11449, hm⟩ := bind_some hm
      obtain ⟨g11450, c11451, e11452⟩ := (((((hS11264).f2).f2).f1).rows_split e11444 (idx_some q11441).2.2).arr_at q11449
      refine W_drawn (n0 := 13) hmix (by kernel_rfl) [RP.eq (Value.pointer (some ⟨b1932, 0, none⟩)), RP.eq (Value.pointer (some ⟨b1932, 0, none⟩)), RP.eq (Value.pointer (some ⟨b1932, 0, none⟩)), RP.eq (v1933), RP.eq (Value.pointer (some ⟨b11207, 1, none⟩)), RP.eq (Value.int .i64 (b1935.B)), RP.eq (Value.pointer (some ⟨g11445, 0 + (b1935.B).toNat * 1, none⟩)), RP.eq (h11442), RP.eq (Value.pointer (some ⟨b11207, 0, none⟩)), RP.eq (Value.int .i64 (b1935.A)), RP.eq (Value.pointer (some ⟨g11450, 0 + (b1935.A).toNat * 1, none⟩)), RP.eq (Value.int .i64 (x11448)), RP.eq (Value.int .i64 (x11448))] hS11264 (HeadAll.cons ?_ (HeadAll.cons ?_ (HeadAll.cons ?_ (HeadAll.cons ?_ (HeadAll.cons ?_ (HeadAll.cons ?_ (HeadAll.cons ?_ (HeadAll.cons ?_ (HeadAll.cons ?_ (HeadAll.cons ?_ (HeadAll.cons ?_ (HeadAll.cons ?_ (HeadAll.cons ?_ (HeadAll.nil)))))))))))))) ?_
      · intro g11453 s11454 w11455 l11456 hS11457 fr11458 pre11459
        refine head_run rfl (Exec.move (v := Value.pointer (some ⟨b1932, 0, none⟩)) rfl (Eq.trans (fr11458 0 rfl) p11265) ?_)
        exact head_done hS11457 rfl
      · intro g11460 s11461 w11462 l11463 hS11464 fr11465 pre11466
        have p11467 : g11460 36 = (Value.pointer (some ⟨b1932, 0, none⟩)) := pre11466 0 _ rfl rfl
        refine head_run rfl (Exec.nilCheck_ptr rfl p11467 ?_)
        exact head_done hS11464 rfl
      · intro g11468 s11469 w11470 l11471 hS11472 fr11473 pre11474
        have p11475 : g11468 37 = (Value.pointer (some ⟨b1932, 0, none⟩)) := pre11474 0 _ rfl rfl
        refine head_run rfl (Exec.field F63_0 rfl p11475 rfl ?_)
        exact head_done hS11472 rfl
      · intro g11476 s11477 w11478 l11479 hS11480 fr11481 pre11482
        have p11483 : g11476 38 = (Value.pointer (some ⟨b1932, 0, none⟩)) := pre11482 0 _ rfl rfl
        refine head_run rfl (Exec.load_box (hS11480) A61 rfl p11483 rfl ?_)
        exact head_done hS11480 rfl
      · intro g11484 s11485 w11486 l11487 hS11488 fr11489 pre11490
        refine head_run rfl (Exec.field F32_1 rfl (Eq.trans (fr11489 3 rfl) p11266) rfl ?_)
        exact head_done hS11488 rfl
      · intro g11491 s11492 w11493 l11494 hS11495 fr11496 pre11497
        have p11498 : g11491 40 = (Value.pointer (some ⟨b11207, 1, none⟩)) := pre11497 0 _ rfl rfl
        refine head_run rfl (Exec.load_box ((hS11495).f3) A3 rfl p11498 rfl ?_)
        exact head_done hS11495 rfl
      · intro g11499 s11500 w11501 l11502 hS11503 fr11504 pre11505
        have p11506 : g11499 41 = (Value.int .i64 (b1935.B)) := pre11505 1 _ rfl rfl
        have p11507 : g11499 39 = (v1933) := pre11505 0 _ rfl rfl
        refine head_run rfl (Exec.index_slice S61 rfl (Eq.trans p11507 e11447) p11506 (idx_some e11443).1 (idx_some e11443).2.1 ?_)
        exact head_done hS11503 rfl
      · intro g11508 s11509 w11510 l11511 hS11512 fr11513 pre11514
        have p11515 : g11508 42 = (Value.pointer (some ⟨g11445, 0 + (b1935.B).toNat * 1, none⟩)) := pre11514 0 _ rfl rfl
        refine head_run rfl (Exec.load_arr (F := encRaw) (((hS11512).f2).f2) e11447 A49 rfl p11515 rfl e11443 (Sub.refl _) ?_)
        intro v11516 q11517
        exact head_done hS11512 (encRaw_val.1 q11517).1
      · intro g11518 s11519 w11520 l11521 hS11522 fr11523 pre11524
        refine head_run rfl (Exec.field F32_0 rfl (Eq.trans (fr11523 3 rfl) p11266) rfl ?_)
        exact head_done hS11522 rfl
      · intro g11525 s11526 w11527 l11528 hS11529 fr11530 pre11531
        have p11532 : g11525 44 = (Value.pointer (some ⟨b11207, 0, none⟩)) := pre11531 0 _ rfl rfl
        refine head_run rfl (Exec.load_box ((hS11529).f3) A3 rfl p11532 rfl ?_)
        exact head_done hS11529 rfl
      · intro g11533 s11534 w11535 l11536 hS11537 fr11538 pre11539
        have p11540 : g11533 43 = (h11442) := pre11539 0 _ rfl rfl
        have p11541 : g11533 45 = (Value.int .i64 (b1935.A)) := pre11539 1 _ rfl rfl
        refine head_run rfl (Exec.index_slice S49 rfl (Eq.trans p11540 e11452) p11541 (idx_some q11449).1 (idx_some q11449).2.1 ?_)
        exact head_done hS11537 rfl
      · intro g11542 s11543 w11544 l11545 hS11546 fr11547 pre11548
        have p11549 : g11542 46 = (Value.pointer (some ⟨g11450, 0 + (b1935.A).toNat * 1, none⟩)) := pre11548 0 _ rfl rfl
        refine head_run rfl (Exec.load_arr (F := (encInt .i64)) (((((hS11546).f2).f2).f1).rows_split e11444 (idx_some q11441).2.2) e11452 A3 rfl p11549 rfl q11449 (Sub.refl _) ?_)
        intro v11550 q11551
        exact head_done hS11546 (encInt_val.1 q11551)
      · intro g11552 s11553 w11554 l11555 hS11556 fr11557 pre11558
        have p11559 : g11552 47 = (Value.int .i64 (x11448)) := pre11558 0 _ rfl rfl
        refine head_run rfl (Exec.assign (v := Value.int .i64 (x11448)) rfl p11559 ?_)
        exact head_done hS11556 rfl
      · intro g11560 s11561 w11562 l11563 hS11564 fr11565 hR11566
        have p11567 : g11560 36 = (Value.pointer (some ⟨b1932, 0, none⟩)) := hR11566 0 rfl
        have p11568 : g11560 37 = (Value.pointer (some ⟨b1932, 0, none⟩)) := hR11566 1 rfl
        have p11569 : g11560 38 = (Value.pointer (some ⟨b1932, 0, none⟩)) := hR11566 2 rfl
        have p11570 : g11560 39 = (v1933) := hR11566 3 rfl
        have p11571 : g11560 40 = (Value.pointer (some ⟨b11207, 1, none⟩)) := hR11566 4 rfl
        have p11572 : g11560 41 = (Value.int .i64 (b1935.B)) := hR11566 5 rfl
        have p11573 : g11560 42 = (Value.pointer (some ⟨g11445, 0 + (b1935.B).toNat * 1, none⟩)) := hR11566 6 rfl
        have p11574 : g11560 43 = (h11442) := hR11566 7 rfl
        have p11575 : g11560 44 = (Value.pointer (some ⟨b11207, 0, none⟩)) := hR11566 8 rfl
        have p11576 : g11560 45 = (Value.int .i64 (b1935.A)) := hR11566 9 rfl
        have p11577 : g11560 46 = (Value.pointer (some ⟨g11450, 0 + (b1935.A).toNat * 1, none⟩)) := hR11566 10 rfl
        have p11578 : g11560 47 = (Value.int .i64 (x11448)) := hR11566 11 rfl
        have p11579 : g11560 5 = (Value.int .i64 (x11448)) := hR11566 12 rfl
        refine WL_nil (at_normal ?_)
        refine W_seq ?_
        refine W_mid (M := fun f' w' => ∃ (s11581 : PHeap) , PHeap.le s11561 s11581 ∧ St w0 s11581 (Res.box b1932 63 [v1933] :: Res.arr encRaw 49 v1933 hs1934 :: Res.rows (encInt .i64) 3 hs1934 n1931.d :: Res.box b11207 32 [Value.int .i64 (b1935.A), Value.int .i64 (b1935.B), Value.int .i64 (b1935.Most)] :: H) w' ∧ f' 0 = Value.pointer (some ⟨b1932, 0, none⟩) ∧ f' 3 = Value.pointer (some ⟨b11207, 0, none⟩) ∧ f' 56 = Value.bool (((decide (x11448 < 1125899906842624)) && decide ((IntKind.i64.wrap (x11448 + b1935.Most)) < 0)))) ?_ ?_
        · refine W_region ?_
          refine WL_step rfl rfl (Exec.move (v := Value.int .i64 (x11448)) rfl p11579 ?_)
          refine WL_step rfl rfl (Exec.lss rfl rfl rfl ?_)
          refine WL_step rfl rfl (Exec.move (v := Value.bool (decide (x11448 < 1125899906842624))) rfl rfl ?_)
          by_cases hc11582 : (decide (x11448 < 1125899906842624)) = true
          · refine WL_run rfl (yield_of rfl (congrArg Value.bool hc11582)) rfl (Exec.move (v := Value.int .i64 (x11448)) rfl p11579 ?_)
            refine WL_run rfl (yield_of rfl (congrArg Value.bool hc11582)) rfl (Exec.field F32_2 rfl (Eq.trans (fr11565 3 rfl) p11266) rfl ?_)
            refine WL_run rfl (yield_of rfl (congrArg Value.bool hc11582)) rfl (Exec.load_box ((hS11564).f3) A3 rfl rfl rfl ?_)
            refine WL_run rfl (yield_of rfl (congrArg Value.bool hc11582)) rfl (Exec.add rfl rfl rfl ?_)
            refine WL_run rfl (yield_of rfl (congrArg Value.bool hc11582)) rfl (Exec.lss rfl rfl rfl ?_)
            refine WL_step rfl rfl (Exec.pick_t (v := Value.bool (decide ((IntKind.i64.wrap (x11448 + b1935.Most)) < 0))) rfl (congrArg Value.bool hc11582) rfl ?_)
            refine WL_nil (at_normal ?_)
            have hS11583 := (hS11564).f3
            have hS11584 := ((hS11583).f3).f3
            have hS11585 := (hS11584).f3
            exact ⟨s11561, (PHeap.le_refl _), hS11585, (Eq.trans (fr11565 0 rfl) p11265), (Eq.trans (fr11565 3 rfl) p11266), (congrArg Value.bool (and_t hc11582)).symm⟩
          · replace hc11582 := not_true hc11582
            refine WL_pass rfl (yield_of rfl (congrArg Value.bool hc11582)) rfl rfl ?_
            refine WL_pass rfl (yield_of rfl (congrArg Value.bool hc11582)) rfl rfl ?_
            refine WL_pass rfl (yield_of rfl (congrArg Value.bool hc11582)) rfl rfl ?_
            refine WL_pass rfl (yield_of rfl (congrArg Value.bool hc11582)) rfl rfl ?_
            refine WL_pass rfl (yield_of rfl (congrArg Value.bool hc11582)) rfl rfl ?_
            refine WL_step rfl rfl (Exec.pick_f (v := Value.bool (false)) rfl (congrArg Value.bool hc11582) rfl ?_)
            refine WL_nil (at_normal ?_)
            have hS11586 := (hS11564).f3
            have hS11587 := ((hS11586).f3).f3
            have hS11588 := (hS11587).f3
            exact ⟨s11561, (PHeap.le_refl _), hS11588, (Eq.trans (fr11565 0 rfl) p11265), (Eq.trans (fr11565 3 rfl) p11266), (congrArg Value.bool (and_f hc11582)).symm⟩
        · intro f11589 w11590 hM11591
          obtain ⟨s11592, l11593, hS11594, p11595, p11596, p11597⟩ := hM11591
          refine (at_normal ?_)
          rcases ite_some hm with ⟨hc11598, hm⟩ | ⟨hc11598, hm⟩
          · refine W_cond_t p11597 hc11598 ?_
            refine W_seq ?_
            refine W_region ?_
            refine WL_step rfl rfl (Exec.makeInterface C30 rfl rfl ?_)
            refine WL_step rfl rfl (Exec.assign (v := errV 30 (some 21)) rfl rfl ?_)
            refine WL_nil (at_normal ?_)
            refine W_ret (at_ret ?_)
            have e11600 := Option.some.inj hm
            subst r
            refine ⟨_, ret1 rfl, ?_⟩
            have hS11601 := ((hS11594).f3).drop
            have hS11602 := ((hS11601).f2).f2
            have hS11603 := (hS11602).f2
            exact ⟨s11592, (PHeap.le.trans (PHeap.le.trans l11263 l11563) l11593), hS11603, rfl⟩
          · refine W_cond_f p11597 hc11598 ?_
            replace hc11598 := not_true hc11598
            refine W_skip (at_normal ?_)
            refine W_seq ?_
            refine W_seq ?_
            refine W_region ?_
            refine WL_step rfl rfl (Exec.move (v := Value.pointer (some ⟨b1932, 0, none⟩)) rfl p11595 ?_)
            refine WL_step rfl rfl (Exec.nilCheck_ptr rfl rfl ?_)
            refine WL_step rfl rfl (Exec.field F63_0 rfl rfl rfl ?_)
            refine WL_step rfl rfl (Exec.load_box (hS11594) A61 rfl rfl rfl ?_)
            refine WL_step rfl rfl (Exec.len_grid (((hS11594).f2).f2) (((hS11594).f2).f2).f1.rows_len S61 rfl rfl ?_)
            refine WL_step rfl rfl (Exec.move (v := Value.int .i64 (0)) rfl rfl ?_)
            refine WL_nil (at_normal ?_)
            obtain ⟨l14536, hB17469, hm⟩ := bind_some hm
            refine W_block (W_forS (fun k' s' f' w' => (fun (l14536 : (List (List Int))) => ∃ (s17470 : PHeap) , PHeap.le s11592 s17470 ∧ St w0 s17470 (Res.box b1932 63 [v1933] :: Res.arr encRaw 49 v1933 hs1934 :: Res.rows (encInt .i64) 3 hs1934 l14536 :: Res.box b11207 32 [Value.int .i64 (b1935.A), Value.int .i64 (b1935.B), Value.int .i64 (b1935.Most)] :: H) w' ∧ f' 0 = Value.pointer (some ⟨b1932, 0, none⟩) ∧ f' 3 = Value.pointer (some ⟨b11207, 0, none⟩) ∧ f' 61 = v1933 ∧ f' 62 = Value.int .i64 ((n1931.d.length : Int)) ∧ f' 63 = Value.int .i64 (k' : Int)) s') hB17469 ?_ ?_ ?_)
            · have hS17471 := (hS11594).f3
              have hS17472 := ((hS17471).f3).f3
              have hS17473 := (hS17472).f3
              exact ⟨s11592, (PHeap.le_refl _), hS17473, p11595, p11596, rfl, rfl, rfl⟩
            · intro i11604 l14536 s17475 f17476 w17477 hi17478 hI17479 hm17480
              obtain ⟨s17481, l17482, hS17483, p17484, p17485, p17486, p17487, x17488⟩ := hI17479
              refine W_seq ?_
              refine W_region ?_
              refine WL_step rfl rfl (Exec.lss rfl x17488 p17487 ?_)
              refine WL_nil (at_normal ?_)
              refine W_seq ?_
              refine W_true (congrArg Value.bool (decide_eq_true (by omega))) ?_
              refine W_skip (at_normal ?_)
              refine W_seq ?_
              refine W_block ?_
              refine W_seq ?_
              refine W_region ?_
              obtain ⟨row17499, q17500, hm17480⟩ := bind_some hm17480
              obtain ⟨h17501, e17502, e17503, _⟩ := ((((hS17483).f2).f2).f1).rows_at q17500
              obtain ⟨g17504, c17505, e17506⟩ := (((hS17483).f2).f2).arr_at e17502
              refine WL_step rfl rfl (Exec.index_slice S61 rfl (Eq.trans p17486 e17506) x17488 (idx_some e17502).1 (idx_some e17502).2.1 ?_)
              refine WL_step rfl rfl (Exec.load_arr (F := encRaw) (((hS17483).f2).f2) e17506 A49 rfl rfl rfl e17502 (Sub.refl _) ?_)
              intro v17507 q17508
              replace q17508 := (encRaw_val.1 q17508).1
              subst v17507
              refine WL_step rfl rfl (Exec.assign (v := h17501) rfl rfl ?_)
              refine WL_nil (at_normal ?_)
              refine W_seq ?_
              refine W_seq ?_
              refine W_region ?_
              refine WL_step rfl rfl (Exec.move (v := h17501) rfl rfl ?_)
              refine WL_step rfl rfl (Exec.field F32_0 rfl p17485 rfl ?_)
              refine WL_step rfl rfl (Exec.load_box ((hS17483).f3) A3 rfl rfl rfl ?_)
              obtain ⟨x17516, q17517, hm17480⟩ := bind_some hm17480
              obtain ⟨g17518, c17519, e17520⟩ := (((((hS17483).f2).f2).f1).rows_split e17503 (idx_some q17500).2.2).arr_at q17517
              refine WL_step rfl rfl (Exec.index_slice S49 rfl e17520 rfl (idx_some q17517).1 (idx_some q17517).2.1 ?_)
              refine WL_step rfl rfl (Exec.load_arr (F := (encInt .i64)) (((((hS17483).f2).f2).f1).rows_split e17503 (idx_some q17500).2.2) e17520 A3 rfl rfl rfl q17517 (Sub.refl _) ?_)
              intro v17521 q17522
              obtain rfl := encInt_val.1 q17522
              refine WL_step rfl rfl (Exec.geq rfl rfl rfl ?_)
              refine WL_nil (at_normal ?_)
              rcases ite_some hm17480 with ⟨hc17523, hm17480⟩ | ⟨hc17523, hm17480⟩
              · refine W_cond_t rfl hc17523 ?_
                refine W_exit (at_exit (ib_here (at_normal ?_)))
                refine W_region ?_
                refine WL_step rfl rfl (Exec.add rfl x17488 rfl ?_)
                refine WL_step rfl rfl (Exec.move (v := Value.int .i64 (IntKind.i64.wrap ((i11604 : Int) + 1))) rfl rfl ?_)
                refine WL_nil (at_normal ?_)
                have e17524 := Option.some.inj hm17480
                subst s17475
                have hS17525 := (hS17483).f3
                have hS17526 := ((hS17525).f3).f3
                have hS17527 := (hS17526).f3
                exact ⟨s17481, l17482, hS17527, p17484, p17485, p17486, p17487, (Eq.trans rfl (wrap_up hi17478 (by have h := (((hS11594).f2).f2).f1.rows_len; have h2 := (((hS11594).f2).f2).arr_le; omega)))⟩
              · refine W_cond_f rfl hc17523 ?_
                replace hc17523 := not_true hc17523
                refine W_skip (at_normal ?_)
                refine W_seq ?_
                obtain ⟨row17649, q17650, hm17480⟩ := bind_some hm17480
                obtain ⟨h17651, e17652, e17653, _⟩ := ((((hS17483).f2).f2).f1).rows_at q17650
                obtain ⟨g17654, c17655, e17656⟩ := (((hS17483).f2).f2).arr_at e17652
                refine W_drawn (n0 := 10) hmix (by kernel_rfl) [RP.eq (Value.pointer (some ⟨b1932, 0, none⟩)), RP.eq (Value.pointer (some ⟨b1932, 0, none⟩)), RP.eq (Value.pointer (some ⟨b1932, 0, none⟩)), RP.eq (v1933), RP.eq (Value.pointer (some ⟨b11207, 1, none⟩)), RP.eq (Value.int .i64 (b1935.B)), RP.eq (Value.pointer (some ⟨g17654, 0 + (b1935.B).toNat * 1, none⟩)), RP.eq (h17651), RP.eq (Value.int .i64 ((row17649.length : Int))), RP.eq (Value.int .i64 (0))] hS17483 (HeadAll.cons ?_ (HeadAll.cons ?_ (HeadAll.cons ?_ (HeadAll.cons ?_ (HeadAll.cons ?_ (HeadAll.cons ?_ (HeadAll.cons ?_ (HeadAll.cons ?_ (HeadAll.cons ?_ (HeadAll.cons ?_ (HeadAll.nil))))))))))) ?_
                · intro g17657 s17658 w17659 l17660 hS17661 fr17662 pre17663
                  refine head_run rfl (Exec.move (v := Value.pointer (some ⟨b1932, 0, none⟩)) rfl (Eq.trans (fr17662 0 rfl) p17484) ?_)
                  exact head_done hS17661 rfl
                · intro g17664 s17665 w17666 l17667 hS17668 fr17669 pre17670
                  have p17671 : g17664 73 = (Value.pointer (some ⟨b1932, 0, none⟩)) := pre17670 0 _ rfl rfl
                  refine head_run rfl (Exec.nilCheck_ptr rfl p17671 ?_)
                  exact head_done hS17668 rfl
                · intro g17672 s17673 w17674 l17675 hS17676 fr17677 pre17678
                  have p17679 : g17672 74 = (Value.pointer (some ⟨b1932, 0, none⟩)) := pre17678 0 _ rfl rfl
                  refine head_run rfl (Exec.field F63_0 rfl p17679 rfl ?_)
                  exact head_done hS17676 rfl
                · intro g17680 s17681 w17682 l17683 hS17684 fr17685 pre17686
                  have p17687 : g17680 75 = (Value.pointer (some ⟨b1932, 0, none⟩)) := pre17686 0 _ rfl rfl
                  refine head_run rfl (Exec.load_box (hS17684) A61 rfl p17687 rfl ?_)
                  exact head_done hS17684 rfl
                · intro g17688 s17689 w17690 l17691 hS17692 fr17693 pre17694
                  refine head_run rfl (Exec.field F32_1 rfl (Eq.trans (fr17693 3 rfl) p17485) rfl ?_)
                  exact head_done hS17692 rfl
                · intro g17695 s17696 w17697 l17698 hS17699 fr17700 pre17701
                  have p17702 : g17695 77 = (Value.pointer (some ⟨b11207, 1, none⟩)) := pre17701 0 _ rfl rfl
                  refine head_run rfl (Exec.load_box ((hS17699).f3) A3 rfl p17702 rfl ?_)
                  exact head_done hS17699 rfl
                · intro g17703 s17704 w17705 l17706 hS17707 fr17708 pre17709
                  have p17710 : g17703 76 = (v1933) := pre17709 0 _ rfl rfl
                  have p17711 : g17703 78 = (Value.int .i64 (b1935.B)) := pre17709 1 _ rfl rfl
                  refine head_run rfl (Exec.index_slice S61 rfl (Eq.trans p17710 e17656) p17711 (idx_some e17652).1 (idx_some e17652).2.1 ?_)
                  exact head_done hS17707 rfl
                · intro g17712 s17713 w17714 l17715 hS17716 fr17717 pre17718
                  have p17719 : g17712 79 = (Value.pointer (some ⟨g17654, 0 + (b1935.B).toNat * 1, none⟩)) := pre17718 0 _ rfl rfl
                  refine head_run rfl (Exec.load_arr (F := encRaw) (((hS17716).f2).f2) e17656 A49 rfl p17719 rfl e17652 (Sub.refl _) ?_)
                  intro v17720 q17721
                  exact head_done hS17716 (encRaw_val.1 q17721).1
                · intro g17722 s17723 w17724 l17725 hS17726 fr17727 pre17728
                  have p17729 : g17722 80 = (h17651) := pre17728 0 _ rfl rfl
                  refine head_run rfl (Exec.len_arr (((((hS17726).f2).f2).f1).rows_split e17653 (idx_some q17650).2.2) S49 rfl p17729 ?_)
                  exact head_done hS17726 rfl
                · intro g17730 s17731 w17732 l17733 hS17734 fr17735 pre17736
                  refine head_run rfl (Exec.move (v := Value.int .i64 (0)) rfl rfl ?_)
                  exact head_done hS17734 rfl
                · intro g17737 s17738 w17739 l17740 hS17741 fr17742 hR17743
                  have p17744 : g17737 73 = (Value.pointer (some ⟨b1932, 0, none⟩)) := hR17743 0 rfl
                  have p17745 : g17737 74 = (Value.pointer (some ⟨b1932, 0, none⟩)) := hR17743 1 rfl
                  have p17746 : g17737 75 = (Value.pointer (some ⟨b1932, 0, none⟩)) := hR17743 2 rfl
                  have p17747 : g17737 76 = (v1933) := hR17743 3 rfl
                  have p17748 : g17737 77 = (Value.pointer (some ⟨b11207, 1, none⟩)) := hR17743 4 rfl
                  have p17749 : g17737 78 = (Value.int .i64 (b1935.B)) := hR17743 5 rfl
                  have p17750 : g17737 79 = (Value.pointer (some ⟨g17654, 0 + (b1935.B).toNat * 1, none⟩)) := hR17743 6 rfl
                  have p17751 : g17737 80 = (h17651) := hR17743 7 rfl
                  have p17752 : g17737 81 = (Value.int .i64 ((row17649.length : Int))) := hR17743 8 rfl
                  have p17753 : g17737 82 = (Value.int .i64 (0)) := hR17743 9 rfl
                  refine WL_nil (at_normal ?_)
                  obtain ⟨u17754, q17755, hm17480⟩ := bind_some hm17480
                  obtain ⟨l18631, hB19507, hm17480⟩ := bind_some hm17480
                  refine W_block (W_forS (fun k' s' f' w' => (fun (l18631 : (List (List Int))) => ∃ (s19508 : PHeap) , PHeap.le s17738 s19508 ∧ St w0 s19508 (Res.box b1932 63 [v1933] :: Res.arr encRaw 49 v1933 hs1934 :: Res.rows (encInt .i64) 3 hs1934 l18631 :: Res.box b11207 32 [Value.int .i64 (b1935.A), Value.int .i64 (b1935.B), Value.int .i64 (b1935.Most)] :: H) w' ∧ f' 0 = Value.pointer (some ⟨b1932, 0, none⟩) ∧ f' 3 = Value.pointer (some ⟨b11207, 0, none⟩) ∧ f' 7 = h17501 ∧ f' 61 = v1933 ∧ f' 62 = Value.int .i64 ((n1931.d.length : Int)) ∧ f' 63 = Value.int .i64 ((i11604 : Int)) ∧ f' 80 = h17651 ∧ f' 81 = Value.int .i64 ((row17649.length : Int)) ∧ f' 82 = Value.int .i64 (k' : Int)) s') hB19507 ?_ ?_ ?_)
                  · have hS19509 := (hS17741).f3
                    have hS19510 := ((hS19509).f3).f3
                    have hS19511 := (hS19510).f3
                    exact ⟨s17738, (PHeap.le_refl _), hS19511, (Eq.trans (fr17742 0 rfl) p17484), (Eq.trans (fr17742 3 rfl) p17485), (fr17742 7 rfl), (Eq.trans (fr17742 61 rfl) p17486), (Eq.trans (fr17742 62 rfl) p17487), (Eq.trans (fr17742 63 rfl) x17488), p17751, p17752, p17753⟩
                  · intro i17756 l18631 s19513 f19514 w19515 hi19516 hI19517 hm19518
                    obtain ⟨s19519, l19520, hS19521, p19522, p19523, p19524, p19525, p19526, p19527, p19528, p19529, x19530⟩ := hI19517
                    refine W_seq ?_
                    refine W_region ?_
                    refine WL_step rfl rfl (Exec.lss rfl x19530 p19529 ?_)
                    refine WL_nil (at_normal ?_)
                    refine W_seq ?_
                    refine W_true (congrArg Value.bool (decide_eq_true (by omega))) ?_
                    refine W_skip (at_normal ?_)
                    refine W_seq ?_
                    refine W_block ?_
                    refine W_seq ?_
                    refine W_region ?_
                    refine WL_step rfl rfl (Exec.move (v := Value.int .i64 ((i17756 : Int))) rfl x19530 ?_)
                    obtain ⟨row19540, q19541, hm19518⟩ := bind_some hm19518
                    obtain ⟨x19542, q19543, hm19518⟩ := bind_some hm19518
                    obtain ⟨g19544, c19545, e19546⟩ := (((((hS19521).f2).f2).f1).rows_split e17653 (idx_some q19541).2.2).arr_at q19543
                    refine WL_step rfl rfl (Exec.index_slice S49 rfl (Eq.trans p19528 e19546) x19530 (idx_some q19543).1 (idx_some q19543).2.1 ?_)
                    refine WL_step rfl rfl (Exec.load_arr (F := (encInt .i64)) (((((hS19521).f2).f2).f1).rows_split e17653 (idx_some q19541).2.2) e19546 A3 rfl rfl rfl q19543 (Sub.refl _) ?_)
                    intro v19547 q19548
                    obtain rfl := encInt_val.1 q19548
                    refine WL_step rfl rfl (Exec.assign (v := Value.int .i64 ((i17756 : Int))) rfl rfl ?_)
                    refine WL_step rfl rfl (Exec.assign (v := Value.int .i64 (x19542)) rfl rfl ?_)
                    refine WL_nil (at_normal ?_)
                    refine W_seq ?_
                    refine W_region ?_
                    refine WL_step rfl rfl (Exec.move (v := Value.int .i64 (x19542)) rfl rfl ?_)
                    refine WL_step rfl rfl (Exec.lss rfl rfl rfl ?_)
                    refine WL_nil (at_normal ?_)
                    obtain ⟨l19963, ht19964, hm19518⟩ := bind_some hm19518
                    refine W_mid (M := fun f' w' => (fun (l19963 : (List (List Int))) => ∃ (s19965 : PHeap) , PHeap.le s19519 s19965 ∧ St w0 s19965 (Res.box b1932 63 [v1933] :: Res.arr encRaw 49 v1933 hs1934 :: Res.rows (encInt .i64) 3 hs1934 l19963 :: Res.box b11207 32 [Value.int .i64 (b1935.A), Value.int .i64 (b1935.B), Value.int .i64 (b1935.Most)] :: H) w' ∧ f' 0 = Value.pointer (some ⟨b1932, 0, none⟩) ∧ f' 3 = Value.pointer (some ⟨b11207, 0, none⟩) ∧ f' 7 = h17501 ∧ f' 61 = v1933 ∧ f' 62 = Value.int .i64 ((n1931.d.length : Int)) ∧ f' 63 = Value.int .i64 ((i11604 : Int)) ∧ f' 80 = h17651 ∧ f' 81 = Value.int .i64 ((row17649.length : Int)) ∧ f' 82 = Value.int .i64 ((i17756 : Int))) l19963) ?_ ?_
                    · rcases ite_some ht19964 with ⟨hc19966, ht19964⟩ | ⟨hc19966, ht19964⟩
                      · refine W_cond_t rfl hc19966 ?_
                        obtain ⟨row20186, q20187, ht19964⟩ := bind_some ht19964
                        obtain ⟨x20188, q20189, ht19964⟩ := bind_some ht19964
                        obtain ⟨g20190, c20191, e20192⟩ := (((((hS19521).f2).f2).f1).rows_split e17503 (idx_some q20187).2.2).arr_at q20189
                        obtain ⟨x20193, q20194, ht19964⟩ := bind_some ht19964
                        obtain ⟨g20195, c20196, e20197⟩ := (((((hS19521).f2).f2).f1).rows_split e17503 (idx_some q20187).2.2).arr_at q20194
                        obtain ⟨g20198, c20199, e20200⟩ := (((((hS19521).f2).f2).f1).rows_split e17503 (idx_some q20187).2.2).arr_at q20189
                        obtain ⟨l20201, q20202, ht19964⟩ := bind_some ht19964
                        obtain ⟨l20203, q20204, ht19964⟩ := bind_some ht19964
                        have hS20205 := ((hS19521).f2).f2
                        refine W_drawn (n0 := 18) hmix (by kernel_rfl) [RP.eq (h17501), RP.eq (Value.int .i64 ((i17756 : Int))), RP.eq (h17501), RP.eq (Value.int .i64 ((i17756 : Int))), RP.eq (Value.pointer (some ⟨g20190, 0 + ((i17756 : Int)).toNat * 1, none⟩)), RP.eq (Value.int .i64 (x20188)), RP.eq (h17501), RP.eq (Value.pointer (some ⟨b11207, 0, none⟩)), RP.eq (Value.int .i64 (b1935.A)), RP.eq (Value.pointer (some ⟨g20195, 0 + (b1935.A).toNat * 1, none⟩)), RP.eq (Value.int .i64 (x20193)), RP.eq (Value.pointer (some ⟨b11207, 2, none⟩)), RP.eq (Value.int .i64 (b1935.Most)), RP.eq (Value.int .i64 (IntKind.i64.wrap (x20193 + b1935.Most))), RP.eq (Value.int .i64 (x19542)), RP.eq (Value.int .i64 (IntKind.i64.wrap ((IntKind.i64.wrap (x20193 + b1935.Most)) + x19542))), RP.eq (Value.int .i64 (min x20188 (IntKind.i64.wrap ((IntKind.i64.wrap (x20193 + b1935.Most)) + x19542)))), RP.eq (Value.pointer (some ⟨g20198, 0 + ((i17756 : Int)).toNat * 1, none⟩))] hS20205 (HeadAll.cons ?_ (HeadAll.cons ?_ (HeadAll.cons ?_ (HeadAll.cons ?_ (HeadAll.cons ?_ (HeadAll.cons ?_ (HeadAll.cons ?_ (HeadAll.cons ?_ (HeadAll.cons ?_ (HeadAll.cons ?_ (HeadAll.cons ?_ (HeadAll.cons ?_ (HeadAll.cons ?_ (HeadAll.cons ?_ (HeadAll.cons ?_ (HeadAll.cons ?_ (HeadAll.cons ?_ (HeadAll.cons ?_ (HeadAll.nil))))))))))))))))))) ?_
                        · intro g20206 s20207 w20208 l20209 hS20210 fr20211 pre20212
                          refine head_run rfl (Exec.move (v := h17501) rfl (Eq.trans (fr20211 7 rfl) p19524) ?_)
                          exact head_done hS20210 rfl
                        · intro g20213 s20214 w20215 l20216 hS20217 fr20218 pre20219
                          refine head_run rfl (Exec.move (v := Value.int .i64 ((i17756 : Int))) rfl (fr20218 8 rfl) ?_)
                          exact head_done hS20217 rfl
                        · intro g20220 s20221 w20222 l20223 hS20224 fr20225 pre20226
                          refine head_run rfl (Exec.move (v := h17501) rfl (Eq.trans (fr20225 7 rfl) p19524) ?_)
                          exact head_done hS20224 rfl
                        · intro g20227 s20228 w20229 l20230 hS20231 fr20232 pre20233
                          refine head_run rfl (Exec.move (v := Value.int .i64 ((i17756 : Int))) rfl (fr20232 8 rfl) ?_)
                          exact head_done hS20231 rfl
                        · intro g20234 s20235 w20236 l20237 hS20238 fr20239 pre20240
                          have p20241 : g20234 91 = (h17501) := pre20240 0 _ rfl rfl
                          have p20242 : g20234 92 = (Value.int .i64 ((i17756 : Int))) := pre20240 1 _ rfl rfl
                          refine head_run rfl (Exec.index_slice S49 rfl (Eq.trans p20241 e20192) p20242 (idx_some q20189).1 (idx_some q20189).2.1 ?_)
                          exact head_done hS20238 rfl
                        · intro g20243 s20244 w20245 l20246 hS20247 fr20248 pre20249
                          have p20250 : g20243 93 = (Value.pointer (some ⟨g20190, 0 + ((i17756 : Int)).toNat * 1, none⟩)) := pre20249 0 _ rfl rfl
                          refine head_run rfl (Exec.load_arr (F := (encInt .i64)) (((hS20247).f1).rows_split e17503 (idx_some q20187).2.2) e20192 A3 rfl p20250 rfl q20189 (Sub.refl _) ?_)
                          intro v20251 q20252
                          exact head_done hS20247 (encInt_val.1 q20252)
                        · intro g20253 s20254 w20255 l20256 hS20257 fr20258 pre20259
                          refine head_run rfl (Exec.move (v := h17501) rfl (Eq.trans (fr20258 7 rfl) p19524) ?_)
                          exact head_done hS20257 rfl
                        · intro g20260 s20261 w20262 l20263 hS20264 fr20265 pre20266
                          refine head_run rfl (Exec.field F32_0 rfl (Eq.trans (fr20265 3 rfl) p19523) rfl ?_)
                          exact head_done hS20264 rfl
                        · intro g20267 s20268 w20269 l20270 hS20271 fr20272 pre20273
                          have p20274 : g20267 96 = (Value.pointer (some ⟨b11207, 0, none⟩)) := pre20273 0 _ rfl rfl
                          refine head_run rfl (Exec.load_box ((hS20271).f3) A3 rfl p20274 rfl ?_)
                          exact head_done hS20271 rfl
                        · intro g20275 s20276 w20277 l20278 hS20279 fr20280 pre20281
                          have p20282 : g20275 97 = (Value.int .i64 (b1935.A)) := pre20281 1 _ rfl rfl
                          have p20283 : g20275 95 = (h17501) := pre20281 0 _ rfl rfl
                          refine head_run rfl (Exec.index_slice S49 rfl (Eq.trans p20283 e20197) p20282 (idx_some q20194).1 (idx_some q20194).2.1 ?_)
                          exact head_done hS20279 rfl
                        · intro g20284 s20285 w20286 l20287 hS20288 fr20289 pre20290
                          have p20291 : g20284 98 = (Value.pointer (some ⟨g20195, 0 + (b1935.A).toNat * 1, none⟩)) := pre20290 0 _ rfl rfl
                          refine head_run rfl (Exec.load_arr (F := (encInt .i64)) (((hS20288).f1).rows_split e17503 (idx_some q20187).2.2) e20197 A3 rfl p20291 rfl q20194 (Sub.refl _) ?_)
                          intro v20292 q20293
                          exact head_done hS20288 (encInt_val.1 q20293)
                        · intro g20294 s20295 w20296 l20297 hS20298 fr20299 pre20300
                          refine head_run rfl (Exec.field F32_2 rfl (Eq.trans (fr20299 3 rfl) p19523) rfl ?_)
                          exact head_done hS20298 rfl
                        · intro g20301 s20302 w20303 l20304 hS20305 fr20306 pre20307
                          have p20308 : g20301 100 = (Value.pointer (some ⟨b11207, 2, none⟩)) := pre20307 0 _ rfl rfl
                          refine head_run rfl (Exec.load_box ((hS20305).f3) A3 rfl p20308 rfl ?_)
                          exact head_done hS20305 rfl
                        · intro g20309 s20310 w20311 l20312 hS20313 fr20314 pre20315
                          have p20316 : g20309 99 = (Value.int .i64 (x20193)) := pre20315 0 _ rfl rfl
                          have p20317 : g20309 101 = (Value.int .i64 (b1935.Most)) := pre20315 1 _ rfl rfl
                          refine head_run rfl (Exec.add rfl p20316 p20317 ?_)
                          exact head_done hS20313 rfl
                        · intro g20318 s20319 w20320 l20321 hS20322 fr20323 pre20324
                          refine head_run rfl (Exec.move (v := Value.int .i64 (x19542)) rfl (fr20323 9 rfl) ?_)
                          exact head_done hS20322 rfl
                        · intro g20325 s20326 w20327 l20328 hS20329 fr20330 pre20331
                          have p20332 : g20325 102 = (Value.int .i64 (IntKind.i64.wrap (x20193 + b1935.Most))) := pre20331 0 _ rfl rfl
                          have p20333 : g20325 103 = (Value.int .i64 (x19542)) := pre20331 1 _ rfl rfl
                          refine head_run rfl (Exec.add rfl p20332 p20333 ?_)
                          exact head_done hS20329 rfl
                        · intro g20334 s20335 w20336 l20337 hS20338 fr20339 pre20340
                          have p20341 : g20334 104 = (Value.int .i64 (IntKind.i64.wrap ((IntKind.i64.wrap (x20193 + b1935.Most)) + x19542))) := pre20340 1 _ rfl rfl
                          have p20342 : g20334 94 = (Value.int .i64 (x20188)) := pre20340 0 _ rfl rfl
                          refine head_run rfl (Exec.min2 rfl p20342 p20341 ?_)
                          exact head_done hS20338 rfl
                        · intro g20343 s20344 w20345 l20346 hS20347 fr20348 pre20349
                          have p20350 : g20343 89 = (h17501) := pre20349 0 _ rfl rfl
                          have p20351 : g20343 90 = (Value.int .i64 ((i17756 : Int))) := pre20349 1 _ rfl rfl
                          refine head_run rfl (Exec.index_slice S49 rfl (Eq.trans p20350 e20200) p20351 (idx_some q20189).1 (idx_some q20189).2.1 ?_)
                          exact head_done hS20347 rfl
                        · intro g20352 s20353 w20354 l20355 hS20356 fr20357 hR20358
                          have p20359 : g20352 89 = (h17501) := hR20358 0 rfl
                          have p20360 : g20352 90 = (Value.int .i64 ((i17756 : Int))) := hR20358 1 rfl
                          have p20361 : g20352 91 = (h17501) := hR20358 2 rfl
                          have p20362 : g20352 92 = (Value.int .i64 ((i17756 : Int))) := hR20358 3 rfl
                          have p20363 : g20352 93 = (Value.pointer (some ⟨g20190, 0 + ((i17756 : Int)).toNat * 1, none⟩)) := hR20358 4 rfl
                          have p20364 : g20352 94 = (Value.int .i64 (x20188)) := hR20358 5 rfl
                          have p20365 : g20352 95 = (h17501) := hR20358 6 rfl
                          have p20366 : g20352 96 = (Value.pointer (some ⟨b11207, 0, none⟩)) := hR20358 7 rfl
                          have p20367 : g20352 97 = (Value.int .i64 (b1935.A)) := hR20358 8 rfl
                          have p20368 : g20352 98 = (Value.pointer (some ⟨g20195, 0 + (b1935.A).toNat * 1, none⟩)) := hR20358 9 rfl
                          have p20369 : g20352 99 = (Value.int .i64 (x20193)) := hR20358 10 rfl
                          have p20370 : g20352 100 = (Value.pointer (some ⟨b11207, 2, none⟩)) := hR20358 11 rfl
                          have p20371 : g20352 101 = (Value.int .i64 (b1935.Most)) := hR20358 12 rfl
                          have p20372 : g20352 102 = (Value.int .i64 (IntKind.i64.wrap (x20193 + b1935.Most))) := hR20358 13 rfl
                          have p20373 : g20352 103 = (Value.int .i64 (x19542)) := hR20358 14 rfl
                          have p20374 : g20352 104 = (Value.int .i64 (IntKind.i64.wrap ((IntKind.i64.wrap (x20193 + b1935.Most)) + x19542))) := hR20358 15 rfl
                          have p20375 : g20352 105 = (Value.int .i64 (min x20188 (IntKind.i64.wrap ((IntKind.i64.wrap (x20193 + b1935.Most)) + x19542)))) := hR20358 16 rfl
                          have p20376 : g20352 106 = (Value.pointer (some ⟨g20198, 0 + ((i17756 : Int)).toNat * 1, none⟩)) := hR20358 17 rfl
                          refine WL_step rfl rfl (Exec.store_arr (((hS20356).f1).rows_split e17503 (idx_some q20187).2.2) e20200 A3 rfl p20376 rfl p20375 (encInt_val.2 rfl) q20202 ?_)
                          intro w20377 hS20378
                          have hS20379 := (hS20378).rows_back e17503 (setI_some q20204).2.1
                          rw [← (setI_some q20204).2.2] at hS20379
                          have hS20380 := (hS20379).f1
                          refine WL_nil (at_normal ?_)
                          have e20381 := Option.some.inj ht19964
                          subst l19963
                          have hS20382 := (hS20380).f3
                          have hS20383 := ((hS20382).f2).f2
                          have hS20384 := (hS20383).f3
                          exact ⟨s20353, l20355, hS20384, (Eq.trans (fr20357 0 rfl) p19522), (Eq.trans (fr20357 3 rfl) p19523), (Eq.trans (fr20357 7 rfl) p19524), (Eq.trans (fr20357 61 rfl) p19525), (Eq.trans (fr20357 62 rfl) p19526), (Eq.trans (fr20357 63 rfl) p19527), (Eq.trans (fr20357 80 rfl) p19528), (Eq.trans (fr20357 81 rfl) p19529), (Eq.trans (fr20357 82 rfl) x19530)⟩
                      · refine W_cond_f rfl hc19966 ?_
                        replace hc19966 := not_true hc19966
                        refine W_skip (at_normal ?_)
                        have e20385 := Option.some.inj ht19964
                        subst l19963
                        have hS20386 := (hS19521).f3
                        have hS20387 := ((hS20386).f3).f3
                        have hS20388 := (hS20387).f3
                        exact ⟨s19519, (PHeap.le_refl _), hS20388, p19522, p19523, p19524, p19525, p19526, p19527, p19528, p19529, x19530⟩
                    · intro f20389 w20390 hM20391
                      obtain ⟨s20392, l20393, hS20394, p20395, p20396, p20397, p20398, p20399, p20400, p20401, p20402, p20403⟩ := hM20391
                      refine (ib_normal (at_normal ?_))
                      refine W_region ?_
                      refine WL_step rfl rfl (Exec.add rfl p20403 rfl ?_)
                      refine WL_step rfl rfl (Exec.move (v := Value.int .i64 (IntKind.i64.wrap ((i17756 : Int) + 1))) rfl rfl ?_)
                      refine WL_nil (at_normal ?_)
                      have e20404 := Option.some.inj hm19518
                      subst s19513
                      have hS20405 := (hS20394).f3
                      have hS20406 := ((hS20405).f3).f3
                      have hS20407 := (hS20406).f3
                      exact ⟨s20392, (PHeap.le.trans l19520 l20393), hS20407, p20395, p20396, p20397, p20398, p20399, p20400, p20401, p20402, (Eq.trans rfl (wrap_up hi19516 (by have h := must_some q17755; simpa [maxLen] using h)))⟩
                  · intro f20408 w20409 hI20410
                    obtain ⟨s20411, l20412, hS20413, p20414, p20415, p20416, p20417, p20418, p20419, p20420, p20421, x20422⟩ := hI20410
                    refine W_seq ?_
                    refine W_region ?_
                    refine WL_step rfl rfl (Exec.lss rfl x20422 p20421 ?_)
                    refine WL_nil (at_normal ?_)
                    refine W_seq ?_
                    refine W_false (congrArg Value.bool (decide_eq_false (by omega))) ?_
                    refine W_exit (at_exit (at_exit (ib_here (ib_normal (at_normal ?_)))))
                    refine W_region ?_
                    refine WL_step rfl rfl (Exec.add rfl p20419 rfl ?_)
                    refine WL_step rfl rfl (Exec.move (v := Value.int .i64 (IntKind.i64.wrap ((i11604 : Int) + 1))) rfl rfl ?_)
                    refine WL_nil (at_normal ?_)
                    have e20423 := Option.some.inj hm17480
                    subst s17475
                    have hS20424 := (hS20413).f3
                    have hS20425 := ((hS20424).f3).f3
                    have hS20426 := (hS20425).f3
                    exact ⟨s20411, (PHeap.le.trans (PHeap.le.trans l17482 l17740) l20412), hS20426, p20414, p20415, p20417, p20418, (Eq.trans rfl (wrap_up hi17478 (by have h := (((hS11594).f2).f2).f1.rows_len; have h2 := (((hS11594).f2).f2).arr_le; omega)))⟩
            · intro f20427 w20428 hI20429
              obtain ⟨s20430, l20431, hS20432, p20433, p20434, p20435, p20436, x20437⟩ := hI20429
              refine W_seq ?_
              refine W_region ?_
              refine WL_step rfl rfl (Exec.lss rfl x20437 p20436 ?_)
              refine WL_nil (at_normal ?_)
              refine W_seq ?_
              refine W_false (congrArg Value.bool (decide_eq_false (by omega))) ?_
              refine W_exit (at_exit (at_exit (ib_here (at_normal ?_))))
              refine W_seq ?_
              refine W_region ?_
              refine WL_step rfl rfl (Exec.assign (v := errV 30 (none)) rfl rfl ?_)
              refine WL_nil (at_normal ?_)
              refine W_ret ?_
              have e20439 := Option.some.inj hm
              subst r
              refine ⟨_, ret1 rfl, ?_⟩
              have hS20440 := ((hS20432).f3).drop
              have hS20441 := ((hS20440).f2).f2
              have hS20442 := (hS20441).f2
              exact ⟨s20430, (PHeap.le.trans (PHeap.le.trans (PHeap.le.trans l11263 l11563) l11593) l20431), hS20442, rfl⟩

theorem N19 : (Try.f19.name == "runtime.NumGoroutine") = false := by kernel_rfl

theorem law54_made_sim {w0 w : World} {s : PHeap} {H : List Res} {n18 : Int} {bounds19 : (List Bound)} {v20 : Value} {r : (Option stn_Network) × Bool} (hm : law54_made_p n18 bounds19 = some r) (hS : St w0 s (H) w) (a21 : SliceRep encBound s v20 bounds19) :
    Calls Try.prog 19 #[Value.int .i64 (n18), v20] w fun e w' => ∃ v, e = .returned v ∧ ((un2 fun (p_d20672 : (Option stn_Network)) (y20673 : Bool) => (∃ d20672 : stn_Network, p_d20672 = some d20672 ∧ ∃ (s20677 : PHeap) (b20674 : Nat) (v20675 : Value) (hs20676 : List Value), PHeap.le s s20677 ∧ St w0 s20677 (Res.box b20674 63 [v20675] :: Res.arr encRaw 49 v20675 hs20676 :: Res.rows (encInt .i64) 3 hs20676 d20672.d :: H) w' ∧ v = Value.tuple #[Value.pointer (some ⟨b20674, 0, none⟩), Value.bool (y20673)]) ∨ (p_d20672 = none ∧ ∃ (s20678 : PHeap) , PHeap.le s s20678 ∧ St w0 s20678 (H) w' ∧ v = Value.tuple #[Value.pointer none, Value.bool (y20673)])) r) := by
  unfold law54_made_p at hm
  refine calls_of_W Try.func19 rfl rfl ?_
  refine W_seq ?_
  refine W_region ?_
  refine WL_step rfl rfl (Exec.assign (v := Value.pointer none) rfl rfl ?_)
  refine WL_step rfl rfl (Exec.assign (v := Value.bool (false)) rfl rfl ?_)
  refine WL_nil (at_normal ?_)
  refine W_seq ?_
  refine W_region ?_
  refine WL_step rfl rfl (Exec.move (v := Value.int .i64 (n18)) rfl rfl ?_)
  obtain ⟨t20697, q20698, hm⟩ := bind_some hm
  obtain ⟨pd20699, y20700⟩ := t20697
  replace hm := un2_eq hm
  refine WL_step rfl rfl (Exec.call rfl rfl Try.func10 rfl N10 (args_cons rfl args_nil) ((stn_New_sim q20698 hS ).mono ?_))
  rintro _ w20701 ⟨_, rfl, hp20702⟩
  refine ⟨_, rfl, ?_⟩
  rcases hp20702 with ⟨d20703, rfl, s20704, v20707, v20708, v20709, l20705, hS20706, rfl⟩ | ⟨rfl, s20711, l20712, hS20713, rfl⟩
  · replace hm := optC_some hm
    refine WL_step rfl rfl (Exec.move (v := Value.tuple #[Value.pointer (some ⟨v20707, 0, none⟩), errV 30 (y20700)]) rfl rfl ?_)
    refine WL_step rfl rfl (Exec.extract (v := Value.pointer (some ⟨v20707, 0, none⟩)) rfl rfl rfl ?_)
    refine WL_step rfl rfl (Exec.extract (v := errV 30 (y20700)) rfl rfl rfl ?_)
    refine WL_step rfl rfl (Exec.assign (v := Value.pointer (some ⟨v20707, 0, none⟩)) rfl rfl ?_)
    refine WL_step rfl rfl (Exec.assign (v := errV 30 (y20700)) rfl rfl ?_)
    refine WL_nil (at_normal ?_)
    refine W_seq ?_
    refine W_seq ?_
    refine W_mid (M := fun f' w' => ∃ (s20716 : PHeap) , PHeap.le s20704 s20716 ∧ St w0 s20716 (Res.box v20707 63 [v20708] :: Res.arr encRaw 49 v20708 v20709 :: Res.rows (encInt .i64) 3 v20709 d20703.d :: H) w' ∧ f' 1 = v20 ∧ f' 6 = Value.pointer (some ⟨v20707, 0, none⟩) ∧ f' 20 = Value.bool ((y20700.isSome && true))) ?_ ?_
    · refine W_region ?_
      refine WL_step rfl rfl (Exec.move (v := errV 30 (y20700)) rfl rfl ?_)
      refine WL_step rfl rfl (Exec.err_neq_nil (T := 30) Try.underlying26 rfl rfl rfl ?_)
      refine WL_step rfl rfl (Exec.move (v := Value.bool (y20700.isSome)) rfl rfl ?_)
      by_cases hc20717 : y20700.isSome = true
      · refine WL_pass rfl (yield_of rfl (congrArg Value.bool hc20717)) rfl rfl ?_
        refine WL_pass rfl (yield_of rfl (congrArg Value.bool hc20717)) rfl rfl ?_
        refine WL_step rfl rfl (Exec.pick_t (v := Value.bool (true)) rfl (congrArg Value.bool hc20717) rfl ?_)
        refine WL_nil (at_normal ?_)
        have hS20718 := ((hS20706).f2).f2
        have hS20719 := (hS20718).f2
        exact ⟨s20704, (PHeap.le_refl _), hS20719, rfl, rfl, (congrArg Value.bool (and_t hc20717)).symm⟩
      · replace hc20717 := not_true hc20717
        refine WL_run rfl (yield_of rfl (congrArg Value.bool hc20717)) rfl (Exec.move (v := Value.pointer (some ⟨v20707, 0, none⟩)) rfl rfl ?_)
        refine WL_run rfl (yield_of rfl (congrArg Value.bool hc20717)) rfl (Exec.ptr_eql_nil Try.underlying24 rfl rfl rfl ?_)
        refine WL_step rfl rfl (Exec.pick_f (v := Value.bool (false)) rfl (congrArg Value.bool hc20717) rfl ?_)
        refine WL_nil (at_normal ?_)
        have hS20720 := ((hS20706).f2).f2
        have hS20721 := (hS20720).f2
        exact ⟨s20704, (PHeap.le_refl _), hS20721, rfl, rfl, (congrArg Value.bool (and_f hc20717)).symm⟩
    · intro f20722 w20723 hM20724
      obtain ⟨s20725, l20726, hS20727, p20728, p20729, p20730⟩ := hM20724
      refine (at_normal ?_)
      rcases ite_some hm with ⟨hc20731, hm⟩ | ⟨hc20731, hm⟩
      · refine W_cond_t p20730 hc20731 ?_
        refine W_seq ?_
        refine W_region ?_
        refine WL_step rfl rfl (Exec.assign (v := Value.pointer none) rfl rfl ?_)
        refine WL_step rfl rfl (Exec.assign (v := Value.bool (false)) rfl rfl ?_)
        refine WL_nil (at_normal ?_)
        refine W_ret (at_ret ?_)
        have e20733 := Option.some.inj hm
        subst r
        refine ⟨_, ret2 rfl, ?_⟩
        have hS20734 := (hS20727).drop
        have hS20735 := ((hS20734).drop).drop
        refine (Or.inr ⟨rfl, ?_⟩); exact ⟨s20725, (PHeap.le.trans l20705 l20726), hS20735, (tup2 rfl rfl)⟩
      · refine W_cond_f p20730 hc20731 ?_
        replace hc20731 := not_true hc20731
        refine W_skip (at_normal ?_)
        refine W_seq ?_
        refine W_seq ?_
        refine W_region ?_
        refine WL_step rfl rfl (Exec.move (v := v20) rfl p20728 ?_)
        refine WL_step rfl rfl (Exec.len_rep S22 rfl rfl (a21.mono (PHeap.le.trans l20705 l20726)) ?_)
        refine WL_step rfl rfl (Exec.move (v := Value.int .i64 (0)) rfl rfl ?_)
        refine WL_nil (at_normal ?_)
        obtain ⟨c20879, hB20880, hr20881, hn20882, hb20883⟩ := ctl_some hm
        refine W_mid (M := fun f' w' => ∃ s', (c20879 = .next s' ∨ c20879 = .brk s') ∧ (fun (l20878 : (List (List Int))) => ∃ (s20885 : PHeap) , PHeap.le s20725 s20885 ∧ St w0 s20885 (Res.box v20707 63 [v20708] :: Res.arr encRaw 49 v20708 v20709 :: Res.rows (encInt .i64) 3 v20709 l20878 :: H) w' ∧ f' 6 = Value.pointer (some ⟨v20707, 0, none⟩) ∧ f' 21 = v20 ∧ f' 22 = Value.int .i64 ((bounds19.length : Int))) s') ?_ ?_
        · refine W_block (W_forC (fun k' s' f' w' => (fun (l20783 : (List (List Int))) => ∃ (s20884 : PHeap) , PHeap.le s20725 s20884 ∧ St w0 s20884 (Res.box v20707 63 [v20708] :: Res.arr encRaw 49 v20708 v20709 :: Res.rows (encInt .i64) 3 v20709 l20783 :: H) w' ∧ f' 6 = Value.pointer (some ⟨v20707, 0, none⟩) ∧ f' 21 = v20 ∧ f' 22 = Value.int .i64 ((bounds19.length : Int)) ∧ f' 23 = Value.int .i64 (k' : Int)) s') hB20880 ?_ ?_ ?_)
          · have hS20886 := ((hS20727).f2).f2
            have hS20887 := (hS20886).f2
            exact ⟨s20725, (PHeap.le_refl _), hS20887, p20729, rfl, rfl, rfl⟩
          · intro i20736 l20783 c20889 f20890 w20891 hi20895 hI20892 hm20893 hres20894
            obtain ⟨s20896, l20897, hS20898, p20899, p20900, p20901, x20902⟩ := hI20892
            refine W_seq ?_
            refine W_region ?_
            refine WL_step rfl rfl (Exec.lss rfl x20902 p20901 ?_)
            refine WL_nil (at_normal ?_)
            refine W_seq ?_
            refine W_true (congrArg Value.bool (decide_eq_true (by omega))) ?_
            refine W_skip (at_normal ?_)
            refine W_seq ?_
            refine W_block ?_
            refine W_seq ?_
            refine W_region ?_
            obtain ⟨x20915, q20916, hm20893⟩ := bind_some hm20893
            refine WL_step rfl rfl (Exec.index_rep S22 rfl p20900 x20902 (a21.mono (PHeap.le.trans (PHeap.le.trans l20705 l20726) l20897)) q20916 ?_)
            intro b20917 o20918 a20919
            refine WL_step rfl rfl (Exec.load_at (E := encBound) hS20898 A32 rfl rfl rfl a20919 ?_)
            intro v20920 q20921
            obtain rfl := encBound_val.1 q20921
            refine WL_step rfl rfl (Exec.alloc (cs := [Value.int .i64 (0), Value.int .i64 (0), Value.int .i64 (0)]) hS20898 Z32 rfl rfl ?_)
            intro b20922 w20923 hS20924
            refine WL_step rfl rfl (Exec.store_box (ds := [Value.int .i64 (x20915.A), Value.int .i64 (x20915.B), Value.int .i64 (x20915.Most)]) (es := [Value.int .i64 (x20915.A), Value.int .i64 (x20915.B), Value.int .i64 (x20915.Most)]) hS20924 A32 rfl rfl rfl rfl (one_cons rfl (one_cons rfl (one_cons rfl one_nil))) (Nat.le_of_ble_eq_true rfl) rfl ?_)
            intro w20925 hS20926
            refine WL_nil (at_normal ?_)
            refine W_seq ?_
            refine W_region ?_
            refine WL_step rfl rfl (Exec.move (v := Value.pointer (some ⟨v20707, 0, none⟩)) rfl p20899 ?_)
            refine WL_step rfl rfl (Exec.load_box_agg (ds := [Value.int .i64 (x20915.A), Value.int .i64 (x20915.B), Value.int .i64 (x20915.Most)]) (hS20926) A32 rfl rfl rfl ?_)
            obtain ⟨t20937, q20938, hm20893⟩ := bind_some hm20893
            obtain ⟨y20939, l20940⟩ := t20937
            replace hm20893 := un2_eq hm20893
            have hS20941 := ((hS20926).f3).f3
            have hS20942 := (hS20941).f3
            refine WL_step rfl rfl (Exec.call rfl rfl Try.func14 rfl N14 (args_cons rfl (args_cons rfl args_nil)) ((stn_Network_Add_sim q20938 hS20942 ).mono ?_))
            rintro _ w20943 ⟨_, rfl, ⟨s20944, l20945, hS20946, rfl⟩⟩
            refine ⟨_, rfl, ?_⟩
            refine WL_step rfl rfl (Exec.err_neq_nil (T := 30) Try.underlying26 rfl rfl rfl ?_)
            refine WL_nil (at_normal ?_)
            rcases ite_some hm20893 with ⟨hc20947, hm20893⟩ | ⟨hc20947, hm20893⟩
            · refine W_cond_t rfl hc20947 ?_
              refine W_seq ?_
              refine W_region ?_
              refine WL_step rfl rfl (Exec.assign (v := Value.pointer none) rfl rfl ?_)
              refine WL_step rfl rfl (Exec.assign (v := Value.bool (false)) rfl rfl ?_)
              refine WL_nil (at_normal ?_)
              refine W_ret (ib_ret (at_ret (at_ret (ib_ret (at_ret (at_ret ?_))))))
              have e20948 := Option.some.inj hm20893
              subst c20889
              have hq20949 := hr20881 _ (hres20894 (by intro _ h; cases h))
              have e20950 := Option.some.inj hq20949
              subst r
              refine ⟨_, ret2 rfl, ?_⟩
              have hS20951 := (hS20946).drop
              have hS20952 := ((hS20951).drop).drop
              have hS20953 := (hS20952).drop
              refine (Or.inr ⟨rfl, ?_⟩); exact ⟨s20944, (PHeap.le.trans (PHeap.le.trans (PHeap.le.trans l20705 l20726) l20897) l20945), hS20953, (tup2 rfl rfl)⟩
            · refine W_cond_f rfl hc20947 ?_
              replace hc20947 := not_true hc20947
              refine W_skip (ib_normal (at_normal ?_))
              refine W_region ?_
              refine WL_step rfl rfl (Exec.add rfl x20902 rfl ?_)
              refine WL_step rfl rfl (Exec.move (v := Value.int .i64 (IntKind.i64.wrap ((i20736 : Int) + 1))) rfl rfl ?_)
              refine WL_nil (at_normal ?_)
              have e20954 := Option.some.inj hm20893
              subst c20889
              have hS20955 := ((hS20946).f3).drop
              have hS20956 := ((hS20955).f2).f2
              have hS20957 := (hS20956).f2
              refine ⟨_, rfl, ?_⟩; exact ⟨s20944, (PHeap.le.trans l20897 l20945), hS20957, p20899, p20900, p20901, (Eq.trans rfl (wrap_up hi20895 (SliceRep.le (a21.mono (PHeap.le.trans l20705 l20726)))))⟩
          · intro l20783 f20958 w20959 hI20960 hres20961
            obtain ⟨s20962, l20963, hS20964, p20965, p20966, p20967, x20968⟩ := hI20960
            refine W_seq ?_
            refine W_region ?_
            refine WL_step rfl rfl (Exec.lss rfl x20968 p20967 ?_)
            refine WL_nil (at_normal ?_)
            refine W_seq ?_
            refine W_false (congrArg Value.bool (decide_eq_false (by omega))) ?_
            refine W_exit (at_exit (at_exit (ib_here (at_normal ?_))))
            have hS20969 := ((hS20964).f2).f2
            have hS20970 := (hS20969).f2
            refine ⟨_, .inl hres20961, ?_⟩; exact ⟨s20962, l20963, hS20970, p20965, p20966, p20967⟩
        · rintro f20971 w20972 ⟨l20878, hc20973, hM20974⟩
          have hm := hc20973.elim (hn20882 _) (hb20883 _)
          clear hc20973
          obtain ⟨s20975, l20976, hS20977, p20978, p20979, p20980⟩ := hM20974
          refine (at_normal ?_)
          refine W_seq ?_
          refine W_region ?_
          refine WL_step rfl rfl (Exec.move (v := Value.pointer (some ⟨v20707, 0, none⟩)) rfl p20978 ?_)
          refine WL_step rfl rfl (Exec.assign (v := Value.pointer (some ⟨v20707, 0, none⟩)) rfl rfl ?_)
          refine WL_step rfl rfl (Exec.assign (v := Value.bool (true)) rfl rfl ?_)
          refine WL_nil (at_normal ?_)
          refine W_ret ?_
          have e20982 := Option.some.inj hm
          subst r
          refine ⟨_, ret2 rfl, ?_⟩
          have hS20983 := ((hS20977).f2).f2
          have hS20984 := (hS20983).f2
          refine (Or.inl ⟨_, rfl, ?_⟩); exact ⟨s20975, v20707, v20708, v20709, (PHeap.le.trans (PHeap.le.trans l20705 l20726) l20976), hS20984, (tup2 rfl rfl)⟩
  · replace hm := optC_none hm
    refine WL_step rfl rfl (Exec.move (v := Value.tuple #[Value.pointer none, errV 30 (y20700)]) rfl rfl ?_)
    refine WL_step rfl rfl (Exec.extract (v := Value.pointer none) rfl rfl rfl ?_)
    refine WL_step rfl rfl (Exec.extract (v := errV 30 (y20700)) rfl rfl rfl ?_)
    refine WL_step rfl rfl (Exec.assign (v := Value.pointer none) rfl rfl ?_)
    refine WL_step rfl rfl (Exec.assign (v := errV 30 (y20700)) rfl rfl ?_)
    refine WL_nil (at_normal ?_)
    refine W_seq ?_
    refine W_seq ?_
    obtain ⟨t20986, ht20987, hm⟩ := bind_some hm
    refine W_mid (M := fun f' w' => (fun (_ : Unit) => ∃ (s20988 : PHeap) , PHeap.le s20711 s20988 ∧ St w0 s20988 (H) w' ∧ f' 1 = v20 ∧ f' 6 = Value.pointer none ∧ f' 20 = Value.bool (true)) t20986) ?_ ?_
    · refine W_region ?_
      refine WL_step rfl rfl (Exec.move (v := errV 30 (y20700)) rfl rfl ?_)
      refine WL_step rfl rfl (Exec.err_neq_nil (T := 30) Try.underlying26 rfl rfl rfl ?_)
      refine WL_step rfl rfl (Exec.move (v := Value.bool (y20700.isSome)) rfl rfl ?_)
      rcases ite_some ht20987 with ⟨hc20989, ht20987⟩ | ⟨hc20989, ht20987⟩
      · refine WL_pass rfl (yield_of rfl (congrArg Value.bool hc20989)) rfl rfl ?_
        refine WL_pass rfl (yield_of rfl (congrArg Value.bool hc20989)) rfl rfl ?_
        refine WL_step rfl rfl (Exec.pick_t (v := Value.bool (true)) rfl (congrArg Value.bool hc20989) rfl ?_)
        refine WL_nil (at_normal ?_)
        have e20990 := Option.some.inj ht20987
        subst t20986
        exact ⟨s20711, (PHeap.le_refl _), hS20713, rfl, rfl, rfl⟩
      · replace hc20989 := not_true hc20989
        refine WL_run rfl (yield_of rfl (congrArg Value.bool hc20989)) rfl (Exec.move (v := Value.pointer none) rfl rfl ?_)
        refine WL_run rfl (yield_of rfl (congrArg Value.bool hc20989)) rfl (Exec.ptr_eql_nil Try.underlying24 rfl rfl rfl ?_)
        refine WL_step rfl rfl (Exec.pick_f (v := Value.bool (true)) rfl (congrArg Value.bool hc20989) rfl ?_)
        refine WL_nil (at_normal ?_)
        have e20991 := Option.some.inj ht20987
        subst t20986
        exact ⟨s20711, (PHeap.le_refl _), hS20713, rfl, rfl, rfl⟩
    · intro f20992 w20993 hM20994
      obtain ⟨s20995, l20996, hS20997, p20998, p20999, p21000⟩ := hM20994
      refine (at_normal ?_)
      refine W_true p21000 ?_
      refine W_seq ?_
      refine W_region ?_
      refine WL_step rfl rfl (Exec.assign (v := Value.pointer none) rfl rfl ?_)
      refine WL_step rfl rfl (Exec.assign (v := Value.bool (false)) rfl rfl ?_)
      refine WL_nil (at_normal ?_)
      refine W_ret (at_ret ?_)
      have e21002 := Option.some.inj hm
      subst r
      refine ⟨_, ret2 rfl, ?_⟩
      refine (Or.inr ⟨rfl, ?_⟩); exact ⟨s20995, (PHeap.le.trans l20712 l20996), hS20997, (tup2 rfl rfl)⟩

theorem N15 : (Try.f15.name == "runtime.NumGoroutine") = false := by kernel_rfl

theorem stn_Network_Distance_sim {w0 w : World} {s : PHeap} {H : List Res} {n21059 : stn_Network} {a21063 : Int} {b21064 : Int} {b21060 : Nat} {v21061 : Value} {hs21062 : List Value} {r : Int × (Option Int)} (hm : stn_Network_Distance_p n21059 a21063 b21064 = some r) (hS : St w0 s (Res.box b21060 63 [v21061] :: Res.arr encRaw 49 v21061 hs21062 :: Res.rows (encInt .i64) 3 hs21062 n21059.d :: H) w)  :
    Calls Try.prog 15 #[Value.pointer (some ⟨b21060, 0, none⟩), Value.int .i64 (a21063), Value.int .i64 (b21064)] w fun e w' => ∃ v, e = .returned v ∧ ((un2 fun (y21142 : Int) (y21143 : (Option Int)) => ∃ (s21144 : PHeap) , PHeap.le s s21144 ∧ St w0 s21144 (Res.box b21060 63 [v21061] :: Res.arr encRaw 49 v21061 hs21062 :: Res.rows (encInt .i64) 3 hs21062 n21059.d :: H) w' ∧ v = Value.tuple #[Value.int .i64 (y21142), errV 30 (y21143)]) r) := by
  unfold stn_Network_Distance_p at hm
  refine calls_of_W Try.func15 rfl rfl ?_
  refine W_seq ?_
  refine W_region ?_
  refine WL_step rfl rfl (Exec.assign (v := Value.int .i64 (0)) rfl rfl ?_)
  refine WL_step rfl rfl (Exec.assign (v := errV 30 (none)) rfl rfl ?_)
  refine WL_nil (at_normal ?_)
  refine W_seq ?_
  refine W_seq ?_
  refine W_region ?_
  refine WL_step rfl rfl (Exec.move (v := Value.pointer (some ⟨b21060, 0, none⟩)) rfl rfl ?_)
  refine WL_step rfl rfl (Exec.ptr_eql_nil Try.underlying24 rfl rfl rfl ?_)
  refine WL_nil (at_normal ?_)
  refine W_false rfl ?_
  refine W_skip (at_normal ?_)
  refine W_seq ?_
  refine W_seq ?_
  refine W_mid (M := fun f' w' => ∃ (s21158 : PHeap) , PHeap.le s s21158 ∧ St w0 s21158 (Res.box b21060 63 [v21061] :: Res.arr encRaw 49 v21061 hs21062 :: Res.rows (encInt .i64) 3 hs21062 n21059.d :: H) w' ∧ f' 0 = Value.pointer (some ⟨b21060, 0, none⟩) ∧ f' 1 = Value.int .i64 (a21063) ∧ f' 2 = Value.int .i64 (b21064) ∧ f' 20 = Value.bool (((!(stn_Network_point_t n21059 a21063)) || !(stn_Network_point_t n21059 b21064)))) ?_ ?_
  · refine W_region ?_
    refine WL_step rfl rfl (Exec.move (v := Value.pointer (some ⟨b21060, 0, none⟩)) rfl rfl ?_)
    refine WL_step rfl rfl (Exec.move (v := Value.int .i64 (a21063)) rfl rfl ?_)
    have hS21159 := ((hS).f2).f2
    have hS21160 := (hS21159).f2
    refine WL_step rfl rfl (Exec.call rfl rfl Try.func26 rfl N26 (args_cons rfl (args_cons rfl args_nil)) ((stn_Network_point_sim (stn_Network_point_tot n21059 a21063) hS21160 ).mono ?_))
    rintro _ w21161 ⟨_, rfl, ⟨s21162, l21163, hS21164, rfl⟩⟩
    refine ⟨_, rfl, ?_⟩
    refine WL_step rfl rfl (Exec.not rfl rfl ?_)
    refine WL_step rfl rfl (Exec.move (v := Value.bool (!(stn_Network_point_t n21059 a21063))) rfl rfl ?_)
    by_cases hc21165 : (!(stn_Network_point_t n21059 a21063)) = true
    · refine WL_pass rfl (yield_of rfl (congrArg Value.bool hc21165)) rfl rfl ?_
      refine WL_pass rfl (yield_of rfl (congrArg Value.bool hc21165)) rfl rfl ?_
      refine WL_pass rfl (yield_of rfl (congrArg Value.bool hc21165)) rfl rfl ?_
      refine WL_pass rfl (yield_of rfl (congrArg Value.bool hc21165)) rfl rfl ?_
      refine WL_step rfl rfl (Exec.pick_t (v := Value.bool (true)) rfl (congrArg Value.bool hc21165) rfl ?_)
      refine WL_nil (at_normal ?_)
      have hS21166 := ((hS21164).f2).f2
      have hS21167 := (hS21166).f2
      exact ⟨s21162, l21163, hS21167, rfl, rfl, rfl, (congrArg Value.bool (or_t hc21165)).symm⟩
    · replace hc21165 := not_true hc21165
      refine WL_run rfl (yield_of rfl (congrArg Value.bool hc21165)) rfl (Exec.move (v := Value.pointer (some ⟨b21060, 0, none⟩)) rfl rfl ?_)
      refine WL_run rfl (yield_of rfl (congrArg Value.bool hc21165)) rfl (Exec.move (v := Value.int .i64 (b21064)) rfl rfl ?_)
      have hS21168 := ((hS21164).f2).f2
      have hS21169 := (hS21168).f2
      refine WL_run rfl (yield_of rfl (congrArg Value.bool hc21165)) rfl (Exec.call rfl rfl Try.func26 rfl N26 (args_cons rfl (args_cons rfl args_nil)) ((stn_Network_point_sim (stn_Network_point_tot n21059 b21064) hS21169 ).mono ?_))
      rintro _ w21170 ⟨_, rfl, ⟨s21171, l21172, hS21173, rfl⟩⟩
      refine ⟨_, rfl, ?_⟩
      refine WL_run rfl (yield_of rfl (congrArg Value.bool hc21165)) rfl (Exec.not rfl rfl ?_)
      refine WL_step rfl rfl (Exec.pick_f (v := Value.bool (!(stn_Network_point_t n21059 b21064))) rfl (congrArg Value.bool hc21165) rfl ?_)
      refine WL_nil (at_normal ?_)
      have hS21174 := ((hS21173).f2).f2
      have hS21175 := (hS21174).f2
      exact ⟨s21171, (PHeap.le.trans l21163 l21172), hS21175, rfl, rfl, rfl, (congrArg Value.bool (or_f hc21165)).symm⟩
  · intro f21176 w21177 hM21178
    obtain ⟨s21179, l21180, hS21181, p21182, p21183, p21184, p21185⟩ := hM21178
    refine (at_normal ?_)
    rcases ite_some hm with ⟨hc21186, hm⟩ | ⟨hc21186, hm⟩
    · refine W_cond_t p21185 hc21186 ?_
      refine W_seq ?_
      refine W_region ?_
      refine WL_step rfl rfl (Exec.makeInterface C30 rfl rfl ?_)
      refine WL_step rfl rfl (Exec.assign (v := Value.int .i64 (0)) rfl rfl ?_)
      refine WL_step rfl rfl (Exec.assign (v := errV 30 (some 1)) rfl rfl ?_)
      refine WL_nil (at_normal ?_)
      refine W_ret (at_ret ?_)
      have e21188 := Option.some.inj hm
      subst r
      refine ⟨_, ret2 rfl, ?_⟩
      have hS21189 := ((hS21181).f2).f2
      have hS21190 := (hS21189).f2
      exact ⟨s21179, l21180, hS21190, (tup2 rfl rfl)⟩
    · refine W_cond_f p21185 hc21186 ?_
      replace hc21186 := not_true hc21186
      refine W_skip (at_normal ?_)
      refine W_seq ?_
      refine W_region ?_
      refine WL_step rfl rfl (Exec.move (v := Value.pointer (some ⟨b21060, 0, none⟩)) rfl p21182 ?_)
      refine WL_step rfl rfl (Exec.nilCheck_ptr rfl rfl ?_)
      refine WL_step rfl rfl (Exec.field F63_0 rfl rfl rfl ?_)
      refine WL_step rfl rfl (Exec.load_box (hS21181) A61 rfl rfl rfl ?_)
      refine WL_step rfl rfl (Exec.move (v := Value.int .i64 (a21063)) rfl p21183 ?_)
      obtain ⟨row21208, q21209, hm⟩ := bind_some hm
      obtain ⟨h21210, e21211, e21212, _⟩ := ((((hS21181).f2).f2).f1).rows_at q21209
      obtain ⟨g21213, c21214, e21215⟩ := (((hS21181).f2).f2).arr_at e21211
      refine WL_step rfl rfl (Exec.index_slice S61 rfl e21215 rfl (idx_some e21211).1 (idx_some e21211).2.1 ?_)
      refine WL_step rfl rfl (Exec.load_arr (F := encRaw) (((hS21181).f2).f2) e21215 A49 rfl rfl rfl e21211 (Sub.refl _) ?_)
      intro v21216 q21217
      replace q21217 := (encRaw_val.1 q21217).1
      subst v21216
      refine WL_step rfl rfl (Exec.move (v := Value.int .i64 (b21064)) rfl p21184 ?_)
      obtain ⟨x21218, q21219, hm⟩ := bind_some hm
      obtain ⟨g21220, c21221, e21222⟩ := (((((hS21181).f2).f2).f1).rows_split e21212 (idx_some q21209).2.2).arr_at q21219
      refine WL_step rfl rfl (Exec.index_slice S49 rfl e21222 rfl (idx_some q21219).1 (idx_some q21219).2.1 ?_)
      refine WL_step rfl rfl (Exec.load_arr (F := (encInt .i64)) (((((hS21181).f2).f2).f1).rows_split e21212 (idx_some q21209).2.2) e21222 A3 rfl rfl rfl q21219 (Sub.refl _) ?_)
      intro v21223 q21224
      obtain rfl := encInt_val.1 q21224
      refine WL_step rfl rfl (Exec.assign (v := Value.int .i64 (x21218)) rfl rfl ?_)
      refine WL_step rfl rfl (Exec.assign (v := errV 30 (none)) rfl rfl ?_)
      refine WL_nil (at_normal ?_)
      refine W_ret ?_
      have e21226 := Option.some.inj hm
      subst r
      refine ⟨_, ret2 rfl, ?_⟩
      have hS21227 := ((hS21181).f2).f2
      have hS21228 := (hS21227).f2
      exact ⟨s21179, l21180, hS21228, (tup2 rfl rfl)⟩

theorem N16 : (Try.f16.name == "runtime.NumGoroutine") = false := by kernel_rfl

theorem stn_Network_Earliest_sim {w0 w : World} {s : PHeap} {H : List Res} {n21054 : stn_Network} {p21058 : Int} {b21055 : Nat} {v21056 : Value} {hs21057 : List Value} {r : Int × (Option Int)} (hm : stn_Network_Earliest_p n21054 p21058 = some r) (hS : St w0 s (Res.box b21055 63 [v21056] :: Res.arr encRaw 49 v21056 hs21057 :: Res.rows (encInt .i64) 3 hs21057 n21054.d :: H) w)  :
    Calls Try.prog 16 #[Value.pointer (some ⟨b21055, 0, none⟩), Value.int .i64 (p21058)] w fun e w' => ∃ v, e = .returned v ∧ ((un2 fun (y21252 : Int) (y21253 : (Option Int)) => ∃ (s21254 : PHeap) , PHeap.le s s21254 ∧ St w0 s21254 (Res.box b21055 63 [v21056] :: Res.arr encRaw 49 v21056 hs21057 :: Res.rows (encInt .i64) 3 hs21057 n21054.d :: H) w' ∧ v = Value.tuple #[Value.int .i64 (y21252), errV 30 (y21253)]) r) := by
  unfold stn_Network_Earliest_p at hm
  refine calls_of_W Try.func16 rfl rfl ?_
  refine W_seq ?_
  refine W_region ?_
  refine WL_step rfl rfl (Exec.assign (v := Value.int .i64 (0)) rfl rfl ?_)
  refine WL_step rfl rfl (Exec.assign (v := errV 30 (none)) rfl rfl ?_)
  refine WL_nil (at_normal ?_)
  refine W_seq ?_
  refine W_region ?_
  refine WL_step rfl rfl (Exec.move (v := Value.pointer (some ⟨b21055, 0, none⟩)) rfl rfl ?_)
  refine WL_step rfl rfl (Exec.move (v := Value.int .i64 (p21058)) rfl rfl ?_)
  obtain ⟨t21265, q21266, hm⟩ := bind_some hm
  obtain ⟨y21267, y21268⟩ := t21265
  replace hm := un2_eq hm
  have hS21269 := ((hS).f2).f2
  have hS21270 := (hS21269).f2
  refine WL_step rfl rfl (Exec.call rfl rfl Try.func15 rfl N15 (args_cons rfl (args_cons rfl (args_cons rfl args_nil))) ((stn_Network_Distance_sim q21266 hS21270 ).mono ?_))
  rintro _ w21271 ⟨_, rfl, ⟨s21272, l21273, hS21274, rfl⟩⟩
  refine ⟨_, rfl, ?_⟩
  refine WL_step rfl rfl (Exec.move (v := Value.tuple #[Value.int .i64 (y21267), errV 30 (y21268)]) rfl rfl ?_)
  refine WL_step rfl rfl (Exec.extract (v := Value.int .i64 (y21267)) rfl rfl rfl ?_)
  refine WL_step rfl rfl (Exec.extract (v := errV 30 (y21268)) rfl rfl rfl ?_)
  refine WL_step rfl rfl (Exec.assign (v := Value.int .i64 (y21267)) rfl rfl ?_)
  refine WL_step rfl rfl (Exec.assign (v := errV 30 (y21268)) rfl rfl ?_)
  refine WL_nil (at_normal ?_)
  refine W_seq ?_
  refine W_seq ?_
  refine W_region ?_
  refine WL_step rfl rfl (Exec.move (v := errV 30 (y21268)) rfl rfl ?_)
  refine WL_step rfl rfl (Exec.err_neq_nil (T := 30) Try.underlying26 rfl rfl rfl ?_)
  refine WL_nil (at_normal ?_)
  rcases ite_some hm with ⟨hc21275, hm⟩ | ⟨hc21275, hm⟩
  · refine W_cond_t rfl hc21275 ?_
    refine W_seq ?_
    refine W_region ?_
    refine WL_step rfl rfl (Exec.move (v := errV 30 (y21268)) rfl rfl ?_)
    refine WL_step rfl rfl (Exec.assign (v := Value.int .i64 (0)) rfl rfl ?_)
    refine WL_step rfl rfl (Exec.assign (v := errV 30 (y21268)) rfl rfl ?_)
    refine WL_nil (at_normal ?_)
    refine W_ret (at_ret ?_)
    have e21277 := Option.some.inj hm
    subst r
    refine ⟨_, ret2 rfl, ?_⟩
    have hS21278 := ((hS21274).f2).f2
    have hS21279 := (hS21278).f2
    exact ⟨s21272, l21273, hS21279, (tup2 rfl rfl)⟩
  · refine W_cond_f rfl hc21275 ?_
    replace hc21275 := not_true hc21275
    refine W_skip (at_normal ?_)
    refine W_seq ?_
    refine W_seq ?_
    refine W_region ?_
    refine WL_step rfl rfl (Exec.move (v := Value.int .i64 (y21267)) rfl rfl ?_)
    refine WL_step rfl rfl (Exec.geq rfl rfl rfl ?_)
    refine WL_nil (at_normal ?_)
    rcases ite_some hm with ⟨hc21280, hm⟩ | ⟨hc21280, hm⟩
    · refine W_cond_t rfl hc21280 ?_
      refine W_seq ?_
      refine W_region ?_
      refine WL_step rfl rfl (Exec.makeInterface C30 rfl rfl ?_)
      refine WL_step rfl rfl (Exec.assign (v := Value.int .i64 (0)) rfl rfl ?_)
      refine WL_step rfl rfl (Exec.assign (v := errV 30 (some 3)) rfl rfl ?_)
      refine WL_nil (at_normal ?_)
      refine W_ret (at_ret ?_)
      have e21282 := Option.some.inj hm
      subst r
      refine ⟨_, ret2 rfl, ?_⟩
      have hS21283 := ((hS21274).f2).f2
      have hS21284 := (hS21283).f2
      exact ⟨s21272, l21273, hS21284, (tup2 rfl rfl)⟩
    · refine W_cond_f rfl hc21280 ?_
      replace hc21280 := not_true hc21280
      refine W_skip (at_normal ?_)
      refine W_seq ?_
      refine W_region ?_
      refine WL_step rfl rfl (Exec.move (v := Value.int .i64 (y21267)) rfl rfl ?_)
      refine WL_step rfl rfl (Exec.neg rfl rfl ?_)
      refine WL_step rfl rfl (Exec.assign (v := Value.int .i64 (IntKind.i64.wrap (0 - y21267))) rfl rfl ?_)
      refine WL_step rfl rfl (Exec.assign (v := errV 30 (none)) rfl rfl ?_)
      refine WL_nil (at_normal ?_)
      refine W_ret ?_
      have e21286 := Option.some.inj hm
      subst r
      refine ⟨_, ret2 rfl, ?_⟩
      have hS21287 := ((hS21274).f2).f2
      have hS21288 := (hS21287).f2
      exact ⟨s21272, l21273, hS21288, (tup2 rfl rfl)⟩

theorem N22 : (Try.f22.name == "runtime.NumGoroutine") = false := by kernel_rfl

theorem stn_Network_Times_sim {w0 w : World} {s : PHeap} {H : List Res} {n21048 : stn_Network} {b21049 : Nat} {v21050 : Value} {hs21051 : List Value} {r : (List Int) × (Option Int)} (hm : stn_Network_Times_p n21048 = some r) (hS : St w0 s (Res.box b21049 63 [v21050] :: Res.arr encRaw 49 v21050 hs21051 :: Res.rows (encInt .i64) 3 hs21051 n21048.d :: H) w)  :
    Calls Try.prog 22 #[Value.pointer (some ⟨b21049, 0, none⟩)] w fun e w' => ∃ v, e = .returned v ∧ ((un2 fun (y21512 : (List Int)) (y21513 : (Option Int)) => ∃ (s21520 : PHeap) (v21519 : Value), PHeap.le s s21520 ∧ St w0 s21520 (Res.box b21049 63 [v21050] :: Res.arr encRaw 49 v21050 hs21051 :: Res.rows (encInt .i64) 3 hs21051 n21048.d :: H) w' ∧ v = Value.tuple #[v21519, errV 30 (y21513)] ∧ SliceRep (encInt .i64) s21520 v21519 y21512) r) := by
  unfold stn_Network_Times_p at hm
  refine calls_of_W Try.func22 rfl rfl ?_
  refine W_seq ?_
  refine W_region ?_
  refine WL_step rfl rfl (Exec.assign (v := Value.slice none 0 0) rfl rfl ?_)
  refine WL_step rfl rfl (Exec.assign (v := errV 30 (none)) rfl rfl ?_)
  refine WL_nil (at_normal ?_)
  refine W_seq ?_
  refine W_seq ?_
  refine W_region ?_
  refine WL_step rfl rfl (Exec.move (v := Value.pointer (some ⟨b21049, 0, none⟩)) rfl rfl ?_)
  refine WL_step rfl rfl (Exec.ptr_eql_nil Try.underlying24 rfl rfl rfl ?_)
  refine WL_nil (at_normal ?_)
  refine W_false rfl ?_
  refine W_skip (at_normal ?_)
  refine W_seq ?_
  refine W_region ?_
  refine WL_step rfl rfl (Exec.assign (v := Value.slice none 0 0) rfl rfl ?_)
  refine WL_nil (at_normal ?_)
  refine W_seq ?_
  refine W_seq ?_
  refine W_region ?_
  refine WL_step rfl rfl (Exec.move (v := Value.pointer (some ⟨b21049, 0, none⟩)) rfl rfl ?_)
  refine WL_step rfl rfl (Exec.nilCheck_ptr rfl rfl ?_)
  refine WL_step rfl rfl (Exec.field F63_0 rfl rfl rfl ?_)
  refine WL_step rfl rfl (Exec.load_box (hS) A61 rfl rfl rfl ?_)
  refine WL_step rfl rfl (Exec.len_grid (((hS).f2).f2) (((hS).f2).f2).f1.rows_len S61 rfl rfl ?_)
  refine WL_step rfl rfl (Exec.move (v := Value.int .i64 (0)) rfl rfl ?_)
  refine WL_nil (at_normal ?_)
  obtain ⟨c21654, hB21655, hr21656, hn21657, hb21658⟩ := ctl_some hm
  refine W_mid (M := fun f' w' => ∃ s', (c21654 = .next s' ∨ c21654 = .brk s') ∧ (fun (out21652 : (List Int)) => ∃ (s21660 : PHeap) (v21653 : Value), PHeap.le s s21660 ∧ St w0 s21660 (Res.box b21049 63 [v21050] :: Res.arr encRaw 49 v21050 hs21051 :: Res.rows (encInt .i64) 3 hs21051 n21048.d :: Res.arr (encInt .i64) 3 v21653 out21652 :: H) w' ∧ f' 0 = Value.pointer (some ⟨b21049, 0, none⟩) ∧ f' 4 = v21653 ∧ f' 15 = Value.int .i64 ((n21048.d.length : Int))) s') ?_ ?_
  · refine W_block (W_forC (fun k' s' f' w' => (fun (out21566 : (List Int)) => ∃ (s21659 : PHeap) (v21567 : Value), PHeap.le s s21659 ∧ St w0 s21659 (Res.box b21049 63 [v21050] :: Res.arr encRaw 49 v21050 hs21051 :: Res.rows (encInt .i64) 3 hs21051 n21048.d :: Res.arr (encInt .i64) 3 v21567 out21566 :: H) w' ∧ f' 0 = Value.pointer (some ⟨b21049, 0, none⟩) ∧ f' 4 = v21567 ∧ f' 15 = Value.int .i64 ((n21048.d.length : Int)) ∧ f' 16 = Value.int .i64 (k' : Int)) s') hB21655 ?_ ?_ ?_)
    · have hS21661 := hS.nilArr (encInt .i64) 3
      have hS21662 := ((hS21661).f3).f3
      have hS21663 := (hS21662).f3
      exact ⟨s, (Value.slice none 0 0), (PHeap.le_refl _), hS21663, rfl, rfl, rfl, rfl⟩
    · intro i21521 out21566 c21665 f21666 w21667 hi21671 hI21668 hm21669 hres21670
      obtain ⟨s21672, v21567, l21673, hS21674, p21675, p21676, p21677, x21678⟩ := hI21668
      refine W_seq ?_
      refine W_region ?_
      refine WL_step rfl rfl (Exec.lss rfl x21678 p21677 ?_)
      refine WL_nil (at_normal ?_)
      refine W_seq ?_
      refine W_true (congrArg Value.bool (decide_eq_true (by omega))) ?_
      refine W_skip (at_normal ?_)
      refine W_seq ?_
      refine W_block ?_
      refine W_seq ?_
      refine W_region ?_
      refine WL_step rfl rfl (Exec.move (v := Value.int .i64 ((i21521 : Int))) rfl x21678 ?_)
      refine WL_step rfl rfl (Exec.assign (v := Value.int .i64 ((i21521 : Int))) rfl rfl ?_)
      refine WL_nil (at_normal ?_)
      refine W_seq ?_
      refine W_region ?_
      refine WL_step rfl rfl (Exec.move (v := Value.pointer (some ⟨b21049, 0, none⟩)) rfl p21675 ?_)
      refine WL_step rfl rfl (Exec.move (v := Value.int .i64 ((i21521 : Int))) rfl rfl ?_)
      obtain ⟨t21689, q21690, hm21669⟩ := bind_some hm21669
      obtain ⟨y21691, y21692⟩ := t21689
      replace hm21669 := un2_eq hm21669
      have hS21693 := ((hS21674).f2).f2
      have hS21694 := (hS21693).f2
      refine WL_step rfl rfl (Exec.call rfl rfl Try.func16 rfl N16 (args_cons rfl (args_cons rfl args_nil)) ((stn_Network_Earliest_sim q21690 hS21694 ).mono ?_))
      rintro _ w21695 ⟨_, rfl, ⟨s21696, l21697, hS21698, rfl⟩⟩
      refine ⟨_, rfl, ?_⟩
      refine WL_step rfl rfl (Exec.move (v := Value.tuple #[Value.int .i64 (y21691), errV 30 (y21692)]) rfl rfl ?_)
      refine WL_step rfl rfl (Exec.extract (v := Value.int .i64 (y21691)) rfl rfl rfl ?_)
      refine WL_step rfl rfl (Exec.extract (v := errV 30 (y21692)) rfl rfl rfl ?_)
      refine WL_step rfl rfl (Exec.assign (v := Value.int .i64 (y21691)) rfl rfl ?_)
      refine WL_step rfl rfl (Exec.assign (v := errV 30 (y21692)) rfl rfl ?_)
      refine WL_nil (at_normal ?_)
      refine W_seq ?_
      refine W_seq ?_
      refine W_region ?_
      refine WL_step rfl rfl (Exec.move (v := errV 30 (y21692)) rfl rfl ?_)
      refine WL_step rfl rfl (Exec.err_neq_nil (T := 30) Try.underlying26 rfl rfl rfl ?_)
      refine WL_nil (at_normal ?_)
      rcases ite_some hm21669 with ⟨hc21699, hm21669⟩ | ⟨hc21699, hm21669⟩
      · refine W_cond_t rfl hc21699 ?_
        refine W_seq ?_
        refine W_region ?_
        refine WL_step rfl rfl (Exec.move (v := errV 30 (y21692)) rfl rfl ?_)
        refine WL_step rfl rfl (Exec.assign (v := Value.slice none 0 0) rfl rfl ?_)
        refine WL_step rfl rfl (Exec.assign (v := errV 30 (y21692)) rfl rfl ?_)
        refine WL_nil (at_normal ?_)
        refine W_ret (at_ret (ib_ret (at_ret (at_ret (ib_ret (at_ret (at_ret ?_)))))))
        have e21700 := Option.some.inj hm21669
        subst c21665
        have hq21701 := hr21656 _ (hres21670 (by intro _ h; cases h))
        have e21702 := Option.some.inj hq21701
        subst r
        refine ⟨_, ret2 rfl, ?_⟩
        have hS21703 := ((hS21698).f3).drop
        have hS21704 := ((hS21703).f2).f2
        have hS21705 := (hS21704).f2
        exact ⟨s21696, (Value.slice none 0 0), (PHeap.le.trans l21673 l21697), hS21705, (tup2 rfl rfl), (SliceRep.nil _ _)⟩
      · refine W_cond_f rfl hc21699 ?_
        replace hc21699 := not_true hc21699
        refine W_skip (at_normal ?_)
        refine W_region ?_
        refine WL_step rfl rfl (Exec.move (v := v21567) rfl p21676 ?_)
        refine WL_step rfl rfl (Exec.move (v := Value.int .i64 (y21691)) rfl rfl ?_)
        refine WL_step rfl rfl (Exec.buildSlice (Te := 3) (cs := [Value.int .i64 (y21691)]) hS21698 rfl (parts_cons (c := [Value.int .i64 (y21691)]) (cells_of rfl rfl) parts_nil) (fun _ => by kernel_rfl) ?_)
        intro b21715 w21716 hS21717
        obtain ⟨l21718, q21719, hm21669⟩ := bind_some hm21669
        have hS21720 := (hS21717).f4
        refine WL_step rfl rfl (Exec.append_box (E := (encInt .i64)) (ys := [y21691]) hS21720 S49 Z3 rfl (by decide) rfl rfl rfl rfl ⟨[Value.int .i64 (y21691)], [], rfl, rfl, rfl⟩ rfl q21719 ?_)
        intro v21721 w21722 hS21723
        refine WL_step rfl rfl (Exec.assign (v := v21721) rfl rfl ?_)
        refine WL_nil (ib_normal (at_normal ?_))
        refine W_region ?_
        refine WL_step rfl rfl (Exec.add rfl x21678 rfl ?_)
        refine WL_step rfl rfl (Exec.move (v := Value.int .i64 (IntKind.i64.wrap ((i21521 : Int) + 1))) rfl rfl ?_)
        refine WL_nil (at_normal ?_)
        have e21724 := Option.some.inj hm21669
        subst c21665
        have hS21725 := ((hS21723).f3).f3
        have hS21726 := (hS21725).f3
        refine ⟨_, rfl, ?_⟩; exact ⟨s21696, v21721, (PHeap.le.trans l21673 l21697), hS21726, p21675, rfl, p21677, (Eq.trans rfl (wrap_up hi21671 (by have h := (((hS).f2).f2).f1.rows_len; have h2 := (((hS).f2).f2).arr_le; omega)))⟩
    · intro out21566 f21727 w21728 hI21729 hres21730
      obtain ⟨s21731, v21567, l21732, hS21733, p21734, p21735, p21736, x21737⟩ := hI21729
      refine W_seq ?_
      refine W_region ?_
      refine WL_step rfl rfl (Exec.lss rfl x21737 p21736 ?_)
      refine WL_nil (at_normal ?_)
      refine W_seq ?_
      refine W_false (congrArg Value.bool (decide_eq_false (by omega))) ?_
      refine W_exit (at_exit (at_exit (ib_here (at_normal ?_))))
      have hS21738 := (hS21733).f3
      have hS21739 := ((hS21738).f3).f3
      have hS21740 := (hS21739).f3
      refine ⟨_, .inl hres21730, ?_⟩; exact ⟨s21731, v21567, l21732, hS21740, p21734, p21735, p21736⟩
  · rintro f21741 w21742 ⟨out21652, hc21743, hM21744⟩
    have hm := hc21743.elim (hn21657 _) (hb21658 _)
    clear hc21743
    obtain ⟨s21745, v21653, l21746, hS21747, p21748, p21749, p21750⟩ := hM21744
    refine (at_normal ?_)
    refine W_seq ?_
    refine W_region ?_
    refine WL_step rfl rfl (Exec.move (v := v21653) rfl p21749 ?_)
    refine WL_step rfl rfl (Exec.assign (v := v21653) rfl rfl ?_)
    refine WL_step rfl rfl (Exec.assign (v := errV 30 (none)) rfl rfl ?_)
    refine WL_nil (at_normal ?_)
    refine W_ret ?_
    have e21752 := Option.some.inj hm
    subst r
    refine ⟨_, ret2 rfl, ?_⟩
    have hS21753 := (hS21747).f3
    obtain ⟨s21754, l21755, hS21756, r21757⟩ := hS21753.freezeArr
    have hS21758 := ((hS21756).f2).f2
    have hS21759 := (hS21758).f2
    exact ⟨s21754, v21653, (PHeap.le.trans l21746 l21755), hS21759, (tup2 rfl rfl), r21757⟩

theorem N17 : (Try.f17.name == "runtime.NumGoroutine") = false := by kernel_rfl

theorem stn_Network_Latest_sim {w0 w : World} {s : PHeap} {H : List Res} {n21784 : stn_Network} {p21788 : Int} {b21785 : Nat} {v21786 : Value} {hs21787 : List Value} {r : Int × (Option Int)} (hm : stn_Network_Latest_p n21784 p21788 = some r) (hS : St w0 s (Res.box b21785 63 [v21786] :: Res.arr encRaw 49 v21786 hs21787 :: Res.rows (encInt .i64) 3 hs21787 n21784.d :: H) w)  :
    Calls Try.prog 17 #[Value.pointer (some ⟨b21785, 0, none⟩), Value.int .i64 (p21788)] w fun e w' => ∃ v, e = .returned v ∧ ((un2 fun (y21812 : Int) (y21813 : (Option Int)) => ∃ (s21814 : PHeap) , PHeap.le s s21814 ∧ St w0 s21814 (Res.box b21785 63 [v21786] :: Res.arr encRaw 49 v21786 hs21787 :: Res.rows (encInt .i64) 3 hs21787 n21784.d :: H) w' ∧ v = Value.tuple #[Value.int .i64 (y21812), errV 30 (y21813)]) r) := by
  unfold stn_Network_Latest_p at hm
  refine calls_of_W Try.func17 rfl rfl ?_
  refine W_seq ?_
  refine W_region ?_
  refine WL_step rfl rfl (Exec.assign (v := Value.int .i64 (0)) rfl rfl ?_)
  refine WL_step rfl rfl (Exec.assign (v := errV 30 (none)) rfl rfl ?_)
  refine WL_nil (at_normal ?_)
  refine W_seq ?_
  refine W_region ?_
  refine WL_step rfl rfl (Exec.move (v := Value.pointer (some ⟨b21785, 0, none⟩)) rfl rfl ?_)
  refine WL_step rfl rfl (Exec.move (v := Value.int .i64 (p21788)) rfl rfl ?_)
  obtain ⟨t21825, q21826, hm⟩ := bind_some hm
  obtain ⟨y21827, y21828⟩ := t21825
  replace hm := un2_eq hm
  have hS21829 := ((hS).f2).f2
  have hS21830 := (hS21829).f2
  refine WL_step rfl rfl (Exec.call rfl rfl Try.func15 rfl N15 (args_cons rfl (args_cons rfl (args_cons rfl args_nil))) ((stn_Network_Distance_sim q21826 hS21830 ).mono ?_))
  rintro _ w21831 ⟨_, rfl, ⟨s21832, l21833, hS21834, rfl⟩⟩
  refine ⟨_, rfl, ?_⟩
  refine WL_step rfl rfl (Exec.move (v := Value.tuple #[Value.int .i64 (y21827), errV 30 (y21828)]) rfl rfl ?_)
  refine WL_step rfl rfl (Exec.extract (v := Value.int .i64 (y21827)) rfl rfl rfl ?_)
  refine WL_step rfl rfl (Exec.extract (v := errV 30 (y21828)) rfl rfl rfl ?_)
  refine WL_step rfl rfl (Exec.assign (v := Value.int .i64 (y21827)) rfl rfl ?_)
  refine WL_step rfl rfl (Exec.assign (v := errV 30 (y21828)) rfl rfl ?_)
  refine WL_nil (at_normal ?_)
  refine W_seq ?_
  refine W_seq ?_
  refine W_region ?_
  refine WL_step rfl rfl (Exec.move (v := errV 30 (y21828)) rfl rfl ?_)
  refine WL_step rfl rfl (Exec.err_neq_nil (T := 30) Try.underlying26 rfl rfl rfl ?_)
  refine WL_nil (at_normal ?_)
  rcases ite_some hm with ⟨hc21835, hm⟩ | ⟨hc21835, hm⟩
  · refine W_cond_t rfl hc21835 ?_
    refine W_seq ?_
    refine W_region ?_
    refine WL_step rfl rfl (Exec.move (v := errV 30 (y21828)) rfl rfl ?_)
    refine WL_step rfl rfl (Exec.assign (v := Value.int .i64 (0)) rfl rfl ?_)
    refine WL_step rfl rfl (Exec.assign (v := errV 30 (y21828)) rfl rfl ?_)
    refine WL_nil (at_normal ?_)
    refine W_ret (at_ret ?_)
    have e21837 := Option.some.inj hm
    subst r
    refine ⟨_, ret2 rfl, ?_⟩
    have hS21838 := ((hS21834).f2).f2
    have hS21839 := (hS21838).f2
    exact ⟨s21832, l21833, hS21839, (tup2 rfl rfl)⟩
  · refine W_cond_f rfl hc21835 ?_
    replace hc21835 := not_true hc21835
    refine W_skip (at_normal ?_)
    refine W_seq ?_
    refine W_seq ?_
    refine W_region ?_
    refine WL_step rfl rfl (Exec.move (v := Value.int .i64 (y21827)) rfl rfl ?_)
    refine WL_step rfl rfl (Exec.geq rfl rfl rfl ?_)
    refine WL_nil (at_normal ?_)
    rcases ite_some hm with ⟨hc21840, hm⟩ | ⟨hc21840, hm⟩
    · refine W_cond_t rfl hc21840 ?_
      refine W_seq ?_
      refine W_region ?_
      refine WL_step rfl rfl (Exec.makeInterface C30 rfl rfl ?_)
      refine WL_step rfl rfl (Exec.assign (v := Value.int .i64 (0)) rfl rfl ?_)
      refine WL_step rfl rfl (Exec.assign (v := errV 30 (some 3)) rfl rfl ?_)
      refine WL_nil (at_normal ?_)
      refine W_ret (at_ret ?_)
      have e21842 := Option.some.inj hm
      subst r
      refine ⟨_, ret2 rfl, ?_⟩
      have hS21843 := ((hS21834).f2).f2
      have hS21844 := (hS21843).f2
      exact ⟨s21832, l21833, hS21844, (tup2 rfl rfl)⟩
    · refine W_cond_f rfl hc21840 ?_
      replace hc21840 := not_true hc21840
      refine W_skip (at_normal ?_)
      refine W_seq ?_
      refine W_region ?_
      refine WL_step rfl rfl (Exec.move (v := Value.int .i64 (y21827)) rfl rfl ?_)
      refine WL_step rfl rfl (Exec.assign (v := Value.int .i64 (y21827)) rfl rfl ?_)
      refine WL_step rfl rfl (Exec.assign (v := errV 30 (none)) rfl rfl ?_)
      refine WL_nil (at_normal ?_)
      refine W_ret ?_
      have e21846 := Option.some.inj hm
      subst r
      refine ⟨_, ret2 rfl, ?_⟩
      have hS21847 := ((hS21834).f2).f2
      have hS21848 := (hS21847).f2
      exact ⟨s21832, l21833, hS21848, (tup2 rfl rfl)⟩

theorem N23 : (Try.f23.name == "runtime.NumGoroutine") = false := by kernel_rfl

theorem base_Ints_sim {w0 w : World} {s : PHeap} {H : List Res} {a21878 : (List Int)} {b21881 : (List Int)} {v21879 : Value} {v21882 : Value} {r : Bool} (hm : base_Ints_p a21878 b21881 = some r) (hS : St w0 s (H) w) (a21880 : SliceRep (encInt .i64) s v21879 a21878) (a21883 : SliceRep (encInt .i64) s v21882 b21881) :
    Calls Try.prog 23 #[v21879, v21882] w fun e w' => ∃ v, e = .returned v ∧ ((fun (y22665 : Bool) => ∃ (s22666 : PHeap) , PHeap.le s s22666 ∧ St w0 s22666 (H) w' ∧ v = Value.bool (y22665)) r) := by
  unfold base_Ints_p at hm
  refine calls_of_W Try.func23 rfl rfl ?_
  refine W_seq ?_
  refine W_region ?_
  refine WL_step rfl rfl (Exec.assign (v := Value.bool (false)) rfl rfl ?_)
  refine WL_nil (at_normal ?_)
  refine W_seq ?_
  refine W_seq ?_
  refine W_region ?_
  refine WL_step rfl rfl (Exec.move (v := v21879) rfl rfl ?_)
  refine WL_step rfl rfl (Exec.len_rep S49 rfl rfl a21880 ?_)
  refine WL_step rfl rfl (Exec.move (v := v21882) rfl rfl ?_)
  refine WL_step rfl rfl (Exec.len_rep S49 rfl rfl a21883 ?_)
  refine WL_step rfl rfl (Exec.neq rfl rfl rfl ?_)
  refine WL_nil (at_normal ?_)
  rcases ite_some hm with ⟨hc22667, hm⟩ | ⟨hc22667, hm⟩
  · refine W_cond_t rfl hc22667 ?_
    refine W_seq ?_
    refine W_region ?_
    refine WL_step rfl rfl (Exec.assign (v := Value.bool (false)) rfl rfl ?_)
    refine WL_nil (at_normal ?_)
    refine W_ret (at_ret ?_)
    have e22669 := Option.some.inj hm
    subst r
    refine ⟨_, ret1 rfl, ?_⟩
    exact ⟨s, (PHeap.le_refl _), hS, rfl⟩
  · refine W_cond_f rfl hc22667 ?_
    replace hc22667 := not_true hc22667
    refine W_skip (at_normal ?_)
    refine W_seq ?_
    refine W_seq ?_
    refine W_region ?_
    refine WL_step rfl rfl (Exec.move (v := v21879) rfl rfl ?_)
    refine WL_step rfl rfl (Exec.len_rep S49 rfl rfl a21880 ?_)
    refine WL_step rfl rfl (Exec.move (v := Value.int .i64 (0)) rfl rfl ?_)
    refine WL_nil (at_normal ?_)
    obtain ⟨c23159, hB23160, hr23161, hn23162, hb23163⟩ := ctl_some hm
    refine W_mid (M := fun f' w' => ∃ s', (c23159 = .next s' ∨ c23159 = .brk s') ∧ (fun (_ : Unit) => ∃ (s23165 : PHeap) , PHeap.le s s23165 ∧ St w0 s23165 (H) w' ∧ f' 0 = v21879 ∧ f' 1 = v21882 ∧ f' 12 = Value.int .i64 ((a21878.length : Int))) s') ?_ ?_
    · refine W_block (W_forC (fun k' s' f' w' => (fun (_ : Unit) => ∃ (s23164 : PHeap) , PHeap.le s s23164 ∧ St w0 s23164 (H) w' ∧ f' 0 = v21879 ∧ f' 1 = v21882 ∧ f' 12 = Value.int .i64 ((a21878.length : Int)) ∧ f' 13 = Value.int .i64 (k' : Int)) s') hB23160 ?_ ?_ ?_)
      · exact ⟨s, (PHeap.le_refl _), hS, rfl, rfl, rfl, rfl⟩
      · intro i22670 t23173 c23167 f23168 w23169 hi23174 hI23170 hm23171 hres23172
        obtain ⟨s23175, l23176, hS23177, p23178, p23179, p23180, x23181⟩ := hI23170
        refine W_seq ?_
        refine W_region ?_
        refine WL_step rfl rfl (Exec.lss rfl x23181 p23180 ?_)
        refine WL_nil (at_normal ?_)
        refine W_seq ?_
        refine W_true (congrArg Value.bool (decide_eq_true (by omega))) ?_
        refine W_skip (at_normal ?_)
        refine W_seq ?_
        refine W_block ?_
        refine W_seq ?_
        refine W_region ?_
        refine WL_step rfl rfl (Exec.move (v := Value.int .i64 ((i22670 : Int))) rfl x23181 ?_)
        refine WL_step rfl rfl (Exec.assign (v := Value.int .i64 ((i22670 : Int))) rfl rfl ?_)
        refine WL_nil (at_normal ?_)
        refine W_seq ?_
        obtain ⟨x23307, q23308, hm23171⟩ := bind_some hm23171
        obtain ⟨x23309, q23310, hm23171⟩ := bind_some hm23171
        refine W_drawn (n0 := 9) hmix (by kernel_rfl) [RP.eq (v21879), RP.eq (Value.int .i64 ((i22670 : Int))), RP.at (encInt .i64) x23307, RP.eq (Value.int .i64 (x23307)), RP.eq (v21882), RP.eq (Value.int .i64 ((i22670 : Int))), RP.at (encInt .i64) x23309, RP.eq (Value.int .i64 (x23309)), RP.eq (Value.bool (!decide (x23307 = x23309)))] hS23177 (HeadAll.cons ?_ (HeadAll.cons ?_ (HeadAll.cons ?_ (HeadAll.cons ?_ (HeadAll.cons ?_ (HeadAll.cons ?_ (HeadAll.cons ?_ (HeadAll.cons ?_ (HeadAll.cons ?_ (HeadAll.nil)))))))))) ?_
        · intro g23311 s23312 w23313 l23314 hS23315 fr23316 pre23317
          refine head_run rfl (Exec.move (v := v21879) rfl (Eq.trans (fr23316 0 rfl) p23178) ?_)
          exact head_done hS23315 rfl
        · intro g23318 s23319 w23320 l23321 hS23322 fr23323 pre23324
          refine head_run rfl (Exec.move (v := Value.int .i64 ((i22670 : Int))) rfl (fr23323 5 rfl) ?_)
          exact head_done hS23322 rfl
        · intro g23325 s23326 w23327 l23328 hS23329 fr23330 pre23331
          have p23332 : g23325 16 = (v21879) := pre23331 0 _ rfl rfl
          have p23333 : g23325 17 = (Value.int .i64 ((i22670 : Int))) := pre23331 1 _ rfl rfl
          refine head_run rfl (Exec.index_rep S49 rfl p23332 p23333 (a21880.mono (PHeap.le.trans l23176 l23328)) q23308 ?_)
          intro b23334 o23335 a23336
          exact head_done hS23329 ⟨_, _, rfl, a23336⟩
        · intro g23337 s23338 w23339 l23340 hS23341 fr23342 pre23343
          obtain ⟨b23345, o23346, e23347, a23348⟩ := (show ∃ b off, g23337 18 = .pointer (some ⟨b, off, none⟩) ∧ At s23338 b off (encInt .i64) x23307 from pre23343 0 _ rfl rfl)
          refine head_run rfl (Exec.load_at (E := (encInt .i64)) hS23341 A3 rfl e23347 rfl a23348 ?_)
          intro v23349 q23350
          exact head_done hS23341 (encInt_val.1 q23350)
        · intro g23351 s23352 w23353 l23354 hS23355 fr23356 pre23357
          refine head_run rfl (Exec.move (v := v21882) rfl (Eq.trans (fr23356 1 rfl) p23179) ?_)
          exact head_done hS23355 rfl
        · intro g23358 s23359 w23360 l23361 hS23362 fr23363 pre23364
          refine head_run rfl (Exec.move (v := Value.int .i64 ((i22670 : Int))) rfl (fr23363 5 rfl) ?_)
          exact head_done hS23362 rfl
        · intro g23365 s23366 w23367 l23368 hS23369 fr23370 pre23371
          have p23372 : g23365 20 = (v21882) := pre23371 0 _ rfl rfl
          have p23373 : g23365 21 = (Value.int .i64 ((i22670 : Int))) := pre23371 1 _ rfl rfl
          refine head_run rfl (Exec.index_rep S49 rfl p23372 p23373 (a21883.mono (PHeap.le.trans l23176 l23368)) q23310 ?_)
          intro b23374 o23375 a23376
          exact head_done hS23369 ⟨_, _, rfl, a23376⟩
        · intro g23377 s23378 w23379 l23380 hS23381 fr23382 pre23383
          obtain ⟨b23385, o23386, e23387, a23388⟩ := (show ∃ b off, g23377 22 = .pointer (some ⟨b, off, none⟩) ∧ At s23378 b off (encInt .i64) x23309 from pre23383 0 _ rfl rfl)
          refine head_run rfl (Exec.load_at (E := (encInt .i64)) hS23381 A3 rfl e23387 rfl a23388 ?_)
          intro v23389 q23390
          exact head_done hS23381 (encInt_val.1 q23390)
        · intro g23391 s23392 w23393 l23394 hS23395 fr23396 pre23397
          have p23398 : g23391 19 = (Value.int .i64 (x23307)) := pre23397 0 _ rfl rfl
          have p23399 : g23391 23 = (Value.int .i64 (x23309)) := pre23397 1 _ rfl rfl
          refine head_run rfl (Exec.neq rfl p23398 p23399 ?_)
          exact head_done hS23395 rfl
        · intro g23400 s23401 w23402 l23403 hS23404 fr23405 hR23406
          have p23407 : g23400 16 = (v21879) := hR23406 0 rfl
          have p23408 : g23400 17 = (Value.int .i64 ((i22670 : Int))) := hR23406 1 rfl
          obtain ⟨b23410, o23411, e23412, a23413⟩ := (show ∃ b off, g23400 18 = .pointer (some ⟨b, off, none⟩) ∧ At s23401 b off (encInt .i64) x23307 from hR23406 2 rfl)
          have p23414 : g23400 19 = (Value.int .i64 (x23307)) := hR23406 3 rfl
          have p23415 : g23400 20 = (v21882) := hR23406 4 rfl
          have p23416 : g23400 21 = (Value.int .i64 ((i22670 : Int))) := hR23406 5 rfl
          obtain ⟨b23418, o23419, e23420, a23421⟩ := (show ∃ b off, g23400 22 = .pointer (some ⟨b, off, none⟩) ∧ At s23401 b off (encInt .i64) x23309 from hR23406 6 rfl)
          have p23422 : g23400 23 = (Value.int .i64 (x23309)) := hR23406 7 rfl
          have p23423 : g23400 24 = (Value.bool (!decide (x23307 = x23309))) := hR23406 8 rfl
          refine WL_nil (at_normal ?_)
          rcases ite_some hm23171 with ⟨hc23424, hm23171⟩ | ⟨hc23424, hm23171⟩
          · refine W_cond_t p23423 hc23424 ?_
            refine W_seq ?_
            refine W_region ?_
            refine WL_step rfl rfl (Exec.assign (v := Value.bool (false)) rfl rfl ?_)
            refine WL_nil (at_normal ?_)
            refine W_ret (ib_ret (at_ret (at_ret (ib_ret (at_ret (at_ret ?_))))))
            have e23425 := Option.some.inj hm23171
            subst c23167
            have hq23426 := hr23161 _ (hres23172 (by intro _ h; cases h))
            have e23427 := Option.some.inj hq23426
            subst r
            refine ⟨_, ret1 rfl, ?_⟩
            exact ⟨s23401, (PHeap.le.trans l23176 l23403), hS23404, rfl⟩
          · refine W_cond_f p23423 hc23424 ?_
            replace hc23424 := not_true hc23424
            refine W_skip (ib_normal (at_normal ?_))
            refine W_region ?_
            refine WL_step rfl rfl (Exec.add rfl (Eq.trans (fr23405 13 rfl) x23181) rfl ?_)
            refine WL_step rfl rfl (Exec.move (v := Value.int .i64 (IntKind.i64.wrap ((i22670 : Int) + 1))) rfl rfl ?_)
            refine WL_nil (at_normal ?_)
            have e23428 := Option.some.inj hm23171
            subst c23167
            refine ⟨_, rfl, ?_⟩; exact ⟨s23401, (PHeap.le.trans l23176 l23403), hS23404, (Eq.trans (fr23405 0 rfl) p23178), (Eq.trans (fr23405 1 rfl) p23179), (Eq.trans (fr23405 12 rfl) p23180), (Eq.trans rfl (wrap_up hi23174 (SliceRep.le a21880)))⟩
      · intro t23429 f23430 w23431 hI23432 hres23433
        obtain ⟨s23434, l23435, hS23436, p23437, p23438, p23439, x23440⟩ := hI23432
        refine W_seq ?_
        refine W_region ?_
        refine WL_step rfl rfl (Exec.lss rfl x23440 p23439 ?_)
        refine WL_nil (at_normal ?_)
        refine W_seq ?_
        refine W_false (congrArg Value.bool (decide_eq_false (by omega))) ?_
        refine W_exit (at_exit (at_exit (ib_here (at_normal ?_))))
        refine ⟨_, .inl hres23433, ?_⟩; exact ⟨s23434, l23435, hS23436, p23437, p23438, p23439⟩
    · rintro f23441 w23442 ⟨t23443, hc23444, hM23445⟩
      have hm := hc23444.elim (hn23162 _) (hb23163 _)
      clear hc23444
      obtain ⟨s23446, l23447, hS23448, p23449, p23450, p23451⟩ := hM23445
      refine (at_normal ?_)
      refine W_seq ?_
      refine W_region ?_
      refine WL_step rfl rfl (Exec.assign (v := Value.bool (true)) rfl rfl ?_)
      refine WL_nil (at_normal ?_)
      refine W_ret ?_
      have e23453 := Option.some.inj hm
      subst r
      refine ⟨_, ret1 rfl, ?_⟩
      exact ⟨s23446, l23447, hS23448, rfl⟩

theorem ZZ30 : (Try.prog.info? 30).map (·.zero) = some (some (.int .i64 0)) := by kernel_rfl

theorem N13 : (Try.f13.name == "runtime.NumGoroutine") = false := by kernel_rfl

theorem base_Num_sim {w0 w : World} {s : PHeap} {H : List Res} {e23465 : (Option Int)}  {r : Int} (hm : base_Num_p e23465 = some r) (hS : St w0 s (H) w)  :
    Calls Try.prog 13 #[errV 30 (e23465)] w fun e w' => ∃ v, e = .returned v ∧ ((fun (y23469 : Int) => ∃ (s23470 : PHeap) , PHeap.le s s23470 ∧ St w0 s23470 (H) w' ∧ v = Value.int .i64 (y23469)) r) := by
  unfold base_Num_p at hm
  refine calls_of_W Try.func13 rfl rfl ?_
  refine W_seq ?_
  refine W_region ?_
  refine WL_step rfl rfl (Exec.assign (v := Value.int .i64 (0)) rfl rfl ?_)
  refine WL_nil (at_normal ?_)
  refine W_seq ?_
  refine W_seq ?_
  refine W_region ?_
  refine WL_step rfl rfl (Exec.move (v := errV 30 (e23465)) rfl rfl ?_)
  refine WL_step rfl rfl (Exec.err_eql_nil (T := 30) Try.underlying26 rfl rfl rfl ?_)
  refine WL_nil (at_normal ?_)
  rcases ite_some hm with ⟨hc23471, hm⟩ | ⟨hc23471, hm⟩
  · refine W_cond_t rfl hc23471 ?_
    refine W_seq ?_
    refine W_region ?_
    refine WL_step rfl rfl (Exec.assign (v := Value.int .i64 (0)) rfl rfl ?_)
    refine WL_nil (at_normal ?_)
    refine W_ret (at_ret ?_)
    have e23473 := Option.some.inj hm
    subst r
    refine ⟨_, ret1 rfl, ?_⟩
    exact ⟨s, (PHeap.le_refl _), hS, rfl⟩
  · refine W_cond_f rfl hc23471 ?_
    replace hc23471 := not_true hc23471
    refine W_skip (at_normal ?_)
    refine W_seq ?_
    refine W_seq ?_
    refine W_region ?_
    refine WL_step rfl rfl (Exec.move (v := errV 30 (e23465)) rfl rfl ?_)
    refine WL_step rfl rfl (Exec.err_assert Try.underlying30 ZZ30 rfl rfl ?_)
    refine WL_step rfl rfl (Exec.move (v := Value.tuple #[Value.int .i64 (e23465.getD 0), Value.bool (e23465.isSome)]) rfl rfl ?_)
    refine WL_step rfl rfl (Exec.extract (v := Value.int .i64 (e23465.getD 0)) rfl rfl rfl ?_)
    refine WL_step rfl rfl (Exec.extract (v := Value.bool (e23465.isSome)) rfl rfl rfl ?_)
    refine WL_step rfl rfl (Exec.assign (v := Value.int .i64 (e23465.getD 0)) rfl rfl ?_)
    refine WL_step rfl rfl (Exec.assign (v := Value.bool (e23465.isSome)) rfl rfl ?_)
    refine WL_nil (at_normal ?_)
    refine W_seq ?_
    refine W_region ?_
    refine WL_step rfl rfl (Exec.move (v := Value.bool (e23465.isSome)) rfl rfl ?_)
    refine WL_nil (at_normal ?_)
    rcases ite_some hm with ⟨hc23474, hm⟩ | ⟨hc23474, hm⟩
    · refine W_cond_t rfl hc23474 ?_
      refine W_seq ?_
      refine W_region ?_
      refine WL_step rfl rfl (Exec.move (v := Value.int .i64 (e23465.getD 0)) rfl rfl ?_)
      refine WL_step rfl rfl (Exec.assign (v := Value.int .i64 (e23465.getD 0)) rfl rfl ?_)
      refine WL_nil (at_normal ?_)
      refine W_ret (at_ret ?_)
      have e23476 := Option.some.inj hm
      subst r
      refine ⟨_, ret1 rfl, ?_⟩
      exact ⟨s, (PHeap.le_refl _), hS, rfl⟩
    · refine W_cond_f rfl hc23474 ?_
      replace hc23474 := not_true hc23474
      refine W_skip (at_normal ?_)
      refine W_seq ?_
      refine W_region ?_
      refine WL_step rfl rfl (Exec.assign (v := Value.int .i64 ((-1))) rfl rfl ?_)
      refine WL_nil (at_normal ?_)
      refine W_ret ?_
      have e23478 := Option.some.inj hm
      subst r
      refine ⟨_, ret1 rfl, ?_⟩
      exact ⟨s, (PHeap.le_refl _), hS, rfl⟩

theorem N11 : (Try.f11.name == "runtime.NumGoroutine") = false := by kernel_rfl

theorem base_Is_sim {w0 w : World} {s : PHeap} {H : List Res} {e23462 : (Option Int)} {code23463 : Int}  {r : Bool} (hm : base_Is_p e23462 code23463 = some r) (hS : St w0 s (H) w)  :
    Calls Try.prog 11 #[errV 30 (e23462), Value.int .i64 (code23463)] w fun e w' => ∃ v, e = .returned v ∧ ((fun (y23497 : Bool) => ∃ (s23498 : PHeap) , PHeap.le s s23498 ∧ St w0 s23498 (H) w' ∧ v = Value.bool (y23497)) r) := by
  unfold base_Is_p at hm
  refine calls_of_W Try.func11 rfl rfl ?_
  refine W_seq ?_
  refine W_region ?_
  refine WL_step rfl rfl (Exec.assign (v := Value.bool (false)) rfl rfl ?_)
  refine WL_nil (at_normal ?_)
  refine W_seq ?_
  refine W_mid (M := fun f' w' => ∃ (s23504 : PHeap) , PHeap.le s s23504 ∧ St w0 s23504 (H) w' ∧ f' 4 = Value.bool ((e23462.isSome && decide ((base_Num_t e23462) = code23463)))) ?_ ?_
  · refine W_region ?_
    refine WL_step rfl rfl (Exec.move (v := errV 30 (e23462)) rfl rfl ?_)
    refine WL_step rfl rfl (Exec.err_neq_nil (T := 30) Try.underlying26 rfl rfl rfl ?_)
    refine WL_step rfl rfl (Exec.move (v := Value.bool (e23462.isSome)) rfl rfl ?_)
    by_cases hc23505 : e23462.isSome = true
    · refine WL_run rfl (yield_of rfl (congrArg Value.bool hc23505)) rfl (Exec.move (v := errV 30 (e23462)) rfl rfl ?_)
      refine WL_run rfl (yield_of rfl (congrArg Value.bool hc23505)) rfl (Exec.call rfl rfl Try.func13 rfl N13 (args_cons rfl args_nil) ((base_Num_sim (base_Num_tot e23462) hS ).mono ?_))
      rintro _ w23506 ⟨_, rfl, ⟨s23507, l23508, hS23509, rfl⟩⟩
      refine ⟨_, rfl, ?_⟩
      refine WL_run rfl (yield_of rfl (congrArg Value.bool hc23505)) rfl (Exec.move (v := Value.int .i64 (code23463)) rfl rfl ?_)
      refine WL_run rfl (yield_of rfl (congrArg Value.bool hc23505)) rfl (Exec.eql rfl rfl rfl ?_)
      refine WL_step rfl rfl (Exec.pick_t (v := Value.bool (decide ((base_Num_t e23462) = code23463))) rfl (congrArg Value.bool hc23505) rfl ?_)
      refine WL_step rfl rfl (Exec.assign (v := Value.bool (decide ((base_Num_t e23462) = code23463))) rfl rfl ?_)
      refine WL_nil (at_normal ?_)
      exact ⟨s23507, l23508, hS23509, (congrArg Value.bool (and_t hc23505)).symm⟩
    · replace hc23505 := not_true hc23505
      refine WL_pass rfl (yield_of rfl (congrArg Value.bool hc23505)) rfl rfl ?_
      refine WL_pass rfl (yield_of rfl (congrArg Value.bool hc23505)) rfl rfl ?_
      refine WL_pass rfl (yield_of rfl (congrArg Value.bool hc23505)) rfl rfl ?_
      refine WL_pass rfl (yield_of rfl (congrArg Value.bool hc23505)) rfl rfl ?_
      refine WL_step rfl rfl (Exec.pick_f (v := Value.bool (false)) rfl (congrArg Value.bool hc23505) rfl ?_)
      refine WL_step rfl rfl (Exec.assign (v := Value.bool (false)) rfl rfl ?_)
      refine WL_nil (at_normal ?_)
      exact ⟨s, (PHeap.le_refl _), hS, (congrArg Value.bool (and_f hc23505)).symm⟩
  · intro f23510 w23511 hM23512
    obtain ⟨s23513, l23514, hS23515, p23516⟩ := hM23512
    refine (at_normal ?_)
    refine W_ret ?_
    have e23518 := Option.some.inj hm
    subst r
    refine ⟨_, ret1 rfl, ?_⟩
    exact ⟨s23513, l23514, hS23515, p23516⟩

theorem stn_Network_Times_nil_sim {w0 w : World} {s : PHeap} {H : List Res}   {r : (List Int) × (Option Int)} (hm : stn_Network_Times_nil_p  = some r) (hS : St w0 s (H) w)  :
    Calls Try.prog 22 #[Value.pointer none] w fun e w' => ∃ v, e = .returned v ∧ ((un2 fun (y23599 : (List Int)) (y23600 : (Option Int)) => ∃ (s23602 : PHeap) (v23601 : Value), PHeap.le s s23602 ∧ St w0 s23602 (H) w' ∧ v = Value.tuple #[v23601, errV 30 (y23600)] ∧ SliceRep (encInt .i64) s23602 v23601 y23599) r) := by
  unfold stn_Network_Times_nil_p at hm
  refine calls_of_W Try.func22 rfl rfl ?_
  refine W_seq ?_
  refine W_region ?_
  refine WL_step rfl rfl (Exec.assign (v := Value.slice none 0 0) rfl rfl ?_)
  refine WL_step rfl rfl (Exec.assign (v := errV 30 (none)) rfl rfl ?_)
  refine WL_nil (at_normal ?_)
  refine W_seq ?_
  refine W_seq ?_
  refine W_region ?_
  refine WL_step rfl rfl (Exec.move (v := Value.pointer none) rfl rfl ?_)
  refine WL_step rfl rfl (Exec.ptr_eql_nil Try.underlying24 rfl rfl rfl ?_)
  refine WL_nil (at_normal ?_)
  refine W_true rfl ?_
  refine W_seq ?_
  refine W_region ?_
  refine WL_step rfl rfl (Exec.makeInterface C30 rfl rfl ?_)
  refine WL_step rfl rfl (Exec.assign (v := Value.slice none 0 0) rfl rfl ?_)
  refine WL_step rfl rfl (Exec.assign (v := errV 30 (some 3)) rfl rfl ?_)
  refine WL_nil (at_normal ?_)
  refine W_ret (at_ret ?_)
  have e23604 := Option.some.inj hm
  subst r
  refine ⟨_, ret2 rfl, ?_⟩
  exact ⟨s, (Value.slice none 0 0), (PHeap.le_refl _), hS, (tup2 rfl rfl), (SliceRep.nil _ _)⟩

theorem stn_Network_Distance_nil_sim {w0 w : World} {s : PHeap} {H : List Res} {a23620 : Int} {b23621 : Int}  {r : Int × (Option Int)} (hm : stn_Network_Distance_nil_p a23620 b23621 = some r) (hS : St w0 s (H) w)  :
    Calls Try.prog 15 #[Value.pointer none, Value.int .i64 (a23620), Value.int .i64 (b23621)] w fun e w' => ∃ v, e = .returned v ∧ ((un2 fun (y23623 : Int) (y23624 : (Option Int)) => ∃ (s23625 : PHeap) , PHeap.le s s23625 ∧ St w0 s23625 (H) w' ∧ v = Value.tuple #[Value.int .i64 (y23623), errV 30 (y23624)]) r) := by
  unfold stn_Network_Distance_nil_p at hm
  refine calls_of_W Try.func15 rfl rfl ?_
  refine W_seq ?_
  refine W_region ?_
  refine WL_step rfl rfl (Exec.assign (v := Value.int .i64 (0)) rfl rfl ?_)
  refine WL_step rfl rfl (Exec.assign (v := errV 30 (none)) rfl rfl ?_)
  refine WL_nil (at_normal ?_)
  refine W_seq ?_
  refine W_seq ?_
  refine W_region ?_
  refine WL_step rfl rfl (Exec.move (v := Value.pointer none) rfl rfl ?_)
  refine WL_step rfl rfl (Exec.ptr_eql_nil Try.underlying24 rfl rfl rfl ?_)
  refine WL_nil (at_normal ?_)
  refine W_true rfl ?_
  refine W_seq ?_
  refine W_region ?_
  refine WL_step rfl rfl (Exec.makeInterface C30 rfl rfl ?_)
  refine WL_step rfl rfl (Exec.assign (v := Value.int .i64 (0)) rfl rfl ?_)
  refine WL_step rfl rfl (Exec.assign (v := errV 30 (some 3)) rfl rfl ?_)
  refine WL_nil (at_normal ?_)
  refine W_ret (at_ret ?_)
  have e23627 := Option.some.inj hm
  subst r
  refine ⟨_, ret2 rfl, ?_⟩
  exact ⟨s, (PHeap.le_refl _), hS, (tup2 rfl rfl)⟩

theorem stn_Network_Latest_nil_sim {w0 w : World} {s : PHeap} {H : List Res} {p23618 : Int}  {r : Int × (Option Int)} (hm : stn_Network_Latest_nil_p p23618 = some r) (hS : St w0 s (H) w)  :
    Calls Try.prog 17 #[Value.pointer none, Value.int .i64 (p23618)] w fun e w' => ∃ v, e = .returned v ∧ ((un2 fun (y23639 : Int) (y23640 : (Option Int)) => ∃ (s23641 : PHeap) , PHeap.le s s23641 ∧ St w0 s23641 (H) w' ∧ v = Value.tuple #[Value.int .i64 (y23639), errV 30 (y23640)]) r) := by
  unfold stn_Network_Latest_nil_p at hm
  refine calls_of_W Try.func17 rfl rfl ?_
  refine W_seq ?_
  refine W_region ?_
  refine WL_step rfl rfl (Exec.assign (v := Value.int .i64 (0)) rfl rfl ?_)
  refine WL_step rfl rfl (Exec.assign (v := errV 30 (none)) rfl rfl ?_)
  refine WL_nil (at_normal ?_)
  refine W_seq ?_
  refine W_region ?_
  refine WL_step rfl rfl (Exec.move (v := Value.pointer none) rfl rfl ?_)
  refine WL_step rfl rfl (Exec.move (v := Value.int .i64 (p23618)) rfl rfl ?_)
  refine WL_step rfl rfl (Exec.call rfl rfl Try.func15 rfl N15 (args_cons rfl (args_cons rfl (args_cons rfl args_nil))) ((stn_Network_Distance_nil_sim (stn_Network_Distance_nil_tot 0 p23618) hS ).mono ?_))
  rintro _ w23646 ⟨_, rfl, ⟨s23647, l23648, hS23649, rfl⟩⟩
  refine ⟨_, rfl, ?_⟩
  refine WL_step rfl rfl (Exec.move (v := Value.tuple #[Value.int .i64 ((stn_Network_Distance_nil_t 0 p23618).1), errV 30 ((stn_Network_Distance_nil_t 0 p23618).2)]) rfl rfl ?_)
  refine WL_step rfl rfl (Exec.extract (v := Value.int .i64 ((stn_Network_Distance_nil_t 0 p23618).1)) rfl rfl rfl ?_)
  refine WL_step rfl rfl (Exec.extract (v := errV 30 ((stn_Network_Distance_nil_t 0 p23618).2)) rfl rfl rfl ?_)
  refine WL_step rfl rfl (Exec.assign (v := Value.int .i64 ((stn_Network_Distance_nil_t 0 p23618).1)) rfl rfl ?_)
  refine WL_step rfl rfl (Exec.assign (v := errV 30 ((stn_Network_Distance_nil_t 0 p23618).2)) rfl rfl ?_)
  refine WL_nil (at_normal ?_)
  refine W_seq ?_
  refine W_seq ?_
  refine W_region ?_
  refine WL_step rfl rfl (Exec.move (v := errV 30 ((stn_Network_Distance_nil_t 0 p23618).2)) rfl rfl ?_)
  refine WL_step rfl rfl (Exec.err_neq_nil (T := 30) Try.underlying26 rfl rfl rfl ?_)
  refine WL_nil (at_normal ?_)
  rcases ite_some hm with ⟨hc23650, hm⟩ | ⟨hc23650, hm⟩
  · refine W_cond_t rfl hc23650 ?_
    refine W_seq ?_
    refine W_region ?_
    refine WL_step rfl rfl (Exec.move (v := errV 30 ((stn_Network_Distance_nil_t 0 p23618).2)) rfl rfl ?_)
    refine WL_step rfl rfl (Exec.assign (v := Value.int .i64 (0)) rfl rfl ?_)
    refine WL_step rfl rfl (Exec.assign (v := errV 30 ((stn_Network_Distance_nil_t 0 p23618).2)) rfl rfl ?_)
    refine WL_nil (at_normal ?_)
    refine W_ret (at_ret ?_)
    have e23652 := Option.some.inj hm
    subst r
    refine ⟨_, ret2 rfl, ?_⟩
    exact ⟨s23647, l23648, hS23649, (tup2 rfl rfl)⟩
  · refine W_cond_f rfl hc23650 ?_
    replace hc23650 := not_true hc23650
    refine W_skip (at_normal ?_)
    refine W_seq ?_
    refine W_seq ?_
    refine W_region ?_
    refine WL_step rfl rfl (Exec.move (v := Value.int .i64 ((stn_Network_Distance_nil_t 0 p23618).1)) rfl rfl ?_)
    refine WL_step rfl rfl (Exec.geq rfl rfl rfl ?_)
    refine WL_nil (at_normal ?_)
    rcases ite_some hm with ⟨hc23653, hm⟩ | ⟨hc23653, hm⟩
    · refine W_cond_t rfl hc23653 ?_
      refine W_seq ?_
      refine W_region ?_
      refine WL_step rfl rfl (Exec.makeInterface C30 rfl rfl ?_)
      refine WL_step rfl rfl (Exec.assign (v := Value.int .i64 (0)) rfl rfl ?_)
      refine WL_step rfl rfl (Exec.assign (v := errV 30 (some 3)) rfl rfl ?_)
      refine WL_nil (at_normal ?_)
      refine W_ret (at_ret ?_)
      have e23655 := Option.some.inj hm
      subst r
      refine ⟨_, ret2 rfl, ?_⟩
      exact ⟨s23647, l23648, hS23649, (tup2 rfl rfl)⟩
    · refine W_cond_f rfl hc23653 ?_
      replace hc23653 := not_true hc23653
      refine W_skip (at_normal ?_)
      refine W_seq ?_
      refine W_region ?_
      refine WL_step rfl rfl (Exec.move (v := Value.int .i64 ((stn_Network_Distance_nil_t 0 p23618).1)) rfl rfl ?_)
      refine WL_step rfl rfl (Exec.assign (v := Value.int .i64 ((stn_Network_Distance_nil_t 0 p23618).1)) rfl rfl ?_)
      refine WL_step rfl rfl (Exec.assign (v := errV 30 (none)) rfl rfl ?_)
      refine WL_nil (at_normal ?_)
      refine W_ret ?_
      have e23657 := Option.some.inj hm
      subst r
      refine ⟨_, ret2 rfl, ?_⟩
      exact ⟨s23647, l23648, hS23649, (tup2 rfl rfl)⟩

theorem stn_Network_Add_nil_sim {w0 w : World} {s : PHeap} {H : List Res} {b23689 : Bound}  {r : (Option Int)} (hm : stn_Network_Add_nil_p b23689 = some r) (hS : St w0 s (H) w)  :
    Calls Try.prog 14 #[Value.pointer none, Value.agg #[Value.int .i64 (b23689.A), Value.int .i64 (b23689.B), Value.int .i64 (b23689.Most)]] w fun e w' => ∃ v, e = .returned v ∧ ((fun (y23697 : (Option Int)) => ∃ (s23698 : PHeap) , PHeap.le s s23698 ∧ St w0 s23698 (H) w' ∧ v = errV 30 (y23697)) r) := by
  unfold stn_Network_Add_nil_p at hm
  refine calls_of_W Try.func14 rfl rfl ?_
  refine W_seq ?_
  refine W_region ?_
  refine WL_step rfl rfl (Exec.box (cs := [Value.int .i64 (b23689.A), Value.int .i64 (b23689.B), Value.int .i64 (b23689.Most)]) hS rfl rfl rfl ?_)
  intro b23702 w23703 hS23704
  refine WL_step rfl rfl (Exec.assign (v := errV 30 (none)) rfl rfl ?_)
  refine WL_nil (at_normal ?_)
  refine W_seq ?_
  refine W_seq ?_
  refine W_region ?_
  refine WL_step rfl rfl (Exec.move (v := Value.pointer none) rfl rfl ?_)
  refine WL_step rfl rfl (Exec.ptr_eql_nil Try.underlying24 rfl rfl rfl ?_)
  refine WL_nil (at_normal ?_)
  refine W_true rfl ?_
  refine W_seq ?_
  refine W_region ?_
  refine WL_step rfl rfl (Exec.makeInterface C30 rfl rfl ?_)
  refine WL_step rfl rfl (Exec.assign (v := errV 30 (some 3)) rfl rfl ?_)
  refine WL_nil (at_normal ?_)
  refine W_ret (at_ret ?_)
  have e23706 := Option.some.inj hm
  subst r
  refine ⟨_, ret1 rfl, ?_⟩
  have hS23707 := (hS23704).drop
  exact ⟨s, (PHeap.le_refl _), hS23707, rfl⟩

theorem N9 : (Try.f9.name == "runtime.NumGoroutine") = false := by kernel_rfl

theorem law54_awake_sim {w0 w : World} {s : PHeap} {H : List Res}   {r : Bool} (hm : law54_awake_p  = some r) (hS : St w0 s (H) w)  :
    Calls Try.prog 9 #[] w fun e w' => ∃ v, e = .returned v ∧ ((fun (y23761 : Bool) => ∃ (s23762 : PHeap) , PHeap.le s s23762 ∧ St w0 s23762 (H) w' ∧ v = Value.bool (y23761)) r) := by
  unfold law54_awake_p at hm
  refine calls_of_W Try.func9 rfl rfl ?_
  refine W_seq ?_
  refine W_region ?_
  refine WL_step rfl rfl (Exec.assign (v := Value.bool (false)) rfl rfl ?_)
  refine WL_nil (at_normal ?_)
  refine W_seq ?_
  refine W_region ?_
  refine WL_step rfl rfl (Exec.build rfl (parts_cons (c := [Value.int .i64 (1)]) (cells_of rfl rfl) (parts_cons (c := [Value.int .i64 (0)]) (cells_of rfl rfl) (parts_cons (c := [Value.int .i64 ((-2))]) (cells_of rfl rfl) parts_nil))) (v := Value.agg #[Value.int .i64 (1), Value.int .i64 (0), Value.int .i64 ((-2))]) (fun _ => by kernel_rfl) ?_)
  refine WL_step rfl rfl (Exec.build rfl (parts_cons (c := [Value.int .i64 (1)]) (cells_of rfl rfl) (parts_cons (c := [Value.int .i64 (2)]) (cells_of rfl rfl) (parts_cons (c := [Value.int .i64 (3)]) (cells_of rfl rfl) parts_nil))) (v := Value.agg #[Value.int .i64 (1), Value.int .i64 (2), Value.int .i64 (3)]) (fun _ => by kernel_rfl) ?_)
  refine WL_step rfl rfl (Exec.build rfl (parts_cons (c := [Value.int .i64 (2)]) (cells_of rfl rfl) (parts_cons (c := [Value.int .i64 (1)]) (cells_of rfl rfl) (parts_cons (c := [Value.int .i64 ((-3))]) (cells_of rfl rfl) parts_nil))) (v := Value.agg #[Value.int .i64 (2), Value.int .i64 (1), Value.int .i64 ((-3))]) (fun _ => by kernel_rfl) ?_)
  refine WL_step rfl rfl (Exec.buildSlice (Te := 32) (cs := [Value.int .i64 (1), Value.int .i64 (0), Value.int .i64 ((-2)), Value.int .i64 (1), Value.int .i64 (2), Value.int .i64 (3), Value.int .i64 (2), Value.int .i64 (1), Value.int .i64 ((-3))]) hS rfl (parts_cons (c := [Value.int .i64 (1), Value.int .i64 (0), Value.int .i64 ((-2))]) (cells_of rfl rfl) (parts_cons (c := [Value.int .i64 (1), Value.int .i64 (2), Value.int .i64 (3)]) (cells_of rfl rfl) (parts_cons (c := [Value.int .i64 (2), Value.int .i64 (1), Value.int .i64 ((-3))]) (cells_of rfl rfl) parts_nil))) (fun _ => by kernel_rfl) ?_)
  intro b23789 w23790 hS23791
  have hS23792 := St.boxArr (E := encBound) (xs := [(⟨1, 0, (-2)⟩ : Bound), (⟨1, 2, 3⟩ : Bound), (⟨2, 1, (-3)⟩ : Bound)]) hS23791 ⟨[Value.int .i64 (1), Value.int .i64 (0), Value.int .i64 ((-2))], [Value.int .i64 (1), Value.int .i64 (2), Value.int .i64 (3), Value.int .i64 (2), Value.int .i64 (1), Value.int .i64 ((-3))], rfl, ⟨[Value.int .i64 (1)], [Value.int .i64 (0), Value.int .i64 ((-2))], rfl, rfl, ⟨[Value.int .i64 (0)], [Value.int .i64 ((-2))], rfl, rfl, rfl⟩⟩, ⟨[Value.int .i64 (1), Value.int .i64 (2), Value.int .i64 (3)], [Value.int .i64 (2), Value.int .i64 (1), Value.int .i64 ((-3))], rfl, ⟨[Value.int .i64 (1)], [Value.int .i64 (2), Value.int .i64 (3)], rfl, rfl, ⟨[Value.int .i64 (2)], [Value.int .i64 (3)], rfl, rfl, rfl⟩⟩, ⟨[Value.int .i64 (2), Value.int .i64 (1), Value.int .i64 ((-3))], [], rfl, ⟨[Value.int .i64 (2)], [Value.int .i64 (1), Value.int .i64 ((-3))], rfl, rfl, ⟨[Value.int .i64 (1)], [Value.int .i64 ((-3))], rfl, rfl, rfl⟩⟩, rfl⟩⟩⟩ (by simp [maxLen])
  obtain ⟨s23793, l23794, hS23795, r23796⟩ := hS23792.freezeArr
  obtain ⟨t23797, q23798, hm⟩ := bind_some hm
  obtain ⟨pd23799, y23800⟩ := t23797
  replace hm := un2_eq hm
  refine WL_step rfl rfl (Exec.call rfl rfl Try.func19 rfl N19 (args_cons rfl (args_cons rfl args_nil)) ((law54_made_sim q23798 hS23795 r23796).mono ?_))
  rintro _ w23801 ⟨_, rfl, hp23802⟩
  refine ⟨_, rfl, ?_⟩
  rcases hp23802 with ⟨d23803, rfl, s23804, v23807, v23808, v23809, l23805, hS23806, rfl⟩ | ⟨rfl, s23811, l23812, hS23813, rfl⟩
  · replace hm := optC_some hm
    refine WL_step rfl rfl (Exec.move (v := Value.tuple #[Value.pointer (some ⟨v23807, 0, none⟩), Value.bool (y23800)]) rfl rfl ?_)
    refine WL_step rfl rfl (Exec.extract (v := Value.pointer (some ⟨v23807, 0, none⟩)) rfl rfl rfl ?_)
    refine WL_step rfl rfl (Exec.extract (v := Value.bool (y23800)) rfl rfl rfl ?_)
    refine WL_step rfl rfl (Exec.assign (v := Value.pointer (some ⟨v23807, 0, none⟩)) rfl rfl ?_)
    refine WL_step rfl rfl (Exec.assign (v := Value.bool (y23800)) rfl rfl ?_)
    refine WL_nil (at_normal ?_)
    refine W_seq ?_
    refine W_seq ?_
    refine W_region ?_
    refine WL_step rfl rfl (Exec.move (v := Value.bool (y23800)) rfl rfl ?_)
    refine WL_step rfl rfl (Exec.not rfl rfl ?_)
    refine WL_nil (at_normal ?_)
    rcases ite_some hm with ⟨hc23815, hm⟩ | ⟨hc23815, hm⟩
    · refine W_cond_t rfl hc23815 ?_
      refine W_seq ?_
      refine W_region ?_
      refine WL_step rfl rfl (Exec.assign (v := Value.bool (false)) rfl rfl ?_)
      refine WL_nil (at_normal ?_)
      refine W_ret (at_ret ?_)
      have e23817 := Option.some.inj hm
      subst r
      refine ⟨_, ret1 rfl, ?_⟩
      have hS23818 := (hS23806).drop
      have hS23819 := ((hS23818).drop).drop
      exact ⟨s23804, (PHeap.le.trans l23794 l23805), hS23819, rfl⟩
    · refine W_cond_f rfl hc23815 ?_
      replace hc23815 := not_true hc23815
      refine W_skip (at_normal ?_)
      refine W_seq ?_
      refine W_region ?_
      refine WL_step rfl rfl (Exec.move (v := Value.pointer (some ⟨v23807, 0, none⟩)) rfl rfl ?_)
      obtain ⟨t23832, q23833, hm⟩ := bind_some hm
      obtain ⟨y23834, y23835⟩ := t23832
      replace hm := un2_eq hm
      have hS23836 := ((hS23806).f2).f2
      have hS23837 := (hS23836).f2
      refine WL_step rfl rfl (Exec.call rfl rfl Try.func22 rfl N22 (args_cons rfl args_nil) ((stn_Network_Times_sim q23833 hS23837 ).mono ?_))
      rintro _ w23838 ⟨_, rfl, ⟨s23839, v23842, l23840, hS23841, rfl, r23843⟩⟩
      refine ⟨_, rfl, ?_⟩
      refine WL_step rfl rfl (Exec.move (v := Value.tuple #[v23842, errV 30 (y23835)]) rfl rfl ?_)
      refine WL_step rfl rfl (Exec.extract (v := v23842) rfl rfl rfl ?_)
      refine WL_step rfl rfl (Exec.extract (v := errV 30 (y23835)) rfl rfl rfl ?_)
      refine WL_step rfl rfl (Exec.assign (v := v23842) rfl rfl ?_)
      refine WL_step rfl rfl (Exec.assign (v := errV 30 (y23835)) rfl rfl ?_)
      refine WL_nil (at_normal ?_)
      refine W_seq ?_
      refine W_region ?_
      refine WL_step rfl rfl (Exec.move (v := Value.pointer (some ⟨v23807, 0, none⟩)) rfl rfl ?_)
      obtain ⟨t23854, q23855, hm⟩ := bind_some hm
      obtain ⟨y23856, y23857⟩ := t23854
      replace hm := un2_eq hm
      have hS23858 := ((hS23841).f2).f2
      have hS23859 := (hS23858).f2
      refine WL_step rfl rfl (Exec.call rfl rfl Try.func17 rfl N17 (args_cons rfl (args_cons rfl args_nil)) ((stn_Network_Latest_sim q23855 hS23859 ).mono ?_))
      rintro _ w23860 ⟨_, rfl, ⟨s23861, l23862, hS23863, rfl⟩⟩
      refine ⟨_, rfl, ?_⟩
      refine WL_step rfl rfl (Exec.move (v := Value.tuple #[Value.int .i64 (y23856), errV 30 (y23857)]) rfl rfl ?_)
      refine WL_step rfl rfl (Exec.extract (v := Value.int .i64 (y23856)) rfl rfl rfl ?_)
      refine WL_step rfl rfl (Exec.extract (v := errV 30 (y23857)) rfl rfl rfl ?_)
      refine WL_step rfl rfl (Exec.assign (v := Value.int .i64 (y23856)) rfl rfl ?_)
      refine WL_step rfl rfl (Exec.assign (v := errV 30 (y23857)) rfl rfl ?_)
      refine WL_nil (at_normal ?_)
      refine W_seq ?_
      obtain ⟨z23900, ht23901, hm⟩ := bind_some hm
      refine W_mid (M := fun f' w' => (fun (z23900 : Bool) => ∃ (s23902 : PHeap) , PHeap.le s23861 s23902 ∧ St w0 s23902 (H) w' ∧ f' 0 = Value.bool (z23900)) z23900) ?_ ?_
      · refine W_region ?_
        refine WL_step rfl rfl (Exec.move (v := errV 30 (y23835)) rfl rfl ?_)
        refine WL_step rfl rfl (Exec.err_eql_nil (T := 30) Try.underlying26 rfl rfl rfl ?_)
        refine WL_step rfl rfl (Exec.move (v := Value.bool (y23835.isNone)) rfl rfl ?_)
        rcases ite_some ht23901 with ⟨hc23903, ht23901⟩ | ⟨hc23903, ht23901⟩
        · refine WL_run rfl (yield_of rfl (congrArg Value.bool hc23903)) rfl (Exec.move (v := v23842) rfl rfl ?_)
          refine WL_run rfl (yield_of rfl (congrArg Value.bool hc23903)) rfl (Exec.buildSlice (Te := 3) (cs := [Value.int .i64 (0), Value.int .i64 (2), Value.int .i64 (5)]) hS23863 rfl (parts_cons (c := [Value.int .i64 (0)]) (cells_of rfl rfl) (parts_cons (c := [Value.int .i64 (2)]) (cells_of rfl rfl) (parts_cons (c := [Value.int .i64 (5)]) (cells_of rfl rfl) parts_nil))) (fun _ => by kernel_rfl) ?_)
          intro b23904 w23905 hS23906
          have hS23907 := St.boxArr (E := (encInt .i64)) (xs := [0, 2, 5]) hS23906 ⟨[Value.int .i64 (0)], [Value.int .i64 (2), Value.int .i64 (5)], rfl, rfl, ⟨[Value.int .i64 (2)], [Value.int .i64 (5)], rfl, rfl, ⟨[Value.int .i64 (5)], [], rfl, rfl, rfl⟩⟩⟩ (by simp [maxLen])
          obtain ⟨s23908, l23909, hS23910, r23911⟩ := hS23907.freezeArr
          obtain ⟨y23914, q23913, ht23901⟩ := bind_some ht23901
          refine WL_run rfl (yield_of rfl (congrArg Value.bool hc23903)) rfl (Exec.call rfl rfl Try.func23 rfl N23 (args_cons rfl (args_cons rfl args_nil)) ((base_Ints_sim q23913 hS23910 (r23843.mono (PHeap.le.trans l23862 l23909)) r23911).mono ?_))
          rintro _ w23915 ⟨_, rfl, ⟨s23916, l23917, hS23918, rfl⟩⟩
          refine ⟨_, rfl, ?_⟩
          refine WL_step rfl rfl (Exec.pick_t (v := Value.bool (y23914)) rfl (congrArg Value.bool hc23903) rfl ?_)
          refine WL_step rfl rfl (Exec.move (v := Value.bool (y23914)) rfl rfl ?_)
          rcases ite_some ht23901 with ⟨hc23919, ht23901⟩ | ⟨hc23919, ht23901⟩
          · refine WL_run rfl (yield_of rfl (congrArg Value.bool hc23919)) rfl (Exec.move (v := errV 30 (y23857)) rfl rfl ?_)
            refine WL_run rfl (yield_of rfl (congrArg Value.bool hc23919)) rfl (Exec.call rfl rfl Try.func11 rfl N11 (args_cons rfl (args_cons rfl args_nil)) ((base_Is_sim (base_Is_tot y23857 3) hS23918 ).mono ?_))
            rintro _ w23920 ⟨_, rfl, ⟨s23921, l23922, hS23923, rfl⟩⟩
            refine ⟨_, rfl, ?_⟩
            refine WL_step rfl rfl (Exec.pick_t (v := Value.bool ((base_Is_t y23857 3))) rfl (congrArg Value.bool hc23919) rfl ?_)
            refine WL_step rfl rfl (Exec.move (v := Value.bool ((base_Is_t y23857 3))) rfl rfl ?_)
            rcases ite_some ht23901 with ⟨hc23924, ht23901⟩ | ⟨hc23924, ht23901⟩
            · refine WL_run rfl (yield_of rfl (congrArg Value.bool hc23924)) rfl (Exec.move (v := Value.pointer (some ⟨v23807, 0, none⟩)) rfl rfl ?_)
              refine WL_run rfl (yield_of rfl (congrArg Value.bool hc23924)) rfl (Exec.build rfl (parts_cons (c := [Value.int .i64 (0)]) (cells_of rfl rfl) (parts_cons (c := [Value.int .i64 (2)]) (cells_of rfl rfl) (parts_cons (c := [Value.int .i64 (4)]) (cells_of rfl rfl) parts_nil))) (v := Value.agg #[Value.int .i64 (0), Value.int .i64 (2), Value.int .i64 (4)]) (fun _ => by kernel_rfl) ?_)
              obtain ⟨t23925, q23926, ht23901⟩ := bind_some ht23901
              obtain ⟨y23927, l23928⟩ := t23925
              replace ht23901 := un2_eq ht23901
              have hS23929 := ((hS23923).f2).f2
              have hS23930 := (hS23929).f2
              refine WL_run rfl (yield_of rfl (congrArg Value.bool hc23924)) rfl (Exec.call rfl rfl Try.func14 rfl N14 (args_cons rfl (args_cons rfl args_nil)) ((stn_Network_Add_sim q23926 hS23930 ).mono ?_))
              rintro _ w23931 ⟨_, rfl, ⟨s23932, l23933, hS23934, rfl⟩⟩
              refine ⟨_, rfl, ?_⟩
              refine WL_run rfl (yield_of rfl (congrArg Value.bool hc23924)) rfl (Exec.call rfl rfl Try.func11 rfl N11 (args_cons rfl (args_cons rfl args_nil)) ((base_Is_sim (base_Is_tot y23927 21) hS23934 ).mono ?_))
              rintro _ w23935 ⟨_, rfl, ⟨s23936, l23937, hS23938, rfl⟩⟩
              refine ⟨_, rfl, ?_⟩
              refine WL_step rfl rfl (Exec.pick_t (v := Value.bool ((base_Is_t y23927 21))) rfl (congrArg Value.bool hc23924) rfl ?_)
              refine WL_step rfl rfl (Exec.assign (v := Value.bool ((base_Is_t y23927 21))) rfl rfl ?_)
              refine WL_nil (at_normal ?_)
              have e23939 := Option.some.inj ht23901
              subst z23900
              have hS23940 := (hS23938).drop
              have hS23941 := ((hS23940).drop).drop
              exact ⟨s23936, (PHeap.le.trans (PHeap.le.trans (PHeap.le.trans (PHeap.le.trans l23909 l23917) l23922) l23933) l23937), hS23941, rfl⟩
            · replace hc23924 := not_true hc23924
              refine WL_pass rfl (yield_of rfl (congrArg Value.bool hc23924)) rfl rfl ?_
              refine WL_pass rfl (yield_of rfl (congrArg Value.bool hc23924)) rfl rfl ?_
              refine WL_pass rfl (yield_of rfl (congrArg Value.bool hc23924)) rfl rfl ?_
              refine WL_pass rfl (yield_of rfl (congrArg Value.bool hc23924)) rfl rfl ?_
              refine WL_step rfl rfl (Exec.pick_f (v := Value.bool (false)) rfl (congrArg Value.bool hc23924) rfl ?_)
              refine WL_step rfl rfl (Exec.assign (v := Value.bool (false)) rfl rfl ?_)
              refine WL_nil (at_normal ?_)
              have e23942 := Option.some.inj ht23901
              subst z23900
              have hS23943 := (hS23923).drop
              have hS23944 := ((hS23943).drop).drop
              exact ⟨s23921, (PHeap.le.trans (PHeap.le.trans l23909 l23917) l23922), hS23944, rfl⟩
          · replace hc23919 := not_true hc23919
            refine WL_pass rfl (yield_of rfl (congrArg Value.bool hc23919)) rfl rfl ?_
            refine WL_pass rfl (yield_of rfl (congrArg Value.bool hc23919)) rfl rfl ?_
            refine WL_step rfl rfl (Exec.pick_f (v := Value.bool (false)) rfl (congrArg Value.bool hc23919) rfl ?_)
            refine WL_step rfl rfl (Exec.move (v := Value.bool (false)) rfl rfl ?_)
            refine WL_pass rfl (yield_of rfl rfl) rfl rfl ?_
            refine WL_pass rfl (yield_of rfl rfl) rfl rfl ?_
            refine WL_pass rfl (yield_of rfl rfl) rfl rfl ?_
            refine WL_pass rfl (yield_of rfl rfl) rfl rfl ?_
            refine WL_step rfl rfl (Exec.pick_f (v := Value.bool (false)) rfl rfl rfl ?_)
            refine WL_step rfl rfl (Exec.assign (v := Value.bool (false)) rfl rfl ?_)
            refine WL_nil (at_normal ?_)
            have e23945 := Option.some.inj ht23901
            subst z23900
            have hS23946 := (hS23918).drop
            have hS23947 := ((hS23946).drop).drop
            exact ⟨s23916, (PHeap.le.trans l23909 l23917), hS23947, rfl⟩
        · replace hc23903 := not_true hc23903
          refine WL_pass rfl (yield_of rfl (congrArg Value.bool hc23903)) rfl rfl ?_
          refine WL_pass rfl (yield_of rfl (congrArg Value.bool hc23903)) rfl rfl ?_
          refine WL_pass rfl (yield_of rfl (congrArg Value.bool hc23903)) rfl rfl ?_
          refine WL_step rfl rfl (Exec.pick_f (v := Value.bool (false)) rfl (congrArg Value.bool hc23903) rfl ?_)
          refine WL_step rfl rfl (Exec.move (v := Value.bool (false)) rfl rfl ?_)
          refine WL_pass rfl (yield_of rfl rfl) rfl rfl ?_
          refine WL_pass rfl (yield_of rfl rfl) rfl rfl ?_
          refine WL_step rfl rfl (Exec.pick_f (v := Value.bool (false)) rfl rfl rfl ?_)
          refine WL_step rfl rfl (Exec.move (v := Value.bool (false)) rfl rfl ?_)
          refine WL_pass rfl (yield_of rfl rfl) rfl rfl ?_
          refine WL_pass rfl (yield_of rfl rfl) rfl rfl ?_
          refine WL_pass rfl (yield_of rfl rfl) rfl rfl ?_
          refine WL_pass rfl (yield_of rfl rfl) rfl rfl ?_
          refine WL_step rfl rfl (Exec.pick_f (v := Value.bool (false)) rfl rfl rfl ?_)
          refine WL_step rfl rfl (Exec.assign (v := Value.bool (false)) rfl rfl ?_)
          refine WL_nil (at_normal ?_)
          have e23948 := Option.some.inj ht23901
          subst z23900
          have hS23949 := (hS23863).drop
          have hS23950 := ((hS23949).drop).drop
          exact ⟨s23861, (PHeap.le_refl _), hS23950, rfl⟩
      · intro f23951 w23952 hM23953
        obtain ⟨s23954, l23955, hS23956, p23957⟩ := hM23953
        refine (at_normal ?_)
        refine W_ret ?_
        have e23959 := Option.some.inj hm
        subst r
        refine ⟨_, ret1 rfl, ?_⟩
        exact ⟨s23954, (PHeap.le.trans (PHeap.le.trans (PHeap.le.trans (PHeap.le.trans l23794 l23805) l23840) l23862) l23955), hS23956, p23957⟩
  · replace hm := optC_none hm
    refine WL_step rfl rfl (Exec.move (v := Value.tuple #[Value.pointer none, Value.bool (y23800)]) rfl rfl ?_)
    refine WL_step rfl rfl (Exec.extract (v := Value.pointer none) rfl rfl rfl ?_)
    refine WL_step rfl rfl (Exec.extract (v := Value.bool (y23800)) rfl rfl rfl ?_)
    refine WL_step rfl rfl (Exec.assign (v := Value.pointer none) rfl rfl ?_)
    refine WL_step rfl rfl (Exec.assign (v := Value.bool (y23800)) rfl rfl ?_)
    refine WL_nil (at_normal ?_)
    refine W_seq ?_
    refine W_seq ?_
    refine W_region ?_
    refine WL_step rfl rfl (Exec.move (v := Value.bool (y23800)) rfl rfl ?_)
    refine WL_step rfl rfl (Exec.not rfl rfl ?_)
    refine WL_nil (at_normal ?_)
    rcases ite_some hm with ⟨hc23960, hm⟩ | ⟨hc23960, hm⟩
    · refine W_cond_t rfl hc23960 ?_
      refine W_seq ?_
      refine W_region ?_
      refine WL_step rfl rfl (Exec.assign (v := Value.bool (false)) rfl rfl ?_)
      refine WL_nil (at_normal ?_)
      refine W_ret (at_ret ?_)
      have e23962 := Option.some.inj hm
      subst r
      refine ⟨_, ret1 rfl, ?_⟩
      exact ⟨s23811, (PHeap.le.trans l23794 l23812), hS23813, rfl⟩
    · refine W_cond_f rfl hc23960 ?_
      replace hc23960 := not_true hc23960
      refine W_skip (at_normal ?_)
      refine W_seq ?_
      refine W_region ?_
      refine WL_step rfl rfl (Exec.move (v := Value.pointer none) rfl rfl ?_)
      refine WL_step rfl rfl (Exec.call rfl rfl Try.func22 rfl N22 (args_cons rfl args_nil) ((stn_Network_Times_nil_sim stn_Network_Times_nil_tot hS23813 ).mono ?_))
      rintro _ w23969 ⟨_, rfl, ⟨s23970, v23973, l23971, hS23972, rfl, r23974⟩⟩
      refine ⟨_, rfl, ?_⟩
      refine WL_step rfl rfl (Exec.move (v := Value.tuple #[v23973, errV 30 ((stn_Network_Times_nil_t).2)]) rfl rfl ?_)
      refine WL_step rfl rfl (Exec.extract (v := v23973) rfl rfl rfl ?_)
      refine WL_step rfl rfl (Exec.extract (v := errV 30 ((stn_Network_Times_nil_t).2)) rfl rfl rfl ?_)
      refine WL_step rfl rfl (Exec.assign (v := v23973) rfl rfl ?_)
      refine WL_step rfl rfl (Exec.assign (v := errV 30 ((stn_Network_Times_nil_t).2)) rfl rfl ?_)
      refine WL_nil (at_normal ?_)
      refine W_seq ?_
      refine W_region ?_
      refine WL_step rfl rfl (Exec.move (v := Value.pointer none) rfl rfl ?_)
      refine WL_step rfl rfl (Exec.call rfl rfl Try.func17 rfl N17 (args_cons rfl (args_cons rfl args_nil)) ((stn_Network_Latest_nil_sim (stn_Network_Latest_nil_tot 1) hS23972 ).mono ?_))
      rintro _ w23979 ⟨_, rfl, ⟨s23980, l23981, hS23982, rfl⟩⟩
      refine ⟨_, rfl, ?_⟩
      refine WL_step rfl rfl (Exec.move (v := Value.tuple #[Value.int .i64 ((stn_Network_Latest_nil_t 1).1), errV 30 ((stn_Network_Latest_nil_t 1).2)]) rfl rfl ?_)
      refine WL_step rfl rfl (Exec.extract (v := Value.int .i64 ((stn_Network_Latest_nil_t 1).1)) rfl rfl rfl ?_)
      refine WL_step rfl rfl (Exec.extract (v := errV 30 ((stn_Network_Latest_nil_t 1).2)) rfl rfl rfl ?_)
      refine WL_step rfl rfl (Exec.assign (v := Value.int .i64 ((stn_Network_Latest_nil_t 1).1)) rfl rfl ?_)
      refine WL_step rfl rfl (Exec.assign (v := errV 30 ((stn_Network_Latest_nil_t 1).2)) rfl rfl ?_)
      refine WL_nil (at_normal ?_)
      refine W_seq ?_
      obtain ⟨z24013, ht24014, hm⟩ := bind_some hm
      refine W_mid (M := fun f' w' => (fun (z24013 : Bool) => ∃ (s24015 : PHeap) , PHeap.le s23980 s24015 ∧ St w0 s24015 (H) w' ∧ f' 0 = Value.bool (z24013)) z24013) ?_ ?_
      · refine W_region ?_
        refine WL_step rfl rfl (Exec.move (v := errV 30 ((stn_Network_Times_nil_t).2)) rfl rfl ?_)
        refine WL_step rfl rfl (Exec.err_eql_nil (T := 30) Try.underlying26 rfl rfl rfl ?_)
        refine WL_step rfl rfl (Exec.move (v := Value.bool (((stn_Network_Times_nil_t).2).isNone)) rfl rfl ?_)
        rcases ite_some ht24014 with ⟨hc24016, ht24014⟩ | ⟨hc24016, ht24014⟩
        · refine WL_run rfl (yield_of rfl (congrArg Value.bool hc24016)) rfl (Exec.move (v := v23973) rfl rfl ?_)
          refine WL_run rfl (yield_of rfl (congrArg Value.bool hc24016)) rfl (Exec.buildSlice (Te := 3) (cs := [Value.int .i64 (0), Value.int .i64 (2), Value.int .i64 (5)]) hS23982 rfl (parts_cons (c := [Value.int .i64 (0)]) (cells_of rfl rfl) (parts_cons (c := [Value.int .i64 (2)]) (cells_of rfl rfl) (parts_cons (c := [Value.int .i64 (5)]) (cells_of rfl rfl) parts_nil))) (fun _ => by kernel_rfl) ?_)
          intro b24017 w24018 hS24019
          have hS24020 := St.boxArr (E := (encInt .i64)) (xs := [0, 2, 5]) hS24019 ⟨[Value.int .i64 (0)], [Value.int .i64 (2), Value.int .i64 (5)], rfl, rfl, ⟨[Value.int .i64 (2)], [Value.int .i64 (5)], rfl, rfl, ⟨[Value.int .i64 (5)], [], rfl, rfl, rfl⟩⟩⟩ (by simp [maxLen])
          obtain ⟨s24021, l24022, hS24023, r24024⟩ := hS24020.freezeArr
          obtain ⟨y24027, q24026, ht24014⟩ := bind_some ht24014
          refine WL_run rfl (yield_of rfl (congrArg Value.bool hc24016)) rfl (Exec.call rfl rfl Try.func23 rfl N23 (args_cons rfl (args_cons rfl args_nil)) ((base_Ints_sim q24026 hS24023 (r23974.mono (PHeap.le.trans l23981 l24022)) r24024).mono ?_))
          rintro _ w24028 ⟨_, rfl, ⟨s24029, l24030, hS24031, rfl⟩⟩
          refine ⟨_, rfl, ?_⟩
          refine WL_step rfl rfl (Exec.pick_t (v := Value.bool (y24027)) rfl (congrArg Value.bool hc24016) rfl ?_)
          refine WL_step rfl rfl (Exec.move (v := Value.bool (y24027)) rfl rfl ?_)
          rcases ite_some ht24014 with ⟨hc24032, ht24014⟩ | ⟨hc24032, ht24014⟩
          · refine WL_run rfl (yield_of rfl (congrArg Value.bool hc24032)) rfl (Exec.move (v := errV 30 ((stn_Network_Latest_nil_t 1).2)) rfl rfl ?_)
            refine WL_run rfl (yield_of rfl (congrArg Value.bool hc24032)) rfl (Exec.call rfl rfl Try.func11 rfl N11 (args_cons rfl (args_cons rfl args_nil)) ((base_Is_sim (base_Is_tot ((stn_Network_Latest_nil_t 1).2) 3) hS24031 ).mono ?_))
            rintro _ w24033 ⟨_, rfl, ⟨s24034, l24035, hS24036, rfl⟩⟩
            refine ⟨_, rfl, ?_⟩
            refine WL_step rfl rfl (Exec.pick_t (v := Value.bool ((base_Is_t ((stn_Network_Latest_nil_t 1).2) 3))) rfl (congrArg Value.bool hc24032) rfl ?_)
            refine WL_step rfl rfl (Exec.move (v := Value.bool ((base_Is_t ((stn_Network_Latest_nil_t 1).2) 3))) rfl rfl ?_)
            rcases ite_some ht24014 with ⟨hc24037, ht24014⟩ | ⟨hc24037, ht24014⟩
            · refine WL_run rfl (yield_of rfl (congrArg Value.bool hc24037)) rfl (Exec.move (v := Value.pointer none) rfl rfl ?_)
              refine WL_run rfl (yield_of rfl (congrArg Value.bool hc24037)) rfl (Exec.build rfl (parts_cons (c := [Value.int .i64 (0)]) (cells_of rfl rfl) (parts_cons (c := [Value.int .i64 (2)]) (cells_of rfl rfl) (parts_cons (c := [Value.int .i64 (4)]) (cells_of rfl rfl) parts_nil))) (v := Value.agg #[Value.int .i64 (0), Value.int .i64 (2), Value.int .i64 (4)]) (fun _ => by kernel_rfl) ?_)
              refine WL_run rfl (yield_of rfl (congrArg Value.bool hc24037)) rfl (Exec.call rfl rfl Try.func14 rfl N14 (args_cons rfl (args_cons rfl args_nil)) ((stn_Network_Add_nil_sim (stn_Network_Add_nil_tot (⟨0, 2, 4⟩ : Bound)) hS24036 ).mono ?_))
              rintro _ w24038 ⟨_, rfl, ⟨s24039, l24040, hS24041, rfl⟩⟩
              refine ⟨_, rfl, ?_⟩
              refine WL_run rfl (yield_of rfl (congrArg Value.bool hc24037)) rfl (Exec.call rfl rfl Try.func11 rfl N11 (args_cons rfl (args_cons rfl args_nil)) ((base_Is_sim (base_Is_tot (stn_Network_Add_nil_t (⟨0, 2, 4⟩ : Bound)) 21) hS24041 ).mono ?_))
              rintro _ w24042 ⟨_, rfl, ⟨s24043, l24044, hS24045, rfl⟩⟩
              refine ⟨_, rfl, ?_⟩
              refine WL_step rfl rfl (Exec.pick_t (v := Value.bool ((base_Is_t (stn_Network_Add_nil_t (⟨0, 2, 4⟩ : Bound)) 21))) rfl (congrArg Value.bool hc24037) rfl ?_)
              refine WL_step rfl rfl (Exec.assign (v := Value.bool ((base_Is_t (stn_Network_Add_nil_t (⟨0, 2, 4⟩ : Bound)) 21))) rfl rfl ?_)
              refine WL_nil (at_normal ?_)
              have e24046 := Option.some.inj ht24014
              subst z24013
              exact ⟨s24043, (PHeap.le.trans (PHeap.le.trans (PHeap.le.trans (PHeap.le.trans l24022 l24030) l24035) l24040) l24044), hS24045, rfl⟩
            · replace hc24037 := not_true hc24037
              refine WL_pass rfl (yield_of rfl (congrArg Value.bool hc24037)) rfl rfl ?_
              refine WL_pass rfl (yield_of rfl (congrArg Value.bool hc24037)) rfl rfl ?_
              refine WL_pass rfl (yield_of rfl (congrArg Value.bool hc24037)) rfl rfl ?_
              refine WL_pass rfl (yield_of rfl (congrArg Value.bool hc24037)) rfl rfl ?_
              refine WL_step rfl rfl (Exec.pick_f (v := Value.bool (false)) rfl (congrArg Value.bool hc24037) rfl ?_)
              refine WL_step rfl rfl (Exec.assign (v := Value.bool (false)) rfl rfl ?_)
              refine WL_nil (at_normal ?_)
              have e24047 := Option.some.inj ht24014
              subst z24013
              exact ⟨s24034, (PHeap.le.trans (PHeap.le.trans l24022 l24030) l24035), hS24036, rfl⟩
          · replace hc24032 := not_true hc24032
            refine WL_pass rfl (yield_of rfl (congrArg Value.bool hc24032)) rfl rfl ?_
            refine WL_pass rfl (yield_of rfl (congrArg Value.bool hc24032)) rfl rfl ?_
            refine WL_step rfl rfl (Exec.pick_f (v := Value.bool (false)) rfl (congrArg Value.bool hc24032) rfl ?_)
            refine WL_step rfl rfl (Exec.move (v := Value.bool (false)) rfl rfl ?_)
            refine WL_pass rfl (yield_of rfl rfl) rfl rfl ?_
            refine WL_pass rfl (yield_of rfl rfl) rfl rfl ?_
            refine WL_pass rfl (yield_of rfl rfl) rfl rfl ?_
            refine WL_pass rfl (yield_of rfl rfl) rfl rfl ?_
            refine WL_step rfl rfl (Exec.pick_f (v := Value.bool (false)) rfl rfl rfl ?_)
            refine WL_step rfl rfl (Exec.assign (v := Value.bool (false)) rfl rfl ?_)
            refine WL_nil (at_normal ?_)
            have e24048 := Option.some.inj ht24014
            subst z24013
            exact ⟨s24029, (PHeap.le.trans l24022 l24030), hS24031, rfl⟩
        · replace hc24016 := not_true hc24016
          refine WL_pass rfl (yield_of rfl (congrArg Value.bool hc24016)) rfl rfl ?_
          refine WL_pass rfl (yield_of rfl (congrArg Value.bool hc24016)) rfl rfl ?_
          refine WL_pass rfl (yield_of rfl (congrArg Value.bool hc24016)) rfl rfl ?_
          refine WL_step rfl rfl (Exec.pick_f (v := Value.bool (false)) rfl (congrArg Value.bool hc24016) rfl ?_)
          refine WL_step rfl rfl (Exec.move (v := Value.bool (false)) rfl rfl ?_)
          refine WL_pass rfl (yield_of rfl rfl) rfl rfl ?_
          refine WL_pass rfl (yield_of rfl rfl) rfl rfl ?_
          refine WL_step rfl rfl (Exec.pick_f (v := Value.bool (false)) rfl rfl rfl ?_)
          refine WL_step rfl rfl (Exec.move (v := Value.bool (false)) rfl rfl ?_)
          refine WL_pass rfl (yield_of rfl rfl) rfl rfl ?_
          refine WL_pass rfl (yield_of rfl rfl) rfl rfl ?_
          refine WL_pass rfl (yield_of rfl rfl) rfl rfl ?_
          refine WL_pass rfl (yield_of rfl rfl) rfl rfl ?_
          refine WL_step rfl rfl (Exec.pick_f (v := Value.bool (false)) rfl rfl rfl ?_)
          refine WL_step rfl rfl (Exec.assign (v := Value.bool (false)) rfl rfl ?_)
          refine WL_nil (at_normal ?_)
          have e24049 := Option.some.inj ht24014
          subst z24013
          exact ⟨s23980, (PHeap.le_refl _), hS23982, rfl⟩
      · intro f24050 w24051 hM24052
        obtain ⟨s24053, l24054, hS24055, p24056⟩ := hM24052
        refine (at_normal ?_)
        refine W_ret ?_
        have e24058 := Option.some.inj hm
        subst r
        refine ⟨_, ret1 rfl, ?_⟩
        exact ⟨s24053, (PHeap.le.trans (PHeap.le.trans (PHeap.le.trans (PHeap.le.trans l23794 l23812) l23971) l23981) l24054), hS24055, p24056⟩

theorem S46 : tySlice Try.prog 46 = some (50, 1, 2) := by kernel_rfl

theorem S47 : tySlice Try.prog 47 = some (42, 2, 2) := by kernel_rfl

theorem A50 : tyAgg Try.prog 50 = some (false, 1) := by kernel_rfl

theorem A42 : tyAgg Try.prog 42 = some (true, 2) := by kernel_rfl

theorem Z42 : tyZero Try.prog 42 = some (Value.agg #[Value.int .u8 (0), Value.int .u8 (0)]) := by kernel_rfl

theorem A5 : tyAgg Try.prog 5 = some (false, 1) := by kernel_rfl

theorem S48 : tySlice Try.prog 48 = some (5, 1, 1) := by kernel_rfl

theorem N20 : (Try.f20.name == "runtime.NumGoroutine") = false := by kernel_rfl

theorem stn_Network_Holds_o_sim {w0 w : World} {s : PHeap} {H : List Res} {n26823 : stn_Network} {times26827 : (List Int)} {b26824 : Nat} {v26825 : Value} {hs26826 : List Value} {v26828 : Value} {r : Bool} (hm : stn_Network_Holds_o_p n26823 times26827 = some r) (hS : St w0 s (Res.box b26824 63 [v26825] :: Res.arr encRaw 49 v26825 hs26826 :: Res.rows (encInt .i64) 3 hs26826 n26823.d :: Res.arr (encInt .i64) 3 v26828 times26827 :: H) w)  :
    Calls Try.prog 20 #[Value.pointer (some ⟨b26824, 0, none⟩), v26828] w fun e w' => ∃ v, e = .returned v ∧ ((fun (y33510 : Bool) => ∃ (s33511 : PHeap) , PHeap.le s s33511 ∧ St w0 s33511 (Res.box b26824 63 [v26825] :: Res.arr encRaw 49 v26825 hs26826 :: Res.rows (encInt .i64) 3 hs26826 n26823.d :: Res.arr (encInt .i64) 3 v26828 times26827 :: H) w' ∧ v = Value.bool (y33510)) r) := by
  unfold stn_Network_Holds_o_p at hm
  refine calls_of_W Try.func20 rfl rfl ?_
  refine W_seq ?_
  refine W_region ?_
  refine WL_step rfl rfl (Exec.assign (v := Value.bool (false)) rfl rfl ?_)
  refine WL_nil (at_normal ?_)
  refine W_seq ?_
  refine W_seq ?_
  obtain ⟨z33520, ht33521, hm⟩ := bind_some hm
  refine W_mid (M := fun f' w' => (fun (z33520 : Bool) => ∃ (s33522 : PHeap) , PHeap.le s s33522 ∧ St w0 s33522 (Res.box b26824 63 [v26825] :: Res.arr encRaw 49 v26825 hs26826 :: Res.rows (encInt .i64) 3 hs26826 n26823.d :: Res.arr (encInt .i64) 3 v26828 times26827 :: H) w' ∧ f' 0 = Value.pointer (some ⟨b26824, 0, none⟩) ∧ f' 1 = v26828 ∧ f' 28 = Value.bool (z33520)) z33520) ?_ ?_
  · refine W_region ?_
    refine WL_step rfl rfl (Exec.move (v := Value.pointer (some ⟨b26824, 0, none⟩)) rfl rfl ?_)
    refine WL_step rfl rfl (Exec.ptr_eql_nil Try.underlying24 rfl rfl rfl ?_)
    refine WL_step rfl rfl (Exec.move (v := Value.bool (false)) rfl rfl ?_)
    refine WL_run rfl (yield_of rfl rfl) rfl (Exec.move (v := v26828) rfl rfl ?_)
    refine WL_run rfl (yield_of rfl rfl) rfl (Exec.len_arr ((hS).f3) S49 rfl rfl ?_)
    refine WL_run rfl (yield_of rfl rfl) rfl (Exec.move (v := Value.pointer (some ⟨b26824, 0, none⟩)) rfl rfl ?_)
    refine WL_run rfl (yield_of rfl rfl) rfl (Exec.nilCheck_ptr rfl rfl ?_)
    refine WL_run rfl (yield_of rfl rfl) rfl (Exec.field F63_0 rfl rfl rfl ?_)
    refine WL_run rfl (yield_of rfl rfl) rfl (Exec.load_box (hS) A61 rfl rfl rfl ?_)
    refine WL_run rfl (yield_of rfl rfl) rfl (Exec.len_grid (((hS).f2).f2) (((hS).f2).f2).f1.rows_len S61 rfl rfl ?_)
    refine WL_run rfl (yield_of rfl rfl) rfl (Exec.neq rfl rfl rfl ?_)
    refine WL_step rfl rfl (Exec.pick_f (v := Value.bool (!decide ((times26827.length : Int) = (n26823.d.length : Int)))) rfl rfl rfl ?_)
    refine WL_step rfl rfl (Exec.move (v := Value.bool (!decide ((times26827.length : Int) = (n26823.d.length : Int)))) rfl rfl ?_)
    rcases ite_some ht33521 with ⟨hc33523, ht33521⟩ | ⟨hc33523, ht33521⟩
    · refine WL_pass rfl (yield_of rfl (congrArg Value.bool hc33523)) rfl rfl ?_
      refine WL_pass rfl (yield_of rfl (congrArg Value.bool hc33523)) rfl rfl ?_
      refine WL_pass rfl (yield_of rfl (congrArg Value.bool hc33523)) rfl rfl ?_
      refine WL_pass rfl (yield_of rfl (congrArg Value.bool hc33523)) rfl rfl ?_
      refine WL_step rfl rfl (Exec.pick_t (v := Value.bool (true)) rfl (congrArg Value.bool hc33523) rfl ?_)
      refine WL_nil (at_normal ?_)
      have e33524 := Option.some.inj ht33521
      subst z33520
      have hS33525 := (hS).f3
      have hS33526 := ((hS33525).f3).f3
      have hS33527 := (hS33526).f3
      exact ⟨s, (PHeap.le_refl _), hS33527, rfl, rfl, rfl⟩
    · replace hc33523 := not_true hc33523
      refine WL_run rfl (yield_of rfl (congrArg Value.bool hc33523)) rfl (Exec.move (v := v26828) rfl rfl ?_)
      obtain ⟨x33528, q33529, ht33521⟩ := bind_some ht33521
      obtain ⟨g33530, c33531, e33532⟩ := ((hS).f3).arr_at q33529
      refine WL_run rfl (yield_of rfl (congrArg Value.bool hc33523)) rfl (Exec.index_slice S49 rfl e33532 rfl (idx_some q33529).1 (idx_some q33529).2.1 ?_)
      refine WL_run rfl (yield_of rfl (congrArg Value.bool hc33523)) rfl (Exec.load_arr (F := (encInt .i64)) ((hS).f3) e33532 A3 rfl rfl rfl q33529 (Sub.refl _) ?_)
      intro v33533 q33534
      obtain rfl := encInt_val.1 q33534
      refine WL_run rfl (yield_of rfl (congrArg Value.bool hc33523)) rfl (Exec.neq rfl rfl rfl ?_)
      refine WL_step rfl rfl (Exec.pick_f (v := Value.bool (!decide (x33528 = 0))) rfl (congrArg Value.bool hc33523) rfl ?_)
      refine WL_nil (at_normal ?_)
      have e33535 := Option.some.inj ht33521
      subst z33520
      have hS33536 := (hS).f3
      have hS33537 := ((hS33536).f3).f3
      have hS33538 := (hS33537).f3
      exact ⟨s, (PHeap.le_refl _), hS33538, rfl, rfl, rfl⟩
  · intro f33539 w33540 hM33541
    obtain ⟨s33542, l33543, hS33544, p33545, p33546, p33547⟩ := hM33541
    refine (at_normal ?_)
    rcases ite_some hm with ⟨hc33548, hm⟩ | ⟨hc33548, hm⟩
    · refine W_cond_t p33547 hc33548 ?_
      refine W_seq ?_
      refine W_region ?_
      refine WL_step rfl rfl (Exec.assign (v := Value.bool (false)) rfl rfl ?_)
      refine WL_nil (at_normal ?_)
      refine W_ret (at_ret ?_)
      have e33550 := Option.some.inj hm
      subst r
      refine ⟨_, ret1 rfl, ?_⟩
      have hS33551 := (hS33544).f3
      have hS33552 := ((hS33551).f3).f3
      have hS33553 := (hS33552).f3
      exact ⟨s33542, l33543, hS33553, rfl⟩
    · refine W_cond_f p33547 hc33548 ?_
      replace hc33548 := not_true hc33548
      refine W_skip (at_normal ?_)
      refine W_seq ?_
      refine W_seq ?_
      refine W_region ?_
      refine WL_step rfl rfl (Exec.move (v := v26828) rfl p33546 ?_)
      refine WL_step rfl rfl (Exec.len_arr ((hS33544).f3) S49 rfl rfl ?_)
      refine WL_step rfl rfl (Exec.move (v := Value.int .i64 (0)) rfl rfl ?_)
      refine WL_nil (at_normal ?_)
      obtain ⟨c33629, hB33630, hr33631, hn33632, hb33633⟩ := ctl_some hm
      refine W_mid (M := fun f' w' => ∃ s', (c33629 = .next s' ∨ c33629 = .brk s') ∧ (fun (_ : Unit) => ∃ (s33635 : PHeap) , PHeap.le s33542 s33635 ∧ St w0 s33635 (Res.box b26824 63 [v26825] :: Res.arr encRaw 49 v26825 hs26826 :: Res.rows (encInt .i64) 3 hs26826 n26823.d :: Res.arr (encInt .i64) 3 v26828 times26827 :: H) w' ∧ f' 0 = Value.pointer (some ⟨b26824, 0, none⟩) ∧ f' 1 = v26828 ∧ f' 29 = v26828 ∧ f' 30 = Value.int .i64 ((times26827.length : Int))) s') ?_ ?_
      · refine W_block (W_forC (fun k' s' f' w' => (fun (_ : Unit) => ∃ (s33634 : PHeap) , PHeap.le s33542 s33634 ∧ St w0 s33634 (Res.box b26824 63 [v26825] :: Res.arr encRaw 49 v26825 hs26826 :: Res.rows (encInt .i64) 3 hs26826 n26823.d :: Res.arr (encInt .i64) 3 v26828 times26827 :: H) w' ∧ f' 0 = Value.pointer (some ⟨b26824, 0, none⟩) ∧ f' 1 = v26828 ∧ f' 29 = v26828 ∧ f' 30 = Value.int .i64 ((times26827.length : Int)) ∧ f' 31 = Value.int .i64 (k' : Int)) s') hB33630 ?_ ?_ ?_)
        · have hS33636 := (hS33544).f3
          have hS33637 := ((hS33636).f3).f3
          have hS33638 := (hS33637).f3
          exact ⟨s33542, (PHeap.le_refl _), hS33638, p33545, p33546, rfl, rfl, rfl⟩
        · intro i33554 t33646 c33640 f33641 w33642 hi33647 hI33643 hm33644 hres33645
          obtain ⟨s33648, l33649, hS33650, p33651, p33652, p33653, p33654, x33655⟩ := hI33643
          refine W_seq ?_
          refine W_region ?_
          refine WL_step rfl rfl (Exec.lss rfl x33655 p33654 ?_)
          refine WL_nil (at_normal ?_)
          refine W_seq ?_
          refine W_true (congrArg Value.bool (decide_eq_true (by omega))) ?_
          refine W_skip (at_normal ?_)
          refine W_seq ?_
          refine W_block ?_
          refine W_seq ?_
          refine W_region ?_
          obtain ⟨x33663, q33664, hm33644⟩ := bind_some hm33644
          obtain ⟨g33665, c33666, e33667⟩ := ((hS33650).f3).arr_at q33664
          refine WL_step rfl rfl (Exec.index_slice S49 rfl (Eq.trans p33653 e33667) x33655 (idx_some q33664).1 (idx_some q33664).2.1 ?_)
          refine WL_step rfl rfl (Exec.load_arr (F := (encInt .i64)) ((hS33650).f3) e33667 A3 rfl rfl rfl q33664 (Sub.refl _) ?_)
          intro v33668 q33669
          obtain rfl := encInt_val.1 q33669
          refine WL_step rfl rfl (Exec.assign (v := Value.int .i64 (x33663)) rfl rfl ?_)
          refine WL_nil (at_normal ?_)
          refine W_seq ?_
          refine W_mid (M := fun f' w' => ∃ (s33671 : PHeap) , PHeap.le s33648 s33671 ∧ St w0 s33671 (Res.box b26824 63 [v26825] :: Res.arr encRaw 49 v26825 hs26826 :: Res.rows (encInt .i64) 3 hs26826 n26823.d :: Res.arr (encInt .i64) 3 v26828 times26827 :: H) w' ∧ f' 0 = Value.pointer (some ⟨b26824, 0, none⟩) ∧ f' 1 = v26828 ∧ f' 29 = v26828 ∧ f' 30 = Value.int .i64 ((times26827.length : Int)) ∧ f' 31 = Value.int .i64 ((i33554 : Int)) ∧ f' 40 = Value.bool (((decide (x33663 < (-1125899906842624))) || decide (1125899906842624 < x33663)))) ?_ ?_
          · refine W_region ?_
            refine WL_step rfl rfl (Exec.move (v := Value.int .i64 (x33663)) rfl rfl ?_)
            refine WL_step rfl rfl (Exec.lss rfl rfl rfl ?_)
            refine WL_step rfl rfl (Exec.move (v := Value.bool (decide (x33663 < (-1125899906842624)))) rfl rfl ?_)
            by_cases hc33672 : (decide (x33663 < (-1125899906842624))) = true
            · refine WL_pass rfl (yield_of rfl (congrArg Value.bool hc33672)) rfl rfl ?_
              refine WL_pass rfl (yield_of rfl (congrArg Value.bool hc33672)) rfl rfl ?_
              refine WL_step rfl rfl (Exec.pick_t (v := Value.bool (true)) rfl (congrArg Value.bool hc33672) rfl ?_)
              refine WL_nil (at_normal ?_)
              have hS33673 := (hS33650).f3
              have hS33674 := ((hS33673).f3).f3
              have hS33675 := (hS33674).f3
              exact ⟨s33648, (PHeap.le_refl _), hS33675, p33651, p33652, p33653, p33654, x33655, (congrArg Value.bool (or_t hc33672)).symm⟩
            · replace hc33672 := not_true hc33672
              refine WL_run rfl (yield_of rfl (congrArg Value.bool hc33672)) rfl (Exec.move (v := Value.int .i64 (x33663)) rfl rfl ?_)
              refine WL_run rfl (yield_of rfl (congrArg Value.bool hc33672)) rfl (Exec.gtr rfl rfl rfl ?_)
              refine WL_step rfl rfl (Exec.pick_f (v := Value.bool (decide (1125899906842624 < x33663))) rfl (congrArg Value.bool hc33672) rfl ?_)
              refine WL_nil (at_normal ?_)
              have hS33676 := (hS33650).f3
              have hS33677 := ((hS33676).f3).f3
              have hS33678 := (hS33677).f3
              exact ⟨s33648, (PHeap.le_refl _), hS33678, p33651, p33652, p33653, p33654, x33655, (congrArg Value.bool (or_f hc33672)).symm⟩
          · intro f33679 w33680 hM33681
            obtain ⟨s33682, l33683, hS33684, p33685, p33686, p33687, p33688, p33689, p33690⟩ := hM33681
            refine (at_normal ?_)
            rcases ite_some hm33644 with ⟨hc33691, hm33644⟩ | ⟨hc33691, hm33644⟩
            · refine W_cond_t p33690 hc33691 ?_
              refine W_seq ?_
              refine W_region ?_
              refine WL_step rfl rfl (Exec.assign (v := Value.bool (false)) rfl rfl ?_)
              refine WL_nil (at_normal ?_)
              refine W_ret (ib_ret (at_ret (at_ret (ib_ret (at_ret (at_ret ?_))))))
              have e33692 := Option.some.inj hm33644
              subst c33640
              have hq33693 := hr33631 _ (hres33645 (by intro _ h; cases h))
              have e33694 := Option.some.inj hq33693
              subst r
              refine ⟨_, ret1 rfl, ?_⟩
              have hS33695 := (hS33684).f3
              have hS33696 := ((hS33695).f3).f3
              have hS33697 := (hS33696).f3
              exact ⟨s33682, (PHeap.le.trans (PHeap.le.trans l33543 l33649) l33683), hS33697, rfl⟩
            · refine W_cond_f p33690 hc33691 ?_
              replace hc33691 := not_true hc33691
              refine W_skip (ib_normal (at_normal ?_))
              refine W_region ?_
              refine WL_step rfl rfl (Exec.add rfl p33689 rfl ?_)
              refine WL_step rfl rfl (Exec.move (v := Value.int .i64 (IntKind.i64.wrap ((i33554 : Int) + 1))) rfl rfl ?_)
              refine WL_nil (at_normal ?_)
              have e33698 := Option.some.inj hm33644
              subst c33640
              have hS33699 := (hS33684).f3
              have hS33700 := ((hS33699).f3).f3
              have hS33701 := (hS33700).f3
              refine ⟨_, rfl, ?_⟩; exact ⟨s33682, (PHeap.le.trans l33649 l33683), hS33701, p33685, p33686, p33687, p33688, (Eq.trans rfl (wrap_up hi33647 ((hS33544).f3).arr_le))⟩
        · intro t33702 f33703 w33704 hI33705 hres33706
          obtain ⟨s33707, l33708, hS33709, p33710, p33711, p33712, p33713, x33714⟩ := hI33705
          refine W_seq ?_
          refine W_region ?_
          refine WL_step rfl rfl (Exec.lss rfl x33714 p33713 ?_)
          refine WL_nil (at_normal ?_)
          refine W_seq ?_
          refine W_false (congrArg Value.bool (decide_eq_false (by omega))) ?_
          refine W_exit (at_exit (at_exit (ib_here (at_normal ?_))))
          have hS33715 := (hS33709).f3
          have hS33716 := ((hS33715).f3).f3
          have hS33717 := (hS33716).f3
          refine ⟨_, .inl hres33706, ?_⟩; exact ⟨s33707, l33708, hS33717, p33710, p33711, p33712, p33713⟩
      · rintro f33718 w33719 ⟨t33720, hc33721, hM33722⟩
        have hm := hc33721.elim (hn33632 _) (hb33633 _)
        clear hc33721
        obtain ⟨s33723, l33724, hS33725, p33726, p33727, p33728, p33729⟩ := hM33722
        refine (at_normal ?_)
        refine W_seq ?_
        refine W_seq ?_
        refine W_region ?_
        refine WL_step rfl rfl (Exec.move (v := Value.pointer (some ⟨b26824, 0, none⟩)) rfl p33726 ?_)
        refine WL_step rfl rfl (Exec.nilCheck_ptr rfl rfl ?_)
        refine WL_step rfl rfl (Exec.field F63_0 rfl rfl rfl ?_)
        refine WL_step rfl rfl (Exec.load_box (hS33725) A61 rfl rfl rfl ?_)
        refine WL_step rfl rfl (Exec.len_grid (((hS33725).f2).f2) (((hS33725).f2).f2).f1.rows_len S61 rfl rfl ?_)
        refine WL_step rfl rfl (Exec.move (v := Value.int .i64 (0)) rfl rfl ?_)
        refine WL_nil (at_normal ?_)
        obtain ⟨c38009, hB38010, hr38011, hn38012, hb38013⟩ := ctl_some hm
        refine W_mid (M := fun f' w' => ∃ s', (c38009 = .next s' ∨ c38009 = .brk s') ∧ (fun (_ : Unit) => ∃ (s38015 : PHeap) , PHeap.le s33723 s38015 ∧ St w0 s38015 (Res.box b26824 63 [v26825] :: Res.arr encRaw 49 v26825 hs26826 :: Res.rows (encInt .i64) 3 hs26826 n26823.d :: Res.arr (encInt .i64) 3 v26828 times26827 :: H) w' ∧ f' 1 = v26828 ∧ f' 45 = v26825 ∧ f' 46 = Value.int .i64 ((n26823.d.length : Int))) s') ?_ ?_
        · refine W_block (W_forC (fun k' s' f' w' => (fun (_ : Unit) => ∃ (s38014 : PHeap) , PHeap.le s33723 s38014 ∧ St w0 s38014 (Res.box b26824 63 [v26825] :: Res.arr encRaw 49 v26825 hs26826 :: Res.rows (encInt .i64) 3 hs26826 n26823.d :: Res.arr (encInt .i64) 3 v26828 times26827 :: H) w' ∧ f' 1 = v26828 ∧ f' 45 = v26825 ∧ f' 46 = Value.int .i64 ((n26823.d.length : Int)) ∧ f' 47 = Value.int .i64 (k' : Int)) s') hB38010 ?_ ?_ ?_)
          · have hS38016 := (hS33725).f3
            have hS38017 := ((hS38016).f3).f3
            have hS38018 := (hS38017).f3
            exact ⟨s33723, (PHeap.le_refl _), hS38018, p33727, rfl, rfl, rfl⟩
          · intro i33730 t38026 c38020 f38021 w38022 hi38027 hI38023 hm38024 hres38025
            obtain ⟨s38028, l38029, hS38030, p38031, p38032, p38033, x38034⟩ := hI38023
            refine W_seq ?_
            refine W_region ?_
            refine WL_step rfl rfl (Exec.lss rfl x38034 p38033 ?_)
            refine WL_nil (at_normal ?_)
            refine W_seq ?_
            refine W_true (congrArg Value.bool (decide_eq_true (by omega))) ?_
            refine W_skip (at_normal ?_)
            refine W_seq ?_
            refine W_block ?_
            refine W_seq ?_
            refine W_region ?_
            refine WL_step rfl rfl (Exec.move (v := Value.int .i64 ((i33730 : Int))) rfl x38034 ?_)
            obtain ⟨row38045, q38046, hm38024⟩ := bind_some hm38024
            obtain ⟨h38047, e38048, e38049, _⟩ := ((((hS38030).f2).f2).f1).rows_at q38046
            obtain ⟨g38050, c38051, e38052⟩ := (((hS38030).f2).f2).arr_at e38048
            refine WL_step rfl rfl (Exec.index_slice S61 rfl (Eq.trans p38032 e38052) x38034 (idx_some e38048).1 (idx_some e38048).2.1 ?_)
            refine WL_step rfl rfl (Exec.load_arr (F := encRaw) (((hS38030).f2).f2) e38052 A49 rfl rfl rfl e38048 (Sub.refl _) ?_)
            intro v38053 q38054
            replace q38054 := (encRaw_val.1 q38054).1
            subst v38053
            refine WL_step rfl rfl (Exec.assign (v := Value.int .i64 ((i33730 : Int))) rfl rfl ?_)
            refine WL_step rfl rfl (Exec.assign (v := h38047) rfl rfl ?_)
            refine WL_nil (at_normal ?_)
            refine W_seq ?_
            refine W_region ?_
            refine WL_step rfl rfl (Exec.move (v := h38047) rfl rfl ?_)
            refine WL_step rfl rfl (Exec.len_arr (((((hS38030).f2).f2).f1).rows_split e38049 (idx_some q38046).2.2) S49 rfl rfl ?_)
            refine WL_step rfl rfl (Exec.move (v := Value.int .i64 (0)) rfl rfl ?_)
            refine WL_nil (at_normal ?_)
            obtain ⟨u38055, q38056, hm38024⟩ := bind_some hm38024
            obtain ⟨c39426, hB39427, hr39428, hn39429, hb39430⟩ := ctl_some hm38024
            refine W_mid (M := fun f' w' => ∃ s', (c39426 = .next s' ∨ c39426 = .brk s') ∧ (fun (_ : Unit) => ∃ (s39432 : PHeap) , PHeap.le s38028 s39432 ∧ St w0 s39432 (Res.box b26824 63 [v26825] :: Res.arr encRaw 49 v26825 hs26826 :: Res.rows (encInt .i64) 3 hs26826 n26823.d :: Res.arr (encInt .i64) 3 v26828 times26827 :: H) w' ∧ f' 1 = v26828 ∧ f' 7 = Value.int .i64 ((i33730 : Int)) ∧ f' 45 = v26825 ∧ f' 46 = Value.int .i64 ((n26823.d.length : Int)) ∧ f' 47 = Value.int .i64 ((i33730 : Int)) ∧ f' 52 = h38047 ∧ f' 53 = Value.int .i64 ((row38045.length : Int))) s') ?_ ?_
            · refine W_block (W_forC (fun k' s' f' w' => (fun (_ : Unit) => ∃ (s39431 : PHeap) , PHeap.le s38028 s39431 ∧ St w0 s39431 (Res.box b26824 63 [v26825] :: Res.arr encRaw 49 v26825 hs26826 :: Res.rows (encInt .i64) 3 hs26826 n26823.d :: Res.arr (encInt .i64) 3 v26828 times26827 :: H) w' ∧ f' 1 = v26828 ∧ f' 7 = Value.int .i64 ((i33730 : Int)) ∧ f' 45 = v26825 ∧ f' 46 = Value.int .i64 ((n26823.d.length : Int)) ∧ f' 47 = Value.int .i64 ((i33730 : Int)) ∧ f' 52 = h38047 ∧ f' 53 = Value.int .i64 ((row38045.length : Int)) ∧ f' 54 = Value.int .i64 (k' : Int)) s') hB39427 ?_ ?_ ?_)
              · have hS39433 := (hS38030).f3
                have hS39434 := ((hS39433).f3).f3
                have hS39435 := (hS39434).f3
                exact ⟨s38028, (PHeap.le_refl _), hS39435, p38031, rfl, p38032, p38033, x38034, rfl, rfl, rfl⟩
              · intro i38057 t39443 c39437 f39438 w39439 hi39444 hI39440 hm39441 hres39442
                obtain ⟨s39445, l39446, hS39447, p39448, p39449, p39450, p39451, p39452, p39453, p39454, x39455⟩ := hI39440
                refine W_seq ?_
                refine W_region ?_
                refine WL_step rfl rfl (Exec.lss rfl x39455 p39454 ?_)
                refine WL_nil (at_normal ?_)
                refine W_seq ?_
                refine W_true (congrArg Value.bool (decide_eq_true (by omega))) ?_
                refine W_skip (at_normal ?_)
                refine W_seq ?_
                refine W_block ?_
                refine W_seq ?_
                refine W_region ?_
                refine WL_step rfl rfl (Exec.move (v := Value.int .i64 ((i38057 : Int))) rfl x39455 ?_)
                obtain ⟨x39463, q39464, hm39441⟩ := bind_some hm39441
                obtain ⟨g39465, c39466, e39467⟩ := (((((hS39447).f2).f2).f1).rows_split e38049 (idx_some q38046).2.2).arr_at q39464
                refine WL_step rfl rfl (Exec.index_slice S49 rfl (Eq.trans p39453 e39467) x39455 (idx_some q39464).1 (idx_some q39464).2.1 ?_)
                refine WL_step rfl rfl (Exec.load_arr (F := (encInt .i64)) (((((hS39447).f2).f2).f1).rows_split e38049 (idx_some q38046).2.2) e39467 A3 rfl rfl rfl q39464 (Sub.refl _) ?_)
                intro v39468 q39469
                obtain rfl := encInt_val.1 q39469
                refine WL_step rfl rfl (Exec.assign (v := Value.int .i64 ((i38057 : Int))) rfl rfl ?_)
                refine WL_step rfl rfl (Exec.assign (v := Value.int .i64 (x39463)) rfl rfl ?_)
                refine WL_nil (at_normal ?_)
                refine W_seq ?_
                obtain ⟨z39789, ht39790, hm39441⟩ := bind_some hm39441
                refine W_mid (M := fun f' w' => (fun (z39789 : Bool) => ∃ (s39791 : PHeap) , PHeap.le s39445 s39791 ∧ St w0 s39791 (Res.box b26824 63 [v26825] :: Res.arr encRaw 49 v26825 hs26826 :: Res.rows (encInt .i64) 3 hs26826 n26823.d :: Res.arr (encInt .i64) 3 v26828 times26827 :: H) w' ∧ f' 1 = v26828 ∧ f' 7 = Value.int .i64 ((i33730 : Int)) ∧ f' 45 = v26825 ∧ f' 46 = Value.int .i64 ((n26823.d.length : Int)) ∧ f' 47 = Value.int .i64 ((i33730 : Int)) ∧ f' 52 = h38047 ∧ f' 53 = Value.int .i64 ((row38045.length : Int)) ∧ f' 54 = Value.int .i64 ((i38057 : Int)) ∧ f' 73 = Value.bool (z39789)) z39789) ?_ ?_
                · rcases ite_some ht39790 with ⟨hc39792, ht39790⟩ | ⟨hc39792, ht39790⟩
                  · obtain ⟨x39793, q39794, ht39790⟩ := bind_some ht39790
                    obtain ⟨g39795, c39796, e39797⟩ := ((hS39447).f3).arr_at q39794
                    obtain ⟨x39798, q39799, ht39790⟩ := bind_some ht39790
                    obtain ⟨g39800, c39801, e39802⟩ := ((hS39447).f3).arr_at q39799
                    refine W_drawn (n0 := 15) hmix (by kernel_rfl) [RP.eq (Value.int .i64 (x39463)), RP.eq (Value.bool (decide (x39463 < 1125899906842624))), RP.eq (Value.bool (decide (x39463 < 1125899906842624))), RP.eq (v26828), RP.eq (Value.int .i64 ((i38057 : Int))), RP.eq (Value.pointer (some ⟨g39795, 0 + ((i38057 : Int)).toNat * 1, none⟩)), RP.eq (Value.int .i64 (x39793)), RP.eq (v26828), RP.eq (Value.int .i64 ((i33730 : Int))), RP.eq (Value.pointer (some ⟨g39800, 0 + ((i33730 : Int)).toNat * 1, none⟩)), RP.eq (Value.int .i64 (x39798)), RP.eq (Value.int .i64 (IntKind.i64.wrap (x39793 - x39798))), RP.eq (Value.int .i64 (x39463)), RP.eq (Value.bool (decide (x39463 < (IntKind.i64.wrap (x39793 - x39798))))), RP.eq (Value.bool (decide (x39463 < (IntKind.i64.wrap (x39793 - x39798)))))] hS39447 (HeadAll.cons ?_ (HeadAll.cons ?_ (HeadAll.cons ?_ (HeadAll.cons ?_ (HeadAll.cons ?_ (HeadAll.cons ?_ (HeadAll.cons ?_ (HeadAll.cons ?_ (HeadAll.cons ?_ (HeadAll.cons ?_ (HeadAll.cons ?_ (HeadAll.cons ?_ (HeadAll.cons ?_ (HeadAll.cons ?_ (HeadAll.cons ?_ (HeadAll.nil)))))))))))))))) ?_
                    · intro g39803 s39804 w39805 l39806 hS39807 fr39808 pre39809
                      refine head_run rfl (Exec.move (v := Value.int .i64 (x39463)) rfl (fr39808 10 rfl) ?_)
                      exact head_done hS39807 rfl
                    · intro g39810 s39811 w39812 l39813 hS39814 fr39815 pre39816
                      have p39817 : g39810 59 = (Value.int .i64 (x39463)) := pre39816 0 _ rfl rfl
                      refine head_run rfl (Exec.lss rfl p39817 rfl ?_)
                      exact head_done hS39814 rfl
                    · intro g39818 s39819 w39820 l39821 hS39822 fr39823 pre39824
                      have p39825 : g39818 60 = (Value.bool (decide (x39463 < 1125899906842624))) := pre39824 0 _ rfl rfl
                      refine head_run rfl (Exec.move (v := Value.bool (decide (x39463 < 1125899906842624))) rfl p39825 ?_)
                      exact head_done hS39822 rfl
                    · intro g39826 s39827 w39828 l39829 hS39830 fr39831 pre39832
                      have p39833 : g39826 61 = (Value.bool (decide (x39463 < 1125899906842624))) := pre39832 0 _ rfl rfl
                      refine head_run_g rfl (yield_of rfl (Eq.trans p39833 (congrArg Value.bool hc39792))) (Exec.move (v := v26828) rfl (Eq.trans (fr39831 1 rfl) p39448) ?_)
                      exact head_done hS39830 rfl
                    · intro g39834 s39835 w39836 l39837 hS39838 fr39839 pre39840
                      have p39841 : g39834 61 = (Value.bool (decide (x39463 < 1125899906842624))) := pre39840 0 _ rfl rfl
                      refine head_run_g rfl (yield_of rfl (Eq.trans p39841 (congrArg Value.bool hc39792))) (Exec.move (v := Value.int .i64 ((i38057 : Int))) rfl (fr39839 9 rfl) ?_)
                      exact head_done hS39838 rfl
                    · intro g39842 s39843 w39844 l39845 hS39846 fr39847 pre39848
                      have p39849 : g39842 61 = (Value.bool (decide (x39463 < 1125899906842624))) := pre39848 2 _ rfl rfl
                      have p39850 : g39842 62 = (v26828) := pre39848 0 _ rfl rfl
                      have p39851 : g39842 63 = (Value.int .i64 ((i38057 : Int))) := pre39848 1 _ rfl rfl
                      refine head_run_g rfl (yield_of rfl (Eq.trans p39849 (congrArg Value.bool hc39792))) (Exec.index_slice S49 rfl (Eq.trans p39850 e39797) p39851 (idx_some q39794).1 (idx_some q39794).2.1 ?_)
                      exact head_done hS39846 rfl
                    · intro g39852 s39853 w39854 l39855 hS39856 fr39857 pre39858
                      have p39859 : g39852 64 = (Value.pointer (some ⟨g39795, 0 + ((i38057 : Int)).toNat * 1, none⟩)) := pre39858 0 _ rfl rfl
                      have p39860 : g39852 61 = (Value.bool (decide (x39463 < 1125899906842624))) := pre39858 1 _ rfl rfl
                      refine head_run_g rfl (yield_of rfl (Eq.trans p39860 (congrArg Value.bool hc39792))) (Exec.load_arr (F := (encInt .i64)) ((hS39856).f3) e39797 A3 rfl p39859 rfl q39794 (Sub.refl _) ?_)
                      intro v39861 q39862
                      exact head_done hS39856 (encInt_val.1 q39862)
                    · intro g39863 s39864 w39865 l39866 hS39867 fr39868 pre39869
                      have p39870 : g39863 61 = (Value.bool (decide (x39463 < 1125899906842624))) := pre39869 0 _ rfl rfl
                      refine head_run_g rfl (yield_of rfl (Eq.trans p39870 (congrArg Value.bool hc39792))) (Exec.move (v := v26828) rfl (Eq.trans (fr39868 1 rfl) p39448) ?_)
                      exact head_done hS39867 rfl
                    · intro g39871 s39872 w39873 l39874 hS39875 fr39876 pre39877
                      have p39878 : g39871 61 = (Value.bool (decide (x39463 < 1125899906842624))) := pre39877 0 _ rfl rfl
                      refine head_run_g rfl (yield_of rfl (Eq.trans p39878 (congrArg Value.bool hc39792))) (Exec.move (v := Value.int .i64 ((i33730 : Int))) rfl (Eq.trans (fr39876 7 rfl) p39449) ?_)
                      exact head_done hS39875 rfl
                    · intro g39879 s39880 w39881 l39882 hS39883 fr39884 pre39885
                      have p39886 : g39879 66 = (v26828) := pre39885 0 _ rfl rfl
                      have p39887 : g39879 67 = (Value.int .i64 ((i33730 : Int))) := pre39885 1 _ rfl rfl
                      have p39888 : g39879 61 = (Value.bool (decide (x39463 < 1125899906842624))) := pre39885 2 _ rfl rfl
                      refine head_run_g rfl (yield_of rfl (Eq.trans p39888 (congrArg Value.bool hc39792))) (Exec.index_slice S49 rfl (Eq.trans p39886 e39802) p39887 (idx_some q39799).1 (idx_some q39799).2.1 ?_)
                      exact head_done hS39883 rfl
                    · intro g39889 s39890 w39891 l39892 hS39893 fr39894 pre39895
                      have p39896 : g39889 68 = (Value.pointer (some ⟨g39800, 0 + ((i33730 : Int)).toNat * 1, none⟩)) := pre39895 0 _ rfl rfl
                      have p39897 : g39889 61 = (Value.bool (decide (x39463 < 1125899906842624))) := pre39895 1 _ rfl rfl
                      refine head_run_g rfl (yield_of rfl (Eq.trans p39897 (congrArg Value.bool hc39792))) (Exec.load_arr (F := (encInt .i64)) ((hS39893).f3) e39802 A3 rfl p39896 rfl q39799 (Sub.refl _) ?_)
                      intro v39898 q39899
                      exact head_done hS39893 (encInt_val.1 q39899)
                    · intro g39900 s39901 w39902 l39903 hS39904 fr39905 pre39906
                      have p39907 : g39900 65 = (Value.int .i64 (x39793)) := pre39906 0 _ rfl rfl
                      have p39908 : g39900 61 = (Value.bool (decide (x39463 < 1125899906842624))) := pre39906 2 _ rfl rfl
                      have p39909 : g39900 69 = (Value.int .i64 (x39798)) := pre39906 1 _ rfl rfl
                      refine head_run_g rfl (yield_of rfl (Eq.trans p39908 (congrArg Value.bool hc39792))) (Exec.sub rfl p39907 p39909 ?_)
                      exact head_done hS39904 rfl
                    · intro g39910 s39911 w39912 l39913 hS39914 fr39915 pre39916
                      have p39917 : g39910 61 = (Value.bool (decide (x39463 < 1125899906842624))) := pre39916 0 _ rfl rfl
                      refine head_run_g rfl (yield_of rfl (Eq.trans p39917 (congrArg Value.bool hc39792))) (Exec.move (v := Value.int .i64 (x39463)) rfl (fr39915 10 rfl) ?_)
                      exact head_done hS39914 rfl
                    · intro g39918 s39919 w39920 l39921 hS39922 fr39923 pre39924
                      have p39925 : g39918 61 = (Value.bool (decide (x39463 < 1125899906842624))) := pre39924 2 _ rfl rfl
                      have p39926 : g39918 70 = (Value.int .i64 (IntKind.i64.wrap (x39793 - x39798))) := pre39924 0 _ rfl rfl
                      have p39927 : g39918 71 = (Value.int .i64 (x39463)) := pre39924 1 _ rfl rfl
                      refine head_run_g rfl (yield_of rfl (Eq.trans p39925 (congrArg Value.bool hc39792))) (Exec.gtr rfl p39926 p39927 ?_)
                      exact head_done hS39922 rfl
                    · intro g39928 s39929 w39930 l39931 hS39932 fr39933 pre39934
                      have p39935 : g39928 72 = (Value.bool (decide (x39463 < (IntKind.i64.wrap (x39793 - x39798))))) := pre39934 1 _ rfl rfl
                      have p39936 : g39928 61 = (Value.bool (decide (x39463 < 1125899906842624))) := pre39934 0 _ rfl rfl
                      refine head_run rfl (Exec.pick_t (v := Value.bool (decide (x39463 < (IntKind.i64.wrap (x39793 - x39798))))) rfl (Eq.trans p39936 (congrArg Value.bool hc39792)) p39935 ?_)
                      exact head_done hS39932 rfl
                    · intro g39937 s39938 w39939 l39940 hS39941 fr39942 hR39943
                      have p39944 : g39937 59 = (Value.int .i64 (x39463)) := hR39943 0 rfl
                      have p39945 : g39937 60 = (Value.bool (decide (x39463 < 1125899906842624))) := hR39943 1 rfl
                      have p39946 : g39937 61 = (Value.bool (decide (x39463 < 1125899906842624))) := hR39943 2 rfl
                      have p39947 : g39937 62 = (v26828) := hR39943 3 rfl
                      have p39948 : g39937 63 = (Value.int .i64 ((i38057 : Int))) := hR39943 4 rfl
                      have p39949 : g39937 64 = (Value.pointer (some ⟨g39795, 0 + ((i38057 : Int)).toNat * 1, none⟩)) := hR39943 5 rfl
                      have p39950 : g39937 65 = (Value.int .i64 (x39793)) := hR39943 6 rfl
                      have p39951 : g39937 66 = (v26828) := hR39943 7 rfl
                      have p39952 : g39937 67 = (Value.int .i64 ((i33730 : Int))) := hR39943 8 rfl
                      have p39953 : g39937 68 = (Value.pointer (some ⟨g39800, 0 + ((i33730 : Int)).toNat * 1, none⟩)) := hR39943 9 rfl
                      have p39954 : g39937 69 = (Value.int .i64 (x39798)) := hR39943 10 rfl
                      have p39955 : g39937 70 = (Value.int .i64 (IntKind.i64.wrap (x39793 - x39798))) := hR39943 11 rfl
                      have p39956 : g39937 71 = (Value.int .i64 (x39463)) := hR39943 12 rfl
                      have p39957 : g39937 72 = (Value.bool (decide (x39463 < (IntKind.i64.wrap (x39793 - x39798))))) := hR39943 13 rfl
                      have p39958 : g39937 73 = (Value.bool (decide (x39463 < (IntKind.i64.wrap (x39793 - x39798))))) := hR39943 14 rfl
                      refine WL_nil (at_normal ?_)
                      have e39959 := Option.some.inj ht39790
                      subst z39789
                      have hS39960 := (hS39941).f3
                      have hS39961 := ((hS39960).f3).f3
                      have hS39962 := (hS39961).f3
                      exact ⟨s39938, l39940, hS39962, (Eq.trans (fr39942 1 rfl) p39448), (Eq.trans (fr39942 7 rfl) p39449), (Eq.trans (fr39942 45 rfl) p39450), (Eq.trans (fr39942 46 rfl) p39451), (Eq.trans (fr39942 47 rfl) p39452), (Eq.trans (fr39942 52 rfl) p39453), (Eq.trans (fr39942 53 rfl) p39454), (Eq.trans (fr39942 54 rfl) x39455), p39958⟩
                  · replace hc39792 := not_true hc39792
                    refine W_drawn (n0 := 15) hmix (by kernel_rfl) [RP.eq (Value.int .i64 (x39463)), RP.eq (Value.bool (decide (x39463 < 1125899906842624))), RP.eq (Value.bool (decide (x39463 < 1125899906842624))), RP.eq undef, RP.eq undef, RP.eq undef, RP.eq undef, RP.eq undef, RP.eq undef, RP.eq undef, RP.eq undef, RP.eq undef, RP.eq undef, RP.eq undef, RP.eq (Value.bool (false))] hS39447 (HeadAll.cons ?_ (HeadAll.cons ?_ (HeadAll.cons ?_ (HeadAll.cons ?_ (HeadAll.cons ?_ (HeadAll.cons ?_ (HeadAll.cons ?_ (HeadAll.cons ?_ (HeadAll.cons ?_ (HeadAll.cons ?_ (HeadAll.cons ?_ (HeadAll.cons ?_ (HeadAll.cons ?_ (HeadAll.cons ?_ (HeadAll.cons ?_ (HeadAll.nil)))))))))))))))) ?_
                    · intro g39963 s39964 w39965 l39966 hS39967 fr39968 pre39969
                      refine head_run rfl (Exec.move (v := Value.int .i64 (x39463)) rfl (fr39968 10 rfl) ?_)
                      exact head_done hS39967 rfl
                    · intro g39970 s39971 w39972 l39973 hS39974 fr39975 pre39976
                      have p39977 : g39970 59 = (Value.int .i64 (x39463)) := pre39976 0 _ rfl rfl
                      refine head_run rfl (Exec.lss rfl p39977 rfl ?_)
                      exact head_done hS39974 rfl
                    · intro g39978 s39979 w39980 l39981 hS39982 fr39983 pre39984
                      have p39985 : g39978 60 = (Value.bool (decide (x39463 < 1125899906842624))) := pre39984 0 _ rfl rfl
                      refine head_run rfl (Exec.move (v := Value.bool (decide (x39463 < 1125899906842624))) rfl p39985 ?_)
                      exact head_done hS39982 rfl
                    · intro g39986 s39987 w39988 l39989 hS39990 fr39991 pre39992
                      have p39993 : g39986 61 = (Value.bool (decide (x39463 < 1125899906842624))) := pre39992 0 _ rfl rfl
                      exact head_pass rfl (yield_of rfl (Eq.trans p39993 (congrArg Value.bool hc39792))) rfl rfl
                    · intro g39994 s39995 w39996 l39997 hS39998 fr39999 pre40000
                      have p40001 : g39994 61 = (Value.bool (decide (x39463 < 1125899906842624))) := pre40000 0 _ rfl rfl
                      exact head_pass rfl (yield_of rfl (Eq.trans p40001 (congrArg Value.bool hc39792))) rfl rfl
                    · intro g40002 s40003 w40004 l40005 hS40006 fr40007 pre40008
                      have p40009 : g40002 61 = (Value.bool (decide (x39463 < 1125899906842624))) := pre40008 2 _ rfl rfl
                      have p40010 : g40002 62 = undef := pre40008 0 _ rfl rfl
                      have p40011 : g40002 63 = undef := pre40008 1 _ rfl rfl
                      exact head_pass rfl (yield_of rfl (Eq.trans p40009 (congrArg Value.bool hc39792))) rfl rfl
                    · intro g40012 s40013 w40014 l40015 hS40016 fr40017 pre40018
                      have p40019 : g40012 64 = undef := pre40018 0 _ rfl rfl
                      have p40020 : g40012 61 = (Value.bool (decide (x39463 < 1125899906842624))) := pre40018 1 _ rfl rfl
                      exact head_pass rfl (yield_of rfl (Eq.trans p40020 (congrArg Value.bool hc39792))) rfl rfl
                    · intro g40021 s40022 w40023 l40024 hS40025 fr40026 pre40027
                      have p40028 : g40021 61 = (Value.bool (decide (x39463 < 1125899906842624))) := pre40027 0 _ rfl rfl
                      exact head_pass rfl (yield_of rfl (Eq.trans p40028 (congrArg Value.bool hc39792))) rfl rfl
                    · intro g40029 s40030 w40031 l40032 hS40033 fr40034 pre40035
                      have p40036 : g40029 61 = (Value.bool (decide (x39463 < 1125899906842624))) := pre40035 0 _ rfl rfl
                      exact head_pass rfl (yield_of rfl (Eq.trans p40036 (congrArg Value.bool hc39792))) rfl rfl
                    · intro g40037 s40038 w40039 l40040 hS40041 fr40042 pre40043
                      have p40044 : g40037 66 = undef := pre40043 0 _ rfl rfl
                      have p40045 : g40037 67 = undef := pre40043 1 _ rfl rfl
                      have p40046 : g40037 61 = (Value.bool (decide (x39463 < 1125899906842624))) := pre40043 2 _ rfl rfl
                      exact head_pass rfl (yield_of rfl (Eq.trans p40046 (congrArg Value.bool hc39792))) rfl rfl
                    · intro g40047 s40048 w40049 l40050 hS40051 fr40052 pre40053
                      have p40054 : g40047 68 = undef := pre40053 0 _ rfl rfl
                      have p40055 : g40047 61 = (Value.bool (decide (x39463 < 1125899906842624))) := pre40053 1 _ rfl rfl
                      exact head_pass rfl (yield_of rfl (Eq.trans p40055 (congrArg Value.bool hc39792))) rfl rfl
                    · intro g40056 s40057 w40058 l40059 hS40060 fr40061 pre40062
                      have p40063 : g40056 65 = undef := pre40062 0 _ rfl rfl
                      have p40064 : g40056 61 = (Value.bool (decide (x39463 < 1125899906842624))) := pre40062 2 _ rfl rfl
                      have p40065 : g40056 69 = undef := pre40062 1 _ rfl rfl
                      exact head_pass rfl (yield_of rfl (Eq.trans p40064 (congrArg Value.bool hc39792))) rfl rfl
                    · intro g40066 s40067 w40068 l40069 hS40070 fr40071 pre40072
                      have p40073 : g40066 61 = (Value.bool (decide (x39463 < 1125899906842624))) := pre40072 0 _ rfl rfl
                      exact head_pass rfl (yield_of rfl (Eq.trans p40073 (congrArg Value.bool hc39792))) rfl rfl
                    · intro g40074 s40075 w40076 l40077 hS40078 fr40079 pre40080
                      have p40081 : g40074 61 = (Value.bool (decide (x39463 < 1125899906842624))) := pre40080 2 _ rfl rfl
                      have p40082 : g40074 70 = undef := pre40080 0 _ rfl rfl
                      have p40083 : g40074 71 = undef := pre40080 1 _ rfl rfl
                      exact head_pass rfl (yield_of rfl (Eq.trans p40081 (congrArg Value.bool hc39792))) rfl rfl
                    · intro g40084 s40085 w40086 l40087 hS40088 fr40089 pre40090
                      have p40091 : g40084 72 = undef := pre40090 1 _ rfl rfl
                      have p40092 : g40084 61 = (Value.bool (decide (x39463 < 1125899906842624))) := pre40090 0 _ rfl rfl
                      refine head_run rfl (Exec.pick_f (v := Value.bool (false)) rfl (Eq.trans p40092 (congrArg Value.bool hc39792)) rfl ?_)
                      exact head_done hS40088 rfl
                    · intro g40093 s40094 w40095 l40096 hS40097 fr40098 hR40099
                      have p40100 : g40093 59 = (Value.int .i64 (x39463)) := hR40099 0 rfl
                      have p40101 : g40093 60 = (Value.bool (decide (x39463 < 1125899906842624))) := hR40099 1 rfl
                      have p40102 : g40093 61 = (Value.bool (decide (x39463 < 1125899906842624))) := hR40099 2 rfl
                      have p40103 : g40093 62 = undef := hR40099 3 rfl
                      have p40104 : g40093 63 = undef := hR40099 4 rfl
                      have p40105 : g40093 64 = undef := hR40099 5 rfl
                      have p40106 : g40093 65 = undef := hR40099 6 rfl
                      have p40107 : g40093 66 = undef := hR40099 7 rfl
                      have p40108 : g40093 67 = undef := hR40099 8 rfl
                      have p40109 : g40093 68 = undef := hR40099 9 rfl
                      have p40110 : g40093 69 = undef := hR40099 10 rfl
                      have p40111 : g40093 70 = undef := hR40099 11 rfl
                      have p40112 : g40093 71 = undef := hR40099 12 rfl
                      have p40113 : g40093 72 = undef := hR40099 13 rfl
                      have p40114 : g40093 73 = (Value.bool (false)) := hR40099 14 rfl
                      refine WL_nil (at_normal ?_)
                      have e40115 := Option.some.inj ht39790
                      subst z39789
                      have hS40116 := (hS40097).f3
                      have hS40117 := ((hS40116).f3).f3
                      have hS40118 := (hS40117).f3
                      exact ⟨s40094, l40096, hS40118, (Eq.trans (fr40098 1 rfl) p39448), (Eq.trans (fr40098 7 rfl) p39449), (Eq.trans (fr40098 45 rfl) p39450), (Eq.trans (fr40098 46 rfl) p39451), (Eq.trans (fr40098 47 rfl) p39452), (Eq.trans (fr40098 52 rfl) p39453), (Eq.trans (fr40098 53 rfl) p39454), (Eq.trans (fr40098 54 rfl) x39455), p40114⟩
                · intro f40119 w40120 hM40121
                  obtain ⟨s40122, l40123, hS40124, p40125, p40126, p40127, p40128, p40129, p40130, p40131, p40132, p40133⟩ := hM40121
                  refine (at_normal ?_)
                  rcases ite_some hm39441 with ⟨hc40134, hm39441⟩ | ⟨hc40134, hm39441⟩
                  · refine W_cond_t p40133 hc40134 ?_
                    refine W_seq ?_
                    refine W_region ?_
                    refine WL_step rfl rfl (Exec.assign (v := Value.bool (false)) rfl rfl ?_)
                    refine WL_nil (at_normal ?_)
                    refine W_ret (ib_ret (at_ret (at_ret (ib_ret (at_ret (ib_ret (at_ret (at_ret (ib_ret (at_ret (at_ret ?_)))))))))))
                    have e40135 := Option.some.inj hm39441
                    subst c39437
                    have hq40136 := hr39428 _ (hres39442 (by intro _ h; cases h))
                    have e40137 := Option.some.inj hq40136
                    subst c38020
                    have hq40138 := hr38011 _ (hres38025 (by intro _ h; cases h))
                    have e40139 := Option.some.inj hq40138
                    subst r
                    refine ⟨_, ret1 rfl, ?_⟩
                    have hS40140 := (hS40124).f3
                    have hS40141 := ((hS40140).f3).f3
                    have hS40142 := (hS40141).f3
                    exact ⟨s40122, (PHeap.le.trans (PHeap.le.trans (PHeap.le.trans (PHeap.le.trans l33543 l33724) l38029) l39446) l40123), hS40142, rfl⟩
                  · refine W_cond_f p40133 hc40134 ?_
                    replace hc40134 := not_true hc40134
                    refine W_skip (ib_normal (at_normal ?_))
                    refine W_region ?_
                    refine WL_step rfl rfl (Exec.add rfl p40132 rfl ?_)
                    refine WL_step rfl rfl (Exec.move (v := Value.int .i64 (IntKind.i64.wrap ((i38057 : Int) + 1))) rfl rfl ?_)
                    refine WL_nil (at_normal ?_)
                    have e40143 := Option.some.inj hm39441
                    subst c39437
                    have hS40144 := (hS40124).f3
                    have hS40145 := ((hS40144).f3).f3
                    have hS40146 := (hS40145).f3
                    refine ⟨_, rfl, ?_⟩; exact ⟨s40122, (PHeap.le.trans l39446 l40123), hS40146, p40125, p40126, p40127, p40128, p40129, p40130, p40131, (Eq.trans rfl (wrap_up hi39444 (by have h := must_some q38056; simpa [maxLen] using h)))⟩
              · intro t40147 f40148 w40149 hI40150 hres40151
                obtain ⟨s40152, l40153, hS40154, p40155, p40156, p40157, p40158, p40159, p40160, p40161, x40162⟩ := hI40150
                refine W_seq ?_
                refine W_region ?_
                refine WL_step rfl rfl (Exec.lss rfl x40162 p40161 ?_)
                refine WL_nil (at_normal ?_)
                refine W_seq ?_
                refine W_false (congrArg Value.bool (decide_eq_false (by omega))) ?_
                refine W_exit (at_exit (at_exit (ib_here (at_normal ?_))))
                have hS40163 := (hS40154).f3
                have hS40164 := ((hS40163).f3).f3
                have hS40165 := (hS40164).f3
                refine ⟨_, .inl hres40151, ?_⟩; exact ⟨s40152, l40153, hS40165, p40155, p40156, p40157, p40158, p40159, p40160, p40161⟩
            · rintro f40166 w40167 ⟨t40168, hc40169, hM40170⟩
              have hm38024 := hc40169.elim (hn39429 _) (hb39430 _)
              clear hc40169
              obtain ⟨s40171, l40172, hS40173, p40174, p40175, p40176, p40177, p40178, p40179, p40180⟩ := hM40170
              refine (ib_normal (at_normal ?_))
              refine W_region ?_
              refine WL_step rfl rfl (Exec.add rfl p40178 rfl ?_)
              refine WL_step rfl rfl (Exec.move (v := Value.int .i64 (IntKind.i64.wrap ((i33730 : Int) + 1))) rfl rfl ?_)
              refine WL_nil (at_normal ?_)
              have e40181 := Option.some.inj hm38024
              subst c38020
              have hS40182 := (hS40173).f3
              have hS40183 := ((hS40182).f3).f3
              have hS40184 := (hS40183).f3
              refine ⟨_, rfl, ?_⟩; exact ⟨s40171, (PHeap.le.trans l38029 l40172), hS40184, p40174, p40176, p40177, (Eq.trans rfl (wrap_up hi38027 (by have h := (((hS33725).f2).f2).f1.rows_len; have h2 := (((hS33725).f2).f2).arr_le; omega)))⟩
          · intro t40185 f40186 w40187 hI40188 hres40189
            obtain ⟨s40190, l40191, hS40192, p40193, p40194, p40195, x40196⟩ := hI40188
            refine W_seq ?_
            refine W_region ?_
            refine WL_step rfl rfl (Exec.lss rfl x40196 p40195 ?_)
            refine WL_nil (at_normal ?_)
            refine W_seq ?_
            refine W_false (congrArg Value.bool (decide_eq_false (by omega))) ?_
            refine W_exit (at_exit (at_exit (ib_here (at_normal ?_))))
            have hS40197 := (hS40192).f3
            have hS40198 := ((hS40197).f3).f3
            have hS40199 := (hS40198).f3
            refine ⟨_, .inl hres40189, ?_⟩; exact ⟨s40190, l40191, hS40199, p40193, p40194, p40195⟩
        · rintro f40200 w40201 ⟨t40202, hc40203, hM40204⟩
          have hm := hc40203.elim (hn38012 _) (hb38013 _)
          clear hc40203
          obtain ⟨s40205, l40206, hS40207, p40208, p40209, p40210⟩ := hM40204
          refine (at_normal ?_)
          refine W_seq ?_
          refine W_region ?_
          refine WL_step rfl rfl (Exec.assign (v := Value.bool (true)) rfl rfl ?_)
          refine WL_nil (at_normal ?_)
          refine W_ret ?_
          have e40212 := Option.some.inj hm
          subst r
          refine ⟨_, ret1 rfl, ?_⟩
          have hS40213 := (hS40207).f3
          have hS40214 := ((hS40213).f3).f3
          have hS40215 := (hS40214).f3
          exact ⟨s40205, (PHeap.le.trans (PHeap.le.trans l33543 l33724) l40206), hS40215, rfl⟩

theorem stn_Network_Holds_nil_o_sim {w0 w : World} {s : PHeap} {H : List Res} {times42626 : (List Int)} {v42627 : Value} {r : Bool} (hm : stn_Network_Holds_nil_o_p times42626 = some r) (hS : St w0 s (Res.arr (encInt .i64) 3 v42627 times42626 :: H) w)  :
    Calls Try.prog 20 #[Value.pointer none, v42627] w fun e w' => ∃ v, e = .returned v ∧ ((fun (y42629 : Bool) => ∃ (s42630 : PHeap) , PHeap.le s s42630 ∧ St w0 s42630 (Res.arr (encInt .i64) 3 v42627 times42626 :: H) w' ∧ v = Value.bool (y42629)) r) := by
  unfold stn_Network_Holds_nil_o_p at hm
  refine calls_of_W Try.func20 rfl rfl ?_
  refine W_seq ?_
  refine W_region ?_
  refine WL_step rfl rfl (Exec.assign (v := Value.bool (false)) rfl rfl ?_)
  refine WL_nil (at_normal ?_)
  refine W_seq ?_
  refine W_seq ?_
  refine W_region ?_
  refine WL_step rfl rfl (Exec.move (v := Value.pointer none) rfl rfl ?_)
  refine WL_step rfl rfl (Exec.ptr_eql_nil Try.underlying24 rfl rfl rfl ?_)
  refine WL_step rfl rfl (Exec.move (v := Value.bool (true)) rfl rfl ?_)
  refine WL_pass rfl (yield_of rfl rfl) rfl rfl ?_
  refine WL_pass rfl (yield_of rfl rfl) rfl rfl ?_
  refine WL_pass rfl (yield_of rfl rfl) rfl rfl ?_
  refine WL_pass rfl (yield_of rfl rfl) rfl rfl ?_
  refine WL_pass rfl (yield_of rfl rfl) rfl rfl ?_
  refine WL_pass rfl (yield_of rfl rfl) rfl rfl ?_
  refine WL_pass rfl (yield_of rfl rfl) rfl rfl ?_
  refine WL_pass rfl (yield_of rfl rfl) rfl rfl ?_
  refine WL_step rfl rfl (Exec.pick_t (v := Value.bool (true)) rfl rfl rfl ?_)
  refine WL_step rfl rfl (Exec.move (v := Value.bool (true)) rfl rfl ?_)
  refine WL_pass rfl (yield_of rfl rfl) rfl rfl ?_
  refine WL_pass rfl (yield_of rfl rfl) rfl rfl ?_
  refine WL_pass rfl (yield_of rfl rfl) rfl rfl ?_
  refine WL_pass rfl (yield_of rfl rfl) rfl rfl ?_
  refine WL_step rfl rfl (Exec.pick_t (v := Value.bool (true)) rfl rfl rfl ?_)
  refine WL_nil (at_normal ?_)
  refine W_true rfl ?_
  refine W_seq ?_
  refine W_region ?_
  refine WL_step rfl rfl (Exec.assign (v := Value.bool (false)) rfl rfl ?_)
  refine WL_nil (at_normal ?_)
  refine W_ret (at_ret ?_)
  have e42632 := Option.some.inj hm
  subst r
  refine ⟨_, ret1 rfl, ?_⟩
  exact ⟨s, (PHeap.le_refl _), hS, rfl⟩

theorem stn_Network_Earliest_nil_sim {w0 w : World} {s : PHeap} {H : List Res} {p42659 : Int}  {r : Int × (Option Int)} (hm : stn_Network_Earliest_nil_p p42659 = some r) (hS : St w0 s (H) w)  :
    Calls Try.prog 16 #[Value.pointer none, Value.int .i64 (p42659)] w fun e w' => ∃ v, e = .returned v ∧ ((un2 fun (y42671 : Int) (y42672 : (Option Int)) => ∃ (s42673 : PHeap) , PHeap.le s s42673 ∧ St w0 s42673 (H) w' ∧ v = Value.tuple #[Value.int .i64 (y42671), errV 30 (y42672)]) r) := by
  unfold stn_Network_Earliest_nil_p at hm
  refine calls_of_W Try.func16 rfl rfl ?_
  refine W_seq ?_
  refine W_region ?_
  refine WL_step rfl rfl (Exec.assign (v := Value.int .i64 (0)) rfl rfl ?_)
  refine WL_step rfl rfl (Exec.assign (v := errV 30 (none)) rfl rfl ?_)
  refine WL_nil (at_normal ?_)
  refine W_seq ?_
  refine W_region ?_
  refine WL_step rfl rfl (Exec.move (v := Value.pointer none) rfl rfl ?_)
  refine WL_step rfl rfl (Exec.move (v := Value.int .i64 (p42659)) rfl rfl ?_)
  refine WL_step rfl rfl (Exec.call rfl rfl Try.func15 rfl N15 (args_cons rfl (args_cons rfl (args_cons rfl args_nil))) ((stn_Network_Distance_nil_sim (stn_Network_Distance_nil_tot p42659 0) hS ).mono ?_))
  rintro _ w42678 ⟨_, rfl, ⟨s42679, l42680, hS42681, rfl⟩⟩
  refine ⟨_, rfl, ?_⟩
  refine WL_step rfl rfl (Exec.move (v := Value.tuple #[Value.int .i64 ((stn_Network_Distance_nil_t p42659 0).1), errV 30 ((stn_Network_Distance_nil_t p42659 0).2)]) rfl rfl ?_)
  refine WL_step rfl rfl (Exec.extract (v := Value.int .i64 ((stn_Network_Distance_nil_t p42659 0).1)) rfl rfl rfl ?_)
  refine WL_step rfl rfl (Exec.extract (v := errV 30 ((stn_Network_Distance_nil_t p42659 0).2)) rfl rfl rfl ?_)
  refine WL_step rfl rfl (Exec.assign (v := Value.int .i64 ((stn_Network_Distance_nil_t p42659 0).1)) rfl rfl ?_)
  refine WL_step rfl rfl (Exec.assign (v := errV 30 ((stn_Network_Distance_nil_t p42659 0).2)) rfl rfl ?_)
  refine WL_nil (at_normal ?_)
  refine W_seq ?_
  refine W_seq ?_
  refine W_region ?_
  refine WL_step rfl rfl (Exec.move (v := errV 30 ((stn_Network_Distance_nil_t p42659 0).2)) rfl rfl ?_)
  refine WL_step rfl rfl (Exec.err_neq_nil (T := 30) Try.underlying26 rfl rfl rfl ?_)
  refine WL_nil (at_normal ?_)
  rcases ite_some hm with ⟨hc42682, hm⟩ | ⟨hc42682, hm⟩
  · refine W_cond_t rfl hc42682 ?_
    refine W_seq ?_
    refine W_region ?_
    refine WL_step rfl rfl (Exec.move (v := errV 30 ((stn_Network_Distance_nil_t p42659 0).2)) rfl rfl ?_)
    refine WL_step rfl rfl (Exec.assign (v := Value.int .i64 (0)) rfl rfl ?_)
    refine WL_step rfl rfl (Exec.assign (v := errV 30 ((stn_Network_Distance_nil_t p42659 0).2)) rfl rfl ?_)
    refine WL_nil (at_normal ?_)
    refine W_ret (at_ret ?_)
    have e42684 := Option.some.inj hm
    subst r
    refine ⟨_, ret2 rfl, ?_⟩
    exact ⟨s42679, l42680, hS42681, (tup2 rfl rfl)⟩
  · refine W_cond_f rfl hc42682 ?_
    replace hc42682 := not_true hc42682
    refine W_skip (at_normal ?_)
    refine W_seq ?_
    refine W_seq ?_
    refine W_region ?_
    refine WL_step rfl rfl (Exec.move (v := Value.int .i64 ((stn_Network_Distance_nil_t p42659 0).1)) rfl rfl ?_)
    refine WL_step rfl rfl (Exec.geq rfl rfl rfl ?_)
    refine WL_nil (at_normal ?_)
    rcases ite_some hm with ⟨hc42685, hm⟩ | ⟨hc42685, hm⟩
    · refine W_cond_t rfl hc42685 ?_
      refine W_seq ?_
      refine W_region ?_
      refine WL_step rfl rfl (Exec.makeInterface C30 rfl rfl ?_)
      refine WL_step rfl rfl (Exec.assign (v := Value.int .i64 (0)) rfl rfl ?_)
      refine WL_step rfl rfl (Exec.assign (v := errV 30 (some 3)) rfl rfl ?_)
      refine WL_nil (at_normal ?_)
      refine W_ret (at_ret ?_)
      have e42687 := Option.some.inj hm
      subst r
      refine ⟨_, ret2 rfl, ?_⟩
      exact ⟨s42679, l42680, hS42681, (tup2 rfl rfl)⟩
    · refine W_cond_f rfl hc42685 ?_
      replace hc42685 := not_true hc42685
      refine W_skip (at_normal ?_)
      refine W_seq ?_
      refine W_region ?_
      refine WL_step rfl rfl (Exec.move (v := Value.int .i64 ((stn_Network_Distance_nil_t p42659 0).1)) rfl rfl ?_)
      refine WL_step rfl rfl (Exec.neg rfl rfl ?_)
      refine WL_step rfl rfl (Exec.assign (v := Value.int .i64 (IntKind.i64.wrap (0 - ((stn_Network_Distance_nil_t p42659 0).1)))) rfl rfl ?_)
      refine WL_step rfl rfl (Exec.assign (v := errV 30 (none)) rfl rfl ?_)
      refine WL_nil (at_normal ?_)
      refine W_ret ?_
      have e42689 := Option.some.inj hm
      subst r
      refine ⟨_, ret2 rfl, ?_⟩
      exact ⟨s42679, l42680, hS42681, (tup2 rfl rfl)⟩

theorem N5 : (Try.f5.name == "runtime.NumGoroutine") = false := by kernel_rfl

end Go.Pw
