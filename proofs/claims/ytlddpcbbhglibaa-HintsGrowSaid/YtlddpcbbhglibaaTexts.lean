/- Which marks parts of a text have, and texts one behind the other. Plain lists and numbers. -/
import Derived.Test.YtlddpcbbhglibaaBits
namespace Go.Proofs.Ytlddpcbbhglibaa.Bits

theorem by_app_left (s t : ByteArray) (i : Nat) (h : i < s.size) : by_ (s ++ t) i = by_ s i := by
  unfold by_
  rw [ByteArray.data_append, Array.toList_append]
  simp only [List.getD_eq_getElem?_getD]
  rw [List.getElem?_append_left (by simpa using h)]
theorem by_app_right (s t : ByteArray) (i : Nat) (h : s.size ≤ i) : by_ (s ++ t) i = by_ t (i - s.size) := by
  unfold by_
  rw [ByteArray.data_append, Array.toList_append]
  simp only [List.getD_eq_getElem?_getD]
  rw [List.getElem?_append_right (by simpa using h)]
  rfl
theorem tri_app_left (s t : ByteArray) (i : Nat) (h : i + 2 < s.size) : tri (s ++ t) i = tri s i := by
  unfold tri
  rw [by_app_left s t i (by omega), by_app_left s t (i + 1) (by omega), by_app_left s t (i + 2) h]
theorem tri_app_right (s t : ByteArray) (i : Nat) (h : s.size ≤ i) : tri (s ++ t) i = tri t (i - s.size) := by
  unfold tri
  rw [by_app_right s t i h, by_app_right s t (i + 1) (by omega), by_app_right s t (i + 2) (by omega), show i + 1 - s.size = i - s.size + 1 by omega, show i + 2 - s.size = i - s.size + 2 by omega]

theorem within_app_left (s t : ByteArray) : withinB (ofB s) (ofB (s ++ t)) = true :=
  (within_iff (wf_ofB _) (wf_ofB _)).2 fun n _ h => by
    rw [has_ofB] at h ⊢
    obtain ⟨i, hi, e⟩ := h
    exact ⟨i, by rw [ByteArray.size_append]; omega, by rw [tri_app_left s t i hi, e]⟩
theorem within_app_right (s t : ByteArray) : withinB (ofB t) (ofB (s ++ t)) = true :=
  (within_iff (wf_ofB _) (wf_ofB _)).2 fun n _ h => by
    rw [has_ofB] at h ⊢
    obtain ⟨i, hi, e⟩ := h
    refine ⟨s.size + i, by rw [ByteArray.size_append]; omega, ?_⟩
    rw [tri_app_right s t _ (by omega), show s.size + i - s.size = i by omega, e]
theorem within_trans {x y z : B} (hx : WF x) (hy : WF y) (hz : WF z) (h : withinB x y = true) (h' : withinB y z = true) : withinB x z = true :=
  (within_iff hx hz).2 fun n hn hh => (within_iff hy hz).1 h' n hn ((within_iff hx hy).1 h n hn hh)
theorem within_middle (a s b : ByteArray) : withinB (ofB s) (ofB (a ++ s ++ b)) = true :=
  within_trans (wf_ofB _) (wf_ofB _) (wf_ofB _) (within_app_right a s) (within_app_left (a ++ s) b)

theorem within_both (s t : ByteArray) : withinB (joinB (ofB s) (ofB t)) (ofB (s ++ t)) = true :=
  (within_iff (wf_joinB (wf_ofB _) (wf_ofB _)) (wf_ofB _)).2 fun n hn h => by
    rw [has_joinB, Bool.or_eq_true] at h
    rcases h with h | h
    · exact (within_iff (wf_ofB _) (wf_ofB _)).1 (within_app_left s t) n hn h
    · exact (within_iff (wf_ofB _) (wf_ofB _)).1 (within_app_right s t) n hn h
theorem count_both (s t : ByteArray) : cnt (ofB (s ++ t)) ≤ cnt (joinB (ofB s) (ofB t)) + 2 := by
  have h1 := cnt_setB (joinB (ofB s) (ofB t)) (tri (s ++ t) (s.size - 2))
  have h2 := cnt_setB (setB (joinB (ofB s) (ofB t)) (tri (s ++ t) (s.size - 2))) (tri (s ++ t) (s.size - 1))
  have h3 : cnt (ofB (s ++ t)) ≤ cnt (setB (setB (joinB (ofB s) (ofB t)) (tri (s ++ t) (s.size - 2))) (tri (s ++ t) (s.size - 1))) := by
    refine cntTo_mono 256 fun n _ h => ?_
    rw [has_ofB] at h
    obtain ⟨i, hi, e⟩ := h
    rw [ByteArray.size_append] at hi
    rw [has_setB, has_setB, has_joinB]
    simp only [Bool.or_eq_true, decide_eq_true_iff]
    rcases Nat.lt_or_ge (i + 2) s.size with h1 | h1
    · exact .inl (.inl (.inl ((has_ofB s n).2 ⟨i, h1, by rw [← tri_app_left s t i h1, e]⟩)))
    · rcases Nat.lt_or_ge i s.size with h2 | h2
      · have : i = s.size - 2 ∨ i = s.size - 1 := by omega
        rcases this with rfl | rfl
        · exact .inl (.inr e.symm)
        · exact .inr e.symm
      · exact .inl (.inl (.inr ((has_ofB t n).2 ⟨i - s.size, by omega, by rw [← tri_app_right s t i h2, e]⟩)))
  omega

theorem by_cut (s : ByteArray) (a b i : Nat) (h : a + i < b) : by_ (s.extract a b) i = by_ s (a + i) := by
  unfold by_
  rw [ByteArray.data_extract, Array.toList_extract]
  simp only [List.getD_eq_getElem?_getD, List.extract_eq_take_drop]
  rw [List.getElem?_take_of_lt (by omega), List.getElem?_drop]
theorem size_cut (s : ByteArray) (a b : Nat) (hb : b ≤ s.size) : (s.extract a b).size = b - a := by
  rw [ByteArray.size_extract]; omega
theorem within_cut (s : ByteArray) (a b : Nat) (hb : b ≤ s.size) : withinB (ofB (s.extract a b)) (ofB s) = true :=
  (within_iff (wf_ofB _) (wf_ofB _)).2 fun n _ h => by
    rw [has_ofB] at h ⊢
    obtain ⟨i, hi, e⟩ := h
    rw [size_cut s a b hb] at hi
    refine ⟨a + i, by omega, ?_⟩
    rw [← e]
    unfold tri
    rw [by_cut s a b i (by omega), by_cut s a b (i + 1) (by omega), by_cut s a b (i + 2) (by omega)]
    rfl
theorem count_three (s : ByteArray) (h : s.size = 3) : cnt (ofB s) = 1 := by
  unfold ofB
  rw [h]
  exact cnt_one _ (tri_lt _ _)
theorem count_short (s : ByteArray) (h : s.size < 3) : cnt (ofB s) = 0 := by
  unfold ofB
  rw [show s.size - 2 = 0 by omega]
  exact cntTo_zero 256
end Go.Proofs.Ytlddpcbbhglibaa.Bits
