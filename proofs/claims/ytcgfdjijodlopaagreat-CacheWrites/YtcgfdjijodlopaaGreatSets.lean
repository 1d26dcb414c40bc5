/- A part of proofs about the given program. No condition. -/
import Derived.Test.YtcgfdjijodlopaaGreatModel
set_option linter.all false
namespace Mes

theorem insertSorted_mem (n x : Int) (l : List Int) : x ∈ insertSorted n l ↔ x = n ∨ x ∈ l := by
  induction l with
  | nil => simp [insertSorted]
  | cons p l ih =>
    unfold insertSorted
    split
    · simp
    · simp only [List.mem_cons, ih]
      constructor
      · rintro (h | h | h) <;> simp [h]
      · rintro (h | h | h) <;> simp [h]

theorem insertSorted_length (n : Int) (l : List Int) : (insertSorted n l).length = l.length + 1 := by
  induction l with
  | nil => rfl
  | cons p l ih =>
    unfold insertSorted
    split
    · simp
    · simp [ih]

theorem rising_mono {c a b : Int} {l : List Int} (h : rising c b l = true) (hab : a ≤ b) : rising c a l = true := by
  cases l with
  | nil => rfl
  | cons p l =>
    simp only [rising, Bool.and_eq_true, decide_eq_true_eq] at h ⊢
    exact ⟨⟨by omega, h.1.2⟩, h.2⟩

theorem rising_insert {c a n : Int} {l : List Int} (h : rising c a l = true) (ha : a < n) (hc : n < c) (hn : n ∉ l) : rising c a (insertSorted n l) = true := by
  induction l generalizing a with
  | nil => simp [insertSorted, rising, ha, hc]
  | cons p l ih =>
    simp only [rising, Bool.and_eq_true, decide_eq_true_eq] at h
    unfold insertSorted
    split
    · rename_i hle
      have hne : n ≠ p := by rintro rfl; simp at hn
      simp only [rising, Bool.and_eq_true, decide_eq_true_eq]
      exact ⟨⟨ha, hc⟩, ⟨by omega, h.1.2⟩, h.2⟩
    · rename_i hle
      simp only [rising, Bool.and_eq_true, decide_eq_true_eq]
      exact ⟨h.1, ih h.2 (by omega) (by simp at hn; exact hn.2)⟩

theorem rising_bounds {c a x : Int} {l : List Int} (h : rising c a l = true) (hx : x ∈ l) : a < x ∧ x < c := by
  induction l generalizing a with
  | nil => simp at hx
  | cons p l ih =>
    simp only [rising, Bool.and_eq_true, decide_eq_true_eq] at h
    rcases List.mem_cons.1 hx with rfl | hx
    · exact h.1
    · have := ih h.2 hx; omega

theorem inR_iff {n m : Int} : inR n m = true ↔ 0 ≤ n ∧ n < m := by simp [inR]
theorem inC_iff {n a b : Int} : inC n a b = true ↔ a ≤ n ∧ n ≤ b := by simp [inC]

theorem SSet.may_iff {s : SSet} : s.may = true ↔ (1 ≤ s.cores ∧ s.cores ≤ 64) ∧ (0 ≤ s.most ∧ s.most ≤ 8) ∧ (s.pointers.length : Int) ≤ s.most ∧ (s.all = true → s.pointers = []) ∧ rising s.cores (-1) s.pointers = true := by
  simp only [SSet.may, Bool.and_eq_true, inC_iff, decide_eq_true_eq, Bool.not_eq_true', Bool.and_eq_false_iff]
  constructor
  · rintro ⟨⟨⟨⟨a, b⟩, c⟩, d⟩, e⟩
    refine ⟨a, b, c, fun h => ?_, e⟩
    rcases d with d | d
    · rw [h] at d; cases d
    · simpa using d
  · rintro ⟨a, b, c, d, e⟩
    refine ⟨⟨⟨⟨a, b⟩, c⟩, ?_⟩, e⟩
    cases hs : s.all with
    | false => exact .inl rfl
    | true => right; simp [d hs]

theorem SSet.add_may {s : SSet} {r : Int} (h : s.may = true) (hr : 0 ≤ r ∧ r < s.cores) : (s.add r).may = true := by
  have h' := SSet.may_iff.1 h
  obtain ⟨h1, h2, h3, h4, h5⟩ := h'
  unfold SSet.add
  split
  · exact h
  · rename_i hh
    split
    · exact SSet.may_iff.2 ⟨h1, h2, by simp; omega, fun _ => rfl, rfl⟩
    · rename_i hl
      have hall : s.all = false := by
        cases ha : s.all with
        | false => rfl
        | true => simp [SSet.has, ha, inR_iff, hr.1, hr.2] at hh
      refine SSet.may_iff.2 ⟨h1, h2, ?_, ?_, ?_⟩
      · rw [insertSorted_length]; push_cast; omega
      · intro ha; rw [hall] at ha; cases ha
      · refine rising_insert h5 (by omega) hr.2 ?_
        simpa [SSet.has, hall] using hh

theorem SSet.add_cores (s : SSet) (r : Int) : (s.add r).cores = s.cores := by
  unfold SSet.add; (repeat' split) <;> rfl
theorem SSet.add_most (s : SSet) (r : Int) : (s.add r).most = s.most := by
  unfold SSet.add; (repeat' split) <;> rfl

theorem SSet.add_self {s : SSet} {r : Int} (hr : 0 ≤ r ∧ r < s.cores) : (s.add r).has r = true := by
  unfold SSet.add
  split
  · rename_i h; exact h
  · rename_i hh
    split
    · simp [SSet.has, inR_iff, hr]
    · have hall : s.all = false := by
        cases ha : s.all with
        | false => rfl
        | true => simp [SSet.has, ha, inR_iff, hr.1, hr.2] at hh
      simp [SSet.has, hall, insertSorted_mem]

theorem SSet.add_mono {s : SSet} {r i : Int} (h : s.has i = true) (hi : 0 ≤ i ∧ i < s.cores) : (s.add r).has i = true := by
  unfold SSet.add
  split
  · exact h
  · split
    · simp [SSet.has, inR_iff, hi]
    · cases ha : s.all with
      | true => simp [SSet.has, inR_iff, hi]
      | false =>
        simp only [SSet.has, ha] at h ⊢
        simp [insertSorted_mem] at h ⊢
        exact .inr h

theorem SSet.has_rng {s : SSet} {i : Int} (hm : s.may = true) (h : s.has i = true) : 0 ≤ i ∧ i < s.cores := by
  have hm' := SSet.may_iff.1 hm
  unfold SSet.has at h
  split at h
  · exact inR_iff.1 h
  · have := rising_bounds hm'.2.2.2.2 (by simpa using h); omega

theorem SSet.clear_has (s : SSet) (k : Int) : s.clear.has k = false := by simp [SSet.clear, SSet.has]
theorem SSet.clear_may {s : SSet} (h : s.may = true) : s.clear.may = true := by
  obtain ⟨h1, h2, h3, h4, h5⟩ := SSet.may_iff.1 h
  exact SSet.may_iff.2 ⟨h1, h2, by simp [SSet.clear]; omega, by simp [SSet.clear], rfl⟩

theorem coreList_mem {n k : Int} : k ∈ coreList n ↔ 0 ≤ k ∧ k < n := by
  simp only [coreList, List.mem_map, List.mem_range]
  constructor
  · rintro ⟨a, ha, rfl⟩; simp only [Int.ofNat_eq_natCast]; omega
  · rintro ⟨h1, h2⟩; exact ⟨k.toNat, by omega, by simp only [Int.ofNat_eq_natCast]; omega⟩

theorem targets_mem {s : SSet} {but : List Int} {k : Int} : k ∈ s.targets but ↔ (0 ≤ k ∧ k < s.cores) ∧ s.has k = true ∧ k ∉ but := by
  simp only [SSet.targets, List.mem_filter, coreList_mem, Bool.and_eq_true, Bool.not_eq_true', List.contains_eq_mem, decide_eq_false_iff_not]

theorem coreList_nodup (n : Int) : (coreList n).Nodup := by
  unfold coreList
  exact List.Pairwise.map Int.ofNat (fun a b hab => by intro e; exact hab (Int.ofNat.inj e)) List.nodup_range

theorem filter_lt_of_out {l : List Int} {p : Int → Bool} {r : Int} (hr : r ∈ l) (hp : p r = false) : (l.filter p).length < l.length := by
  induction l with
  | nil => simp at hr
  | cons a l ih =>
    rcases List.mem_cons.1 hr with rfl | hr
    · rw [List.filter_cons, if_neg (by simp [hp]), List.length_cons]; exact Nat.lt_succ_of_le (List.length_filter_le _ _)
    · have := ih hr
      rw [List.filter_cons]
      split
      · rw [List.length_cons, List.length_cons]; omega
      · rw [List.length_cons]; omega

theorem targets_lt {s : SSet} {but : List Int} {r : Int} (hr : 0 ≤ r ∧ r < s.cores) (hb : r ∈ but) : ((s.targets but).length : Int) < s.cores := by
  have h : (s.targets but).length < (coreList s.cores).length := filter_lt_of_out (r := r) (coreList_mem.2 hr) (by simp [hb])
  have e : (coreList s.cores).length = s.cores.toNat := by simp [coreList]
  omega

end Mes
