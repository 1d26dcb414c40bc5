/- A part of proofs about the given program. No condition. -/
import Derived.Test.YtcgfdjijodlopaaGreatLst
import Derived.Test.YtcgfdjijodlopaaGreatSets
set_option linter.all false
/- A cache's array: what is told of a line. -/
namespace Mes

/-- the array is in order: what is there stands in its set, once -/
structure AW (c : Cfg) (a : List Way) : Prop where
  len : a.length = (c.sets * c.ways).toNat
  home : ∀ (i : Nat) (w : Way), a[i]? = some w → w.there = true → (0 ≤ w.line ∧ w.line < c.lines) ∧ baseOf c w.line ≤ i ∧ i < baseOf c w.line + c.ways.toNat
  once : ∀ (i j : Nat) (v w : Way), a[i]? = some v → a[j]? = some w → v.there = true → w.there = true → v.line = w.line → i = j
  st : ∀ (i : Nat) (w : Way), a[i]? = some w → 0 ≤ w.state ∧ w.state ≤ 4

def Holds (a : List Way) (l : Int) (i : Nat) (w : Way) : Prop := a[i]? = some w ∧ w.there = true ∧ w.line = l

theorem has_iff {l : Int} {w : Way} : has l w = true ↔ w.there = true ∧ w.line = l := by simp [has]

theorem getElem?_waysFrom {c : Cfg} {a : List Way} {b i : Nat} : (waysFrom c a b)[i]? = if i < c.ways.toNat then a[b + i]? else none := by
  simp [waysFrom, List.getElem?_take, List.getElem?_drop]

section
variable {c : Cfg} {a : List Way} (h : AW c a)
include h

theorem AW.find {l : Int} {w : Way} : findWay c a l = some w ↔ ∃ i, Holds a l i w := by
  unfold findWay waysOf
  constructor
  · intro hf
    split at hf
    · have hm := List.mem_of_find?_eq_some hf
      have hp := List.find?_some hf
      obtain ⟨i, hi⟩ := List.mem_iff_getElem?.1 hm
      rw [getElem?_waysFrom] at hi
      split at hi
      · exact ⟨_, hi, has_iff.1 hp⟩
      · cases hi
    · cases hf
  · rintro ⟨i, hi, ht, hl⟩
    obtain ⟨hr, h1, h2⟩ := h.home i w hi ht
    rw [hl] at hr h1 h2
    rw [if_pos (by simp [inR_iff, hr])]
    have hmem : w ∈ waysFrom c a (baseOf c l) := List.mem_iff_getElem?.2 ⟨i - baseOf c l, by
      rw [getElem?_waysFrom, if_pos (by omega), show baseOf c l + (i - baseOf c l) = i by omega]; exact hi⟩
    cases hf : (waysFrom c a (baseOf c l)).find? (has l) with
    | none =>
      have := List.find?_eq_none.1 hf w hmem
      exact absurd (has_iff.2 ⟨ht, hl⟩) this
    | some v =>
      have hvm := List.mem_of_find?_eq_some hf
      have hvp := has_iff.1 (List.find?_some hf)
      obtain ⟨j, hj⟩ := List.mem_iff_getElem?.1 hvm
      rw [getElem?_waysFrom] at hj
      split at hj
      · have := h.once i _ w v hi hj ht hvp.1 (by rw [hl, hvp.2])
        rw [← this, hi] at hj
        exact hj.symm
      · cases hj

theorem AW.find_none {l : Int} : findWay c a l = none ↔ ∀ i w, ¬ Holds a l i w := by
  constructor
  · intro hn i w hh
    have := h.find.2 ⟨i, hh⟩
    rw [hn] at this; cases this
  · intro hn
    cases hf : findWay c a l with
    | none => rfl
    | some w => obtain ⟨i, hi⟩ := h.find.1 hf; exact absurd hi (hn i w)

theorem AW.look {l : Int} {i : Nat} {w : Way} (hh : Holds a l i w) : lookWay c a l = w := by
  unfold lookWay; rw [h.find.2 ⟨i, hh⟩]; rfl
theorem AW.look_none {l : Int} (hn : ∀ i w, ¬ Holds a l i w) : lookWay c a l = Way.none := by
  unfold lookWay; rw [h.find_none.2 hn]; rfl

/-- another array that holds the same of a line tells the same of it -/
theorem AW.same {a' : List Way} (h' : AW c a') {l : Int} (hs : ∀ i w, Holds a' l i w ↔ Holds a l i w) : findWay c a' l = findWay c a l := by
  cases hf : findWay c a l with
  | none => rw [h'.find_none]; intro i w hh; exact h.find_none.1 hf i w ((hs i w).1 hh)
  | some w => obtain ⟨i, hi⟩ := h.find.1 hf; exact h'.find.2 ⟨i, (hs i w).2 hi⟩

/-- the place that is told is the way that holds it -/
theorem AW.place {l : Int} {i : Nat} {w : Way} (hh : Holds a l i w) : ∃ p, placeOf c a l = some p ∧ baseOf c l + p = i := by
  obtain ⟨hi, ht, hl⟩ := hh
  obtain ⟨hr, h1, h2⟩ := h.home i w hi ht
  rw [hl] at hr h1 h2
  have hg : (waysFrom c a (baseOf c l))[i - baseOf c l]? = some w := by
    rw [getElem?_waysFrom, if_pos (by omega), show baseOf c l + (i - baseOf c l) = i by omega]; exact hi
  have hmem : w ∈ waysFrom c a (baseOf c l) := List.mem_iff_getElem?.2 ⟨_, hg⟩
  unfold placeOf waysOf
  rw [if_pos (by simp [inR_iff, hr])]
  cases hp : (waysFrom c a (baseOf c l)).findIdx? (has l) with
  | none =>
    have := List.findIdx?_eq_none_iff.1 hp w hmem
    rw [has_iff.2 ⟨ht, hl⟩] at this; cases this
  | some p =>
    refine ⟨p, rfl, ?_⟩
    obtain ⟨hlt, hpp, _⟩ := List.findIdx?_eq_some_iff_getElem.1 hp
    have hq : (waysFrom c a (baseOf c l))[p]? = some (waysFrom c a (baseOf c l))[p] := List.getElem?_eq_getElem hlt
    obtain ⟨v, hv⟩ : ∃ v, v = (waysFrom c a (baseOf c l))[p] := ⟨_, rfl⟩
    rw [← hv] at hq hpp
    have hvp := has_iff.1 hpp
    rw [getElem?_waysFrom] at hq
    split at hq
    · exact (h.once _ _ v w hq hi hvp.1 ht (by rw [hl, hvp.2]))
    · cases hq

omit h in
theorem place_none {l : Int} (hn : ∀ i w, ¬ Holds a l i w) : placeOf c a l = none := by
  unfold placeOf waysOf
  split
  · rw [List.findIdx?_eq_none_iff]
    intro w hw
    obtain ⟨i, hi⟩ := List.mem_iff_getElem?.1 hw
    rw [getElem?_waysFrom] at hi
    split at hi
    · cases hh : has l w with
      | false => rfl
      | true => exact absurd ⟨hi, has_iff.1 hh⟩ (hn _ w)
    · cases hi
  · rfl

/-- a line's way is changed -/
theorem AW.upd {l : Int} {f : Way → Way} (hf : ∀ w, (f w).line = w.line) (hst : ∀ w, 0 ≤ w.state ∧ w.state ≤ 4 → 0 ≤ (f w).state ∧ (f w).state ≤ 4) :
    AW c (updWay c a l f) ∧ (∀ k, k ≠ l → findWay c (updWay c a l f) k = findWay c a k) ∧
    (∀ w, findWay c a l = some w → findWay c (updWay c a l f) l = if (f w).there then some (f w) else none) ∧
    (findWay c a l = none → updWay c a l f = a) := by
  cases hfw : findWay c a l with
  | none =>
    have hn := h.find_none.1 hfw
    have e : updWay c a l f = a := by unfold updWay; rw [place_none hn]
    rw [e]
    refine ⟨h, fun _ _ => rfl, ?_, fun _ => rfl⟩
    intro w hw; cases hw
  | some w0 =>
    obtain ⟨i0, hh⟩ := h.find.1 hfw
    obtain ⟨p, hp, hpi⟩ := h.place hh
    have e : updWay c a l f = a.modify i0 f := by unfold updWay; rw [hp, ← hpi]
    rw [e]
    have get : ∀ i w, (a.modify i0 f)[i]? = some w → (i = i0 ∧ w = f w0) ∨ (i ≠ i0 ∧ a[i]? = some w) := by
      intro i w hw
      rw [List.getElem?_modify] at hw
      by_cases hi : i0 = i
      · subst hi
        rw [hh.1] at hw
        simp at hw
        exact .inl ⟨rfl, hw.symm⟩
      · simp [hi] at hw
        exact .inr ⟨fun e => hi e.symm, hw⟩
    have get0 : (a.modify i0 f)[i0]? = some (f w0) := by rw [List.getElem?_modify, hh.1]; simp
    have aw : AW c (a.modify i0 f) := by
      refine ⟨by rw [List.length_modify]; exact h.len, fun i w hw ht => ?_, fun i j v w hv hw ht ht' hl => ?_, fun i w hw => ?_⟩
      · rcases get i w hw with ⟨rfl, rfl⟩ | ⟨_, hw'⟩
        · have := h.home i w0 hh.1 hh.2.1
          rw [hf]; exact this
        · exact h.home i w hw' ht
      · rcases get i v hv with ⟨rfl, rfl⟩ | ⟨h1, hv'⟩
        · rcases get j w hw with ⟨rfl, _⟩ | ⟨h2, hw'⟩
          · rfl
          · exact h.once i j w0 w hh.1 hw' hh.2.1 ht' (by rw [← hl, hf])
        · rcases get j w hw with ⟨rfl, rfl⟩ | ⟨h2, hw'⟩
          · exact h.once i j v w0 hv' hh.1 ht hh.2.1 (by rw [hl, hf])
          · exact h.once i j v w hv' hw' ht ht' hl
      · rcases get i w hw with ⟨rfl, rfl⟩ | ⟨_, hw'⟩
        · exact hst w0 (h.st i w0 hh.1)
        · exact h.st i w hw'
    refine ⟨aw, fun k hk => h.same aw fun i w => ?_, ?_, fun e => by cases e⟩
    rotate_left
    intro w hw
    rotate_right
    · constructor
      · rintro ⟨x1, x2, x3⟩
        rcases get i w x1 with ⟨rfl, rfl⟩ | ⟨_, x1'⟩
        · rw [hf, hh.2.2] at x3; exact absurd x3.symm hk
        · exact ⟨x1', x2, x3⟩
      · rintro ⟨x1, x2, x3⟩
        have hi : i ≠ i0 := by rintro rfl; rw [hh.1] at x1; injection x1 with x1; rw [← x1, hh.2.2] at x3; exact hk x3.symm
        refine ⟨?_, x2, x3⟩
        rw [List.getElem?_modify]; simp [Ne.symm hi, x1]
    · injection hw with hw; subst hw
      split
      · rename_i ht
        exact aw.find.2 ⟨i0, get0, ht, by rw [hf, hh.2.2]⟩
      · rename_i ht
        rw [aw.find_none]
        rintro i w ⟨x1, x2, x3⟩
        rcases get i w x1 with ⟨rfl, rfl⟩ | ⟨hi, x1'⟩
        · exact ht x2
        · exact hi (h.once i i0 w w0 x1' hh.1 x2 hh.2.1 (by rw [x3, hh.2.2]))

/-- a line is laid -/
theorem AW.lay {l : Int} (hl : 0 ≤ l ∧ l < c.lines) (hn : findWay c a l = none) {p : Nat} (hp : freeOf c a l = some p) :
    AW c (layWay c a l p) ∧ (∀ k, k ≠ l → findWay c (layWay c a l p) k = findWay c a k) ∧ findWay c (layWay c a l p) l = some ⟨0, l, Words.zero, true⟩ := by
  have hn' := h.find_none.1 hn
  have hpf := hp
  unfold freeOf waysOf at hpf
  rw [if_pos (by simp [inR_iff, hl])] at hpf
  obtain ⟨hlt, hpp, _⟩ := List.findIdx?_eq_some_iff_getElem.1 hpf
  obtain ⟨v, hv⟩ : ∃ v, v = (waysFrom c a (baseOf c l))[p] := ⟨_, rfl⟩
  have hq : (waysFrom c a (baseOf c l))[p]? = some v := by rw [hv]; exact List.getElem?_eq_getElem hlt
  rw [← hv] at hpp
  have hpw : p < c.ways.toNat := by
    rw [getElem?_waysFrom] at hq
    split at hq
    · assumption
    · cases hq
  rw [getElem?_waysFrom, if_pos hpw] at hq
  have hvt : v.there = false := by simpa using hpp
  obtain ⟨i0, hi0⟩ : ∃ i0, i0 = baseOf c l + p := ⟨_, rfl⟩
  rw [← hi0] at hq
  have hlen : i0 < a.length := (List.getElem?_eq_some_iff.1 hq).1
  have e : layWay c a l p = a.set i0 ⟨0, l, Words.zero, true⟩ := by unfold layWay; rw [hi0]
  rw [e]
  have get : ∀ i w, (a.set i0 ⟨0, l, Words.zero, true⟩)[i]? = some w → (i = i0 ∧ w = ⟨0, l, Words.zero, true⟩) ∨ (i ≠ i0 ∧ a[i]? = some w) := by
    intro i w hw
    rw [List.getElem?_set] at hw
    by_cases hi : i0 = i
    · subst hi; simp [hlen] at hw; exact .inl ⟨rfl, hw.symm⟩
    · simp [hi] at hw; exact .inr ⟨fun e => hi e.symm, hw⟩
  have get0 : (a.set i0 ⟨0, l, Words.zero, true⟩)[i0]? = some ⟨0, l, Words.zero, true⟩ := by rw [List.getElem?_set]; simp [hlen]
  have aw : AW c (a.set i0 ⟨0, l, Words.zero, true⟩) := by
    refine ⟨by rw [List.length_set]; exact h.len, fun i w hw ht => ?_, fun i j v w hv hw ht ht' hl' => ?_, fun i w hw => ?_⟩
    · rcases get i w hw with ⟨rfl, rfl⟩ | ⟨_, hw'⟩
      · exact ⟨hl, by show baseOf c l ≤ i; omega, by show i < baseOf c l + c.ways.toNat; omega⟩
      · exact h.home i w hw' ht
    · rcases get i v hv with ⟨rfl, rfl⟩ | ⟨h1, hv'⟩
      · rcases get j w hw with ⟨rfl, _⟩ | ⟨h2, hw'⟩
        · rfl
        · exact absurd ⟨hw', ht', hl'.symm⟩ (hn' j w)
      · rcases get j w hw with ⟨rfl, rfl⟩ | ⟨h2, hw'⟩
        · exact absurd ⟨hv', ht, hl'⟩ (hn' i v)
        · exact h.once i j v w hv' hw' ht ht' hl'
    · rcases get i w hw with ⟨rfl, rfl⟩ | ⟨_, hw'⟩
      · simp
      · exact h.st i w hw'
  refine ⟨aw, fun k hk => h.same aw fun i w => ?_, aw.find.2 ⟨i0, get0, by simp [Way.there], rfl⟩⟩
  constructor
  · rintro ⟨x1, x2, x3⟩
    rcases get i w x1 with ⟨rfl, rfl⟩ | ⟨_, x1'⟩
    · exact absurd x3.symm hk
    · exact ⟨x1', x2, x3⟩
  · rintro ⟨x1, x2, x3⟩
    have hi : i ≠ i0 := by rintro rfl; rw [hq] at x1; injection x1 with x1; rw [← x1, hvt] at x2; cases x2
    exact ⟨by rw [List.getElem?_set]; simp [Ne.symm hi, x1], x2, x3⟩
end

theorem AW.new {c : Cfg} : AW c (List.replicate (c.sets * c.ways).toNat Way.none) := by
  have get : ∀ (i : Nat) (w : Way), (List.replicate (c.sets * c.ways).toNat Way.none)[i]? = some w → w = Way.none := by
    intro i w hw
    rw [List.getElem?_replicate] at hw
    split at hw
    · injection hw with hw; exact hw.symm
    · cases hw
  refine ⟨by simp, fun i w hw ht => ?_, fun i j v w hv hw ht _ _ => ?_, fun i w hw => ?_⟩
  · rw [get i w hw] at ht; cases ht
  · rw [get i v hv] at ht; cases ht
  · rw [get i w hw]; simp [Way.none]
end Mes
