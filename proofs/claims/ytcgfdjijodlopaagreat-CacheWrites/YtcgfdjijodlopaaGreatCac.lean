/- A part of proofs about the given program. No condition. -/
import Derived.Test.YtcgfdjijodlopaaGreatArr
set_option linter.all false
/- A cache: what must be so of it, and what each call makes of each line. -/
namespace Mes

theorem valuesOk_iff {c : Cfg} {w : Words} : valuesOk c w = true ↔ ∀ i, i < 8 → (-2147483648 ≤ w.get i ∧ w.get i ≤ 2147483647) ∧ ((i : Int) < c.words ∨ w.get i = 0) := by
  simp only [valuesOk, List.all_eq_true, List.mem_range, wordOk, Bool.and_eq_true, inC_iff, Bool.or_eq_true, decide_eq_true_eq, beq_iff_eq]

theorem Words.get_eq {w : Words} {i : Nat} (hi : i < 8) : w.l[i]? = some (w.get i) := by
  unfold Words.get
  have : i < w.l.length := by rw [w.len]; exact hi
  simp [List.getD_eq_getElem?_getD, List.getElem?_eq_getElem this]

theorem oddWords_iff {c : Cfg} {w : Words} : oddWords c w = false ↔ ∀ i, i < 8 → c.words.toNat ≤ i → w.get i = 0 := by
  unfold oddWords
  rw [List.any_eq_false]
  constructor
  · intro h i hi hc
    have hm : w.get i ∈ w.l.drop c.words.toNat := List.mem_iff_getElem?.2 ⟨i - c.words.toNat, by
      rw [List.getElem?_drop, show c.words.toNat + (i - c.words.toNat) = i by omega, Words.get_eq hi]⟩
    have := h _ hm; simpa using this
  · intro h x hx
    obtain ⟨j, hj⟩ := List.mem_iff_getElem?.1 hx
    rw [List.getElem?_drop] at hj
    have hlt := (List.getElem?_eq_some_iff.1 hj).1
    rw [w.len] at hlt
    rw [Words.get_eq hlt] at hj
    injection hj with hj
    have := h _ hlt (by omega)
    rw [← hj, this]; simp

theorem not_odd {c : Cfg} {w : Words} (h : valuesOk c w = true) : oddWords c w = false :=
  oddWords_iff.2 fun i hi hc => by
    have := (valuesOk_iff.1 h i hi).2
    rcases this with a | a
    · omega
    · exact a

theorem Words.zero_get (i : Nat) : Words.zero.get i = 0 := by
  simp only [Words.get, Words.zero, List.getD_eq_getElem?_getD, List.getElem?_replicate]
  split <;> rfl

theorem valuesOk_zero' (c : Cfg) : valuesOk c Words.zero = true :=
  valuesOk_iff.2 fun i _ => by rw [Words.zero_get]; omega

/-- a miss that may be -/
structure MOk (c : Cfg) (m : Miss) : Prop where
  words : valuesOk c m.words = true
  kind : m.kind = 1 ∨ m.kind = 2
  needs : -1 ≤ m.needs
  got : 0 ≤ m.got
  own : m.needs ≠ -1 → m.own = 1 ∨ m.own = 2 ∨ m.own = 4
  owes : m.owes = true → m.needs = m.got
  lone : m.needs ≠ -1 → m.got ≤ m.needs

structure CInv (c : Cfg) (k : Cache) : Prop where
  cfg : k.c = c
  aw : AW c k.a
  uf : Uniq Miss.line k.f
  ub : Uniq WB.line k.b
  lf : (k.f.length : Int) ≤ c.mshrs
  lb : (k.b.length : Int) ≤ c.writebacks
  lock : ∀ l, (missOf k.f l).isSome = true ↔ ∃ w, findWay c k.a l = some w ∧ w.locked = true
  nobuf : ∀ l, (wbOf k.b l).isSome = true → findWay c k.a l = none
  okW : ∀ l w, findWay c k.a l = some w → valuesOk c w.words = true
  okB : ∀ l e, wbOf k.b l = some e → valuesOk c e.words = true ∧ (0 ≤ l ∧ l < c.lines)
  okF : ∀ l m, missOf k.f l = some m → MOk c m

theorem CInv.new {c : Cfg} (hc : c.ok = true) (core : Int) : CInv c (Cache.new c core) := by
  have hm : 1 ≤ c.mshrs ∧ 1 ≤ c.writebacks := by
    simp only [Cfg.ok, Bool.and_eq_true, inC_iff] at hc
    omega
  have hn : ∀ l, findWay c (Cache.new c core).a l = none := fun l => AW.new.find_none.2 fun i w ⟨h1, h2, _⟩ => by
    simp only [List.getElem?_replicate] at h1
    split at h1
    · injection h1 with h1; rw [← h1] at h2; cases h2
    · cases h1
  refine ⟨rfl, AW.new, Uniq.nil, Uniq.nil, ?_, ?_, fun l => ?_, fun l h => ?_, fun l w h => ?_, fun l e h => ?_, fun l m h => ?_⟩
  · simp [Cache.new]; omega
  · simp [Cache.new]; omega
  · rw [hn]; simp [Cache.new, missOf]
  · exact hn l
  · rw [hn] at h; cases h
  · simp [Cache.new, wbOf] at h
  · simp [Cache.new, missOf] at h

section
variable {c : Cfg} {k : Cache} (h : CInv c k)
include h

theorem CInv.look_some {l : Int} {w : Way} (hw : findWay c k.a l = some w) : k.look l = w := by
  unfold Cache.look lookWay; rw [h.cfg, hw]; rfl
theorem CInv.look_none {l : Int} (hw : findWay c k.a l = none) : k.look l = Way.none := by
  unfold Cache.look lookWay; rw [h.cfg, hw]; rfl
theorem CInv.st_rng (l : Int) : 0 ≤ (k.look l).state ∧ (k.look l).state ≤ 4 := by
  cases hw : findWay c k.a l with
  | none => rw [h.look_none hw]; simp [Way.none]
  | some w =>
    rw [h.look_some hw]
    obtain ⟨i, hi⟩ := h.aw.find.1 hw
    exact h.aw.st i w hi.1
theorem CInv.found {l : Int} (hs : (k.look l).state ≠ 0) : findWay c k.a l = some (k.look l) := by
  cases hw : findWay c k.a l with
  | none => rw [h.look_none hw] at hs; exact absurd rfl hs
  | some w => rw [h.look_some hw]
theorem CInv.rng_of {l : Int} {w : Way} (hw : findWay c k.a l = some w) : (0 ≤ l ∧ l < c.lines) ∧ w.line = l ∧ w.there = true := by
  obtain ⟨i, hi⟩ := h.aw.find.1 hw
  have := (h.aw.home i w hi.1 hi.2.1).1
  rw [hi.2.2] at this
  exact ⟨this, hi.2.2, hi.2.1⟩
theorem CInv.look_ok (l : Int) : valuesOk c (k.look l).words = true := by
  cases hw : findWay c k.a l with
  | none => rw [h.look_none hw]; exact valuesOk_zero' c
  | some w => rw [h.look_some hw]; exact h.okW l w hw
theorem CInv.miss_there {l : Int} (hm : (missOf k.f l).isSome = true) : ∃ w, findWay c k.a l = some w ∧ w.locked = true := (h.lock l).1 hm
theorem CInv.buf_st {l : Int} (hb : (wbOf k.b l).isSome = true) : (k.look l).state = 0 ∧ missOf k.f l = none := by
  have hn := h.nobuf l hb
  refine ⟨by rw [h.look_none hn]; rfl, ?_⟩
  cases hm : missOf k.f l with
  | none => rfl
  | some m =>
    obtain ⟨w, hw, _⟩ := h.miss_there (l := l) (by rw [hm]; rfl)
    rw [hn] at hw; cases hw

/-- a line's state and words are others -/
theorem CInv.setA {l st : Int} {ws : Words} {w : Way} (hw : findWay c k.a l = some w) (hst : 0 ≤ st ∧ st ≤ 4) (hok : valuesOk c ws = true) {f : List Miss} {b : List WB}
    (huf : Uniq Miss.line f) (hub : Uniq WB.line b) (hlf : (f.length : Int) ≤ c.mshrs) (hlb : (b.length : Int) ≤ c.writebacks)
    (hfs : ∀ x, (missOf f x).isSome = (missOf k.f x).isSome) (hbs : ∀ x, (wbOf b x).isSome = true → (wbOf k.b x).isSome = true ∨ (x = l ∧ st = 0 ∧ w.locked = false))
    (hokB : ∀ x e, wbOf b x = some e → valuesOk c e.words = true) (hokF : ∀ x m, missOf f x = some m → MOk c m) :
    CInv c { k with a := setWay c k.a l st ws, f := f, b := b } ∧
    (∀ x, lookWay c (setWay c k.a l st ws) x = if x = l then (if st = 0 ∧ w.locked = false then Way.none else ⟨st, w.line, if st = 0 then Words.zero else ws, w.locked⟩) else lookWay c k.a x) := by
  have e : setWay c k.a l st ws = updWay c k.a l fun w => { w with state := st, words := if st = 0 then Words.zero else ws } := by
    unfold setWay; rw [if_neg (by rw [not_odd hok]; simp; omega)]
  obtain ⟨u1, u2, u3, _⟩ := h.aw.upd (l := l) (f := fun w => { w with state := st, words := if st = 0 then Words.zero else ws }) (fun _ => rfl) (fun _ _ => hst)
  rw [← e] at u1 u2 u3
  have u3' := u3 w hw
  have hth : Way.there { w with state := st, words := if st = 0 then Words.zero else ws } = !(decide (st = 0) && !w.locked) := by
    simp [Way.there]
    cases w.locked <;> simp
    by_cases hs : st = 0 <;> simp [hs]
  rw [hth] at u3'
  constructor
  · refine ⟨h.cfg, u1, huf, hub, hlf, hlb, fun x => ?_, fun x hx => ?_, fun x v hv => ?_, fun x e he => ⟨hokB x e he, ?_⟩, hokF⟩
    · show (missOf f x).isSome = true ↔ ∃ v, findWay c (setWay c k.a l st ws) x = some v ∧ v.locked = true
      rw [hfs x, h.lock x]
      by_cases hxl : x = l
      · subst hxl
        rw [u3', hw]
        constructor
        · rintro ⟨v, hv, hl⟩
          injection hv with hv; subst hv
          exact ⟨_, if_pos (by simp [hl]), hl⟩
        · rintro ⟨v, hv, hl⟩
          split at hv
          · injection hv with hv; subst hv; exact ⟨w, rfl, hl⟩
          · cases hv
      · rw [u2 x hxl]
    · show findWay c (setWay c k.a l st ws) x = none
      by_cases hxl : x = l
      · subst hxl
        rcases hbs x hx with a | ⟨_, a, b⟩
        · have := h.nobuf x a; rw [hw] at this; cases this
        · rw [u3']; simp [a, b]
      · rw [u2 x hxl]
        rcases hbs x hx with a | ⟨a, _⟩
        · exact h.nobuf x a
        · exact absurd a hxl
    · have hv' : findWay c (setWay c k.a l st ws) x = some v := hv
      by_cases hxl : x = l
      · subst hxl
        rw [u3'] at hv'
        split at hv'
        · injection hv' with hv'; subst hv'
          show valuesOk c (if st = 0 then Words.zero else ws) = true
          split
          · exact valuesOk_zero' c
          · exact hok
        · cases hv'
      · rw [u2 x hxl] at hv'; exact h.okW x v hv'
    · rcases hbs x (by rw [he]; rfl) with a | ⟨a, _⟩
      · obtain ⟨e', he'⟩ := Option.isSome_iff_exists.1 a
        exact (h.okB x e' he').2
      · rw [a]; exact (h.rng_of hw).1
  · intro x
    split
    · rename_i hxl; subst hxl
      unfold lookWay
      rw [u3']
      by_cases hz : st = 0 ∧ w.locked = false
      · rw [if_neg (by simp [hz]), if_pos hz]; rfl
      · have : (!(decide (st = 0) && !w.locked)) = true := by
          by_cases hs : st = 0
          · have : w.locked = true := by cases hl : w.locked with
              | true => rfl
              | false => exact absurd ⟨hs, hl⟩ hz
            simp [hs, this]
          · simp [hs]
        rw [if_pos this, if_neg hz]; rfl
    · rename_i hxl
      unfold lookWay; rw [u2 x hxl]

/-- the misses, or the buffer, are others: nothing else -/
theorem CInv.setFB {f : List Miss} {b : List WB}
    (huf : Uniq Miss.line f) (hub : Uniq WB.line b) (hlf : (f.length : Int) ≤ c.mshrs) (hlb : (b.length : Int) ≤ c.writebacks)
    (hfs : ∀ x, (missOf f x).isSome = (missOf k.f x).isSome) (hbs : ∀ x, (wbOf b x).isSome = true → (wbOf k.b x).isSome = true)
    (hokB : ∀ x e, wbOf b x = some e → valuesOk c e.words = true) (hokF : ∀ x m, missOf f x = some m → MOk c m) :
    CInv c { k with f := f, b := b } where
  cfg := h.cfg
  aw := h.aw
  uf := huf
  ub := hub
  lf := hlf
  lb := hlb
  lock := fun x => by show (missOf f x).isSome = true ↔ _; rw [hfs x]; exact h.lock x
  nobuf := fun x hx => h.nobuf x (hbs x hx)
  okW := h.okW
  okB := fun x e he => ⟨hokB x e he, by
    obtain ⟨e', he'⟩ := Option.isSome_iff_exists.1 (hbs x (by rw [he]; rfl))
    exact (h.okB x e' he').2⟩
  okF := hokF
end
end Mes
