/- A part of proofs about the given program. No condition. -/
import Derived.Test.YtcgfdjijodlopaaGreatCac
set_option linter.all false
namespace Mes
section
variable {c : Cfg} {k : Cache} (h : CInv c k)
include h

omit h in
theorem missNew (l kd x : Int) (hm : missOf k.f l = none) : missOf (k.f ++ [Miss.new l kd]) x = if x = l then some (Miss.new l kd) else missOf k.f x := by
  rw [missOf_snoc]
  by_cases hx : x = l
  · subst hx; simp [hm, Miss.new]
  · have : ¬ (Miss.new l kd).line = x := fun e => hx e.symm
    rw [if_neg hx, if_neg this]; simp

theorem CInv.ask (l kd : Int) :
    ((k.ask l kd).2.2 ≠ 0 → (k.ask l kd).1 = k ∧ (k.ask l kd).2.1 = Msg.none) ∧
    ((k.ask l kd).2.2 = 0 → CInv c (k.ask l kd).1 ∧ (k.ask l kd).2.1 = k.home kd l ∧ (0 ≤ l ∧ l < c.lines) ∧ (kd = 1 ∨ kd = 2) ∧ missOf k.f l = none ∧ wbOf k.b l = none ∧ k.can l kd = false ∧
      (k.ask l kd).1.core = k.core ∧ (k.ask l kd).1.b = k.b ∧ (k.ask l kd).1.f = k.f ++ [Miss.new l kd] ∧
      ∀ x, ((k.ask l kd).1.look x).state = (k.look x).state ∧ ((k.ask l kd).1.look x).words = (k.look x).words) := by
  unfold Cache.ask
  split
  · exact ⟨fun _ => ⟨rfl, rfl⟩, fun e => by cases e⟩
  rename_i hg1
  have hg1' : (0 ≤ l ∧ l < c.lines) ∧ (kd = 1 ∨ kd = 2) := by
    simp only [h.cfg, Bool.or_eq_true, Bool.not_eq_true', Bool.and_eq_true, bne_iff_ne, not_or] at hg1
    refine ⟨inR_iff.1 (by simpa using hg1.1), ?_⟩
    have := hg1.2
    by_cases h1 : kd = 1
    · exact .inl h1
    · by_cases h2 : kd = 2
      · exact .inr h2
      · exact absurd ⟨h1, h2⟩ this
  split
  · exact ⟨fun _ => ⟨rfl, rfl⟩, fun e => by cases e⟩
  rename_i hg2
  simp only [Bool.or_eq_true, not_or] at hg2
  have hm : missOf k.f l = none := by simpa using hg2.1.1
  have hb : wbOf k.b l = none := by simpa using hg2.1.2
  have hcan : k.can l kd = false := by simpa using hg2.2
  split
  · exact ⟨fun _ => ⟨rfl, rfl⟩, fun e => by cases e⟩
  rename_i hg3
  rw [h.cfg] at hg3
  have hlen : ((k.f ++ [Miss.new l kd]).length : Int) ≤ c.mshrs := by have := h.lf; simp; omega
  have huf : Uniq Miss.line (k.f ++ [Miss.new l kd]) := h.uf.snoc hm
  have hokF : ∀ x m, missOf (k.f ++ [Miss.new l kd]) x = some m → MOk c m := fun x m hx => by
    rw [missNew l kd x hm] at hx
    split at hx
    · injection hx with hx; subst hx; exact ⟨valuesOk_zero' c, hg1'.2, by simp [Miss.new], by simp [Miss.new], fun e => absurd rfl e, fun e => (by cases e), fun e => absurd rfl e⟩
    · exact h.okF x m hx
  have fin : ∀ (a : List Way), AW c a → (∀ x, x ≠ l → findWay c a x = findWay c k.a x) → (∃ w, findWay c a l = some w ∧ w.locked = true ∧ w.state = (k.look l).state ∧ w.words = (k.look l).words) →
      CInv c { k with a := a, f := k.f ++ [Miss.new l kd] } ∧ ∀ x, (lookWay c a x).state = (k.look x).state ∧ (lookWay c a x).words = (k.look x).words := by
    intro a ha hx hl
    obtain ⟨w, hw, hwl, hws, hww⟩ := hl
    have lk : ∀ x, (lookWay c a x).state = (k.look x).state ∧ (lookWay c a x).words = (k.look x).words := fun x => by
      by_cases hxl : x = l
      · subst hxl; unfold lookWay; rw [hw]; exact ⟨hws, hww⟩
      · have : lookWay c a x = k.look x := by unfold Cache.look lookWay; rw [hx x hxl, h.cfg]
        rw [this]; exact ⟨rfl, rfl⟩
    refine ⟨⟨h.cfg, ha, huf, h.ub, hlen, h.lb, fun x => ?_, fun x hx' => ?_, fun x v hv => ?_, h.okB, hokF⟩, lk⟩
    · show (missOf (k.f ++ [Miss.new l kd]) x).isSome = true ↔ ∃ v, findWay c a x = some v ∧ v.locked = true
      rw [missNew l kd x hm]
      by_cases hxl : x = l
      · subst hxl; rw [if_pos rfl, hw]; simp [hwl]
      · rw [if_neg hxl, hx x hxl]; exact h.lock x
    · show findWay c a x = none
      have hxl : x ≠ l := by rintro rfl; have hx'' : (wbOf k.b x).isSome = true := hx'; rw [hb] at hx''; cases hx''
      rw [hx x hxl]; exact h.nobuf x hx'
    · have hv' : findWay c a x = some v := hv
      by_cases hxl : x = l
      · subst hxl
        rw [hw] at hv'; injection hv' with hv'; subst hv'
        rw [hww]; exact h.look_ok x
      · rw [hx x hxl] at hv'; exact h.okW x v hv'
  split
  · rename_i hg4
    obtain ⟨w, hw⟩ : ∃ w, findWay c k.a l = some w := by
      have : (findWay c k.a l).isSome = true := by have := hg4; unfold Cache.find at this; rw [h.cfg] at this; exact this
      exact Option.isSome_iff_exists.1 this
    obtain ⟨u1, u2, u3, _⟩ := h.aw.upd (l := l) (f := fun w => { w with locked := true }) (fun _ => rfl) (fun _ q => q)
    have u3' := u3 w hw
    have hth : Way.there { w with locked := true } = true := by simp [Way.there]
    rw [if_pos hth] at u3'
    obtain ⟨f1, f2⟩ := fin (lockWay k.c k.a l true) (by rw [h.cfg]; exact u1) (by rw [h.cfg]; exact u2) ⟨_, by rw [h.cfg]; exact u3', rfl, by rw [h.look_some hw], by rw [h.look_some hw]⟩
    refine ⟨fun e => absurd rfl e, fun _ => ⟨f1, rfl, hg1'.1, hg1'.2, hm, hb, hcan, rfl, rfl, rfl, fun x => ?_⟩⟩
    have := f2 x
    show (lookWay k.c (lockWay k.c k.a l true) x).state = _ ∧ (lookWay k.c (lockWay k.c k.a l true) x).words = _
    rw [h.cfg] at this ⊢; exact this
  · rename_i hg4
    have hn : findWay c k.a l = none := by
      have : (findWay c k.a l).isSome ≠ true := by have := hg4; unfold Cache.find at this; rw [h.cfg] at this; exact this
      simpa using this
    split
    · exact ⟨fun _ => ⟨rfl, rfl⟩, fun e => by cases e⟩
    · rename_i w hw
      rw [h.cfg] at hw
      obtain ⟨u1, u2, u3⟩ := h.aw.lay hg1'.1 hn hw
      obtain ⟨f1, f2⟩ := fin (layWay k.c k.a l w) (by rw [h.cfg]; exact u1) (by rw [h.cfg]; exact u2) ⟨_, by rw [h.cfg]; exact u3, rfl, by rw [h.look_none hn]; rfl, by rw [h.look_none hn]; rfl⟩
      refine ⟨fun e => absurd rfl e, fun _ => ⟨f1, rfl, hg1'.1, hg1'.2, hm, hb, hcan, rfl, rfl, rfl, fun x => ?_⟩⟩
      have := f2 x
      show (lookWay k.c (layWay k.c k.a l w) x).state = _ ∧ (lookWay k.c (layWay k.c k.a l w) x).words = _
      rw [h.cfg] at this ⊢; exact this

omit h in
theorem wbNew (l x : Int) (ws : Words) (hb : wbOf k.b l = none) : wbOf (k.b ++ [⟨l, ws, true⟩]) x = if x = l then some ⟨l, ws, true⟩ else wbOf k.b x := by
  rw [wbOf_snoc]
  by_cases hx : x = l
  · subst hx; simp [hb]
  · have : ¬ l = x := fun e => hx e.symm
    simp [hx, this]

/-- what there is to be evicted -/
theorem CInv.evict (set way : Int) :
    ((k.evict set way).2.2.2 ≠ 0 → (k.evict set way).1 = k ∧ (k.evict set way).2.1 = Msg.none ∧ (k.evict set way).2.2.1 = false) ∧
    ((k.evict set way).2.2.2 = 0 → ∃ l, (0 ≤ l ∧ l < c.lines) ∧ CInv c (k.evict set way).1 ∧ (k.evict set way).1.core = k.core ∧ (k.evict set way).1.f = k.f ∧ missOf k.f l = none ∧ wbOf k.b l = none ∧
      (k.look l).state ≠ 0 ∧ wayAt c k.a set way = some (k.look l) ∧
      (∀ x, (k.evict set way).1.look x = if x = l then Way.none else k.look x) ∧
      (((k.look l).state < 2 ∧ (k.evict set way).2.1 = Msg.none ∧ (k.evict set way).2.2.1 = false ∧ (k.evict set way).1.b = k.b) ∨
       (2 ≤ (k.look l).state ∧ (k.evict set way).2.1 = { k.home 3 l with words := (k.look l).words } ∧ (k.evict set way).2.2.1 = true ∧ (k.evict set way).1.b = k.b ++ [⟨l, (k.look l).words, true⟩]))) := by
  have hc := h.cfg
  subst hc
  unfold Cache.evict
  split
  · exact ⟨fun _ => ⟨rfl, rfl, rfl⟩, fun e => by cases e⟩
  rename_i w hw
  split
  · exact ⟨fun _ => ⟨rfl, rfl, rfl⟩, fun e => by cases e⟩
  rename_i hs
  split
  · exact ⟨fun _ => ⟨rfl, rfl, rfl⟩, fun e => by cases e⟩
  rename_i hl
  have hl' : w.locked = false := by simpa using hl
  have hat : findWay k.c k.a w.line = some w := by
    have hw' := hw
    unfold wayAt at hw'
    split at hw'
    · exact h.aw.find.2 ⟨_, hw', by simp [Way.there, hs], rfl⟩
    · cases hw'
  obtain ⟨l, hll⟩ : ∃ l, l = w.line := ⟨_, rfl⟩
  rw [← hll] at hat ⊢
  have hlk := h.look_some hat
  have hm : missOf k.f l = none := by
    cases hm : missOf k.f l with
    | none => rfl
    | some m =>
      obtain ⟨v, hv, hvl⟩ := h.miss_there (l := l) (by rw [hm]; rfl)
      rw [hat] at hv; injection hv with hv; rw [hv, hvl] at hl'; cases hl'
  have hb : wbOf k.b l = none := by
    cases hb : wbOf k.b l with
    | none => rfl
    | some e => have := h.nobuf l (by rw [hb]; rfl); rw [hat] at this; cases this
  have hok := h.okW l w hat
  have fin : ∀ (b : List WB), Uniq WB.line b → (b.length : Int) ≤ k.c.writebacks → (∀ x, (wbOf b x).isSome = true → (wbOf k.b x).isSome = true ∨ x = l) → (∀ x e, wbOf b x = some e → valuesOk k.c e.words = true) →
      CInv k.c { k with a := setWay k.c k.a l 0 Words.zero, b := b } ∧ ∀ x, ({ k with a := setWay k.c k.a l 0 Words.zero, b := b } : Cache).look x = if x = l then Way.none else k.look x := by
    intro b hub hlb hbs hokB
    obtain ⟨g1, g2⟩ := h.setA (l := l) (st := 0) (ws := Words.zero) hat (by omega) (valuesOk_zero' k.c) h.uf hub h.lf hlb (fun _ => rfl) (fun x hx => (hbs x hx).imp id (fun e => ⟨e, rfl, hl'⟩)) hokB h.okF
    refine ⟨g1, fun x => ?_⟩
    show lookWay k.c (setWay k.c k.a l 0 Words.zero) x = _
    rw [g2 x]
    split
    · rw [if_pos ⟨rfl, hl'⟩]
    · rfl
  split
  · rename_i h2
    have hb' : (wbOf k.b l).isSome = false := by rw [hb]; rfl
    unfold wbPut
    rw [hb']
    simp only [Bool.false_eq_true, if_false]
    by_cases hfull : (k.b.length : Int) = k.c.writebacks
    · simp only [hfull, if_true, ne_eq]
      exact ⟨fun _ => ⟨rfl, rfl, rfl⟩, fun e => by simp at e⟩
    · simp only [hfull, if_false, ne_eq, not_true_eq_false, if_false]
      obtain ⟨g1, g2⟩ := fin (k.b ++ [⟨l, w.words, true⟩]) (h.ub.snoc (x := WB.mk l w.words true) hb) (by have := h.lb; simp; omega)
        (fun x hx => by rw [wbNew l x _ hb] at hx; split at hx; exact .inr (by assumption); exact .inl hx)
        (fun x e he => by
          rw [wbNew l x _ hb] at he
          split at he
          · injection he with he; subst he; exact hok
          · exact (h.okB x e he).1)
      refine ⟨fun e => by first | exact absurd rfl e | exact e.elim, fun _ => ⟨l, (h.rng_of hat).1, g1, by first | rfl | trivial, by first | rfl | trivial, hm, hb, by rw [hlk]; exact hs, by rw [hlk]; exact hw, g2, .inr ⟨by rw [hlk]; exact h2, by rw [hlk], by first | rfl | trivial, by rw [hlk]⟩⟩⟩
  · rename_i h2
    obtain ⟨g1, g2⟩ := fin k.b h.ub h.lb (fun x hx => .inl hx) (fun x e he => (h.okB x e he).1)
    refine ⟨fun e => by first | exact absurd rfl e | exact e.elim, fun _ => ⟨l, (h.rng_of hat).1, g1, by first | rfl | trivial, by first | rfl | trivial, hm, hb, by rw [hlk]; exact hs, by rw [hlk]; exact hw, g2, .inl ⟨by rw [hlk]; omega, by first | rfl | trivial, by first | rfl | trivial, by first | rfl | trivial⟩⟩⟩
end
end Mes
