/- A part of proofs about the given program. No condition. -/
import Derived.Test.YtcgfdjijodlopaaGreatCac6
set_option linter.all false
/- Who owns a line tells its words, evicted or not. -/
namespace Mes
theorem lineOf_rng {c : Cfg} (hc : c.ok = true) {a : Int} (h : inR a c.size = true) : (0 ≤ c.lineOf a ∧ c.lineOf a < c.lines) ∧ a % c.words = (c.wordOf a : Nat) ∧ c.wordOf a < 8 := by
  have hw := ok_words hc
  have h' := inR_iff.1 h
  have hs : c.size = c.words * c.lines := by unfold Cfg.size; rw [if_pos hc]
  rw [hs] at h'
  have hl := wordOf_lt hc a
  refine ⟨⟨Int.ediv_nonneg h'.1 (by omega), Int.ediv_lt_of_lt_mul (by omega) (by rw [Int.mul_comm]; exact h'.2)⟩, ?_, by omega⟩
  unfold Cfg.wordOf
  have := Int.emod_nonneg a (show c.words ≠ 0 by omega)
  omega
structure Hold (c : Cfg) (core line : Int) (W : Words) (k : Cache) : Prop where
  inv : CInv c k
  core : k.core = core
  own : (2 ≤ (k.look line).state ∧ (k.look line).words = W) ∨ ((k.look line).state < 2 ∧ ∃ e, wbOf k.b line = some e ∧ e.live = true ∧ e.words = W)
section
variable {c : Cfg} {k : Cache} {core line who : Int} {W : Words}
theorem Hold.evict (h : Hold c core line W k) (s w : Int) : Hold c core line W (k.evict s w).1 := by
  obtain ⟨h1, h2⟩ := h.inv.evict s w
  by_cases he : (k.evict s w).2.2.2 = 0
  · obtain ⟨l, hl, a1, a2, a3, a4, a5, a6, a7, a8, a9⟩ := h2 he
    refine ⟨a1, a2.trans h.core, ?_⟩
    by_cases hll : l = line
    · subst hll
      rcases h.own with ⟨o1, o2⟩ | ⟨o1, e, o2, o3⟩
      · rcases a9 with ⟨b1, _⟩ | ⟨b1, _, _, b4⟩
        · omega
        · right
          refine ⟨by rw [a8 l, if_pos rfl]; simp [Way.none], ⟨l, (k.look l).words, true⟩, ?_, rfl, o2⟩
          rw [b4, wbNew l l _ a5, if_pos rfl]
      · rw [a5] at o2; cases o2
    · have e1 : (k.evict s w).1.look line = k.look line := by rw [a8 line, if_neg (fun e => hll e.symm)]
      have e2 : wbOf (k.evict s w).1.b line = wbOf k.b line := by
        rcases a9 with ⟨_, _, _, b4⟩ | ⟨_, _, _, b4⟩
        · rw [b4]
        · rw [b4, wbNew l line _ a5, if_neg (fun e => hll e.symm)]
      rw [e1, e2]; exact h.own
  · rw [(h1 he).1]; exact h
theorem fwd_may {kind : Int} (hk : kind = 4 ∨ kind = 5) (hc : c.ok = true) (hl : 0 ≤ line ∧ line < c.lines) (hcore : inR core c.cores = true) (hw : inR who c.cores = true) (hwc : who ≠ core) :
    Msg.may c ⟨kind, line, line % c.homes, core, who, 0, 0, Words.zero⟩ = true := by
  have h1 : inR line c.lines = true := inR_iff.2 hl
  have h2 : inR 0 c.cores = true := inR_iff.2 (by have := inR_iff.1 hcore; omega)
  have h3 : inR 0 (1 : Int) = true := inR_iff.2 (by omega)
  rcases hk with rfl | rfl <;> simp [Msg.may, hc, netOf, Msg.form, h1, h2, h3, hcore, hw, hwc]
theorem Hold.tell (h : Hold c core line W k) (m : Msg) (hm : m.line = line) (own state : Int) (give : Bool) (hs : 0 ≤ state ∧ state ≤ 4) :
    ∃ k', k.tell m own state give = (k', ⟨7, line, core, m.who, 1, m.acks, own, W⟩, true, 0) ∧ CInv c k' ∧ k'.core = core ∧
      (((k'.look line).state = state ∧ (state ≠ 0 → (k'.look line).words = W) ∧ wbOf k'.b line = none) ∨ ((k'.look line).state < 2 ∧ ∃ e, wbOf k.b line = some e ∧ e.live = true ∧ e.words = W ∧ k'.b = if give then wbKill k.b line else k.b)) := by
  obtain ⟨t1, t2, t3⟩ := h.inv.tell m own state give hs
  rw [hm] at t1 t2 t3
  rcases h.own with ⟨o1, o2⟩ | ⟨o1, e, o2, o3, o4⟩
  · obtain ⟨k', e, a1, a2, a3, a4, a5, a6, a7⟩ := t1 o1
    refine ⟨k', by rw [e, h.core, o2], a1, a2.trans h.core, .inl ⟨a6, fun hz => by rw [a7 hz, o2], ?_⟩⟩
    rw [a4]
    cases hb : wbOf k.b line with
    | none => rfl
    | some e9 =>
      have := (h.inv.buf_st (l := line) (by rw [hb]; rfl)).1
      omega
  · obtain ⟨k', e5, a1, a2, a3, a4, a5⟩ := t2 o1 e o2 o3
    exact ⟨k', by rw [e5, h.core, o4], a1, a2.trans h.core, .inr ⟨by rw [a4 line]; exact o1, e, o2, o3, o4, a5⟩⟩
theorem Hold.share (h : Hold c core line W k) (hc : c.ok = true) (hl : 0 ≤ line ∧ line < c.lines) (hcore : inR core c.cores = true) (hw : inR who c.cores = true) (hwc : who ≠ core) :
    (k.take ⟨4, line, line % c.homes, core, who, 0, 0, Words.zero⟩).2 = (⟨7, line, core, who, 1, 0, 1, W⟩, true, 0) ∧ Hold c core line W (k.take ⟨4, line, line % c.homes, core, who, 0, 0, Words.zero⟩).1 := by
  obtain ⟨k', e, a1, a2, a3⟩ := h.tell ⟨4, line, line % c.homes, core, who, 0, 0, Words.zero⟩ rfl 1 3 false (by omega)
  have et : k.take ⟨4, line, line % c.homes, core, who, 0, 0, Words.zero⟩ = k.tell ⟨4, line, line % c.homes, core, who, 0, 0, Words.zero⟩ 1 3 false := by
    unfold Cache.take
    rw [if_neg (by rw [h.inv.cfg, fwd_may (.inl rfl) hc hl hcore hw hwc, show toHome 4 = false from rfl]; simp [h.core]), if_pos rfl]
  rw [et, e]
  refine ⟨rfl, a1, a2, ?_⟩
  rcases a3 with ⟨b1, b2, b3⟩ | ⟨b1, e, b2, b3, b4, b5⟩
  · exact .inl ⟨by show 2 ≤ (k'.look line).state; omega, b2 (by omega)⟩
  · exact .inr ⟨b1, e, by rw [b5]; exact b2, b3, b4⟩
theorem Hold.give (h : Hold c core line W k) (hc : c.ok = true) (hl : 0 ≤ line ∧ line < c.lines) (hcore : inR core c.cores = true) (hw : inR who c.cores = true) (hwc : who ≠ core) :
    (k.take ⟨5, line, line % c.homes, core, who, 0, 0, Words.zero⟩).2 = (⟨7, line, core, who, 1, 0, 4, W⟩, true, 0) ∧ ((k.take ⟨5, line, line % c.homes, core, who, 0, 0, Words.zero⟩).1.take ⟨4, line, line % c.homes, core, who, 0, 0, Words.zero⟩).2.2.2 = 7 := by
  obtain ⟨k', e, a1, a2, a3⟩ := h.tell ⟨5, line, line % c.homes, core, who, 0, 0, Words.zero⟩ rfl 4 0 true (by omega)
  have et : k.take ⟨5, line, line % c.homes, core, who, 0, 0, Words.zero⟩ = k.tell ⟨5, line, line % c.homes, core, who, 0, 0, Words.zero⟩ 4 0 true := by
    unfold Cache.take
    rw [if_neg (by rw [h.inv.cfg, fwd_may (.inr rfl) hc hl hcore hw hwc, show toHome 5 = false from rfl]; simp [h.core]), if_neg (show ¬ (5 : Int) = 4 by omega), if_pos rfl]
  rw [et, e]
  refine ⟨rfl, ?_⟩
  have et2 : k'.take ⟨4, line, line % c.homes, core, who, 0, 0, Words.zero⟩ = k'.tell ⟨4, line, line % c.homes, core, who, 0, 0, Words.zero⟩ 1 3 false := by
    unfold Cache.take
    rw [if_neg (by rw [a1.cfg, fwd_may (.inl rfl) hc hl hcore hw hwc, show toHome 4 = false from rfl]; simp [a2]), if_pos rfl]
  show (k'.take ⟨4, line, line % c.homes, core, who, 0, 0, Words.zero⟩).2.2.2 = 7
  rw [et2]
  obtain ⟨_, _, t3⟩ := a1.tell ⟨4, line, line % c.homes, core, who, 0, 0, Words.zero⟩ 1 3 false (by omega)
  rcases a3 with ⟨b1, _, b3⟩ | ⟨b1, e, b2, b3, b4, b5⟩
  · rw [t3 (by show (k'.look line).state < 2; omega) (fun e he => by simp only [b3] at he; cases he)]
  · rw [t3 b1 (fun e' he => by
      simp only [if_true] at b5
      simp only [b5, wbOf_kill, if_true, b2, Option.map_some] at he
      injection he with he; rw [← he])]
/-- behind an operation that went through -/
theorem CInv.written (h : CInv c k) (hc : c.ok = true) (x : Op) (he : (k.do x).2.2 = 0) :
    inR x.addr c.size = true ∧ ((k.do x).1.look (c.lineOf x.addr)).words = (if x.kind = 1 then (k.look (c.lineOf x.addr)).words else (k.look (c.lineOf x.addr)).words.set (c.wordOf x.addr) x.value) ∧
    (x.kind ≠ 2 → (k.do x).2.1 = (k.look (c.lineOf x.addr)).words.get (c.wordOf x.addr)) ∧ (x.kind ≠ 1 → ((k.do x).1.look (c.lineOf x.addr)).state = 4) ∧
    (2 ≤ ((k.do x).1.look (c.lineOf x.addr)).state → Hold c k.core (c.lineOf x.addr) (if x.kind = 1 then (k.look (c.lineOf x.addr)).words else (k.look (c.lineOf x.addr)).words.set (c.wordOf x.addr) x.value) (k.do x).1) := by
  obtain ⟨d1, d2, d3, d4, d5, d6, d7, d8, d9, d10, d11, d12⟩ := (h.doE hc x).2 he
  have hw : ((k.do x).1.look (c.lineOf x.addr)).words = (if x.kind = 1 then (k.look (c.lineOf x.addr)).words else (k.look (c.lineOf x.addr)).words.set (c.wordOf x.addr) x.value) := by
    split
    · rename_i h1; rw [d11 h1]
    · rename_i h1; rw [d12 h1]
  refine ⟨d1, hw, fun h2 => ?_, fun h1 => by rw [d12 h1], fun hs => ⟨d6, d7, .inl ⟨hs, hw⟩⟩⟩
  rw [d5]
  unfold touch
  rw [if_neg h2]
  split <;> rfl
end
end Mes
