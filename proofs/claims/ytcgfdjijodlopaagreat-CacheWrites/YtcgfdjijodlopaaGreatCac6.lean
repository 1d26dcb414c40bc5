/- A part of proofs about the given program. No condition. -/
import Derived.Test.YtcgfdjijodlopaaGreatCac5
set_option linter.all false
/- Take; any step; what an operation at a line's first word tells. -/
namespace Mes

theorem may_facts {c : Cfg} {m : Msg} (h : m.may c = true) : inR m.line c.lines = true ∧ (m.kind = 7 → valuesOk c m.words = true ∧ 0 ≤ m.acks) ∧ (m.kind = 8 → 0 ≤ m.acks) := by
  simp only [Msg.may, Bool.and_eq_true] at h
  obtain ⟨⟨⟨_, _⟩, hl⟩, hf⟩ := h
  refine ⟨hl, fun hk => ?_, fun hk => ?_⟩
  · unfold Msg.form at hf
    simp only [hk, show ¬ (7 : Int) = 3 by omega, show ¬ ((7 : Int) = 1 ∨ (7 : Int) = 2 ∨ (7 : Int) = 11) by omega, show ¬ ((7 : Int) = 4 ∨ (7 : Int) = 6) by omega, show ¬ (7 : Int) = 5 by omega, if_false, if_true, Bool.and_eq_true, inR_iff] at hf
    exact ⟨hf.2, hf.1.1.1.2.1⟩
  · unfold Msg.form at hf
    simp only [hk, show ¬ (8 : Int) = 3 by omega, show ¬ ((8 : Int) = 1 ∨ (8 : Int) = 2 ∨ (8 : Int) = 11) by omega, show ¬ ((8 : Int) = 4 ∨ (8 : Int) = 6) by omega, show ¬ (8 : Int) = 5 by omega, show ¬ (8 : Int) = 7 by omega, if_false, if_true, Bool.and_eq_true, plainMsg, inR_iff] at hf
    exact hf.1.2.2.1

theorem missData_err {f : List Miss} {l a o : Int} {w : Words} (h : (missData f l a o w).2 ≠ 0) : (missData f l a o w).1 = f := by
  unfold missData at h ⊢
  cases hm : missOf f l with
  | none => rfl
  | some m =>
    rw [hm] at h
    simp only at h ⊢
    by_cases hf : m.fits a o = true
    · rw [if_pos hf] at h; exact absurd rfl h
    · rw [if_neg hf]
theorem missGrant_err {f : List Miss} {l a : Int} (h : (missGrant f l a).2 ≠ 0) : (missGrant f l a).1 = f := by
  unfold missGrant at h ⊢
  rcases hq : missData f l a 4 Words.zero with ⟨f', e⟩
  rw [hq] at h
  simp only at h ⊢
  by_cases he : e = 0
  · rw [if_pos he] at h; exact absurd rfl h
  · rw [if_neg he]
    have := missData_err (f := f) (l := l) (a := a) (o := 4) (w := Words.zero) (by rw [hq]; exact he)
    rw [hq] at this; exact this
theorem missAck_err {f : List Miss} {l : Int} (h : (missAck f l).2 ≠ 0) : (missAck f l).1 = f := by
  unfold missAck at h ⊢
  cases hm : missOf f l with
  | none => rfl
  | some m =>
    rw [hm] at h
    simp only at h ⊢
    by_cases hf : m.kind = 1 ∨ m.needs = m.got
    · rw [if_pos hf]
    · rw [if_neg hf] at h; exact absurd rfl h

theorem filled_err {k : Cache} {l e : Int} (h : (k.filled l e).2.2.2 ≠ 0) : e ≠ 0 ∧ k.filled l e = (k, Msg.none, false, 7) := by
  unfold Cache.filled at h ⊢
  by_cases he : e = 0
  · subst he
    simp only [ne_eq, not_true_eq_false, if_false] at h
    exfalso
    split at h <;> exact h rfl
  · exact ⟨he, by rw [if_pos he]⟩

theorem tell_err {k : Cache} {m : Msg} {own state : Int} {give : Bool} (h : (k.tell m own state give).2.2.2 ≠ 0) : k.tell m own state give = (k, Msg.none, false, 7) := by
  unfold Cache.tell at h ⊢
  simp only at h ⊢
  split
  · rename_i h2; rw [if_pos h2] at h; exact absurd rfl h
  · rename_i h2
    rw [if_neg h2] at h
    rcases hq : wbShare k.b m.line with ⟨w, e⟩
    rw [hq] at h
    simp only at h ⊢
    by_cases he : e = 0
    · subst he; simp at h
    · rw [if_pos he]

theorem take_err {k : Cache} {m : Msg} (h : (k.take m).2.2.2 ≠ 0) : (k.take m).1 = k ∧ (k.take m).2.1 = Msg.none ∧ (k.take m).2.2.1 = false := by
  unfold Cache.take at h ⊢
  split
  · exact ⟨rfl, rfl, rfl⟩
  rename_i h0
  rw [if_neg h0] at h
  split
  · rename_i h1; rw [if_pos h1] at h; rw [tell_err h]; exact ⟨rfl, rfl, rfl⟩
  rename_i h1; rw [if_neg h1] at h
  split
  · rename_i h2; rw [if_pos h2] at h; rw [tell_err h]; exact ⟨rfl, rfl, rfl⟩
  rename_i h2; rw [if_neg h2] at h
  split
  · rename_i h3; rw [if_pos h3] at h
    unfold Cache.inv at h ⊢
    simp only at h ⊢
    split
    · exact ⟨rfl, rfl, rfl⟩
    · rename_i h4; rw [if_neg h4] at h; exact absurd rfl h
  rename_i h3; rw [if_neg h3] at h
  split
  · rename_i h4; rw [if_pos h4] at h
    rcases hq : missData k.f m.line m.acks m.own m.words with ⟨f, e⟩
    rw [hq] at h
    obtain ⟨he, e2⟩ := filled_err h
    have := missData_err (f := k.f) (l := m.line) (a := m.acks) (o := m.own) (w := m.words) (by rw [hq]; exact he)
    rw [hq] at this
    simp only at this ⊢
    rw [e2, this]; exact ⟨rfl, rfl, rfl⟩
  rename_i h4; rw [if_neg h4] at h
  split
  · rename_i h5; rw [if_pos h5] at h
    split
    · exact ⟨rfl, rfl, rfl⟩
    · rename_i h6; rw [if_neg h6] at h
      rcases hq : missGrant k.f m.line m.acks with ⟨f, e⟩
      rw [hq] at h
      obtain ⟨he, e2⟩ := filled_err h
      have := missGrant_err (f := k.f) (l := m.line) (a := m.acks) (by rw [hq]; exact he)
      rw [hq] at this
      simp only at this ⊢
      rw [e2, this]; exact ⟨rfl, rfl, rfl⟩
  rename_i h5; rw [if_neg h5] at h
  split
  · rename_i h6; rw [if_pos h6] at h
    rcases hq : missAck k.f m.line with ⟨f, e⟩
    rw [hq] at h
    obtain ⟨he, e2⟩ := filled_err h
    have := missAck_err (f := k.f) (l := m.line) (by rw [hq]; exact he)
    rw [hq] at this
    simp only at this ⊢
    rw [e2, this]; exact ⟨rfl, rfl, rfl⟩
  rename_i h6; rw [if_neg h6] at h
  rcases hq : wbDrop k.b m.line with ⟨b, e⟩
  rw [hq] at h
  simp only at h ⊢
  by_cases he : e = 0
  · subst he; simp at h
  · rw [if_pos he]; exact ⟨rfl, rfl, rfl⟩

section
variable {c : Cfg} {k : Cache} (h : CInv c k)
include h

theorem CInv.takeN {n : Int} (hg : GotLe n k) (m : Msg) : Nx c (n + 1) k (k.take m).1 := by
  have hg' := hg.mono (show n ≤ n + 1 by omega)
  unfold Cache.take
  split
  · exact h.same hg'
  rename_i h0
  simp only [Bool.or_eq_true, Bool.not_eq_true', not_or, Bool.not_eq_false] at h0
  have hm := may_facts (c := k.c) h0.1.1
  have hc := h.cfg
  split
  · exact h.tellN hg' m 1 3 false (by omega)
  split
  · exact h.tellN hg' m 4 0 true (by omega)
  split
  · exact h.invN hg' m
  split
  · rename_i hk
    have := (hm.2.1 hk)
    rw [hc] at this
    exact h.dataN hg' this.1 this.2
  split
  · rename_i hk
    split
    · exact h.same hg'
    · exact h.grantN hg' (hm.2.2 hk)
  split
  · exact h.ackN hg
  · have hd := h.dropE m.line
    rcases hq : wbDrop k.b m.line with ⟨b, e⟩
    simp only
    split
    · exact h.same hg'
    · rw [hq] at hd; exact ⟨hd.1, rfl, hg'⟩
end

structure Step where
  what : Int
  a : Int
  b : Int
  m : Msg
  x : Op
structure Rep where
  m : Msg
  is : Bool
  n : Int
  e : Int
def Rep.none : Rep := ⟨Msg.none, false, 0, 0⟩
def stepC (k : Cache) (s : Step) : Cache × Rep :=
  if s.what = 0 then ((k.ask s.a s.b).1, ⟨(k.ask s.a s.b).2.1, false, 0, (k.ask s.a s.b).2.2⟩)
  else if s.what = 1 then ((k.evict s.a s.b).1, ⟨(k.evict s.a s.b).2.1, (k.evict s.a s.b).2.2.1, 0, (k.evict s.a s.b).2.2.2⟩)
  else if s.what = 2 then ((k.take s.m).1, ⟨(k.take s.m).2.1, (k.take s.m).2.2.1, 0, (k.take s.m).2.2.2⟩)
  else if s.what = 3 then (k.finish.1, ⟨k.finish.2.getD Msg.none, k.finish.2.isSome, 0, 0⟩)
  else ((k.do s.x).1, ⟨Msg.none, false, (k.do s.x).2.1, (k.do s.x).2.2⟩)

theorem CInv.stepN {c : Cfg} {k : Cache} (h : CInv c k) (hc : c.ok = true) {n : Int} (hn : 0 ≤ n) (hg : GotLe n k) (s : Step) : Nx c (n + 1) k (stepC k s).1 := by
  have hg' := hg.mono (show n ≤ n + 1 by omega)
  unfold stepC
  split
  · exact h.askN (by omega) hg' s.a s.b
  split
  · exact h.evictN hg' s.a s.b
  split
  · exact h.takeN hg s.m
  split
  · exact h.finN hg'
  · exact h.doN hc hg' s.x

theorem CInv.step_err {c : Cfg} {k : Cache} (h : CInv c k) (hc : c.ok = true) (s : Step) (he : (stepC k s).2.e ≠ 0) : (stepC k s).1 = k ∧ (stepC k s).2.m = Msg.none ∧ (stepC k s).2.is = false ∧ (stepC k s).2.n = 0 := by
  unfold stepC at he ⊢
  split
  · rename_i h1; rw [if_pos h1] at he
    have := (h.ask s.a s.b).1 he
    exact ⟨this.1, this.2, rfl, rfl⟩
  rename_i h1; rw [if_neg h1] at he
  split
  · rename_i h2; rw [if_pos h2] at he
    have := (h.evict s.a s.b).1 he
    exact ⟨this.1, this.2.1, this.2.2, rfl⟩
  rename_i h2; rw [if_neg h2] at he
  split
  · rename_i h3; rw [if_pos h3] at he
    have := take_err he
    exact ⟨this.1, this.2.1, this.2.2, rfl⟩
  rename_i h3; rw [if_neg h3] at he
  split
  · rename_i h4; rw [if_pos h4] at he; exact absurd rfl he
  · rename_i h4; rw [if_neg h4] at he
    have := (h.doE hc s.x).1 he
    exact ⟨this.1, rfl, rfl, this.2⟩

/-- some steps -/
def runC (k : Cache) : List Step → Cache
  | [] => k
  | s :: l => runC (stepC k s).1 l
theorem runC_snoc (k : Cache) (l : List Step) (s : Step) : runC k (l ++ [s]) = (stepC (runC k l) s).1 := by
  induction l generalizing k with
  | nil => rfl
  | cons x l ih => exact ih _
theorem CInv.runN {c : Cfg} (hc : c.ok = true) : ∀ (l : List Step) {k : Cache} {n : Int}, CInv c k → 0 ≤ n → GotLe n k → Nx c (n + l.length) k (runC k l)
  | [], k, n, h, _, hg => by simp only [runC, List.length_nil, Int.natCast_zero, Int.add_zero]; exact h.same hg
  | s :: l, k, n, h, hn, hg => by
    obtain ⟨a1, a2, a3⟩ := h.stepN hc hn hg s
    obtain ⟨b1, b2, b3⟩ := CInv.runN hc l a1 (by omega) a3
    refine ⟨b1, b2.trans a2, ?_⟩
    have : n + ((s :: l).length : Nat) = n + 1 + (l.length : Nat) := by simp; omega
    rw [this]; exact b3

/-! ### a line's first word -/
theorem ok_lines {c : Cfg} (hc : c.ok = true) : 1 ≤ c.lines ∧ c.lines ≤ 1024 := by
  simp only [Cfg.ok, Bool.and_eq_true, isPow, decide_eq_true_eq, List.contains_eq_mem, pows, List.mem_cons, List.not_mem_nil, or_false] at hc
  omega
theorem first_word {c : Cfg} (hc : c.ok = true) {l : Int} (hl : 0 ≤ l ∧ l < c.lines) : inR (l * c.words) c.size = true ∧ c.lineOf (l * c.words) = l ∧ c.wordOf (l * c.words) = 0 ∧ 0 ≤ l * c.words ∧ l * c.words ≤ 8191 := by
  have hw := ok_words hc
  have hn := ok_lines hc
  have h0 : 0 ≤ l * c.words := Int.mul_nonneg hl.1 (by omega)
  have h1 : (l + 1) * c.words ≤ c.lines * c.words := Int.mul_le_mul_of_nonneg_right (by omega) (by omega)
  have h2 : (l + 1) * c.words = l * c.words + c.words := by rw [Int.add_mul]; omega
  have h3 : c.lines * c.words ≤ 1024 * 8 := Int.mul_le_mul (by omega) (by omega) (by omega) (by omega)
  refine ⟨inR_iff.2 ⟨h0, ?_⟩, ?_, ?_, h0, by omega⟩
  · unfold Cfg.size; rw [if_pos hc, Int.mul_comm c.words]; omega
  · unfold Cfg.lineOf; exact Int.mul_ediv_cancel l (by omega)
  · unfold Cfg.wordOf; rw [Int.mul_emod_left]; rfl

section
variable {c : Cfg} {k : Cache} (h : CInv c k) (hc : c.ok = true)
include h hc

theorem CInv.doLoad {l : Int} (hl : 0 ≤ l ∧ l < c.lines) : k.do ⟨1, l * c.words, 0⟩ = if (k.look l).state ≠ 0 then (k, (k.look l).words.get 0, 0) else (k, 0, 5) := by
  obtain ⟨f1, f2, f3, f4, f5⟩ := first_word hc hl
  have hcc := h.cfg
  subst hcc
  unfold Cache.do applyOp
  have hmay : Op.may ⟨1, l * k.c.words, 0⟩ = true := by simp [Op.may, inC, f4, f5]
  simp only [f1, if_true, f2, f3, hc, hmay, Bool.not_true, Bool.or_false, Bool.false_or, show ((1 : Int) == 4) = false from rfl, Bool.false_eq_true, if_false, ne_eq, not_true_eq_false, opKind, Cache.can, canDo, touch, show ¬ (1 : Int) = 2 by omega, show ¬ (1 : Int) = 3 by omega]
  by_cases hs : (k.look l).state = 0
  · simp [hs]
  · simp [hs]
theorem CInv.doSwapNo {l v : Int} (hl : 0 ≤ l ∧ l < c.lines) (hv : -2147483648 ≤ v ∧ v ≤ 2147483647) (hs : ¬ ((k.look l).state = 2 ∨ (k.look l).state = 4)) : k.do ⟨3, l * c.words, v⟩ = (k, 0, 5) := by
  obtain ⟨f1, f2, f3, f4, f5⟩ := first_word hc hl
  have hcc := h.cfg
  subst hcc
  unfold Cache.do applyOp
  have hmay : Op.may ⟨3, l * k.c.words, v⟩ = true := by simp [Op.may, inC, f4, f5, hv]
  have hcan : canDo (k.look l).state 2 = false := by
    simp only [canDo, show ¬ (2 : Int) = 1 by omega, if_false]
    rw [Bool.or_eq_false_iff]
    exact ⟨by simpa using fun e => hs (.inl e), by simpa using fun e => hs (.inr e)⟩
  simp only [f1, if_true, f2, f3, hc, hmay, Bool.not_true, Bool.or_false, Bool.false_or, show ((3 : Int) == 4) = false from rfl, Bool.false_eq_true, if_false, ne_eq, not_true_eq_false, opKind, Cache.can, show ¬ (3 : Int) = 1 by omega, hcan, Bool.not_false]

/-- behind a message that lets go -/
theorem CInv.lets {l who kind : Int} (hl : 0 ≤ l ∧ l < c.lines) (hk : 4 ≤ kind ∧ kind ≤ 6) (m : Msg) (hm : m = ⟨kind, l, l % c.homes, k.core, who, 0, 0, Words.zero⟩) :
    ((k.take m).2.2.2 = 0 → (kind ≠ 4 → ((k.take m).1.look l).state = 0) ∧ (kind = 4 → (((k.take m).1.look l).state = 3 ∧ (k.look l).state ≠ 0 ∨ ((k.take m).1.look l).state = 0 ∧ (k.look l).state = 0) ∧ ((k.take m).1.look l).words.get 0 = (k.look l).words.get 0)) := by
  intro he
  have hml : m.line = l := by rw [hm]
  unfold Cache.take at he ⊢
  split
  · rename_i h0; rw [if_pos h0] at he; simp at he
  rename_i h0
  rw [if_neg h0] at he
  have tl : ∀ (own state : Int) (give : Bool), 0 ≤ state ∧ state ≤ 4 → (k.tell m own state give).2.2.2 = 0 → (2 ≤ (k.look l).state ∧ ((k.tell m own state give).1.look l).state = state ∧ (state ≠ 0 → ((k.tell m own state give).1.look l).words = (k.look l).words)) ∨ ((k.look l).state = 0 ∧ ∀ x, (k.tell m own state give).1.look x = k.look x) := by
    intro own state give hs he
    obtain ⟨t1, t2, t3⟩ := h.tell m own state give hs
    rw [hml] at t1 t2 t3
    by_cases h2 : 2 ≤ (k.look l).state
    · obtain ⟨k', e, _, _, _, _, _, a1, a2⟩ := t1 h2
      left; rw [e]; exact ⟨h2, a1, a2⟩
    · right
      cases hb : wbOf k.b l with
      | none => rw [t3 (by omega) (fun e he => by rw [hb] at he; cases he)] at he; cases he
      | some e =>
        refine ⟨(h.buf_st (l := l) (by rw [hb]; rfl)).1, ?_⟩
        cases hlv : e.live with
        | true => obtain ⟨k', e, _, _, _, a1, _⟩ := t2 (by omega) e hb hlv; rw [e]; exact a1
        | false => rw [t3 (by omega) (fun e' he => by rw [hb] at he; injection he with he; subst he; exact hlv)] at he; cases he
  have hmk : m.kind = kind := by rw [hm]
  rw [hmk] at he ⊢
  by_cases h4 : kind = 4
  · rw [if_pos h4] at he ⊢
    refine ⟨fun e => absurd h4 e, fun _ => ?_⟩
    rcases tl 1 3 false (by omega) he with ⟨a, b, d⟩ | ⟨a, b⟩
    · exact ⟨.inl ⟨b, by omega⟩, by rw [d (by omega)]⟩
    · exact ⟨.inr ⟨by rw [b]; exact a, a⟩, by rw [b]⟩
  · rw [if_neg h4] at he ⊢
    refine ⟨fun _ => ?_, fun e => absurd e h4⟩
    by_cases h5 : kind = 5
    · rw [if_pos h5] at he ⊢
      rcases tl 4 0 true (by omega) he with ⟨_, b, _⟩ | ⟨a, b⟩
      · exact b
      · rw [b]; exact a
    · rw [if_neg h5, if_pos (by omega)] at he ⊢
      obtain ⟨t1, t2⟩ := h.invE m
      rw [hml] at t1 t2
      by_cases h2 : 2 ≤ (k.look l).state
      · rw [t1 h2] at he; cases he
      · obtain ⟨k', e, _, _, _, _, _, a⟩ := t2 (by omega)
        rw [e]; exact a
end
end Mes
namespace Mes
section
variable {c : Cfg} {k : Cache} (h : CInv c k) (hc : c.ok = true)
include h hc
theorem CInv.letsAll {n : Int} (hg : GotLe n k) {l who kind : Int} (hl : 0 ≤ l ∧ l < c.lines) (hk : 4 ≤ kind ∧ kind ≤ 6) (m : Msg) (hm : m = ⟨kind, l, l % c.homes, k.core, who, 0, 0, Words.zero⟩) :
    (k.do ⟨1, l * c.words, 0⟩).1 = k ∧ ((k.take m).1.do ⟨1, l * c.words, 0⟩).1 = (k.take m).1 ∧
    ((k.take m).2.2.2 ≠ 0 → ((k.take m).1.do ⟨1, l * c.words, 0⟩).2 = (k.do ⟨1, l * c.words, 0⟩).2) ∧
    ((k.take m).2.2.2 = 0 → kind ≠ 4 → ((k.take m).1.do ⟨1, l * c.words, 0⟩).2.2 = 5) ∧
    ((k.take m).2.2.2 = 0 → kind = 4 → ((k.take m).1.do ⟨1, l * c.words, 0⟩).2 = (k.do ⟨1, l * c.words, 0⟩).2 ∧ ((k.take m).1.do ⟨3, l * c.words, 0⟩).2.2 = 5) := by
  have h2 := (h.takeN hg m).inv
  have e1 := h.doLoad hc hl
  have e2 := h2.doLoad hc hl
  have hL := h.lets hc hl hk m hm
  have fst : ∀ (q : Cache) (w : Words) (s : Int), (if s ≠ 0 then (q, w.get 0, (0 : Int)) else (q, 0, 5)).1 = q := fun q w s => by split <;> rfl
  refine ⟨by rw [e1]; exact fst .., by rw [e2]; exact fst .., fun he => ?_, fun he hk4 => ?_, fun he hk4 => ?_⟩
  · have := (take_err he).1
    rw [this]
  · rw [e2, if_neg (by have := (hL he).1 hk4; omega)]
  · obtain ⟨a, b⟩ := (hL he).2 hk4
    have hs3 : ¬ (((k.take m).1.look l).state = 2 ∨ ((k.take m).1.look l).state = 4) := by omega
    refine ⟨?_, by rw [h2.doSwapNo hc hl (by omega) hs3]⟩
    rw [e1, e2, b]
    rcases a with ⟨a1, a2⟩ | ⟨a1, a2⟩
    · rw [if_pos (by omega), if_pos a2]
    · rw [if_neg (by omega), if_neg (by omega)]
end
end Mes
