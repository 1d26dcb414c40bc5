/- A part of proofs about the given program. No condition. -/
import Derived.Test.YtcgfdjijodlopaaGreatCac6
set_option linter.all false
/- A line that was asked for, to be written: it is filled with the last of its words and acks. -/
namespace Mes
def Words.one (v : Int) : Words := ⟨[v, 0, 0, 0, 0, 0, 0, 0], rfl⟩
theorem Words.one_get (v : Int) (i : Nat) : (Words.one v).get i = if i = 0 then v else 0 := by
  match i with
  | 0 => rfl
  | 1 => rfl
  | 2 => rfl
  | 3 => rfl
  | 4 => rfl
  | 5 => rfl
  | 6 => rfl
  | 7 => rfl
  | n + 8 => rw [if_neg (by omega)]; simp [Words.get, Words.one, List.getD_eq_getElem?_getD]
theorem valuesOk_one {c : Cfg} (hc : c.ok = true) {v : Int} (hv : -2147483648 ≤ v ∧ v ≤ 2147483647) : valuesOk c (Words.one v) = true := by
  have hw := ok_words hc
  refine valuesOk_iff.2 fun i _ => ?_
  rw [Words.one_get]
  split
  · exact ⟨hv, .inl (by omega)⟩
  · exact ⟨by omega, .inr rfl⟩
/-- behind i of the messages; the words come behind so many acks -/
structure Fil (c : Cfg) (core line acks ahead : Int) (W : Words) (i : Int) (k : Cache) : Prop where
  inv : CInv c k
  core : k.core = core
  less : i ≤ acks → ∃ m, missOf k.f line = some m ∧ m.kind = 2 ∧ m.granted = false ∧ m.owes = false ∧ ¬ ((k.look line).state = 2 ∨ (k.look line).state = 4) ∧ (i ≤ ahead → m.needs = -1 ∧ m.got = i) ∧ (ahead < i → m.needs = acks ∧ m.got = i - 1 ∧ m.own = 4 ∧ m.words = W)
  full : acks < i → (missOf k.f line).isSome = true ∧ (k.look line).state = 4 ∧ (k.look line).words = W
section
variable {c : Cfg} {k : Cache} {core line acks ahead i v : Int} {W : Words}
theorem Fil.zero (h : CInv c k) (he : (k.ask line 2).2.2 = 0) (ha : 0 ≤ ahead) (hk : 0 ≤ acks) : Fil c k.core line acks ahead W 0 (k.ask line 2).1 := by
  obtain ⟨a1, _, _, _, a5, _, a7, a8, _, a10, a11⟩ := (h.ask line 2).2 he
  refine ⟨a1, a8, fun _ => ⟨Miss.new line 2, by rw [a10, missNew line 2 line a5, if_pos rfl], rfl, rfl, rfl, ?_, fun _ => ⟨rfl, rfl⟩, fun e => absurd e (by omega)⟩, fun e => absurd e (by omega)⟩
  rw [(a11 line).1]
  intro e
  simp only [Cache.can, canDo, show ¬ (2 : Int) = 1 by omega, if_false, Bool.or_eq_false_iff, beq_eq_false_iff_ne] at a7
  rcases e with e | e
  · exact a7.1 e
  · exact a7.2 e
theorem Fil.no (h : Fil c core line acks ahead W i k) (hc : c.ok = true) (hl : 0 ≤ line ∧ line < c.lines) (hi : i ≤ acks) : k.do ⟨3, line * c.words, 3⟩ = (k, 0, 5) := by
  obtain ⟨m, _, _, _, _, hs, _⟩ := h.less hi
  exact h.inv.doSwapNo hc hl (by omega) hs
theorem Fil.put (h : Fil c core line acks ahead W i k) (hi : i ≤ acks) {μ μ' : Miss} (hm : missOf k.f line = some μ) (hok : MOk c μ') (hl : μ'.line = μ.line) (ho : μ'.owes = false) {g : Miss → Miss} (hg : g μ = μ') (hgl : ∀ x, (g x).line = x.line)
    (hk : μ'.kind = 2) (hgr : μ'.granted = false) (h1 : i + 1 ≤ ahead → μ'.needs = -1 ∧ μ'.got = i + 1) (h2 : ahead < i + 1 → μ'.needs = acks ∧ μ'.got = i ∧ μ'.own = 4 ∧ μ'.words = W) (hp : ahead ≤ acks) (h0 : 0 ≤ i) :
    ∃ k', ({ k with f := updMiss k.f line g } : Cache).filled line 0 = (k', Msg.none, false, 0) ∧ Fil c core line acks ahead W (i + 1) k' := by
  obtain ⟨k', e, a1, a2, _, _, a5⟩ := h.inv.filled hm hok hl ho hg hgl
  obtain ⟨m, hm', _, _, _, hs, _⟩ := h.less hi
  refine ⟨k', e, a1, a2.trans h.core, fun hi2 => ?_, fun hi2 => ?_⟩
  · have hne : μ'.needs ≠ μ'.got := by
      by_cases hh : i + 1 ≤ ahead
      · have := h1 hh; omega
      · have := h2 (by omega); omega
    rw [if_neg hne] at a5
    refine ⟨μ', a5.1, hk, hgr, ho, by rw [a5.2]; exact hs, h1, fun e => ?_⟩
    have := h2 e
    exact ⟨this.1, by omega, this.2.2⟩
  · have := h2 (by omega)
    have hne : μ'.needs = μ'.got := by omega
    rw [if_pos hne] at a5
    refine ⟨by rw [a5.1]; rfl, by rw [a5.2.1]; exact this.2.2.1, ?_⟩
    rw [a5.2.2, hgr]
    exact this.2.2.2
theorem Fil.ack (h : Fil c core line acks ahead W i k) (hc : c.ok = true) (hcore : inR core c.cores = true) (hl : 0 ≤ line ∧ line < c.lines) (h0 : 0 ≤ i) (hi : i ≤ acks) (hp : ahead ≤ acks) (hne : i ≠ ahead) {frm : Int} (hf : inR frm c.cores = true) (hfc : frm ≠ core) :
    (k.take ⟨9, line, frm, core, 0, 0, 0, Words.zero⟩).2 = (Msg.none, false, 0) ∧ Fil c core line acks ahead W (i + 1) (k.take ⟨9, line, frm, core, 0, 0, 0, Words.zero⟩).1 := by
  have hcc := h.inv.cfg
  have hmay : Msg.may k.c ⟨9, line, frm, core, 0, 0, 0, Words.zero⟩ = true := by
    rw [hcc]
    have : inR line c.lines = true := inR_iff.2 hl
    simp [Msg.may, hc, netOf, Msg.form, this, hf, hcore, hfc, plainMsg]
    decide
  have hcn : (k.core != core) = false := by rw [h.core]; simp
  obtain ⟨m, hm, hk, hgr, ho, hs, g1, g2⟩ := h.less hi
  have hmo := h.inv.okF line m hm
  have hn : ¬ (m.kind = 1 ∨ m.needs = m.got) := by
    by_cases hh : i ≤ ahead
    · have := g1 hh; omega
    · have := g2 (by omega); omega
  obtain ⟨ok, _⟩ := hmo.ack (fun e => hn (.inr e))
  obtain ⟨k', e, hF⟩ := h.put hi hm ok rfl ho (g := fun m => { m with got := m.got + 1 }) rfl (fun _ => rfl) hk hgr (fun hh => by have := g1 (by omega); simp only; omega) (fun hh => by have := g2 (by omega); simp only; exact ⟨this.1, by omega, this.2.2⟩) hp h0
  have et : k.take ⟨9, line, frm, core, 0, 0, 0, Words.zero⟩ = (k', Msg.none, false, 0) := by
    unfold Cache.take
    rw [if_neg (by rw [hmay, show toHome 9 = false from rfl]; simp [h.core])]
    simp only [show ¬ (9 : Int) = 4 by omega, show ¬ (9 : Int) = 5 by omega, show ¬ (9 : Int) = 6 by omega, show ¬ (9 : Int) = 7 by omega, show ¬ (9 : Int) = 8 by omega, if_false, if_true]
    unfold missAck
    rw [hm]
    simp only [if_neg hn]
    exact e
  rw [et]
  exact ⟨rfl, hF⟩
theorem Fil.data (h : Fil c core line acks ahead W i k) (hc : c.ok = true) (hcore : inR core c.cores = true) (hl : 0 ≤ line ∧ line < c.lines) (h0 : 0 ≤ i) (hi : i ≤ acks) (hp : ahead ≤ acks) (hne : i = ahead) (hW : valuesOk c W = true) (hak : acks = c.cores - 1) :
    (k.take ⟨7, line, line % c.homes, core, 0, acks, 4, W⟩).2 = (Msg.none, false, 0) ∧ Fil c core line acks ahead W (i + 1) (k.take ⟨7, line, line % c.homes, core, 0, acks, 4, W⟩).1 := by
  have hcc := h.inv.cfg
  have hmay : Msg.may k.c ⟨7, line, line % c.homes, core, 0, acks, 4, W⟩ = true := by
    rw [hcc]
    have : inR line c.lines = true := inR_iff.2 hl
    have h3 : inR acks c.cores = true := inR_iff.2 (by have := inR_iff.1 hcore; omega)
    simp [Msg.may, hc, netOf, Msg.form, this, hcore, h3, hW, Cfg.homeOf]
  obtain ⟨m, hm, hk, hgr, ho, hs, g1, g2⟩ := h.less hi
  have hmo := h.inv.okF line m hm
  have g1' := g1 (by omega)
  have hfit : m.fits acks 4 = true := Miss.fits_iff.2 ⟨g1'.1, by omega, .inl ⟨hk, rfl⟩⟩
  obtain ⟨ok, _⟩ := hmo.data hfit hW (by omega) m.granted
  obtain ⟨k', e, hF⟩ := h.put hi hm ok rfl ho (g := fun m => { m with needs := acks, own := 4, words := W }) rfl (fun _ => rfl) hk hgr (fun hh => by omega) (fun hh => ⟨rfl, by simp only; omega, rfl, rfl⟩) hp h0
  have et : k.take ⟨7, line, line % c.homes, core, 0, acks, 4, W⟩ = (k', Msg.none, false, 0) := by
    unfold Cache.take
    rw [if_neg (by rw [hmay, show toHome 7 = false from rfl]; simp [h.core])]
    simp only [show ¬ (7 : Int) = 4 by omega, show ¬ (7 : Int) = 5 by omega, show ¬ (7 : Int) = 6 by omega, if_false, if_true]
    unfold missData
    rw [hm]
    simp only [if_pos hfit]
    exact e
  rw [et]
  exact ⟨rfl, hF⟩
theorem Fil.last (h : Fil c core line acks ahead (Words.one v) i k) (hc : c.ok = true) (hl : 0 ≤ line ∧ line < c.lines) (hi : acks < i) :
    (k.do ⟨3, line * c.words, 3⟩).2 = (v, 0) ∧ ((k.do ⟨3, line * c.words, 3⟩).1.find line).isSome = true ∧ ((k.do ⟨3, line * c.words, 3⟩).1.look line).state = 4 ∧ ((k.do ⟨3, line * c.words, 3⟩).1.look line).locked = true ∧ ((k.do ⟨3, line * c.words, 3⟩).1.look line).words = Words.one 3 := by
  obtain ⟨f1, f2, f3, f4, f5⟩ := first_word hc hl
  obtain ⟨hm, hs, hw⟩ := h.full hi
  have hinv := h.inv
  have hcc := hinv.cfg
  have he : (k.do ⟨3, line * c.words, 3⟩).2.2 = 0 := by
    subst hcc
    unfold Cache.do applyOp
    have hmay : Op.may ⟨3, line * k.c.words, 3⟩ = true := by simp [Op.may, inC, f4, f5]
    simp only [f1, if_true, f2, f3, hc, hmay, Bool.not_true, Bool.or_false, Bool.false_or, show ((3 : Int) == 4) = false from rfl, Bool.false_eq_true, if_false, ne_eq, not_true_eq_false, opKind, Cache.can, show ¬ (3 : Int) = 1 by omega, canDo, show ¬ (2 : Int) = 1 by omega, hs, beq_self_eq_true, Bool.or_true]
  obtain ⟨d1, d2, d3, d4, d5, d6, d7, d8, d9, d10, d11, d12⟩ := (hinv.doE hc ⟨3, line * c.words, 3⟩).2 he
  simp only [f2, f3] at d5 d12
  have d12' := d12 (by omega)
  have hfd := d6.found (l := line) (by rw [d12']; simp)
  refine ⟨Prod.ext ?_ he, ?_, by rw [d12'], ?_, ?_⟩
  · rw [d5, hw]; simp [touch, Words.one_get]
  · unfold Cache.find; rw [d6.cfg, hfd]; rfl
  · rw [d12']
    obtain ⟨w, h1, h2⟩ := hinv.miss_there hm
    simp only
    rw [hinv.look_some h1]; exact h2
  · rw [d12', hw]; rfl
end
end Mes
