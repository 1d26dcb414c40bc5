/- A part of proofs about the given program. No condition. -/
import Derived.Test.YtcgfdjijodlopaaGreatCac2
import Derived.Test.YtcgfdjijodlopaaGreatMay
set_option linter.all false
namespace Mes
section
variable {c : Cfg} {k : Cache} (h : CInv c k)
include h

theorem CInv.tell (m : Msg) (own state : Int) (give : Bool) (hs : 0 ≤ state ∧ state ≤ 4) :
    (2 ≤ (k.look m.line).state → ∃ k', k.tell m own state give = (k', ⟨7, m.line, k.core, m.who, 1, m.acks, own, (k.look m.line).words⟩, true, 0) ∧ CInv c k' ∧ k'.core = k.core ∧ k'.f = k.f ∧ k'.b = k.b ∧
      (∀ x, x ≠ m.line → k'.look x = k.look x) ∧ (k'.look m.line).state = state ∧ (state ≠ 0 → (k'.look m.line).words = (k.look m.line).words)) ∧
    ((k.look m.line).state < 2 → ∀ e, wbOf k.b m.line = some e → e.live = true → ∃ k', k.tell m own state give = (k', ⟨7, m.line, k.core, m.who, 1, m.acks, own, e.words⟩, true, 0) ∧ CInv c k' ∧ k'.core = k.core ∧ k'.f = k.f ∧
      (∀ x, k'.look x = k.look x) ∧ k'.b = if give then wbKill k.b m.line else k.b) ∧
    ((k.look m.line).state < 2 → (∀ e, wbOf k.b m.line = some e → e.live = false) → k.tell m own state give = (k, Msg.none, false, 7)) := by
  have hc := h.cfg
  subst hc
  refine ⟨fun h2 => ?_, fun h2 e he hl => ?_, fun h2 hn => ?_⟩
  · have hw := h.found (l := m.line) (by omega)
    obtain ⟨g1, g2⟩ := h.setA hw hs (h.look_ok m.line) h.uf h.ub h.lf h.lb (fun _ => rfl) (fun x hx => .inl hx) (fun x e he => (h.okB x e he).1) h.okF
    refine ⟨_, by unfold Cache.tell; simp only [h2, if_true, Cache.answer], g1, rfl, rfl, rfl, fun x hx => ?_, ?_, fun hz => ?_⟩
    · have := g2 x; rw [if_neg hx] at this; exact this
    · have := g2 m.line; rw [if_pos rfl] at this
      show (lookWay k.c _ m.line).state = state
      rw [this]; split
      · rename_i hz; exact hz.1.symm
      · rfl
    · have := g2 m.line; rw [if_pos rfl] at this
      show (lookWay k.c _ m.line).words = _
      rw [this, if_neg (fun hz' => hz hz'.1)]
      show (if state = 0 then _ else _) = _
      rw [if_neg hz]
  · have hb : (wbOf k.b m.line).isSome = true := by rw [he]; rfl
    have e1 : ∀ x, (wbOf (wbKill k.b m.line) x).isSome = (wbOf k.b x).isSome := fun x => by
      rw [wbOf_kill]; split <;> simp
    have g := h.setFB (f := k.f) (b := if give then wbKill k.b m.line else k.b) h.uf (by split; exact wbKill_uniq h.ub; exact h.ub) h.lf (by split; rw [wbKill_length]; exact h.lb; exact h.lb) (fun _ => rfl)
      (fun x hx => by split at hx; rw [e1 x] at hx; exact hx; exact hx)
      (fun x e' he' => by
        split at he'
        · rw [wbOf_kill] at he'
          split at he'
          · obtain ⟨e'', he'', heq⟩ := Option.map_eq_some_iff.1 he'
            rw [← heq]; exact (h.okB x e'' he'').1
          · exact (h.okB x e' he').1
        · exact (h.okB x e' he').1) h.okF
    refine ⟨_, ?_, g, rfl, rfl, fun x => rfl, rfl⟩
    unfold Cache.tell
    simp only [show ¬ 2 ≤ (k.look m.line).state by omega, if_false, wbShare, he, hl, if_true, Cache.answer, ne_eq, not_true_eq_false]
  · obtain ⟨n, hn1, hn2⟩ : ∃ n : Int, wbShare k.b m.line = (Words.zero, n) ∧ n ≠ 0 := by
      unfold wbShare
      cases he : wbOf k.b m.line with
      | none => exact ⟨5, rfl, by omega⟩
      | some e => exact ⟨7, by simp [hn e he], by omega⟩
    unfold Cache.tell
    simp only [show ¬ 2 ≤ (k.look m.line).state by omega, if_false, hn1, ne_eq, hn2, not_false_eq_true, if_true]

/-- a miss was told more; now it may be full -/
theorem CInv.filled {l : Int} {μ μ' : Miss} (hm : missOf k.f l = some μ) (hok : MOk c μ') (hl : μ'.line = μ.line) (ho : μ'.owes = false) {g : Miss → Miss} (hg : g μ = μ') (hgl : ∀ x, (g x).line = x.line) :
    ∃ k', ({ k with f := updMiss k.f l g } : Cache).filled l 0 = (k', Msg.none, false, 0) ∧ CInv c k' ∧ k'.core = k.core ∧ k'.b = k.b ∧ (∀ x, x ≠ l → k'.look x = k.look x ∧ missOf k'.f x = missOf k.f x) ∧
      (if μ'.needs = μ'.got then missOf k'.f l = some { μ' with owes := true } ∧ (k'.look l).state = μ'.own ∧ (k'.look l).words = (if μ'.granted then (k.look l).words else μ'.words)
       else missOf k'.f l = some μ' ∧ k'.look l = k.look l) := by
  have hc := h.cfg
  subst hc
  have m1 : ∀ x, missOf (updMiss k.f l g) x = if x = l then some μ' else missOf k.f x := fun x => by
    rw [missOf_upd hgl]
    split
    · rename_i e; subst e; rw [hm]; simp [hg]
    · rfl
  have okF1 : ∀ x m, missOf (updMiss k.f l g) x = some m → MOk k.c m := fun x m hx => by
    rw [m1 x] at hx
    split at hx
    · injection hx with hx; rw [← hx]; exact hok
    · exact h.okF x m hx
  have fs1 : ∀ x, (missOf (updMiss k.f l g) x).isSome = (missOf k.f x).isSome := fun x => by
    rw [m1 x]; split
    · rename_i e; subst e; rw [hm]; rfl
    · rfl
  have k1 := h.setFB (f := updMiss k.f l g) (b := k.b) (updMiss_uniq h.uf hgl) h.ub (by rw [updMiss_length]; exact h.lf) h.lb fs1 (fun x hx => hx) (fun x e he => (h.okB x e he).1) okF1
  unfold Cache.filled
  have m1l : missOf (updMiss k.f l g) l = some μ' := by rw [m1 l, if_pos rfl]
  simp only [ne_eq, not_true_eq_false, if_false, missOwe, m1l, ho, Bool.false_eq_true, false_or]
  by_cases hf : μ'.needs = μ'.got
  · have hfT : (μ'.needs = μ'.got) = True := eq_true hf
    simp only [hfT, not_true_eq_false, if_false, if_true]
    obtain ⟨w, hw, hwl⟩ := h.miss_there (l := l) (by rw [hm]; rfl)
    have hown : 0 ≤ μ'.own ∧ μ'.own ≤ 4 ∧ μ'.own ≠ 0 := by
      have := hok.own (by have := hok.got; omega); omega
    have m2 : ∀ x, missOf (updMiss (updMiss k.f l g) l fun m => { m with owes := true }) x = if x = l then some { μ' with owes := true } else missOf k.f x := fun x => by
      rw [missOf_upd (g := fun m => { m with owes := true }) (fun _ => rfl)]
      split
      · rename_i e; subst e; rw [m1l]; rfl
      · rename_i e; rw [m1 x, if_neg e]
    have hws : valuesOk k.c (if μ'.granted = true then (k.look l).words else μ'.words) = true := by
      split
      · exact h.look_ok l
      · exact hok.words
    obtain ⟨g1, g2⟩ := h.setA (l := l) (st := μ'.own) (ws := if μ'.granted = true then (k.look l).words else μ'.words) hw ⟨hown.1, hown.2.1⟩ hws
      (f := updMiss (updMiss k.f l g) l fun m => { m with owes := true }) (b := k.b) (updMiss_uniq (updMiss_uniq h.uf hgl) (fun _ => rfl)) h.ub (by rw [updMiss_length, updMiss_length]; exact h.lf) h.lb
      (fun x => by rw [m2 x]; split; rename_i e; subst e; rw [hm]; rfl; rfl) (fun x hx => .inl hx) (fun x e he => (h.okB x e he).1)
      (fun x m hx => by
        rw [m2 x] at hx
        split at hx
        · injection hx with hx; rw [← hx]
          exact ⟨hok.words, hok.kind, hok.needs, hok.got, hok.own, fun _ => hf, hok.lone⟩
        · exact h.okF x m hx)
    refine ⟨_, rfl, g1, rfl, rfl, fun x hx => ⟨?_, ?_⟩, ?_, ?_, ?_⟩
    · have := g2 x; rw [if_neg hx] at this; exact this
    · have := m2 x; rw [if_neg hx] at this; exact this
    · have := m2 l; rw [if_pos rfl] at this; exact this
    · have := g2 l; rw [if_pos rfl, if_neg (show ¬ (μ'.own = 0 ∧ w.locked = false) from fun hz => hown.2.2 hz.1)] at this
      show (lookWay k.c _ l).state = _
      exact (congrArg Way.state this)
    · have := g2 l; rw [if_pos rfl, if_neg (show ¬ (μ'.own = 0 ∧ w.locked = false) from fun hz => hown.2.2 hz.1), if_neg hown.2.2] at this
      show (lookWay k.c _ l).words = _
      exact (congrArg Way.words this)
  · have hfF : (μ'.needs = μ'.got) = False := eq_false hf
    simp only [hfF, not_false_eq_true, if_true, if_false]
    exact ⟨_, rfl, k1, rfl, rfl, fun x hx => ⟨rfl, by have := m1 x; rw [if_neg hx] at this; exact this⟩, m1l, rfl⟩
end
end Mes
