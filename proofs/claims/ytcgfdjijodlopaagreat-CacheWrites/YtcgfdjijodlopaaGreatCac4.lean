/- A part of proofs about the given program. No condition. -/
import Derived.Test.YtcgfdjijodlopaaGreatCac3
set_option linter.all false
/- What each call makes of a cache: what must be so of it stays so. -/
namespace Mes

def GotLe (n : Int) (k : Cache) : Prop := ∀ l m, missOf k.f l = some m → m.got ≤ n

theorem GotLe.mono {n m : Int} {k : Cache} (h : GotLe n k) (hn : n ≤ m) : GotLe m k := fun l x hx => Int.le_trans (h l x hx) hn

/-- it is in order, and its core is the same -/
structure Nx (c : Cfg) (n : Int) (k k' : Cache) : Prop where
  inv : CInv c k'
  core : k'.core = k.core
  got : GotLe n k'

theorem updMiss_comp {f : List Miss} {l : Int} {g1 g2 : Miss → Miss} (h1 : ∀ x, (g1 x).line = x.line) : updMiss (updMiss f l g1) l g2 = updMiss f l (fun x => g2 (g1 x)) := by
  cases hm : missAt f l with
  | none =>
    have e : updMiss f l g1 = f := by unfold updMiss; rw [hm]
    rw [e]; unfold updMiss; rw [hm]
  | some j =>
    have e : updMiss f l g1 = f.modify j g1 := by unfold updMiss; rw [hm]
    have hm2 : missAt (f.modify j g1) l = some j := by
      unfold missAt at hm ⊢
      rw [List.findIdx?_eq_some_iff_getElem] at hm ⊢
      obtain ⟨p1, p2, p3⟩ := hm
      refine ⟨by simpa using p1, ?_, fun i hi => ?_⟩
      · rw [List.getElem_modify]; simp only [if_true, h1]; exact p2
      · rw [List.getElem_modify, if_neg (by omega)]; exact p3 i hi
    rw [e]
    unfold updMiss
    rw [hm, hm2]
    apply List.ext_getElem?
    intro i
    simp only [List.getElem?_modify]
    split <;> simp <;> rfl

section
variable {c : Cfg} {k : Cache} (h : CInv c k)
include h

theorem CInv.same {n : Int} (hg : GotLe n k) : Nx c n k k := ⟨h, rfl, hg⟩

theorem CInv.askN {n : Int} (hn : 0 ≤ n) (hg : GotLe n k) (l kd : Int) : Nx c n k (k.ask l kd).1 := by
  obtain ⟨h1, h2⟩ := h.ask l kd
  by_cases he : (k.ask l kd).2.2 = 0
  · obtain ⟨a1, a2, a3, a4, a5, a6, a7, a8, a9, a10, a11⟩ := h2 he
    refine ⟨a1, a8, fun x m hx => ?_⟩
    rw [a10, missNew l kd x a5] at hx
    split at hx
    · injection hx with hx; subst hx; exact hn
    · exact hg x m hx
  · rw [(h1 he).1]; exact h.same hg

theorem CInv.evictN {n : Int} (hg : GotLe n k) (s w : Int) : Nx c n k (k.evict s w).1 := by
  obtain ⟨h1, h2⟩ := h.evict s w
  by_cases he : (k.evict s w).2.2.2 = 0
  · obtain ⟨l, _, a2, a3, a4, _⟩ := h2 he
    refine ⟨a2, a3, fun x m hx => ?_⟩
    rw [a4] at hx; exact hg x m hx
  · rw [(h1 he).1]; exact h.same hg

theorem CInv.tellN {n : Int} (hg : GotLe n k) (m : Msg) (own state : Int) (give : Bool) (hs : 0 ≤ state ∧ state ≤ 4) : Nx c n k (k.tell m own state give).1 := by
  obtain ⟨t1, t2, t3⟩ := h.tell m own state give hs
  by_cases h2 : 2 ≤ (k.look m.line).state
  · obtain ⟨k', e, a1, a2, a3, _⟩ := t1 h2
    rw [e]; exact ⟨a1, a2, fun x m hx => by rw [a3] at hx; exact hg x m hx⟩
  · cases hb : wbOf k.b m.line with
    | none => rw [t3 (by omega) (fun e he => by rw [hb] at he; cases he)]; exact h.same hg
    | some e =>
      cases hl : e.live with
      | true =>
        obtain ⟨k', e, a1, a2, a3, _⟩ := t2 (by omega) e hb hl
        rw [e]; exact ⟨a1, a2, fun x m hx => by rw [a3] at hx; exact hg x m hx⟩
      | false => rw [t3 (by omega) (fun e' he => by rw [hb] at he; injection he with he; subst he; exact hl)]; exact h.same hg

/-- behind Inv -/
theorem CInv.invE (m : Msg) :
    (2 ≤ (k.look m.line).state → k.inv m = (k, Msg.none, false, 7)) ∧
    ((k.look m.line).state < 2 → ∃ k', k.inv m = (k', k.answer m 9, true, 0) ∧ CInv c k' ∧ k'.core = k.core ∧ k'.f = k.f ∧ k'.b = k.b ∧ (∀ x, x ≠ m.line → k'.look x = k.look x) ∧ (k'.look m.line).state = 0) := by
  have hc := h.cfg
  subst hc
  refine ⟨fun h2 => by unfold Cache.inv; simp only [h2, if_true], fun h2 => ?_⟩
  unfold Cache.inv
  simp only [show ¬ 2 ≤ (k.look m.line).state by omega, if_false]
  by_cases h1 : (k.look m.line).state = 1
  · simp only [h1, if_true]
    have hw := h.found (l := m.line) (by omega)
    obtain ⟨g1, g2⟩ := h.setA (st := 0) (ws := Words.zero) hw (by omega) (valuesOk_zero' _) h.uf h.ub h.lf h.lb (fun _ => rfl) (fun x hx => .inl hx) (fun x e he => (h.okB x e he).1) h.okF
    refine ⟨_, rfl, g1, rfl, rfl, rfl, fun x hx => ?_, ?_⟩
    · have := g2 x; rw [if_neg hx] at this; exact this
    · have := g2 m.line; rw [if_pos rfl] at this
      show (lookWay k.c _ m.line).state = 0
      rw [this]; split <;> rfl
  · simp only [h1, if_false]
    have := h.st_rng m.line
    exact ⟨k, rfl, h, rfl, rfl, rfl, fun _ _ => rfl, by omega⟩

theorem CInv.invN {n : Int} (hg : GotLe n k) (m : Msg) : Nx c n k (k.inv m).1 := by
  obtain ⟨t1, t2⟩ := h.invE m
  by_cases h2 : 2 ≤ (k.look m.line).state
  · rw [t1 h2]; exact h.same hg
  · obtain ⟨k', e, a1, a2, a3, _⟩ := t2 (by omega)
    rw [e]; exact ⟨a1, a2, fun x m hx => by rw [a3] at hx; exact hg x m hx⟩

/-- a miss is told something: all that comes of it -/
theorem CInv.fillN {n : Int} (hg : GotLe n k) {l : Int} {μ μ' : Miss} (hm : missOf k.f l = some μ) (hok : MOk c μ') (hl : μ'.line = μ.line) (ho : μ'.owes = false) (hgot : μ'.got ≤ n) {g : Miss → Miss} (hgm : g μ = μ') (hgl : ∀ x, (g x).line = x.line) :
    Nx c n k (({ k with f := updMiss k.f l g } : Cache).filled l 0).1 ∧ (({ k with f := updMiss k.f l g } : Cache).filled l 0).2 = (Msg.none, false, 0) := by
  obtain ⟨k', e, a1, a2, a3, a4, a5⟩ := h.filled hm hok hl ho hgm hgl
  rw [e]
  refine ⟨⟨a1, a2, fun x m hx => ?_⟩, rfl⟩
  by_cases hxl : x = l
  · subst hxl
    split at a5
    · rw [a5.1] at hx; injection hx with hx; subst hx; exact hgot
    · rw [a5.1] at hx; injection hx with hx; subst hx; exact hgot
  · rw [(a4 x hxl).2] at hx; exact hg x m hx

omit h in
theorem Miss.fits_iff {m : Miss} {acks own : Int} : m.fits acks own = true ↔ m.needs = -1 ∧ m.got ≤ acks ∧ ((m.kind = 2 ∧ own = 4) ∨ (m.kind ≠ 2 ∧ acks = 0 ∧ (own = 1 ∨ own = 2))) := by
  unfold Miss.fits
  split
  · rename_i hh; constructor
    · intro e; cases e
    · rintro ⟨e1, e2, _⟩; rcases hh with hh | hh
      · exact absurd e1 hh
      · omega
  · rename_i hh
    have hn : m.needs = -1 := by
      by_cases e : m.needs = -1
      · exact e
      · exact absurd (.inl e) hh
    have hgt : m.got ≤ acks := by
      by_cases e : acks < m.got
      · exact absurd (.inr e) hh
      · omega
    split
    · rename_i hk; simp only [beq_iff_eq, hn, hgt, hk, true_and, ne_eq, not_true_eq_false, false_and, or_false]
    · rename_i hk; simp only [Bool.and_eq_true, Bool.or_eq_true, beq_iff_eq, hn, hgt, hk, true_and, false_and, false_or, ne_eq, not_false_eq_true]

omit h in
theorem MOk.data {m : Miss} (hm : MOk c m) {acks own : Int} (hf : m.fits acks own = true) {ws : Words} (hw : valuesOk c ws = true) (ha : 0 ≤ acks) (gr : Bool) : MOk c { m with needs := acks, own := own, words := ws, granted := gr } ∧ m.owes = false := by
  obtain ⟨f1, f2, f3⟩ := Miss.fits_iff.1 hf
  have ho : m.owes = false := by
    cases ho : m.owes with
    | false => rfl
    | true => have := hm.owes ho; have := hm.got; omega
  refine ⟨⟨hw, hm.kind, by simp only; omega, hm.got, fun _ => ?_, fun e => ?_, fun _ => f2⟩, ho⟩
  · simp only; rcases f3 with ⟨_, e⟩ | ⟨_, _, e | e⟩ <;> omega
  · simp only at e; rw [ho] at e; cases e

/-- words that came -/
theorem CInv.dataN {n : Int} (hg : GotLe n k) {l acks own : Int} {ws : Words} (hw : valuesOk c ws = true) (ha : 0 ≤ acks) :
    Nx c n k (({ k with f := (missData k.f l acks own ws).1 } : Cache).filled l (missData k.f l acks own ws).2).1 := by
  unfold missData
  cases hm : missOf k.f l with
  | none => unfold Cache.filled; simp only [ne_eq, show ¬ (5 : Int) = 0 by omega, not_false_eq_true, if_true]; exact h.same hg
  | some μ =>
    simp only
    by_cases hf : μ.fits acks own = true
    · rw [if_pos hf]
      obtain ⟨ok, ho⟩ := (h.okF l μ hm).data hf hw ha μ.granted
      exact (h.fillN hg hm ok rfl ho (hg l μ hm) (g := fun m => { m with needs := acks, own := own, words := ws }) rfl (fun _ => rfl)).1
    · rw [if_neg hf]; unfold Cache.filled; simp only [ne_eq, show ¬ (7 : Int) = 0 by omega, not_false_eq_true, if_true]; exact h.same hg

theorem CInv.grantN {n : Int} (hg : GotLe n k) {l acks : Int} (ha : 0 ≤ acks) :
    Nx c n k (({ k with f := (missGrant k.f l acks).1 } : Cache).filled l (missGrant k.f l acks).2).1 := by
  unfold missGrant missData
  cases hm : missOf k.f l with
  | none => unfold Cache.filled; simp only [ne_eq, show ¬ (5 : Int) = 0 by omega, not_false_eq_true, if_true, if_false]; exact h.same hg
  | some μ =>
    simp only
    by_cases hf : μ.fits acks 4 = true
    · rw [if_pos hf]
      obtain ⟨ok, ho⟩ := (h.okF l μ hm).data hf (valuesOk_zero' c) ha true
      simp only [if_true]
      rw [updMiss_comp (g1 := fun m => { m with needs := acks, own := 4, words := Words.zero }) (fun _ => rfl)]
      exact (h.fillN hg hm ok rfl ho (hg l μ hm) (g := fun m => { { m with needs := acks, own := 4, words := Words.zero } with granted := true }) rfl (fun _ => rfl)).1
    · rw [if_neg hf]; unfold Cache.filled; simp only [ne_eq, show ¬ (7 : Int) = 0 by omega, not_false_eq_true, if_true, if_false]; exact h.same hg

omit h in
theorem MOk.ack {m : Miss} (hm : MOk c m) (hn : m.needs ≠ m.got) : MOk c { m with got := m.got + 1 } ∧ m.owes = false := by
  have ho : m.owes = false := by
    cases ho : m.owes with
    | false => rfl
    | true => exact absurd (hm.owes ho) hn
  have := hm.got
  refine ⟨⟨hm.words, hm.kind, hm.needs, by simp only; omega, hm.own, fun e => ?_, fun e => ?_⟩, ho⟩
  · simp only at e; rw [ho] at e; cases e
  · have := hm.lone e; simp only at *; omega

theorem CInv.ackN {n : Int} (hg : GotLe n k) {l : Int} :
    Nx c (n + 1) k (({ k with f := (missAck k.f l).1 } : Cache).filled l (missAck k.f l).2).1 := by
  have hg' := hg.mono (show n ≤ n + 1 by omega)
  unfold missAck
  cases hm : missOf k.f l with
  | none => unfold Cache.filled; simp only [ne_eq, show ¬ (5 : Int) = 0 by omega, not_false_eq_true, if_true]; exact h.same hg'
  | some μ =>
    simp only
    by_cases hf : μ.kind = 1 ∨ μ.needs = μ.got
    · rw [if_pos hf]; unfold Cache.filled; simp only [ne_eq, show ¬ (7 : Int) = 0 by omega, not_false_eq_true, if_true]; exact h.same hg'
    · rw [if_neg hf]
      obtain ⟨ok, ho⟩ := (h.okF l μ hm).ack (fun e => hf (.inr e))
      exact (h.fillN hg' hm ok rfl ho (by have := hg l μ hm; simp only; omega) (g := fun m => { m with got := m.got + 1 }) rfl (fun _ => rfl)).1

theorem CInv.dropE (l : Int) : CInv c { k with b := (wbDrop k.b l).1 } ∧ (∀ x, x ≠ l → wbOf (wbDrop k.b l).1 x = wbOf k.b x) := by
  unfold wbDrop
  cases hb : wbAt k.b l with
  | none => exact ⟨h, fun _ _ => rfl⟩
  | some i =>
    have hne : ∀ x, x ≠ l → wbOf (k.b.eraseIdx i) x = wbOf k.b x := fun x hx => find_erase_other (fun e : WB => e.line == l) (fun e he => by
      simp only [beq_iff_eq] at he; simp only [he, beq_eq_false_iff_ne]; exact fun q => hx q.symm) hb
    have hl : wbOf (k.b.eraseIdx i) l = none := h.ub.find_erase hb
    have hlen : (k.b.eraseIdx i).length ≤ k.b.length := by rw [List.length_eraseIdx]; split <;> omega
    refine ⟨h.setFB (f := k.f) (b := k.b.eraseIdx i) h.uf (h.ub.erase i) h.lf (by have := h.lb; omega) (fun _ => rfl) (fun x hx => ?_) (fun x e he => ?_) h.okF, hne⟩
    · by_cases hxl : x = l
      · subst hxl; rw [hl] at hx; cases hx
      · rw [hne x hxl] at hx; exact hx
    · by_cases hxl : x = l
      · subst hxl; rw [hl] at he; cases he
      · rw [hne x hxl] at he; exact (h.okB x e he).1

end
end Mes
