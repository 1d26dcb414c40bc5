/- A part of proofs about the given program. No condition. -/
import Derived.Test.YtcgfdjijodlopaaGreatCac4
set_option linter.all false
/- Finish, Do, Take; any step. -/
namespace Mes

theorem find_uniq {α : Type} {k : α → Int} {l : List α} (h : Uniq k l) {x : α} (hx : x ∈ l) : l.find? (fun y => k y == k x) = some x := by
  induction l with
  | nil => cases hx
  | cons y l ih =>
    unfold Uniq at h
    rw [List.map_cons, List.nodup_cons] at h
    rw [List.find?_cons]
    rcases List.mem_cons.1 hx with rfl | hx'
    · simp
    · have : ¬ k y = k x := fun e => h.1 (by rw [e]; exact List.mem_map_of_mem hx')
      rw [show (k y == k x) = false by simpa using this]
      exact ih h.2 hx'

theorem valuesOk_set {c : Cfg} {w : Words} (h : valuesOk c w = true) {i : Nat} (hi : (i : Int) < c.words) {v : Int} (hv : -2147483648 ≤ v ∧ v ≤ 2147483647) : valuesOk c (w.set i v) = true := by
  rw [valuesOk_iff] at h ⊢
  intro j hj
  have hg : (w.set i v).get j = if i = j then v else w.get j := by
    unfold Words.get Words.set
    simp only [List.getD_eq_getElem?_getD, List.getElem?_set]
    split
    · rename_i e; subst e; rw [if_pos (by rw [w.len]; exact hj)]; rfl
    · rfl
  rw [hg]
  split
  · rename_i e; subst e; exact ⟨hv, .inl hi⟩
  · exact h j hj

theorem ok_words {c : Cfg} (hc : c.ok = true) : 1 ≤ c.words ∧ c.words ≤ 8 := by
  simp only [Cfg.ok, Bool.and_eq_true, isPow, decide_eq_true_eq, List.contains_eq_mem, pows, List.mem_cons, List.not_mem_nil, or_false] at hc
  omega

theorem wordOf_lt {c : Cfg} (hc : c.ok = true) (addr : Int) : ((c.wordOf addr : Nat) : Int) < c.words := by
  have hw := ok_words hc
  have h1 : 0 ≤ addr % c.words := Int.emod_nonneg _ (by omega)
  have h2 : addr % c.words < c.words := Int.emod_lt_of_pos _ (by omega)
  unfold Cfg.wordOf; omega

section
variable {c : Cfg} {k : Cache} (h : CInv c k)
include h

/-- the miss that owes -/
theorem CInv.owing {l : Int} (ho : missOwing k.f = some l) : ∃ m, missOf k.f l = some m ∧ m.owes = true ∧ m.line = l ∧ (0 ≤ l ∧ l < c.lines) := by
  unfold missOwing at ho
  obtain ⟨m, hm, rfl⟩ := Option.map_eq_some_iff.1 ho
  have hmem := List.mem_of_find?_eq_some hm
  have hf : missOf k.f m.line = some m := find_uniq h.uf hmem
  refine ⟨m, hf, by have := List.find?_some hm; simpa using this, rfl, ?_⟩
  obtain ⟨w, hw, _⟩ := h.miss_there (l := m.line) (by rw [hf]; rfl)
  exact (h.rng_of hw).1

theorem CInv.finE : (missOwing k.f = none → k.finish = (k, none)) ∧
    (∀ l, missOwing k.f = some l → ∃ k', k.finish = (k', some (k.home 11 l)) ∧ CInv c k' ∧ k'.core = k.core ∧ k'.b = k.b ∧ (0 ≤ l ∧ l < c.lines) ∧ (∃ m, missOf k.f l = some m ∧ m.owes = true) ∧ missOf k'.f l = none ∧ (∀ x, x ≠ l → missOf k'.f x = missOf k.f x ∧ k'.look x = k.look x) ∧
      (k'.look l).state = (k.look l).state ∧ k'.f.length + 1 = k.f.length ∧ k'.a = lockWay c k.a l false) := by
  have hc := h.cfg
  subst hc
  refine ⟨fun hn => by unfold Cache.finish; rw [hn], fun l ho => ?_⟩
  obtain ⟨m, hm, hmo, _, hl⟩ := h.owing ho
  obtain ⟨w, hw, hwl⟩ := h.miss_there (l := l) (by rw [hm]; rfl)
  unfold Cache.finish
  rw [ho]
  simp only
  obtain ⟨i, hi⟩ : ∃ i, missAt k.f l = some i := by
    have := missAt_isSome (f := k.f) (line := l)
    rw [hm] at this
    exact Option.isSome_iff_exists.1 this
  have hcl : missClose k.f l = k.f.eraseIdx i := by unfold missClose; rw [hm]; simp only [hmo, if_true, hi]
  have hne : ∀ x, x ≠ l → missOf (k.f.eraseIdx i) x = missOf k.f x := fun x hx => find_erase_other (fun e : Miss => e.line == l) (fun e he => by
    simp only [beq_iff_eq] at he; simp only [he, beq_eq_false_iff_ne]; exact fun q => hx q.symm) hi
  have hno : missOf (k.f.eraseIdx i) l = none := h.uf.find_erase hi
  have hil : i < k.f.length := (List.findIdx?_eq_some_iff_getElem.1 hi).1
  have hlen : (k.f.eraseIdx i).length + 1 = k.f.length := by rw [List.length_eraseIdx_of_lt hil]; omega
  obtain ⟨u1, u2, u3, _⟩ := h.aw.upd (l := l) (f := fun w => { w with locked := false }) (fun _ => rfl) (fun _ hs => hs)
  have u3' := u3 w hw
  have hlk : lockWay k.c k.a l false = updWay k.c k.a l fun w => { w with locked := false } := rfl
  rw [hcl]
  refine ⟨_, rfl, ?_, rfl, rfl, hl, ⟨m, hm, hmo⟩, hno, fun x hx => ⟨hne x hx, ?_⟩, ?_, hlen, rfl⟩
  · refine ⟨rfl, u1, h.uf.erase i, h.ub, by have := h.lf; show ((k.f.eraseIdx i).length : Int) ≤ _; omega, h.lb, fun x => ?_, fun x hx => ?_, fun x v hv => ?_, h.okB, fun x m hx => ?_⟩
    · show (missOf (k.f.eraseIdx i) x).isSome = true ↔ ∃ v, findWay k.c (lockWay k.c k.a l false) x = some v ∧ v.locked = true
      rw [hlk]
      by_cases hxl : x = l
      · subst hxl
        rw [hno, u3']
        constructor
        · intro e; cases e
        · rintro ⟨v, hv, hvl⟩
          split at hv
          · injection hv with hv; subst hv; cases hvl
          · cases hv
      · rw [hne x hxl, u2 x hxl]; exact h.lock x
    · show findWay k.c (lockWay k.c k.a l false) x = none
      by_cases hxl : x = l
      · subst hxl
        have := h.nobuf x hx
        rw [hw] at this; cases this
      · rw [hlk, u2 x hxl]; exact h.nobuf x hx
    · have hv' : findWay k.c (lockWay k.c k.a l false) x = some v := hv
      by_cases hxl : x = l
      · subst hxl
        rw [hlk, u3'] at hv'
        split at hv'
        · injection hv' with hv'; subst hv'; exact h.okW x w hw
        · cases hv'
      · rw [hlk, u2 x hxl] at hv'; exact h.okW x v hv'
    · have hx' : missOf (k.f.eraseIdx i) x = some m := hx
      by_cases hxl : x = l
      · subst hxl; rw [hno] at hx'; cases hx'
      · rw [hne x hxl] at hx'; exact h.okF x m hx'
  · show lookWay k.c (lockWay k.c k.a l false) x = lookWay k.c k.a x
    unfold lookWay; rw [hlk, u2 x hx]
  · show (lookWay k.c (lockWay k.c k.a l false) l).state = (lookWay k.c k.a l).state
    unfold lookWay
    rw [hlk, u3', hw]
    split
    · rfl
    · rename_i hth
      simp only [Way.there, Bool.or_false] at hth
      have : w.state = 0 := by
        by_cases e : w.state = 0
        · exact e
        · exact absurd (by simpa using e) hth
      rw [show (Option.getD (some w) Way.none).state = w.state from rfl, this]; rfl

theorem CInv.finN {n : Int} (hg : GotLe n k) : Nx c n k k.finish.1 := by
  obtain ⟨h1, h2⟩ := h.finE
  cases ho : missOwing k.f with
  | none => rw [h1 ho]; exact h.same hg
  | some l =>
    obtain ⟨k', e, a1, a2, _, _, _, a6, a7, _⟩ := h2 l ho
    rw [e]
    refine ⟨a1, a2, fun x m hx => ?_⟩
    by_cases hxl : x = l
    · subst hxl; rw [a6] at hx; cases hx
    · rw [(a7 x hxl).1] at hx; exact hg x m hx

/-- what Do does -/
theorem CInv.doE (hc : c.ok = true) (x : Op) :
    ((k.do x).2.2 ≠ 0 → (k.do x).1 = k ∧ (k.do x).2.1 = 0) ∧
    ((k.do x).2.2 = 0 → inR x.addr c.size = true ∧ x.may = true ∧ x.kind ≠ 4 ∧ canDo (k.look (c.lineOf x.addr)).state (opKind x) = true ∧
      (k.do x).2.1 = (touch ((k.look (c.lineOf x.addr)).words.get (c.wordOf x.addr)) x).2 ∧ CInv c (k.do x).1 ∧ (k.do x).1.core = k.core ∧ (k.do x).1.f = k.f ∧ (k.do x).1.b = k.b ∧
      (∀ y, y ≠ c.lineOf x.addr → (k.do x).1.look y = k.look y) ∧
      (x.kind = 1 → (k.do x).1 = k) ∧
      (x.kind ≠ 1 → ((k.do x).1.look (c.lineOf x.addr)) = ⟨4, (k.look (c.lineOf x.addr)).line, (k.look (c.lineOf x.addr)).words.set (c.wordOf x.addr) x.value, (k.look (c.lineOf x.addr)).locked⟩)) := by
  have hcc := h.cfg
  subst hcc
  unfold Cache.do
  by_cases hin : inR x.addr k.c.size = true
  · simp only [hin, if_true]
    generalize hL : k.c.lineOf x.addr = L
    unfold applyOp
    split
    · refine ⟨fun _ => by simp, fun e => by simp at e⟩
    · rename_i hcond
      simp only [Bool.or_eq_true, Bool.not_eq_true', beq_iff_eq, not_or, hc, hin, Bool.true_eq_false, not_false_eq_true, true_and] at hcond
      simp only [Bool.not_eq_false] at hcond
      have hmay : x.may = true := by simpa using hcond.1
      simp only [ne_eq, not_true_eq_false, if_false]
      by_cases hcan : k.can L (opKind x) = true
      · have hcan' : canDo (k.look L).state (opKind x) = true := hcan
        simp only [hcan, Bool.not_true, Bool.false_eq_true, if_false]
        by_cases hk : opKind x = 2
        · have hk1 : x.kind ≠ 1 := by unfold opKind at hk; split at hk <;> omega
          simp only [hk, if_true]
          refine ⟨fun e => absurd trivial e, fun _ => ?_⟩
          have hst : (k.look L).state ≠ 0 := by
            rw [hk] at hcan'
            simp only [canDo, show ¬ (2 : Int) = 1 by omega, if_false, Bool.or_eq_true, beq_iff_eq] at hcan'
            omega
          have hw := h.found hst
          have hval : -2147483648 ≤ x.value ∧ x.value ≤ 2147483647 ∧ (touch ((k.look L).words.get (k.c.wordOf x.addr)) x).1 = x.value := by
            unfold Op.may at hmay
            rw [if_neg hcond.2, if_neg hk1] at hmay
            split at hmay
            · rename_i h23
              simp only [Bool.and_eq_true, inC_iff] at hmay
              refine ⟨hmay.2.1, hmay.2.2, ?_⟩
              unfold touch
              rcases h23 with e | e
              · rw [if_pos e]
              · rw [if_neg (by omega), if_pos e]
            · cases hmay
          rw [hval.2.2]
          have hok := valuesOk_set (h.look_ok L) (wordOf_lt hc x.addr) (v := x.value) ⟨hval.1, hval.2.1⟩
          obtain ⟨g1, g2⟩ := h.setA (st := 4) hw (by omega) hok h.uf h.ub h.lf h.lb (fun _ => rfl) (fun x hx => .inl hx) (fun x e he => (h.okB x e he).1) h.okF
          refine ⟨trivial, hmay, hcond.2, by rw [← hk]; exact hcan', (by first | rfl | trivial), g1, (by first | rfl | trivial), (by first | rfl | trivial), (by first | rfl | trivial), fun y hy => ?_, fun e => absurd e hk1, fun _ => ?_⟩
          · have := g2 y; rw [if_neg hy] at this; exact this
          · have := g2 L; rw [if_pos rfl, if_neg (by omega), if_neg (by omega)] at this
            exact this
        · have hk1 : x.kind = 1 := by
            by_cases e : x.kind = 1
            · exact e
            · exact absurd (by unfold opKind; rw [if_neg e]) hk
          simp only [hk, if_false]
          exact ⟨fun e => absurd trivial e, fun _ => ⟨trivial, hmay, hcond.2, hcan', (by first | rfl | trivial), h, (by first | rfl | trivial), (by first | rfl | trivial), (by first | rfl | trivial), fun _ _ => (by first | rfl | trivial), fun _ => (by first | rfl | trivial), fun e => absurd hk1 e⟩⟩
      · have hcanf : k.can L (opKind x) = false := by simpa using hcan
        simp only [hcanf, Bool.not_false, if_true]
        exact ⟨fun _ => ⟨(by first | rfl | trivial), (by first | rfl | trivial)⟩, fun e => by simp at e⟩
  · have hin' : inR x.addr k.c.size = false := by simpa using hin
    unfold applyOp
    simp only [hin', Bool.not_false, Bool.or_true, Bool.true_or, if_true]
    exact ⟨fun _ => by simp, fun e => by simp at e⟩

theorem CInv.doN (hc : c.ok = true) {n : Int} (hg : GotLe n k) (x : Op) : Nx c n k (k.do x).1 := by
  obtain ⟨h1, h2⟩ := h.doE hc x
  by_cases he : (k.do x).2.2 = 0
  · obtain ⟨_, _, _, _, _, a1, a2, a3, _⟩ := h2 he
    exact ⟨a1, a2, fun y m hy => by rw [a3] at hy; exact hg y m hy⟩
  · rw [(h1 he).1]; exact h.same hg

end
end Mes
