/- A part of proofs about the given program. No condition. -/
import Derived.Test.YtcgfdjijodlopaaGreatLS2
set_option linter.all false
namespace Mes
variable {C : LC} {s : LS}

/-- a cache lets a line go that it only shares -/
theorem Inv.evictS (h : Inv C s) {i : Int} (h1 : s.st i = 1) (hm : s.miss i = none) : Inv C { s with st := upd s.st i 0 } := by
  have le : ∀ j, upd s.st i 0 j ≤ s.st j := fun j => by
    by_cases hji : j = i
    · subst hji; simp [h1]
    · rw [upd_ne _ _ hji]; omega
  have out : ∀ {j : Int}, upd s.st i 0 j ≠ 0 → j ≠ i ∧ upd s.st i 0 j = s.st j := fun {j} hj => by
    by_cases hji : j = i
    · subst hji; simp at hj
    · exact ⟨hji, upd_ne _ _ hji⟩
  have sh : ∀ {o}, Shr s o → Shr { s with st := upd s.st i 0 } o := fun {o} a => by
    refine ⟨fun ho => ?_, fun j hj => Int.le_trans (le j) (a.oth j hj), fun ho j hj => ?_⟩
    · rcases a.own ho with b | b
      · refine .inl ?_
        show 2 ≤ upd s.st i 0 o
        rw [upd_ne _ _ (by rintro rfl; omega)]; exact b
      · exact .inr b
    · have ho' : upd s.st i 0 o = 2 ∨ upd s.st i 0 o = 4 := ho
      have hoi := out (j := o) (by omega)
      rw [hoi.2] at ho'
      have := a.one ho' j hj
      show upd s.st i 0 j = 0
      have l1 := le j
      by_cases hji : j = i
      · subst hji; simp
      · rw [upd_ne _ _ hji]; exact this
  have kn : Known s → Known { s with st := upd s.st i 0 } := fun a j hj => by
    have hj' : upd s.st i 0 j = 1 := hj
    have := out (j := j) (by omega)
    exact a j (by rw [← this.2]; exact hj')
  have one : ∀ {j : Int}, upd s.st i 0 j = 1 → j ≠ i ∧ s.st j = 1 := fun {j} hj => by
    have := out (j := j) (by omega)
    exact ⟨this.1, by rw [← this.2]; exact hj⟩
  exact {
    ok := h.ok, line := h.line,
    st := fun j => by
      show 0 ≤ upd s.st i 0 j ∧ upd s.st i 0 j ≤ 4
      have := h.st j
      by_cases hji : j = i
      · subst hji; simp
      · rw [upd_ne _ _ hji]; exact this
    rng := fun j hj => by
      have := h.rng j hj
      refine ⟨?_, this.2⟩
      show upd s.st i 0 j = 0
      by_cases hji : j = i
      · subst hji; simp
      · rw [upd_ne _ _ hji]; exact this.1
    buf := fun j e he => by
      have := h.buf j e he
      refine ⟨?_, this.2⟩
      show upd s.st i 0 j = 0
      by_cases hji : j = i
      · subst hji; simp
      · rw [upd_ne _ _ hji]; exact this.1
    nobuf := h.nobuf, wait := h.wait, actv := h.actv,
    low := fun j μ hμ ho => by
      have hji : j ≠ i := by rintro rfl; rw [hm] at hμ; cases hμ
      show (μ.kind = 1 → upd s.st i 0 j = 0) ∧ (μ.kind = 2 → upd s.st i 0 j ≠ 2 ∧ upd s.st i 0 j ≠ 4)
      rw [upd_ne _ _ hji]; exact h.low j μ hμ ho
    val := fun j hj => by
      have := out (j := j) hj
      exact h.val j (by rw [← this.2]; exact hj)
    okV := h.okV, okW := h.okW, okM := h.okM, ent := h.ent, fine := h.fine
    mode := by
      cases h.mode with
      | idle h1 h2 h3 h4 h5 => exact .idle h1 h2 (sh h3) (kn h4) h5
      | fin r k h1 h2 h3 h4 h5 => exact .fin r k h1 h2 (sh h3) (kn h4) h5
      | filled r k μ h1 h2 h3 h4 h5 h6 h7 h8 h9 => exact .filled r k μ h1 h2 (sh h3) (kn h4) h5 h6 h7 h8 h9
      | re r μ h1' h2 h3 h4 hr h6 h7 => have := h3 i; omega
      | rs r f w μ h1' h2 h3 h4 h5 h6 h7 h8 h9 h10 =>
        refine .rs r f w μ h1' h2 (sh h3) (kn h4) h5 h6 h7 (fun j => ?_) h9 h10
        have := h8 j
        show upd s.st i 0 j ≠ 2 ∧ upd s.st i 0 j ≠ 4
        by_cases hji : j = i
        · subst hji; simp
        · rw [upd_ne _ _ hji]; exact this
      | rf r μ h1 h2 h3 h4 h6 h7 h9 h10 h11 => exact .rf r μ h1 h2 (sh h3) (kn h4) h6 h7 h9 h10 h11
      | wf r o A μ L h1 h2 hL h3 h4 h5 h6 h7 h8 h9 h10 h11 hr h12 => exact .wf r o A μ L h1 h2 hL (sh h3) (fun j hj => h4 j (one hj).2) h5 h6 h7 h8 h9 h10 h11 hr h12
      | wd r f w A μ L h1 h2 hL h3 h4 h5 h6 h7 h8 h9 hr h12 => exact .wd r f w A μ L h1 h2 hL (fun j => Int.le_trans (le j) (h3 j)) (fun j hj => h4 j (one hj).2) h5 h6 h7 h8 h9 hr h12
      | wg r A μ L h1 h2 hL h3 h4 h5 h6 h7 h8 h9 h10 hr h12 =>
        refine .wg r A μ L h1 h2 hL (sh h3) (fun j hj => h4 j (one hj).2) h5 h6 h7 h8 h9 ?_ hr h12
        show upd s.st i 0 r = 3
        rw [upd_ne _ _ (by rintro rfl; rw [hm] at h6; cases h6)]; exact h10
      | wn r μ h1 hL h3 h4 h5 h6 h7 h8 h9 h10 hr h12 =>
        refine .wn r μ h1 hL ?_ (fun j hj => h4 j (one hj).2) h5 h6 h7 h8 h9 h10 hr h12
        split
        · rename_i hg; rw [if_pos hg] at h3
          refine ⟨sh h3.1, ?_⟩
          show upd s.st i 0 r = 3
          rw [upd_ne _ _ (by rintro rfl; rw [hm] at h6; cases h6)]; exact h3.2
        · rename_i hg; rw [if_neg hg] at h3; exact ⟨fun j => Int.le_trans (le j) (h3.1 j), h3.2⟩ }

/-- a cache lets a line go that it owns -/
theorem Inv.evictO (h : Inv C s) {i : Int} (h1 : 2 ≤ s.st i) (hm : s.miss i = none) (hv : valuesOk C.c (s.wd i) = true) (ln : Int) :
    Inv C { s with st := upd s.st i 0, wb := upd s.wb i (some ⟨ln, s.wd i, true⟩), put := upd s.put i [mPut C i (s.wd i)] } := by
  have hval : s.wd i = s.V := h.val i (by omega)
  have hri := h.rngSt (i := i) (by omega)
  have out : ∀ {j : Int}, upd s.st i 0 j ≠ 0 → j ≠ i ∧ upd s.st i 0 j = s.st j := fun {j} hj => by
    by_cases hji : j = i
    · subst hji; simp at hj
    · exact ⟨hji, upd_ne _ _ hji⟩
  have le : ∀ j, upd s.st i 0 j ≤ s.st j := fun j => by
    by_cases hji : j = i
    · subst hji; simp; omega
    · rw [upd_ne _ _ hji]; omega
  have sh : ∀ {o}, Shr s o → Shr { s with st := upd s.st i 0, wb := upd s.wb i (some ⟨ln, s.wd i, true⟩), put := upd s.put i [mPut C i (s.wd i)] } o := fun {o} a => by
    have hio : i = o := Classical.byContradiction fun hn => by have := a.oth i hn; omega
    subst hio
    refine ⟨fun _ => .inr ⟨⟨ln, s.wd i, true⟩, mPut C i (s.wd i), ?_, rfl, hval, ?_, rfl⟩, fun j hj => ?_, fun ho j hj => ?_⟩
    · show upd s.wb i _ i = _; simp
    · show upd s.put i _ i = _; simp
    · exact Int.le_trans (le j) (a.oth j hj)
    · have ho' : upd s.st i 0 i = 2 ∨ upd s.st i 0 i = 4 := ho
      simp at ho'
  have kn : Known s → Known { s with st := upd s.st i 0, wb := upd s.wb i (some ⟨ln, s.wd i, true⟩), put := upd s.put i [mPut C i (s.wd i)] } := fun a j hj => by
    have hj' : upd s.st i 0 j = 1 := hj
    have := out (j := j) (by omega)
    exact a j (by rw [← this.2]; exact hj')
  have one : ∀ {j : Int}, upd s.st i 0 j = 1 → j ≠ i ∧ s.st j = 1 := fun {j} hj => by
    have := out (j := j) (by omega)
    exact ⟨this.1, by rw [← this.2]; exact hj⟩
  exact {
    ok := h.ok, line := h.line,
    st := fun j => by
      show 0 ≤ upd s.st i 0 j ∧ upd s.st i 0 j ≤ 4
      have := h.st j
      by_cases hji : j = i
      · subst hji; simp
      · rw [upd_ne _ _ hji]; exact this
    rng := fun j hj => by
      have hji : j ≠ i := by rintro rfl; exact hj hri
      simp only [upd_ne _ _ hji]; exact h.rng j hj
    buf := fun j e he => by
      by_cases hji : j = i
      · subst hji
        simp only [upd_same, Option.some.injEq] at he ⊢
        subst he
        exact ⟨trivial, hm, _, rfl, .inr rfl⟩
      · simp only [upd_ne _ _ hji] at he ⊢; exact h.buf j e he
    nobuf := fun j he => by
      by_cases hji : j = i
      · subst hji; simp at he
      · simp only [upd_ne _ _ hji] at he ⊢; exact h.nobuf j he
    wait := h.wait, actv := h.actv,
    low := fun j μ hμ ho => by
      have hji : j ≠ i := by rintro rfl; rw [hm] at hμ; cases hμ
      show (μ.kind = 1 → upd s.st i 0 j = 0) ∧ (μ.kind = 2 → upd s.st i 0 j ≠ 2 ∧ upd s.st i 0 j ≠ 4)
      rw [upd_ne _ _ hji]; exact h.low j μ hμ ho
    val := fun j hj => by
      have := out (j := j) hj
      exact h.val j (by rw [← this.2]; exact hj)
    okV := h.okV,
    okW := fun j e he => by
      by_cases hji : j = i
      · subst hji; simp at he; subst he; exact hv
      · simp only [upd_ne _ _ hji] at he; exact h.okW j e he
    okM := h.okM, ent := h.ent, fine := h.fine
    mode := by
      cases h.mode with
      | idle h1 h2 h3 h4 h5 => exact .idle h1 h2 (sh h3) (kn h4) h5
      | fin r k h1 h2 h3 h4 h5 => exact .fin r k h1 h2 (sh h3) (kn h4) h5
      | filled r k μ h1 h2 h3 h4 h5 h6 h7 h8 h9 => exact .filled r k μ h1 h2 (sh h3) (kn h4) h5 h6 h7 h8 h9
      | re r μ h1' h2 h3 h4 hr h6 h7 => have := h3 i; omega
      | rs r f w μ h1' h2 h3 h4 h5 h6 h7 h8 h9 h10 =>
        refine .rs r f w μ h1' h2 (sh h3) (kn h4) h5 h6 h7 (fun j => ?_) h9 h10
        have := h8 j
        show upd s.st i 0 j ≠ 2 ∧ upd s.st i 0 j ≠ 4
        by_cases hji : j = i
        · subst hji; simp
        · rw [upd_ne _ _ hji]; exact this
      | rf r μ h1 h2 h3 h4 h6 h7 h9 h10 h11 => exact .rf r μ h1 h2 (sh h3) (kn h4) h6 h7 h9 h10 h11
      | wf r o A μ L h1 h2 hL h3 h4 h5 h6 h7 h8 h9 h10 h11 hr h12 => exact .wf r o A μ L h1 h2 hL (sh h3) (fun j hj => h4 j (one hj).2) h5 h6 h7 h8 h9 h10 h11 hr h12
      | wd r f w A μ L h1' h2 hL h3 h4 h5 h6 h7 h8 h9 hr h12 => have := h3 i; omega
      | wg r A μ L h1' h2 hL h3 h4 h5 h6 h7 h8 h9 h10 hr h12 =>
        have hir : i ≠ r := by rintro rfl; rw [hm] at h6; cases h6
        have := h3.oth i hir; omega
      | wn r μ h1' hL h3 h4 h5 h6 h7 h8 h9 h10 hr h12 =>
        have hir : i ≠ r := by rintro rfl; rw [hm] at h6; cases h6
        split at h3
        · have := h3.1.oth i hir; omega
        · have := h3.1 i; omega }

/-- a home starts a Put -/
theorem Inv.startPut (h : Inv C s) {i : Int} {w : Words} (hc : s.cur = none) (hp : s.put i = [mPut C i w]) :
    Inv C (if s.ent.owner = i then { s with ent := ⟨-1, s.ent.sharers⟩, mem := w, put := upd s.put i [mPutAck C i] } else { s with put := upd s.put i [mPutAck C i] }) := by
  obtain ⟨e, he⟩ : ∃ e, s.wb i = some e := by
    cases hb : s.wb i with
    | none => have := h.nobuf i hb; rw [hp] at this; cases this
    | some e => exact ⟨e, rfl⟩
  have hbuf := h.buf i e he
  have hri : 0 ≤ i ∧ i < C.c.cores := Classical.byContradiction fun hn => by have := (h.rng i hn).2.2.1; rw [he] at this; cases this
  have hw : w = e.words := by
    obtain ⟨p, hp1, hp2⟩ := hbuf.2.2
    rw [hp] at hp1
    have hp3 : mPut C i w = p := by simpa using hp1
    rcases hp2 with hp2 | hp2
    · rw [hp2] at hp3; simp [mPut, mPutAck] at hp3
    · rw [hp2] at hp3; simpa [mPut] using hp3
  cases h.mode with
  | idle h1 h2 h3 h4 h5 =>
    have base : ∀ (en : Entry) (me : Words), valuesOk C.c me = true → en.may = true ∧ en.sharers.cores = C.c.cores ∧ en.sharers.most = C.c.pointers →
        Mode C { s with ent := en, mem := me, put := upd s.put i [mPutAck C i] } → Inv C { s with ent := en, mem := me, put := upd s.put i [mPutAck C i] } := fun en me hme hen hmode =>
      { ok := h.ok, line := h.line, st := h.st,
        rng := fun j hj => by
          have hji : j ≠ i := by rintro rfl; exact hj hri
          simp only [upd_ne _ _ hji]; exact h.rng j hj
        buf := fun j e' he' => by
          by_cases hji : j = i
          · subst hji; simp only [upd_same]; exact ⟨hbuf.1, hbuf.2.1, _, rfl, .inl rfl⟩
          · simp only [upd_ne _ _ hji]; exact h.buf j e' he'
        nobuf := fun j he' => by
          by_cases hji : j = i
          · subst hji; have he'' : s.wb j = none := he'; rw [he] at he''; cases he''
          · simp only [upd_ne _ _ hji]; exact h.nobuf j he'
        wait := h.wait, actv := h.actv, low := h.low, val := h.val, okV := h.okV, okW := h.okW, okM := hme, ent := hen, fine := h.fine, mode := hmode }
    split
    · rename_i ho
      refine base _ _ (by rw [hw]; exact h.okW i e he) ?_ ?_
      · obtain ⟨a, b⟩ := h.ent
        refine ⟨?_, b⟩
        simp only [Entry.may, Bool.and_eq_true, decide_eq_true_eq] at a ⊢
        exact ⟨⟨a.1.1, by omega⟩, by have := a.1.2; have := a.2; omega⟩
      · have hl : live s i := by
          rcases h3.own (by omega) with hb | hb
          · rw [ho] at hb; have := hbuf.1; omega
          · rw [ho] at hb; exact hb
        refine .idle h1 h2 ⟨fun hn => absurd rfl hn, fun j _ => ?_, fun hx => ?_⟩ h4 (fun _ => ?_)
        · by_cases hj : j = s.ent.owner
          · rw [hj, ho]; show s.st i ≤ 1; have := hbuf.1; omega
          · exact h3.oth j hj
        · have hx' : s.st (-1) = 2 ∨ s.st (-1) = 4 := hx
          have := h.rngNeg.1; omega
        · obtain ⟨e', p, he', _, hv, _⟩ := hl
          rw [he] at he'; injection he' with he'; subst he'
          rw [hw]; exact hv
    · rename_i ho
      refine base s.ent s.mem h.okM h.ent (.idle h1 h2 ⟨fun hn => ?_, h3.oth, h3.one⟩ h4 h5)
      rcases h3.own hn with hb | ⟨e', p, a, b, c, d, f⟩
      · exact .inl hb
      · exact .inr ⟨e', p, a, b, c, by show upd s.put i _ _ = _; rw [upd_ne _ _ ho]; exact d, f⟩
  | fin r k h1 => rw [hc] at h1; cases h1
  | filled r k μ h1 => rw [hc] at h1; cases h1
  | re r μ h1 => rw [hc] at h1; cases h1
  | rs r f w μ h1 => rw [hc] at h1; cases h1
  | rf r μ h1 => rw [hc] at h1; cases h1
  | wf r o A μ L h1 => rw [hc] at h1; cases h1
  | wd r f w A μ L h1 => rw [hc] at h1; cases h1
  | wg r A μ L h1 => rw [hc] at h1; cases h1
  | wn r μ h1 => rw [hc] at h1; cases h1
end Mes
