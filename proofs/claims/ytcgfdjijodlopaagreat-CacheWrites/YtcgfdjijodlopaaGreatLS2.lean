/- A part of proofs about the given program. No condition. -/
import Derived.Test.YtcgfdjijodlopaaGreatLS
set_option linter.all false
namespace Mes
variable {C : LC} {s : LS}

theorem IA.weak {r o : Int} {m : Msg} (h : IA C r o m) : IA C r r m := by
  rcases h with ⟨j, h1, h2, h3⟩ | h
  · exact .inl ⟨j, h1, h2, h2⟩
  · exact .inr h

theorem IA.kind {r o : Int} {m : Msg} (h : IA C r o m) : m.kind = 6 ∨ m.kind = 9 := by
  rcases h with ⟨j, rfl, _⟩ | ⟨j, rfl, _⟩
  · exact .inl rfl
  · exact .inr rfl

theorem Shr.perm {s : LS} {o : Int} (h : Shr s o) (M : List Msg) : Shr { s with M := M } o := ⟨h.own, h.oth, h.one⟩

theorem Mode.perm (h : Mode C s) {M : List Msg} (hp : s.M.Perm M) : Mode C { s with M := M } := by
  have e1 : ∀ x, s.M = [x] → M = [x] := fun x hx => by rw [hx] at hp; exact List.singleton_perm.1 hp |>.symm
  have e0 : s.M = [] → M = [] := fun hx => by rw [hx] at hp; exact hp.nil_eq.symm
  cases h with
  | idle h1 h2 h3 h4 h5 => exact .idle h1 (e0 h2) ⟨h3.own, h3.oth, h3.one⟩ h4 h5
  | fin r k h1 h2 h3 h4 h5 => exact .fin r k h1 (e1 _ h2) ⟨h3.own, h3.oth, h3.one⟩ h4 h5
  | filled r k μ h1 h2 h3 h4 h5 h6 h7 h8 h9 => exact .filled r k μ h1 (e0 h2) ⟨h3.own, h3.oth, h3.one⟩ h4 h5 h6 h7 h8 h9
  | re r μ h1 h2 h3 h4 hr h6 h7 => exact .re r μ h1 (e1 _ h2) h3 h4 hr h6 h7
  | rs r f w μ h1 h2 h3 h4 h5 h6 h7 h8 h9 h10 => exact .rs r f w μ h1 (e1 _ h2) ⟨h3.own, h3.oth, h3.one⟩ h4 h5 h6 h7 h8 h9 h10
  | rf r μ h1 h2 h3 h4 h6 h7 h9 h10 h11 => exact .rf r μ h1 (e1 _ h2) ⟨h3.own, h3.oth, h3.one⟩ h4 h6 h7 h9 h10 h11
  | wf r o A μ L h1 h2 hL h3 h4 h5 h6 h7 h8 h9 h10 h11 hr h12 => exact .wf r o A μ L h1 (hp.symm.trans h2) hL ⟨h3.own, h3.oth, h3.one⟩ h4 h5 h6 h7 h8 h9 h10 h11 hr h12
  | wd r f w A μ L h1 h2 hL h3 h4 h5 h6 h7 h8 h9 hr h12 => exact .wd r f w A μ L h1 (hp.symm.trans h2) hL h3 h4 h5 h6 h7 h8 h9 hr h12
  | wg r A μ L h1 h2 hL h3 h4 h5 h6 h7 h8 h9 h10 hr h12 => exact .wg r A μ L h1 (hp.symm.trans h2) hL ⟨h3.own, h3.oth, h3.one⟩ h4 h5 h6 h7 h8 h9 h10 hr h12
  | wn r μ h1 hL h3 h4 h5 h6 h7 h8 h9 h10 hr h12 =>
    refine .wn r μ h1 (fun m hm => hL m (hp.mem_iff.2 hm)) ?_ (fun i hi => (h4 i hi).imp id (hp.mem_iff.1)) h5 h6 h7 h8 ?_ ?_ hr h12
    · split
      · rename_i hg; rw [if_pos hg] at h3; exact ⟨⟨h3.1.own, h3.1.oth, h3.1.one⟩, h3.2⟩
      · rename_i hg; rw [if_neg hg] at h3; exact h3
    · rw [← h9, ← hp.length_eq]
    · intro he
      have he' : M = [] := he
      exact h10 (by rw [he'] at hp; exact hp.eq_nil)

theorem act_perm {M : List Msg} (hp : s.M.Perm M) (i : Int) : act? C { s with M := M } i ↔ act? C s i := by
  have e1 : ∀ x, s.M = [x] ↔ M = [x] := fun x => ⟨fun hx => by rw [hx] at hp; exact List.singleton_perm.1 hp |>.symm, fun hx => by rw [hx] at hp; exact List.perm_singleton.1 hp⟩
  simp only [act?, ne_eq, e1]

theorem Inv.perm (h : Inv C s) {M : List Msg} (hp : s.M.Perm M) : Inv C { s with M := M } where
  ok := h.ok
  line := h.line
  st := h.st
  rng := h.rng
  buf := h.buf
  nobuf := h.nobuf
  wait := fun i hi => h.wait i (fun ha => hi ((act_perm hp i).2 ha))
  actv := fun i hi => h.actv i ((act_perm hp i).1 hi)
  low := h.low
  val := h.val
  okV := h.okV
  okW := h.okW
  okM := h.okM
  ent := h.ent
  fine := fun m hm => h.fine m (hp.mem_iff.2 hm)
  mode := h.mode.perm hp

/-- who is active has a miss -/
theorem Inv.actMiss (h : Inv C s) {i : Int} (ha : act? C s i) : (s.miss i).isSome = true := by
  obtain ⟨⟨k, hk⟩, hm⟩ := ha
  cases h.mode with
  | idle h1 => simp [h1] at hk
  | fin r k' h1 h2 => rw [h1] at hk; simp at hk; obtain ⟨rfl, _⟩ := hk; exact absurd h2 hm
  | filled r k' μ h1 _ _ _ _ h6 => rw [h1] at hk; simp at hk; obtain ⟨rfl, _⟩ := hk; simp [h6]
  | re r μ h1 _ _ _ _ h6 => rw [h1] at hk; simp at hk; obtain ⟨rfl, _⟩ := hk; simp [h6]
  | rs r f w μ h1 _ _ _ _ h6 => rw [h1] at hk; simp at hk; obtain ⟨rfl, _⟩ := hk; simp [h6]
  | rf r μ h1 _ _ _ h6 => rw [h1] at hk; simp at hk; obtain ⟨rfl, _⟩ := hk; simp [h6]
  | wf r o A μ L h1 _ _ _ _ _ h6 => rw [h1] at hk; simp at hk; obtain ⟨rfl, _⟩ := hk; simp [h6]
  | wd r f w A μ L h1 _ _ _ _ _ h6 => rw [h1] at hk; simp at hk; obtain ⟨rfl, _⟩ := hk; simp [h6]
  | wg r A μ L h1 _ _ _ _ _ h6 => rw [h1] at hk; simp at hk; obtain ⟨rfl, _⟩ := hk; simp [h6]
  | wn r μ h1 _ _ _ _ h6 => rw [h1] at hk; simp at hk; obtain ⟨rfl, _⟩ := hk; simp [h6]

theorem Inv.rngSt (h : Inv C s) {i : Int} (hi : s.st i ≠ 0) : 0 ≤ i ∧ i < C.c.cores :=
  Classical.byContradiction fun hn => hi (h.rng i hn).1

theorem Inv.rngNeg (h : Inv C s) : s.st (-1) = 0 ∧ s.miss (-1) = none ∧ s.wb (-1) = none := by
  have := h.rng (-1) (by omega); exact ⟨this.1, this.2.1, this.2.2.1⟩

/-! ### a cache asks -/
theorem Inv.ask (h : Inv C s) {i k : Int} (hi : 0 ≤ i ∧ i < C.c.cores) (hm : s.miss i = none) (hw : s.wb i = none) (hc : canDo (s.st i) k = false) (hk : k = 1 ∨ k = 2) :
    Inv C { s with miss := upd s.miss i (some (Miss.new C.l k)), req := upd s.req i [mReq C i k] } := by
  have hna : ¬ act? C s i := fun ha => by simpa [hm] using h.actMiss ha
  have ne : ∀ {r : Int} {μ : Miss}, s.miss r = some μ → upd s.miss i (some (Miss.new C.l k)) r = some μ := by
    intro r μ hr
    rw [upd_ne _ _ (by rintro rfl; rw [hm] at hr; cases hr)]; exact hr
  exact {
    ok := h.ok, line := h.line, st := h.st,
    rng := fun j hj => by
      have hji : j ≠ i := by rintro rfl; exact hj hi
      simp only [upd_ne _ _ hji]; exact h.rng j hj
    buf := fun j e he => by
      have hji : j ≠ i := by rintro rfl; rw [hw] at he; cases he
      simp only [upd_ne _ _ hji]; exact h.buf j e he
    nobuf := h.nobuf
    wait := fun j hj => by
      by_cases hji : j = i
      · subst hji; simp only [upd_same]; exact .inr ⟨k, hk, rfl, rfl⟩
      · simp only [upd_ne _ _ hji]; exact h.wait j hj
    actv := fun j hj => by
      have hji : j ≠ i := by rintro rfl; exact hna hj
      simp only [upd_ne _ _ hji]; exact h.actv j hj
    low := fun j μ hμ ho => by
      by_cases hji : j = i
      · subst hji
        simp only [upd_same, Option.some.injEq] at hμ
        subst hμ
        simp only [canDo] at hc
        refine ⟨fun h1 => ?_, fun h2 => ?_⟩
        · have h1' : k = 1 := h1
          simpa [h1'] using hc
        · have h2' : k = 2 := h2
          simpa [h2'] using hc
      · simp only [upd_ne _ _ hji] at hμ; exact h.low j μ hμ ho
    val := h.val, okV := h.okV, okW := h.okW, okM := h.okM, ent := h.ent, fine := h.fine
    mode := by
      cases h.mode with
      | idle h1 h2 h3 h4 h5 => exact .idle h1 h2 ⟨h3.own, h3.oth, h3.one⟩ h4 h5
      | fin r k h1 h2 h3 h4 h5 => exact .fin r k h1 h2 ⟨h3.own, h3.oth, h3.one⟩ h4 h5
      | filled r k μ h1 h2 h3 h4 h5 h6 h7 h8 h9 => exact .filled r k μ h1 h2 ⟨h3.own, h3.oth, h3.one⟩ h4 h5 (ne h6) h7 h8 h9
      | re r μ h1 h2 h3 h4 hr h6 h7 => exact .re r μ h1 h2 h3 h4 hr (ne h6) h7
      | rs r f w μ h1 h2 h3 h4 h5 h6 h7 h8 h9 h10 => exact .rs r f w μ h1 h2 ⟨h3.own, h3.oth, h3.one⟩ h4 h5 (ne h6) h7 h8 h9 h10
      | rf r μ h1 h2 h3 h4 h6 h7 h9 h10 h11 => exact .rf r μ h1 h2 ⟨h3.own, h3.oth, h3.one⟩ h4 (ne h6) h7 h9 h10 h11
      | wf r o A μ L h1 h2 hL h3 h4 h5 h6 h7 h8 h9 h10 h11 hr h12 => exact .wf r o A μ L h1 h2 hL ⟨h3.own, h3.oth, h3.one⟩ h4 h5 (ne h6) h7 h8 h9 h10 h11 hr h12
      | wd r f w A μ L h1 h2 hL h3 h4 h5 h6 h7 h8 h9 hr h12 => exact .wd r f w A μ L h1 h2 hL h3 h4 h5 (ne h6) h7 h8 h9 hr h12
      | wg r A μ L h1 h2 hL h3 h4 h5 h6 h7 h8 h9 h10 hr h12 => exact .wg r A μ L h1 h2 hL ⟨h3.own, h3.oth, h3.one⟩ h4 h5 (ne h6) h7 h8 h9 h10 hr h12
      | wn r μ h1 hL h3 h4 h5 h6 h7 h8 h9 h10 hr h12 =>
        refine .wn r μ h1 hL ?_ h4 h5 (ne h6) h7 h8 h9 h10 hr h12
        split
        · rename_i hg; rw [if_pos hg] at h3; exact ⟨⟨h3.1.own, h3.1.oth, h3.1.one⟩, h3.2⟩
        · rename_i hg; rw [if_neg hg] at h3; exact h3 }
end Mes
