/- A part of proofs about the given program. No condition. -/
import Derived.Test.YtcgfdjijodlopaaGreatWmem
set_option linter.all false
namespace Go.SL.TryzI
open Go Go.Proofs Go.SL
set_option maxRecDepth 100000


def idxOf : Option Nat → Int
  | some j => j
  | none => -1
theorem findIdx_some {α : Type} {es : List α} {p : α → Bool} {k : Nat} {e : α} (he : es[k]? = some e) (hp : p e = true) (h : ∀ j, j < k → ∀ e, es[j]? = some e → p e = false) : es.findIdx? p = some k := by
  obtain ⟨hk, hke⟩ := List.getElem?_eq_some_iff.1 he
  rw [List.findIdx?_eq_some_iff_getElem]
  exact ⟨hk, by rw [hke]; exact hp, fun j hj => by rw [h j hj _ (List.getElem?_eq_getElem (by omega))]; simp⟩
theorem findIdx_none {α : Type} {es : List α} {p : α → Bool} (h : ∀ (j : Nat) e, es[j]? = some e → p e = false) : es.findIdx? p = none := by
  rw [List.findIdx?_eq_none_iff]
  intro e he
  obtain ⟨j, hj⟩ := List.mem_iff_getElem?.1 he
  exact h j e hj
theorem head_get {e : List Value} (h : e.length = 1) : e[0]? = some (e.headD undef) := by
  cases e with
  | nil => cases h
  | cons x l => rfl

theorem w_IndexWay {α : Type} (l : List α) (enc : α → List Value) (q : Option Addr) (cap : Nat) (r : Frag) (hr : Rd r q 11 (l.map enc)) (f : Nat) [FnAt Tryz.prog f] (first caps : List Value) (pre : List Frag) (p : α → Bool) (hlen : l.length < 9223372036854775807)
    (hf : ∀ x ∈ l, Fn Tryz.prog f (first ++ [.agg (enc x).toArray] ++ caps) pre (fun v L' => v = .bool (p x) ∧ L' = pre)) :
    Fn Tryz.prog 164 [.slice q l.length cap, .func (.func f) first.toArray caps.toArray] (r :: pre) (fun v L' => v = i (idxOf (l.findIdx? p)) ∧ L' = r :: pre) := by
  refine Fn.body Tryz.func164 rfl rfl rfl (Nat.le_of_ble_eq_true rfl) fun F => ?_
  refine TC.seq ?_
  refine TC.region ?_
  refine .q (LD.assign rfl) rfl rfl ?_
  refine TL.nilS ?_
  refine TC.seq ?_
  refine TC.seq ?_
  refine TC.region ?_
  refine .q (LD.move rfl) rfl rfl ?_
  refine .q (LD.lenS rfl rfl Tryz.underlying232) rfl rfl ?_
  refine .q (LD.move rfl) rfl rfl ?_
  refine TL.nilS ?_
  refine TC.block ?_
  refine TC.loopd (α := Nat) (fun k => [(0, .slice q l.length cap), (1, .func (.func f) first.toArray caps.toArray), (7, i (l.length : Int)), (8, i (k : Int))]) (fun k => r :: (pre ++ F)) (fun k => k ≤ l.length ∧ ∀ j, j < k → ∀ x, l[j]? = some x → p x = false) (fun k => l.length - k) 0 ⟨by omega, fun j hj => by omega⟩ ⟨rfl, rfl, rfl, rfl, trivial⟩ ⟨[], .refl _⟩ (fun k hk => ?_)
  refine TC.seq ?_
  refine TC.region ?_
  refine .q (LD.lss rfl rfl) rfl rfl ?_
  refine TL.nilS ?_
  refine TC.seq ?_
  refine TC.cond rfl (fun g1 => ?_) (fun g1 => ?_)
  · have h1 := g1
    try simp at h1
    refine TC.skipS ?_
    refine TC.seq ?_
    refine TC.block ?_
    refine TC.seq ?_
    refine TC.region ?_
    have hkl : k < l.length := by omega
    obtain ⟨x, hx⟩ : ∃ x, l[k]? = some x := ⟨_, List.getElem?_eq_getElem hkl⟩
    have hem := List.mem_of_getElem? hx
    have he : (l.map enc)[k]? = some (enc x) := by rw [List.getElem?_map, hx]; rfl
    have hne : l.map enc ≠ [] := by intro h0; rw [List.map_eq_nil_iff] at h0; subst h0; simp at hkl
    obtain ⟨b, o, cs, T, fr, hq, hb, hcs⟩ := hr.got hne
    refine .q (LD.move rfl) rfl rfl ?_
    refine .q (LD.assign rfl) rfl rfl ?_
    refine TL.nilS ?_
    refine TC.seq ?_
    refine TC.region ?_
    refine .q (LD.move rfl) rfl rfl ?_
    refine .q (LD.move rfl) rfl rfl ?_
    refine .q (LD.move rfl) rfl rfl ?_
    refine .q (LD.indexAddr rfl rfl (by first | rfl | assumption) (by omega)) rfl rfl ?_
    refine .q (LD.elA (j := k) rfl m0 hb hcs hr.len he) rfl rfl ?_
    refine TL.cl (CL.clos rfl rfl) (hf x hem) (List.perm_middle (a := r) (l₁ := pre) (l₂ := F)).symm (Wants.un rfl) rfl ?_
    rintro _ L2 ⟨rfl, h0⟩
    rw [h0]
    refine TL.perm List.perm_middle ?_
    refine TL.nilS ?_
    refine TC.cond rfl (fun g2 => ?_) (fun g2 => ?_)
    · have h2 := g2
      try simp at h2
      refine TC.seq ?_
      refine TC.region ?_
      refine .q (LD.move rfl) rfl rfl ?_
      refine .q (LD.assign rfl) rfl rfl ?_
      refine TL.nilS ?_
      refine TC.ret ?_
      repeat first | refine Post.sr ?_ | refine Post.br ?_
      exact Out.intro (X := []) (L' := r :: pre) (Res.t rfl Res.z) ⟨by rw [findIdx_some hx h2 hk.2]; rfl, rfl⟩ (.refl _)
    · have h2 := g2
      try simp at h2
      refine TC.skip ?_
      refine TC.region ?_
      have hno : ∀ j, j < k + 1 → ∀ x, l[j]? = some x → p x = false := fun j hj e' he' => by
        rcases Nat.lt_or_ge j k with h | h
        · exact hk.2 j h _ he'
        · have : j = k := by omega
          subst this; rw [hx] at he'; cases he'; simpa using h2
      refine .q (LD.add rfl rfl (by omega)) rfl rfl ?_
      refine .q (LD.move rfl) rfl rfl ?_
      refine TL.nil ?_
      exact ⟨k + 1, ⟨by omega, hno⟩, by omega, ⟨rfl, rfl, rfl, rfl, trivial⟩, [], .refl _⟩
  · have h1 := g1
    try simp at h1
    refine TC.exit ?_
    refine TC.seq ?_
    refine TC.region ?_
    refine .q (LD.assign rfl) rfl rfl ?_
    refine TL.nilS ?_
    refine TC.ret ?_
    repeat first | refine Post.sr ?_ | refine Post.br ?_
    exact Out.intro (X := []) (L' := r :: pre) (Res.t rfl Res.z) ⟨by rw [findIdx_none (fun j x hx => hk.2 j (by have := (List.getElem?_eq_some_iff.1 hx).1; omega) x hx)]; rfl, rfl⟩ (.refl _)
theorem w_IndexWB {α : Type} (l : List α) (enc : α → List Value) (q : Option Addr) (cap : Nat) (r : Frag) (hr : Rd r q 10 (l.map enc)) (f : Nat) [FnAt Tryz.prog f] (first caps : List Value) (pre : List Frag) (p : α → Bool) (hlen : l.length < 9223372036854775807)
    (hf : ∀ x ∈ l, Fn Tryz.prog f (first ++ [.agg (enc x).toArray] ++ caps) pre (fun v L' => v = .bool (p x) ∧ L' = pre)) :
    Fn Tryz.prog 200 [.slice q l.length cap, .func (.func f) first.toArray caps.toArray] (r :: pre) (fun v L' => v = i (idxOf (l.findIdx? p)) ∧ L' = r :: pre) := by
  refine Fn.body Tryz.func200 rfl rfl rfl (Nat.le_of_ble_eq_true rfl) fun F => ?_
  refine TC.seq ?_
  refine TC.region ?_
  refine .q (LD.assign rfl) rfl rfl ?_
  refine TL.nilS ?_
  refine TC.seq ?_
  refine TC.seq ?_
  refine TC.region ?_
  refine .q (LD.move rfl) rfl rfl ?_
  refine .q (LD.lenS rfl rfl Tryz.underlying140) rfl rfl ?_
  refine .q (LD.move rfl) rfl rfl ?_
  refine TL.nilS ?_
  refine TC.block ?_
  refine TC.loopd (α := Nat) (fun k => [(0, .slice q l.length cap), (1, .func (.func f) first.toArray caps.toArray), (7, i (l.length : Int)), (8, i (k : Int))]) (fun k => r :: (pre ++ F)) (fun k => k ≤ l.length ∧ ∀ j, j < k → ∀ x, l[j]? = some x → p x = false) (fun k => l.length - k) 0 ⟨by omega, fun j hj => by omega⟩ ⟨rfl, rfl, rfl, rfl, trivial⟩ ⟨[], .refl _⟩ (fun k hk => ?_)
  refine TC.seq ?_
  refine TC.region ?_
  refine .q (LD.lss rfl rfl) rfl rfl ?_
  refine TL.nilS ?_
  refine TC.seq ?_
  refine TC.cond rfl (fun g1 => ?_) (fun g1 => ?_)
  · have h1 := g1
    try simp at h1
    refine TC.skipS ?_
    refine TC.seq ?_
    refine TC.block ?_
    refine TC.seq ?_
    refine TC.region ?_
    have hkl : k < l.length := by omega
    obtain ⟨x, hx⟩ : ∃ x, l[k]? = some x := ⟨_, List.getElem?_eq_getElem hkl⟩
    have hem := List.mem_of_getElem? hx
    have he : (l.map enc)[k]? = some (enc x) := by rw [List.getElem?_map, hx]; rfl
    have hne : l.map enc ≠ [] := by intro h0; rw [List.map_eq_nil_iff] at h0; subst h0; simp at hkl
    obtain ⟨b, o, cs, T, fr, hq, hb, hcs⟩ := hr.got hne
    refine .q (LD.move rfl) rfl rfl ?_
    refine .q (LD.assign rfl) rfl rfl ?_
    refine TL.nilS ?_
    refine TC.seq ?_
    refine TC.region ?_
    refine .q (LD.move rfl) rfl rfl ?_
    refine .q (LD.move rfl) rfl rfl ?_
    refine .q (LD.move rfl) rfl rfl ?_
    refine .q (LD.indexAddr rfl rfl (by first | rfl | assumption) (by omega)) rfl rfl ?_
    refine .q (LD.elA (j := k) rfl m0 hb hcs hr.len he) rfl rfl ?_
    refine TL.cl (CL.clos rfl rfl) (hf x hem) (List.perm_middle (a := r) (l₁ := pre) (l₂ := F)).symm (Wants.un rfl) rfl ?_
    rintro _ L2 ⟨rfl, h0⟩
    rw [h0]
    refine TL.perm List.perm_middle ?_
    refine TL.nilS ?_
    refine TC.cond rfl (fun g2 => ?_) (fun g2 => ?_)
    · have h2 := g2
      try simp at h2
      refine TC.seq ?_
      refine TC.region ?_
      refine .q (LD.move rfl) rfl rfl ?_
      refine .q (LD.assign rfl) rfl rfl ?_
      refine TL.nilS ?_
      refine TC.ret ?_
      repeat first | refine Post.sr ?_ | refine Post.br ?_
      exact Out.intro (X := []) (L' := r :: pre) (Res.t rfl Res.z) ⟨by rw [findIdx_some hx h2 hk.2]; rfl, rfl⟩ (.refl _)
    · have h2 := g2
      try simp at h2
      refine TC.skip ?_
      refine TC.region ?_
      have hno : ∀ j, j < k + 1 → ∀ x, l[j]? = some x → p x = false := fun j hj e' he' => by
        rcases Nat.lt_or_ge j k with h | h
        · exact hk.2 j h _ he'
        · have : j = k := by omega
          subst this; rw [hx] at he'; cases he'; simpa using h2
      refine .q (LD.add rfl rfl (by omega)) rfl rfl ?_
      refine .q (LD.move rfl) rfl rfl ?_
      refine TL.nil ?_
      exact ⟨k + 1, ⟨by omega, hno⟩, by omega, ⟨rfl, rfl, rfl, rfl, trivial⟩, [], .refl _⟩
  · have h1 := g1
    try simp at h1
    refine TC.exit ?_
    refine TC.seq ?_
    refine TC.region ?_
    refine .q (LD.assign rfl) rfl rfl ?_
    refine TL.nilS ?_
    refine TC.ret ?_
    repeat first | refine Post.sr ?_ | refine Post.br ?_
    exact Out.intro (X := []) (L' := r :: pre) (Res.t rfl Res.z) ⟨by rw [findIdx_none (fun j x hx => hk.2 j (by have := (List.getElem?_eq_some_iff.1 hx).1; omega) x hx)]; rfl, rfl⟩ (.refl _)
theorem w_IndexQ {α : Type} (l : List α) (enc : α → List Value) (q : Option Addr) (cap : Nat) (r : Frag) (hr : Rd r q 17 (l.map enc)) (f : Nat) [FnAt Tryz.prog f] (first caps : List Value) (pre : List Frag) (p : α → Bool) (hlen : l.length < 9223372036854775807)
    (hf : ∀ x ∈ l, Fn Tryz.prog f (first ++ [.agg (enc x).toArray] ++ caps) pre (fun v L' => v = .bool (p x) ∧ L' = pre)) :
    Fn Tryz.prog 217 [.slice q l.length cap, .func (.func f) first.toArray caps.toArray] (r :: pre) (fun v L' => v = i (idxOf (l.findIdx? p)) ∧ L' = r :: pre) := by
  refine Fn.body Tryz.func217 rfl rfl rfl (Nat.le_of_ble_eq_true rfl) fun F => ?_
  refine TC.seq ?_
  refine TC.region ?_
  refine .q (LD.assign rfl) rfl rfl ?_
  refine TL.nilS ?_
  refine TC.seq ?_
  refine TC.seq ?_
  refine TC.region ?_
  refine .q (LD.move rfl) rfl rfl ?_
  refine .q (LD.lenS rfl rfl Tryz.underlying117) rfl rfl ?_
  refine .q (LD.move rfl) rfl rfl ?_
  refine TL.nilS ?_
  refine TC.block ?_
  refine TC.loopd (α := Nat) (fun k => [(0, .slice q l.length cap), (1, .func (.func f) first.toArray caps.toArray), (7, i (l.length : Int)), (8, i (k : Int))]) (fun k => r :: (pre ++ F)) (fun k => k ≤ l.length ∧ ∀ j, j < k → ∀ x, l[j]? = some x → p x = false) (fun k => l.length - k) 0 ⟨by omega, fun j hj => by omega⟩ ⟨rfl, rfl, rfl, rfl, trivial⟩ ⟨[], .refl _⟩ (fun k hk => ?_)
  refine TC.seq ?_
  refine TC.region ?_
  refine .q (LD.lss rfl rfl) rfl rfl ?_
  refine TL.nilS ?_
  refine TC.seq ?_
  refine TC.cond rfl (fun g1 => ?_) (fun g1 => ?_)
  · have h1 := g1
    try simp at h1
    refine TC.skipS ?_
    refine TC.seq ?_
    refine TC.block ?_
    refine TC.seq ?_
    refine TC.region ?_
    have hkl : k < l.length := by omega
    obtain ⟨x, hx⟩ : ∃ x, l[k]? = some x := ⟨_, List.getElem?_eq_getElem hkl⟩
    have hem := List.mem_of_getElem? hx
    have he : (l.map enc)[k]? = some (enc x) := by rw [List.getElem?_map, hx]; rfl
    have hne : l.map enc ≠ [] := by intro h0; rw [List.map_eq_nil_iff] at h0; subst h0; simp at hkl
    obtain ⟨b, o, cs, T, fr, hq, hb, hcs⟩ := hr.got hne
    refine .q (LD.move rfl) rfl rfl ?_
    refine .q (LD.assign rfl) rfl rfl ?_
    refine TL.nilS ?_
    refine TC.seq ?_
    refine TC.region ?_
    refine .q (LD.move rfl) rfl rfl ?_
    refine .q (LD.move rfl) rfl rfl ?_
    refine .q (LD.move rfl) rfl rfl ?_
    refine .q (LD.indexAddr rfl rfl (by first | rfl | assumption) (by omega)) rfl rfl ?_
    refine .q (LD.elA (j := k) rfl m0 hb hcs hr.len he) rfl rfl ?_
    refine TL.cl (CL.clos rfl rfl) (hf x hem) (List.perm_middle (a := r) (l₁ := pre) (l₂ := F)).symm (Wants.un rfl) rfl ?_
    rintro _ L2 ⟨rfl, h0⟩
    rw [h0]
    refine TL.perm List.perm_middle ?_
    refine TL.nilS ?_
    refine TC.cond rfl (fun g2 => ?_) (fun g2 => ?_)
    · have h2 := g2
      try simp at h2
      refine TC.seq ?_
      refine TC.region ?_
      refine .q (LD.move rfl) rfl rfl ?_
      refine .q (LD.assign rfl) rfl rfl ?_
      refine TL.nilS ?_
      refine TC.ret ?_
      repeat first | refine Post.sr ?_ | refine Post.br ?_
      exact Out.intro (X := []) (L' := r :: pre) (Res.t rfl Res.z) ⟨by rw [findIdx_some hx h2 hk.2]; rfl, rfl⟩ (.refl _)
    · have h2 := g2
      try simp at h2
      refine TC.skip ?_
      refine TC.region ?_
      have hno : ∀ j, j < k + 1 → ∀ x, l[j]? = some x → p x = false := fun j hj e' he' => by
        rcases Nat.lt_or_ge j k with h | h
        · exact hk.2 j h _ he'
        · have : j = k := by omega
          subst this; rw [hx] at he'; cases he'; simpa using h2
      refine .q (LD.add rfl rfl (by omega)) rfl rfl ?_
      refine .q (LD.move rfl) rfl rfl ?_
      refine TL.nil ?_
      exact ⟨k + 1, ⟨by omega, hno⟩, by omega, ⟨rfl, rfl, rfl, rfl, trivial⟩, [], .refl _⟩
  · have h1 := g1
    try simp at h1
    refine TC.exit ?_
    refine TC.seq ?_
    refine TC.region ?_
    refine .q (LD.assign rfl) rfl rfl ?_
    refine TL.nilS ?_
    refine TC.ret ?_
    repeat first | refine Post.sr ?_ | refine Post.br ?_
    exact Out.intro (X := []) (L' := r :: pre) (Res.t rfl Res.z) ⟨by rw [findIdx_none (fun j x hx => hk.2 j (by have := (List.getElem?_eq_some_iff.1 hx).1; omega) x hx)]; rfl, rfl⟩ (.refl _)
theorem w_IndexMiss {α : Type} (l : List α) (enc : α → List Value) (q : Option Addr) (cap : Nat) (r : Frag) (hr : Rd r q 15 (l.map enc)) (f : Nat) [FnAt Tryz.prog f] (first caps : List Value) (pre : List Frag) (p : α → Bool) (hlen : l.length < 9223372036854775807)
    (hf : ∀ x ∈ l, Fn Tryz.prog f (first ++ [.agg (enc x).toArray] ++ caps) pre (fun v L' => v = .bool (p x) ∧ L' = pre)) :
    Fn Tryz.prog 226 [.slice q l.length cap, .func (.func f) first.toArray caps.toArray] (r :: pre) (fun v L' => v = i (idxOf (l.findIdx? p)) ∧ L' = r :: pre) := by
  refine Fn.body Tryz.func226 rfl rfl rfl (Nat.le_of_ble_eq_true rfl) fun F => ?_
  refine TC.seq ?_
  refine TC.region ?_
  refine .q (LD.assign rfl) rfl rfl ?_
  refine TL.nilS ?_
  refine TC.seq ?_
  refine TC.seq ?_
  refine TC.region ?_
  refine .q (LD.move rfl) rfl rfl ?_
  refine .q (LD.lenS rfl rfl Tryz.underlying143) rfl rfl ?_
  refine .q (LD.move rfl) rfl rfl ?_
  refine TL.nilS ?_
  refine TC.block ?_
  refine TC.loopd (α := Nat) (fun k => [(0, .slice q l.length cap), (1, .func (.func f) first.toArray caps.toArray), (7, i (l.length : Int)), (8, i (k : Int))]) (fun k => r :: (pre ++ F)) (fun k => k ≤ l.length ∧ ∀ j, j < k → ∀ x, l[j]? = some x → p x = false) (fun k => l.length - k) 0 ⟨by omega, fun j hj => by omega⟩ ⟨rfl, rfl, rfl, rfl, trivial⟩ ⟨[], .refl _⟩ (fun k hk => ?_)
  refine TC.seq ?_
  refine TC.region ?_
  refine .q (LD.lss rfl rfl) rfl rfl ?_
  refine TL.nilS ?_
  refine TC.seq ?_
  refine TC.cond rfl (fun g1 => ?_) (fun g1 => ?_)
  · have h1 := g1
    try simp at h1
    refine TC.skipS ?_
    refine TC.seq ?_
    refine TC.block ?_
    refine TC.seq ?_
    refine TC.region ?_
    have hkl : k < l.length := by omega
    obtain ⟨x, hx⟩ : ∃ x, l[k]? = some x := ⟨_, List.getElem?_eq_getElem hkl⟩
    have hem := List.mem_of_getElem? hx
    have he : (l.map enc)[k]? = some (enc x) := by rw [List.getElem?_map, hx]; rfl
    have hne : l.map enc ≠ [] := by intro h0; rw [List.map_eq_nil_iff] at h0; subst h0; simp at hkl
    obtain ⟨b, o, cs, T, fr, hq, hb, hcs⟩ := hr.got hne
    refine .q (LD.move rfl) rfl rfl ?_
    refine .q (LD.assign rfl) rfl rfl ?_
    refine TL.nilS ?_
    refine TC.seq ?_
    refine TC.region ?_
    refine .q (LD.move rfl) rfl rfl ?_
    refine .q (LD.move rfl) rfl rfl ?_
    refine .q (LD.move rfl) rfl rfl ?_
    refine .q (LD.indexAddr rfl rfl (by first | rfl | assumption) (by omega)) rfl rfl ?_
    refine .q (LD.elA (j := k) rfl m0 hb hcs hr.len he) rfl rfl ?_
    refine TL.cl (CL.clos rfl rfl) (hf x hem) (List.perm_middle (a := r) (l₁ := pre) (l₂ := F)).symm (Wants.un rfl) rfl ?_
    rintro _ L2 ⟨rfl, h0⟩
    rw [h0]
    refine TL.perm List.perm_middle ?_
    refine TL.nilS ?_
    refine TC.cond rfl (fun g2 => ?_) (fun g2 => ?_)
    · have h2 := g2
      try simp at h2
      refine TC.seq ?_
      refine TC.region ?_
      refine .q (LD.move rfl) rfl rfl ?_
      refine .q (LD.assign rfl) rfl rfl ?_
      refine TL.nilS ?_
      refine TC.ret ?_
      repeat first | refine Post.sr ?_ | refine Post.br ?_
      exact Out.intro (X := []) (L' := r :: pre) (Res.t rfl Res.z) ⟨by rw [findIdx_some hx h2 hk.2]; rfl, rfl⟩ (.refl _)
    · have h2 := g2
      try simp at h2
      refine TC.skip ?_
      refine TC.region ?_
      have hno : ∀ j, j < k + 1 → ∀ x, l[j]? = some x → p x = false := fun j hj e' he' => by
        rcases Nat.lt_or_ge j k with h | h
        · exact hk.2 j h _ he'
        · have : j = k := by omega
          subst this; rw [hx] at he'; cases he'; simpa using h2
      refine .q (LD.add rfl rfl (by omega)) rfl rfl ?_
      refine .q (LD.move rfl) rfl rfl ?_
      refine TL.nil ?_
      exact ⟨k + 1, ⟨by omega, hno⟩, by omega, ⟨rfl, rfl, rfl, rfl, trivial⟩, [], .refl _⟩
  · have h1 := g1
    try simp at h1
    refine TC.exit ?_
    refine TC.seq ?_
    refine TC.region ?_
    refine .q (LD.assign rfl) rfl rfl ?_
    refine TL.nilS ?_
    refine TC.ret ?_
    repeat first | refine Post.sr ?_ | refine Post.br ?_
    exact Out.intro (X := []) (L' := r :: pre) (Res.t rfl Res.z) ⟨by rw [findIdx_none (fun j x hx => hk.2 j (by have := (List.getElem?_eq_some_iff.1 hx).1; omega) x hx)]; rfl, rfl⟩ (.refl _)
theorem w_IndexInt {α : Type} (l : List α) (enc : α → List Value) (q : Option Addr) (cap : Nat) (r : Frag) (hr : Rd r q 1 (l.map enc)) (f : Nat) [FnAt Tryz.prog f] (first caps : List Value) (pre : List Frag) (p : α → Bool) (hlen : l.length < 9223372036854775807)
    (hf : ∀ x ∈ l, Fn Tryz.prog f (first ++ [((enc x).headD undef)] ++ caps) pre (fun v L' => v = .bool (p x) ∧ L' = pre)) :
    Fn Tryz.prog 227 [.slice q l.length cap, .func (.func f) first.toArray caps.toArray] (r :: pre) (fun v L' => v = i (idxOf (l.findIdx? p)) ∧ L' = r :: pre) := by
  refine Fn.body Tryz.func227 rfl rfl rfl (Nat.le_of_ble_eq_true rfl) fun F => ?_
  refine TC.seq ?_
  refine TC.region ?_
  refine .q (LD.assign rfl) rfl rfl ?_
  refine TL.nilS ?_
  refine TC.seq ?_
  refine TC.seq ?_
  refine TC.region ?_
  refine .q (LD.move rfl) rfl rfl ?_
  refine .q (LD.lenS rfl rfl Tryz.underlying121) rfl rfl ?_
  refine .q (LD.move rfl) rfl rfl ?_
  refine TL.nilS ?_
  refine TC.block ?_
  refine TC.loopd (α := Nat) (fun k => [(0, .slice q l.length cap), (1, .func (.func f) first.toArray caps.toArray), (7, i (l.length : Int)), (8, i (k : Int))]) (fun k => r :: (pre ++ F)) (fun k => k ≤ l.length ∧ ∀ j, j < k → ∀ x, l[j]? = some x → p x = false) (fun k => l.length - k) 0 ⟨by omega, fun j hj => by omega⟩ ⟨rfl, rfl, rfl, rfl, trivial⟩ ⟨[], .refl _⟩ (fun k hk => ?_)
  refine TC.seq ?_
  refine TC.region ?_
  refine .q (LD.lss rfl rfl) rfl rfl ?_
  refine TL.nilS ?_
  refine TC.seq ?_
  refine TC.cond rfl (fun g1 => ?_) (fun g1 => ?_)
  · have h1 := g1
    try simp at h1
    refine TC.skipS ?_
    refine TC.seq ?_
    refine TC.block ?_
    refine TC.seq ?_
    refine TC.region ?_
    have hkl : k < l.length := by omega
    obtain ⟨x, hx⟩ : ∃ x, l[k]? = some x := ⟨_, List.getElem?_eq_getElem hkl⟩
    have hem := List.mem_of_getElem? hx
    have he : (l.map enc)[k]? = some (enc x) := by rw [List.getElem?_map, hx]; rfl
    have hne : l.map enc ≠ [] := by intro h0; rw [List.map_eq_nil_iff] at h0; subst h0; simp at hkl
    obtain ⟨b, o, cs, T, fr, hq, hb, hcs⟩ := hr.got hne
    refine .q (LD.move rfl) rfl rfl ?_
    refine .q (LD.assign rfl) rfl rfl ?_
    refine TL.nilS ?_
    refine TC.seq ?_
    refine TC.region ?_
    refine .q (LD.move rfl) rfl rfl ?_
    refine .q (LD.move rfl) rfl rfl ?_
    refine .q (LD.move rfl) rfl rfl ?_
    refine .q (LD.indexAddr rfl rfl (by first | rfl | assumption) (by omega)) rfl rfl ?_
    refine .q (LD.el1 (j := k) (f := 0) rfl m0 hb hcs hr.len he (head_get (hr.len _ (List.mem_of_getElem? he)))) rfl rfl ?_
    refine TL.cl (CL.clos rfl rfl) (hf x hem) (List.perm_middle (a := r) (l₁ := pre) (l₂ := F)).symm (Wants.un rfl) rfl ?_
    rintro _ L2 ⟨rfl, h0⟩
    rw [h0]
    refine TL.perm List.perm_middle ?_
    refine TL.nilS ?_
    refine TC.cond rfl (fun g2 => ?_) (fun g2 => ?_)
    · have h2 := g2
      try simp at h2
      refine TC.seq ?_
      refine TC.region ?_
      refine .q (LD.move rfl) rfl rfl ?_
      refine .q (LD.assign rfl) rfl rfl ?_
      refine TL.nilS ?_
      refine TC.ret ?_
      repeat first | refine Post.sr ?_ | refine Post.br ?_
      exact Out.intro (X := []) (L' := r :: pre) (Res.t rfl Res.z) ⟨by rw [findIdx_some hx h2 hk.2]; rfl, rfl⟩ (.refl _)
    · have h2 := g2
      try simp at h2
      refine TC.skip ?_
      refine TC.region ?_
      have hno : ∀ j, j < k + 1 → ∀ x, l[j]? = some x → p x = false := fun j hj e' he' => by
        rcases Nat.lt_or_ge j k with h | h
        · exact hk.2 j h _ he'
        · have : j = k := by omega
          subst this; rw [hx] at he'; cases he'; simpa using h2
      refine .q (LD.add rfl rfl (by omega)) rfl rfl ?_
      refine .q (LD.move rfl) rfl rfl ?_
      refine TL.nil ?_
      exact ⟨k + 1, ⟨by omega, hno⟩, by omega, ⟨rfl, rfl, rfl, rfl, trivial⟩, [], .refl _⟩
  · have h1 := g1
    try simp at h1
    refine TC.exit ?_
    refine TC.seq ?_
    refine TC.region ?_
    refine .q (LD.assign rfl) rfl rfl ?_
    refine TL.nilS ?_
    refine TC.ret ?_
    repeat first | refine Post.sr ?_ | refine Post.br ?_
    exact Out.intro (X := []) (L' := r :: pre) (Res.t rfl Res.z) ⟨by rw [findIdx_none (fun j x hx => hk.2 j (by have := (List.getElem?_eq_some_iff.1 hx).1; omega) x hx)]; rfl, rfl⟩ (.refl _)

theorem any_idx {α : Type} (l : List α) (p : α → Bool) : decide (0 ≤ idxOf (l.findIdx? p)) = l.any p := by
  cases h : l.findIdx? p with
  | none =>
    rw [List.findIdx?_eq_none_iff] at h
    have : l.any p = false := by rw [List.any_eq_false]; intro x hx; simp [h x hx]
    rw [this]; rfl
  | some j =>
    rw [List.findIdx?_eq_some_iff_getElem] at h
    obtain ⟨hj, hp, _⟩ := h
    have : l.any p = true := List.any_eq_true.2 ⟨_, List.getElem_mem hj, hp⟩
    rw [this]; simp [idxOf]

theorem w_ContInt {α : Type} (l : List α) (enc : α → List Value) (q : Option Addr) (cap : Nat) (r : Frag) (hr : Rd r q 1 (l.map enc)) (f : Nat) [FnAt Tryz.prog f] (first caps : List Value) (pre : List Frag) (p : α → Bool) (hlen : l.length < 9223372036854775807)
    (hf : ∀ x ∈ l, Fn Tryz.prog f (first ++ [((enc x).headD undef)] ++ caps) pre (fun v L' => v = .bool (p x) ∧ L' = pre)) :
    Fn Tryz.prog 198 [.slice q l.length cap, .func (.func f) first.toArray caps.toArray] (r :: pre) (fun v L' => v = .bool (l.any p) ∧ L' = r :: pre) := by
  refine Fn.body Tryz.func198 rfl rfl rfl (Nat.le_of_ble_eq_true rfl) fun F => ?_
  refine TC.seq ?_
  refine TC.region ?_
  refine .q (LD.assign rfl) rfl rfl ?_
  refine TL.nilS ?_
  refine TC.seq ?_
  refine TC.region ?_
  refine .q (LD.move rfl) rfl rfl ?_
  refine .q (LD.move rfl) rfl rfl ?_
  refine TL.cl (CL.func rfl) (w_IndexInt l enc q cap r hr f first caps pre p hlen hf) (.refl _) (Wants.un rfl) rfl ?_
  rintro _ L2 ⟨rfl, h0⟩
  rw [h0]
  refine .q (LD.geq rfl rfl) rfl rfl ?_
  refine .q (LD.assign rfl) rfl rfl ?_
  refine TL.nilS ?_
  refine TC.ret ?_
  repeat first | refine Post.sr ?_ | refine Post.br ?_
  exact Out.intro (X := []) (L' := r :: pre) (Res.t rfl Res.z) ⟨by rw [← any_idx l p]; rfl, rfl⟩ (.refl _)
theorem w_ContQ {α : Type} (l : List α) (enc : α → List Value) (q : Option Addr) (cap : Nat) (r : Frag) (hr : Rd r q 17 (l.map enc)) (f : Nat) [FnAt Tryz.prog f] (first caps : List Value) (pre : List Frag) (p : α → Bool) (hlen : l.length < 9223372036854775807)
    (hf : ∀ x ∈ l, Fn Tryz.prog f (first ++ [.agg (enc x).toArray] ++ caps) pre (fun v L' => v = .bool (p x) ∧ L' = pre)) :
    Fn Tryz.prog 211 [.slice q l.length cap, .func (.func f) first.toArray caps.toArray] (r :: pre) (fun v L' => v = .bool (l.any p) ∧ L' = r :: pre) := by
  refine Fn.body Tryz.func211 rfl rfl rfl (Nat.le_of_ble_eq_true rfl) fun F => ?_
  refine TC.seq ?_
  refine TC.region ?_
  refine .q (LD.assign rfl) rfl rfl ?_
  refine TL.nilS ?_
  refine TC.seq ?_
  refine TC.region ?_
  refine .q (LD.move rfl) rfl rfl ?_
  refine .q (LD.move rfl) rfl rfl ?_
  refine TL.cl (CL.func rfl) (w_IndexQ l enc q cap r hr f first caps pre p hlen hf) (.refl _) (Wants.un rfl) rfl ?_
  rintro _ L2 ⟨rfl, h0⟩
  rw [h0]
  refine .q (LD.geq rfl rfl) rfl rfl ?_
  refine .q (LD.assign rfl) rfl rfl ?_
  refine TL.nilS ?_
  refine TC.ret ?_
  repeat first | refine Post.sr ?_ | refine Post.br ?_
  exact Out.intro (X := []) (L' := r :: pre) (Res.t rfl Res.z) ⟨by rw [← any_idx l p]; rfl, rfl⟩ (.refl _)
end Go.SL.TryzI
