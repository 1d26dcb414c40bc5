/- A part of proofs about the given program. No condition. -/
import Derived.Test.YtcgfdjijodlopaaGreatSLTryz
import Derived.Test.YtcgfdjijodlopaaGreatEb
import Derived.Test.YtcgfdjijodlopaaGreatPa
set_option linter.all false
/- shape: walks. -/
namespace Go.SL.TryzI
open Go Go.Proofs Go.SL
set_option maxRecDepth 100000
abbrev i (x : Int) : Value := .int .i64 x
def R64 (x : Int) : Prop := -9223372036854775808 ≤ x ∧ x ≤ 9223372036854775807
def PowAns (x k : Int) (b : Bool) : Prop := (b = true ∧ ∃ m : Nat, x = 2 ^ m ∧ k = m) ∨ (b = false ∧ k = 0 ∧ ∀ m : Nat, x ≠ 2 ^ m)
theorem pow_pos (m : Nat) : (1 : Int) ≤ 2 ^ m := Int.pow_pos (by omega)
theorem noPow {x : Int} (h : x < 1) : PowAns x 0 false := .inr ⟨rfl, rfl, fun m e => by have := pow_pos m; omega⟩
theorem pow_toNat (m : Nat) : ((2 : Int) ^ m).toNat = 2 ^ m := by
  have e : ((2 : Int) ^ m) = ((2 ^ m : Nat) : Int) := by simp
  rw [e]; simp only [Int.toNat_natCast]
theorem noPow2 {x : Int} (h : 1 ≤ x) (h2 : ¬ ((x.toNat &&& (x - 1).toNat : Nat) : Int) = 0) : PowAns x 0 false := .inr ⟨rfl, rfl, fun m e => h2 (by
  have e1 : (x - 1).toNat = x.toNat - 1 := by omega
  rw [e1]
  have := (pow_and x.toNat (by omega)).2 ⟨m, by rw [e]; exact pow_toNat m⟩
  omega)⟩
theorem isPow2 {x : Int} (h : 1 ≤ x) (h2 : ((x.toNat &&& (x - 1).toNat : Nat) : Int) = 0) : ∃ m : Nat, x = 2 ^ m := by
  have e1 : (x - 1).toNat = x.toNat - 1 := by omega
  rw [e1] at h2
  obtain ⟨m, hm⟩ := (pow_and x.toNat (by omega)).1 (by omega)
  exact ⟨m, by have : x = (x.toNat : Int) := by omega
               rw [this, hm]; simp⟩
theorem shr_step {m k : Nat} (h : k ≤ m) : (2 : Int) ^ m / 2 ^ k = 2 ^ (m - k) := by
  have : (2 : Int) ^ m = 2 ^ (m - k) * 2 ^ k := by rw [← Int.pow_add]; congr 1; omega
  rw [this, Int.mul_ediv_cancel]
  have := pow_pos k; omega
theorem lt_of_shr {m k : Nat} (h : k ≤ m) (h1 : 1 < (2 : Int) ^ m / 2 ^ k) : k < m := by
  rcases Nat.lt_or_ge k m with h2 | h2
  · exact h2
  · have : k = m := by omega
    subst this
    rw [shr_step (Nat.le_refl _), Nat.sub_self] at h1; omega
theorem eq_of_shr {m k : Nat} (h : k ≤ m) (h1 : (2 : Int) ^ m / 2 ^ k ≤ 1) : k = m := by
  rcases Nat.lt_or_ge k m with h2 | h2
  · exfalso
    rw [shr_step h] at h1
    obtain ⟨j, hj⟩ : ∃ j, m - k = j + 1 := ⟨m - k - 1, by omega⟩
    rw [hj, Int.pow_succ] at h1
    have := pow_pos j; omega
  · omega
theorem lt_of_pow {m : Nat} (h : (2 : Int) ^ m ≤ 9223372036854775807) : m ≤ 62 := by
  rcases Nat.lt_or_ge m 63 with h1 | h1
  · omega
  · exfalso
    have : (2 : Int) ^ 63 ≤ 2 ^ m := by exact_mod_cast Nat.pow_le_pow_right (by omega) h1
    omega

theorem w_Power (x : Int) (hx : R64 x) : FnP Tryz.prog 144 [i x] (fun v => ∃ k b, v = .tuple #[i k, .bool b] ∧ PowAns x k b) := by
  unfold R64 at hx
  refine Fn.body Tryz.func144 rfl rfl rfl (Nat.le_of_ble_eq_true rfl) fun F => ?_
  refine TC.seq ?_
  refine TC.region ?_
  refine .q (LD.assign rfl) rfl rfl ?_
  refine .q (LD.assign rfl) rfl rfl ?_
  refine TL.nilS ?_
  refine TC.seq ?_
  refine TC.seq ?_
  refine TC.region ?_
  refine .q (LD.move rfl) rfl rfl ?_
  refine .q (LD.lss rfl rfl) rfl rfl ?_
  refine .q (LD.move rfl) rfl rfl ?_
  refine TL.split rfl rfl rfl rfl (fun g1 => ?_) (fun g1 => ?_)
  · have h1 := g1
    try simp at h1
    refine .y (LD.move rfl) g1 rfl rfl rfl rfl ?_
    refine .y (LD.move rfl) g1 rfl rfl rfl rfl ?_
    refine .y (LD.sub rfl rfl (by omega)) g1 rfl rfl rfl rfl ?_
    refine .y (LD.and rfl rfl (by omega) (by omega)) g1 rfl rfl rfl rfl ?_
    refine .y (LD.neq rfl rfl) g1 rfl rfl rfl rfl ?_
    refine .q (LD.pickF rfl g1 rfl) rfl rfl ?_
    refine TL.nilS ?_
    refine TC.cond rfl (fun g2 => ?_) (fun g2 => ?_)
    · have h2 := g2
      try simp at h2
      refine TC.seq ?_
      refine TC.region ?_
      refine .q (LD.assign rfl) rfl rfl ?_
      refine .q (LD.assign rfl) rfl rfl ?_
      refine TL.nilS ?_
      refine TC.ret ?_
      repeat first | refine Post.sr ?_ | refine Post.br ?_
      exact Out.intro (X := []) (L' := []) (Res.t rfl (Res.t rfl Res.z)) ⟨⟨0, false, rfl, noPow2 (by omega) (by simpa using h2)⟩, rfl⟩ (.refl _)
    · have h2 := g2
      try simp at h2
      refine TC.skipS ?_
      refine TC.seq ?_
      refine TC.region ?_
      obtain ⟨m, rfl⟩ := isPow2 (x := x) (by omega) (by simpa using h2)
      have hm := lt_of_pow hx.2
      have hp := pow_pos m
      refine .q (LD.assign rfl) rfl rfl ?_
      refine TL.nilS ?_
      refine TC.seq ?_
      refine TC.block ?_
      refine TC.loopd (α := Nat) (fun k => [(0, i (2 ^ m)), (4, i (k : Int))]) (fun _ => _) (fun k => k ≤ m) (fun k => m - k) 0 (by omega) ⟨rfl, rfl, trivial⟩ ⟨[], .refl _⟩ (fun k hk => ?_)
      refine TC.seq ?_
      refine TC.seq ?_
      refine TC.region ?_
      refine .q (LD.move rfl) rfl rfl ?_
      refine .q (LD.move rfl) rfl rfl ?_
      refine .q (LD.shr rfl rfl (by omega)) rfl rfl ?_
      refine .q (LD.gtr rfl rfl) rfl rfl ?_
      refine TL.nilS ?_
      refine TC.cond rfl (fun g3 => ?_) (fun g3 => ?_)
      · have h3 := g3
        try simp at h3
        refine TC.skipS ?_
        refine TC.block ?_
        refine TC.region ?_
        have hk2 := lt_of_shr hk h3
        refine .q (LD.move rfl) rfl rfl ?_
        refine .q (LD.add rfl rfl (by omega)) rfl rfl ?_
        refine .q (LD.assign rfl) rfl rfl ?_
        refine TL.nil ?_
        exact ⟨k + 1, by omega, by omega, ⟨rfl, rfl, trivial⟩, [], .refl _⟩
      · have h3 := g3
        try simp at h3
        refine TC.exit ?_
        refine TC.seq ?_
        refine TC.region ?_
        have hk2 := eq_of_shr hk h3
        refine .q (LD.move rfl) rfl rfl ?_
        refine .q (LD.assign rfl) rfl rfl ?_
        refine .q (LD.assign rfl) rfl rfl ?_
        refine TL.nilS ?_
        refine TC.ret ?_
        repeat first | refine Post.sr ?_ | refine Post.br ?_
        exact Out.intro (X := []) (L' := []) (Res.t rfl (Res.t rfl Res.z)) ⟨⟨_, true, rfl, .inl ⟨rfl, m, rfl, by omega⟩⟩, rfl⟩ (.refl _)
  · have h1 := g1
    try simp at h1
    refine .s g1 rfl rfl rfl rfl ?_
    refine .s g1 rfl rfl rfl rfl ?_
    refine .s g1 rfl rfl rfl rfl ?_
    refine .s g1 rfl rfl rfl rfl ?_
    refine .q (LD.pickT rfl g1 rfl) rfl rfl ?_
    refine TL.nilS ?_
    refine TC.condT rfl rfl ?_
    refine TC.seq ?_
    refine TC.region ?_
    refine .q (LD.assign rfl) rfl rfl ?_
    refine .q (LD.assign rfl) rfl rfl ?_
    refine TL.nilS ?_
    refine TC.ret ?_
    repeat first | refine Post.sr ?_ | refine Post.br ?_
    exact Out.intro (X := []) (L' := []) (Res.t rfl (Res.t rfl Res.z)) ⟨⟨0, false, rfl, noPow (by omega)⟩, rfl⟩ (.refl _)
open Classical in
noncomputable def bfits (n lo hi : Int) (p : Bool) : Bool := decide (lo ≤ n ∧ n ≤ hi ∧ (p = true → ∃ m : Nat, n = 2 ^ m))
theorem bf_no {n lo hi k : Int} (h : PowAns n k false) : bfits n lo hi true = false := by
  rcases h with ⟨h, _⟩ | ⟨_, _, h⟩
  · cases h
  · simp only [bfits, decide_eq_false_iff_not]; rintro ⟨_, _, h3⟩
    obtain ⟨m, hm⟩ := h3 trivial
    exact h m hm
theorem bf_yes {n lo hi k : Int} (h : PowAns n k true) (h1 : lo ≤ n) : bfits n lo hi true = decide (n ≤ hi) := by
  rcases h with ⟨_, m, h, _⟩ | ⟨h, _⟩
  · simp only [bfits]; by_cases h2 : n ≤ hi
    · simp [h1, h2]; exact ⟨m, h⟩
    · simp [h2]
  · cases h
theorem bf_low {n lo hi : Int} {p : Bool} (h1 : n < lo) : bfits n lo hi p = false := by
  have : ¬ lo ≤ n := by omega
  simp [bfits, this]
theorem bf_plain {n lo hi : Int} (h1 : lo ≤ n) : bfits n lo hi false = decide (n ≤ hi) := by
  simp [bfits, h1]
theorem w_fits (n lo hi : Int) (p : Bool) (hn : R64 n) : FnP Tryz.prog 61 [.agg #[i n, i lo, i hi, .bool p]] (fun v => v = .bool (bfits n lo hi p)) := by
  refine Fn.body Tryz.func61 rfl rfl rfl (Nat.le_of_ble_eq_true rfl) fun F => ?_
  refine TC.seq ?_
  refine TC.region ?_
  refine TL.nb (NB.boxA rfl) (Wants.un rfl) rfl (fun b1 => ?_)
  refine .q (LD.assign rfl) rfl rfl ?_
  refine TL.nilS ?_
  refine TC.seq ?_
  refine TC.seq ?_
  refine TC.region ?_
  refine .q (LD.fieldAddr rfl) rfl rfl ?_
  refine .q (LD.ld1 rfl m0 rfl) rfl rfl ?_
  refine TL.nilS ?_
  refine TC.cond rfl (fun g1 => ?_) (fun g1 => ?_)
  · have h1 := g1
    try simp at h1
    refine TC.seq ?_
    refine TC.region ?_
    refine .q (LD.fieldAddr rfl) rfl rfl ?_
    refine .q (LD.ld1 rfl m0 rfl) rfl rfl ?_
    refine TL.cp (CL.func rfl) (w_Power _ (by assumption)) (Wants.un rfl) rfl ?_
    rintro _ ⟨k, b, rfl, hb⟩
    refine .q (LD.move rfl) rfl rfl ?_
    refine .q (LD.ex rfl rfl) rfl rfl ?_
    refine .q (LD.ex rfl rfl) rfl rfl ?_
    refine .q (LD.assign rfl) rfl rfl ?_
    refine .q (LD.assign rfl) rfl rfl ?_
    refine TL.nilS ?_
    refine TC.seq ?_
    refine TC.region ?_
    refine .q (LD.move rfl) rfl rfl ?_
    refine .q (LD.not rfl) rfl rfl ?_
    refine TL.nilS ?_
    refine TC.cond rfl (fun g2 => ?_) (fun g2 => ?_)
    · have h2 := g2
      try simp at h2
      refine TC.seq ?_
      refine TC.region ?_
      refine .q (LD.assign rfl) rfl rfl ?_
      refine TL.nilS ?_
      refine TC.ret ?_
      repeat first | refine Post.sr ?_ | refine Post.br ?_
      subst g1; subst h2
      exact Out.intro (X := [_]) (L' := []) (Res.t rfl Res.z) ⟨congrArg Value.bool (bf_no hb).symm, rfl⟩ (.refl _)
    · have h2 := g2
      try simp at h2
      refine TC.skipS ?_
      refine TC.seq ?_
      refine TC.region ?_
      refine .q (LD.fieldAddr rfl) rfl rfl ?_
      refine .q (LD.ld1 rfl m0 rfl) rfl rfl ?_
      refine .q (LD.fieldAddr rfl) rfl rfl ?_
      refine .q (LD.ld1 rfl m0 rfl) rfl rfl ?_
      refine .q (LD.geq rfl rfl) rfl rfl ?_
      refine .q (LD.move rfl) rfl rfl ?_
      refine TL.split rfl rfl rfl rfl (fun g3 => ?_) (fun g3 => ?_)
      · have h3 := g3
        try simp at h3
        refine .y (LD.fieldAddr rfl) g3 rfl rfl rfl rfl ?_
        refine .y (LD.ld1 rfl m0 rfl) g3 rfl rfl rfl rfl ?_
        refine .y (LD.fieldAddr rfl) g3 rfl rfl rfl rfl ?_
        refine .y (LD.ld1 rfl m0 rfl) g3 rfl rfl rfl rfl ?_
        refine .y (LD.leq rfl rfl) g3 rfl rfl rfl rfl ?_
        refine .q (LD.pickT rfl g3 rfl) rfl rfl ?_
        refine .q (LD.assign rfl) rfl rfl ?_
        refine TL.nilS ?_
        refine TC.ret ?_
        repeat first | refine Post.sr ?_ | refine Post.br ?_
        subst g1; subst h2
        exact Out.intro (X := [_]) (L' := []) (Res.t rfl Res.z) ⟨congrArg Value.bool (bf_yes hb h3).symm, rfl⟩ (.refl _)
      · have h3 := g3
        try simp at h3
        refine .s g3 rfl rfl rfl rfl ?_
        refine .s g3 rfl rfl rfl rfl ?_
        refine .s g3 rfl rfl rfl rfl ?_
        refine .s g3 rfl rfl rfl rfl ?_
        refine .q (LD.pickF rfl g3 rfl) rfl rfl ?_
        refine .q (LD.assign rfl) rfl rfl ?_
        refine TL.nilS ?_
        refine TC.ret ?_
        repeat first | refine Post.sr ?_ | refine Post.br ?_
        subst g1; subst h2
        exact Out.intro (X := [_]) (L' := []) (Res.t rfl Res.z) ⟨congrArg Value.bool (bf_low h3).symm, rfl⟩ (.refl _)
  · have h1 := g1
    try simp at h1
    refine TC.skipS ?_
    refine TC.seq ?_
    refine TC.region ?_
    refine .q (LD.fieldAddr rfl) rfl rfl ?_
    refine .q (LD.ld1 rfl m0 rfl) rfl rfl ?_
    refine .q (LD.fieldAddr rfl) rfl rfl ?_
    refine .q (LD.ld1 rfl m0 rfl) rfl rfl ?_
    refine .q (LD.geq rfl rfl) rfl rfl ?_
    refine .q (LD.move rfl) rfl rfl ?_
    refine TL.split rfl rfl rfl rfl (fun g4 => ?_) (fun g4 => ?_)
    · have h4 := g4
      try simp at h4
      refine .y (LD.fieldAddr rfl) g4 rfl rfl rfl rfl ?_
      refine .y (LD.ld1 rfl m0 rfl) g4 rfl rfl rfl rfl ?_
      refine .y (LD.fieldAddr rfl) g4 rfl rfl rfl rfl ?_
      refine .y (LD.ld1 rfl m0 rfl) g4 rfl rfl rfl rfl ?_
      refine .y (LD.leq rfl rfl) g4 rfl rfl rfl rfl ?_
      refine .q (LD.pickT rfl g4 rfl) rfl rfl ?_
      refine .q (LD.assign rfl) rfl rfl ?_
      refine TL.nilS ?_
      refine TC.ret ?_
      repeat first | refine Post.sr ?_ | refine Post.br ?_
      subst g1
      exact Out.intro (X := [_]) (L' := []) (Res.t rfl Res.z) ⟨congrArg Value.bool (bf_plain h4).symm, rfl⟩ (.refl _)
    · have h4 := g4
      try simp at h4
      refine .s g4 rfl rfl rfl rfl ?_
      refine .s g4 rfl rfl rfl rfl ?_
      refine .s g4 rfl rfl rfl rfl ?_
      refine .s g4 rfl rfl rfl rfl ?_
      refine .q (LD.pickF rfl g4 rfl) rfl rfl ?_
      refine .q (LD.assign rfl) rfl rfl ?_
      refine TL.nilS ?_
      refine TC.ret ?_
      repeat first | refine Post.sr ?_ | refine Post.br ?_
      subst g1
      exact Out.intro (X := [_]) (L' := []) (Res.t rfl Res.z) ⟨congrArg Value.bool (bf_low h4).symm, rfl⟩ (.refl _)
open Mes in
def encC (c : Cfg) : Array Value := #[i c.cores, i c.homes, i c.sets, i c.ways, i c.words, i c.lines, i c.pointers, i c.mshrs, i c.buffer, i c.writebacks, i c.r0, i c.r1, i c.r2]
open Mes in
def CfgR (c : Cfg) : Prop := R64 c.cores ∧ R64 c.homes ∧ R64 c.sets ∧ R64 c.ways ∧ R64 c.words ∧ R64 c.lines ∧ R64 c.pointers ∧ R64 c.mshrs ∧ R64 c.buffer ∧ R64 c.writebacks ∧ R64 c.r0 ∧ R64 c.r1 ∧ R64 c.r2
open Mes in
def bnd (c : Cfg) : List (Int × Int × Int × Bool) := [(c.cores, 1, 64, false), (c.homes, 1, 16, true), (c.sets, 1, 64, true), (c.words, 1, 8, true), (c.lines, 1, 1024, true), (c.ways, 1, 8, false), (c.pointers, 0, 8, false), (c.mshrs, 1, 8, false), (c.buffer, 1, 16, false), (c.writebacks, 1, 8, false), (c.r0, 1, 64, false), (c.r1, 1, 64, false), (c.r2, 1, 64, false)]
def bcells (l : List (Int × Int × Int × Bool)) : List Value := l.flatMap fun (n, lo, hi, p) => [i n, i lo, i hi, .bool p]
open Mes in
theorem bnd_get (c : Cfg) {k : Nat} (h : k < 13) : ∃ n lo hi p, (bnd c)[k]? = some (n, lo, hi, p) ∧ ((bcells (bnd c)).toArray).extract (k * 4) (k * 4 + 4) = #[i n, i lo, i hi, .bool p] := by
  rcases k with _ | _ | _ | _ | _ | _ | _ | _ | _ | _ | _ | _ | _ | k <;> first | exact ⟨_, _, _, _, rfl, rfl⟩ | omega
open Mes in
theorem bnd_R {c : Cfg} (h : CfgR c) {k : Nat} {n lo hi : Int} {p : Bool} (hk : (bnd c)[k]? = some (n, lo, hi, p)) : R64 n := by
  have hm := List.mem_of_getElem? hk
  obtain ⟨h1, h2, h3, h4, h5, h6, h7, h8, h9, h10, h11, h12, h13⟩ := h
  simp only [bnd, List.mem_cons, Prod.mk.injEq, List.not_mem_nil, or_false] at hm
  rcases hm with ⟨rfl, _⟩ | ⟨rfl, _⟩ | ⟨rfl, _⟩ | ⟨rfl, _⟩ | ⟨rfl, _⟩ | ⟨rfl, _⟩ | ⟨rfl, _⟩ | ⟨rfl, _⟩ | ⟨rfl, _⟩ | ⟨rfl, _⟩ | ⟨rfl, _⟩ | ⟨rfl, _⟩ | ⟨rfl, _⟩ <;> assumption
open Mes in
theorem isPow_iff {n m : Int} (h : m = 8 ∨ m = 16 ∨ m = 64 ∨ m = 1024) : isPow n m = bfits n 1 m true := by
  unfold isPow bfits
  by_cases hn : n ≤ m
  · simp only [hn, decide_true, Bool.and_true]
    rw [Bool.eq_iff_iff]
    simp only [List.contains_iff_mem, decide_eq_true_eq]
    constructor
    · intro hm
      simp only [pows, List.mem_cons, List.not_mem_nil, or_false] at hm
      rcases hm with rfl | rfl | rfl | rfl | rfl | rfl | rfl | rfl | rfl | rfl | rfl <;> refine ⟨by omega, by omega, fun _ => ?_⟩ <;> first | exact ⟨0, rfl⟩ | exact ⟨1, rfl⟩ | exact ⟨2, rfl⟩ | exact ⟨3, rfl⟩ | exact ⟨4, rfl⟩ | exact ⟨5, rfl⟩ | exact ⟨6, rfl⟩ | exact ⟨7, rfl⟩ | exact ⟨8, rfl⟩ | exact ⟨9, rfl⟩ | exact ⟨10, rfl⟩
    · rintro ⟨_, _, hj⟩
      obtain ⟨j, hj⟩ := hj trivial
      have hj10 : j ≤ 10 := by
        rcases Nat.lt_or_ge 10 j with h1 | h1
        · exfalso
          have : (2 : Int) ^ 11 ≤ 2 ^ j := by exact_mod_cast Nat.pow_le_pow_right (by omega) h1
          omega
        · exact h1
      subst hj
      rcases j with _ | _ | _ | _ | _ | _ | _ | _ | _ | _ | _ | j <;> first | (exact by decide) | omega
  · simp [hn]
open Mes in
theorem inC_iff {n lo hi : Int} : inC n lo hi = bfits n lo hi false := by
  unfold inC bfits; rw [Bool.eq_iff_iff]; simp
open Mes in
theorem ok_iff (c : Cfg) : c.ok = (bnd c).all (fun (n, lo, hi, p) => bfits n lo hi p) := by
  simp only [Cfg.ok, isPow_iff (m := 16) (by omega), isPow_iff (m := 64) (by omega), isPow_iff (m := 8) (by omega), isPow_iff (m := 1024) (by omega), inC_iff, bnd, List.all_cons, List.all_nil, Bool.and_true, Bool.and_assoc]
open Mes in
theorem ok_of_all {c : Cfg} (h : ∀ j, j < 13 → ∀ n lo hi p, (bnd c)[j]? = some (n, lo, hi, p) → bfits n lo hi p = true) : c.ok = true := by
  rw [ok_iff, List.all_eq_true]
  rintro ⟨n, lo, hi, p⟩ hm
  obtain ⟨j, hj⟩ := List.mem_iff_getElem?.1 hm
  exact h j (List.getElem?_eq_some_iff.1 hj).1 _ _ _ _ hj
open Mes in
theorem no_of {c : Cfg} {k : Nat} {n lo hi : Int} {p : Bool} (hb : (bnd c)[k]? = some (n, lo, hi, p)) (h : bfits n lo hi p = false) : c.ok = false := by
  rw [ok_iff, List.all_eq_false]
  exact ⟨_, List.mem_of_getElem? hb, by simp [h]⟩
open Mes in
def errOf (b : Bool) : Int := bif b then 0 else 1
@[simp] theorem errOf_eq (b : Bool) : errOf b = 0 ↔ b = true := by cases b <;> simp [errOf]

open Mes in
theorem w_Check (c : Cfg) (hc : CfgR c) : FnP Tryz.prog 19 [.agg (encC c)] (fun v => v = i (errOf c.ok)) := by
  refine Fn.body Tryz.func19 rfl rfl rfl (Nat.le_of_ble_eq_true rfl) fun F => ?_
  refine TC.seq ?_
  refine TC.region ?_
  refine TL.nb (NB.boxA rfl) (Wants.un rfl) rfl (fun b1 => ?_)
  refine .q (LD.assign rfl) rfl rfl ?_
  refine TL.nilS ?_
  refine TC.seq ?_
  refine TC.region ?_
  refine .q (LD.fieldAddr rfl) rfl rfl ?_
  refine .q (LD.ld1 rfl m0 rfl) rfl rfl ?_
  refine .q (LD.bS rfl rfl (by repeat constructor)) rfl rfl ?_
  refine .q (LD.fieldAddr rfl) rfl rfl ?_
  refine .q (LD.ld1 rfl m0 rfl) rfl rfl ?_
  refine .q (LD.bS rfl rfl (by repeat constructor)) rfl rfl ?_
  refine .q (LD.fieldAddr rfl) rfl rfl ?_
  refine .q (LD.ld1 rfl m0 rfl) rfl rfl ?_
  refine .q (LD.bS rfl rfl (by repeat constructor)) rfl rfl ?_
  refine .q (LD.fieldAddr rfl) rfl rfl ?_
  refine .q (LD.ld1 rfl m0 rfl) rfl rfl ?_
  refine .q (LD.bS rfl rfl (by repeat constructor)) rfl rfl ?_
  refine .q (LD.fieldAddr rfl) rfl rfl ?_
  refine .q (LD.ld1 rfl m0 rfl) rfl rfl ?_
  refine .q (LD.bS rfl rfl (by repeat constructor)) rfl rfl ?_
  refine .q (LD.fieldAddr rfl) rfl rfl ?_
  refine .q (LD.ld1 rfl m0 rfl) rfl rfl ?_
  refine .q (LD.bS rfl rfl (by repeat constructor)) rfl rfl ?_
  refine .q (LD.fieldAddr rfl) rfl rfl ?_
  refine .q (LD.ld1 rfl m0 rfl) rfl rfl ?_
  refine .q (LD.bS rfl rfl (by repeat constructor)) rfl rfl ?_
  refine .q (LD.fieldAddr rfl) rfl rfl ?_
  refine .q (LD.ld1 rfl m0 rfl) rfl rfl ?_
  refine .q (LD.bS rfl rfl (by repeat constructor)) rfl rfl ?_
  refine .q (LD.fieldAddr rfl) rfl rfl ?_
  refine .q (LD.ld1 rfl m0 rfl) rfl rfl ?_
  refine .q (LD.bS rfl rfl (by repeat constructor)) rfl rfl ?_
  refine .q (LD.fieldAddr rfl) rfl rfl ?_
  refine .q (LD.ld1 rfl m0 rfl) rfl rfl ?_
  refine .q (LD.bS rfl rfl (by repeat constructor)) rfl rfl ?_
  refine .q (LD.fieldAddr rfl) rfl rfl ?_
  refine .q (LD.indexAddrA rfl rfl (by omega)) rfl rfl ?_
  refine .q (LD.ld1 rfl m0 rfl) rfl rfl ?_
  refine .q (LD.bS rfl rfl (by repeat constructor)) rfl rfl ?_
  refine .q (LD.fieldAddr rfl) rfl rfl ?_
  refine .q (LD.indexAddrA rfl rfl (by omega)) rfl rfl ?_
  refine .q (LD.ld1 rfl m0 rfl) rfl rfl ?_
  refine .q (LD.bS rfl rfl (by repeat constructor)) rfl rfl ?_
  refine .q (LD.fieldAddr rfl) rfl rfl ?_
  refine .q (LD.indexAddrA rfl rfl (by omega)) rfl rfl ?_
  refine .q (LD.ld1 rfl m0 rfl) rfl rfl ?_
  refine .q (LD.bS rfl rfl (by repeat constructor)) rfl rfl ?_
  refine .q (LD.bA rfl rfl (by repeat constructor)) rfl rfl ?_
  refine TL.nb NB.alloc (Wants.un rfl) rfl (fun b3 => ?_)
  refine .e (EF.stA (i := 0) rfl rfl rfl rfl rfl rfl (by repeat constructor)) rfl rfl ?_
  refine TL.nilS ?_
  refine TC.seq ?_
  refine TC.seq ?_
  refine TC.region ?_
  refine .q (LD.ldA rfl m0 (by repeat constructor) rfl) rfl rfl ?_
  refine .q (LD.move rfl) rfl rfl ?_
  refine TL.nilS ?_
  refine TC.block ?_
  refine TC.loopd (α := Nat) (fun k => [(1, .pointer (some ⟨b1, 0, none⟩)), (49, .agg (bcells (bnd c)).toArray), (50, i (k : Int))]) (fun k => F) (fun k => k ≤ 13 ∧ ∀ j, j < k → ∀ n lo hi p, (bnd c)[j]? = some (n, lo, hi, p) → bfits n lo hi p = true) (fun k => 13 - k) 0 ⟨by omega, fun j hj => by omega⟩ ⟨rfl, rfl, rfl, trivial⟩ ⟨[_, _], .refl _⟩ (fun k hk => ?_)
  refine TC.seq ?_
  refine TC.region ?_
  refine .q (LD.lss rfl rfl) rfl rfl ?_
  refine TL.nilS ?_
  refine TC.seq ?_
  refine TC.cond rfl (fun g1 => ?_) (fun g1 => ?_)
  · have h1 := g1
    try simp at h1
    refine TC.skipS ?_
    refine TC.seq ?_
    refine TC.block ?_
    refine TC.seq ?_
    refine TC.region ?_
    obtain ⟨n, lo, hi, p, hb1, hb2⟩ := bnd_get c (k := k) (by omega)
    refine .q (LD.indexA rfl rfl (by omega) hb2) rfl rfl ?_
    refine TL.nb NB.alloc (Wants.un rfl) rfl (fun b5 => ?_)
    refine .e (EF.stA (i := 0) rfl rfl rfl rfl rfl rfl (by repeat constructor)) rfl rfl ?_
    refine TL.nilS ?_
    refine TC.seq ?_
    refine TC.region ?_
    refine .q (LD.ldA rfl m0 (by repeat constructor) rfl) rfl rfl ?_
    refine TL.cp (CL.func rfl) (w_fits _ _ _ _ (bnd_R hc hb1)) (Wants.un rfl) rfl ?_
    rintro _ rfl
    refine .q (LD.not rfl) rfl rfl ?_
    refine TL.nilS ?_
    refine TC.cond rfl (fun g2 => ?_) (fun g2 => ?_)
    · have h2 := g2
      try simp at h2
      refine TC.seq ?_
      refine TC.region ?_
      refine .q (LD.assign rfl) rfl rfl ?_
      refine TL.nilS ?_
      refine TC.ret ?_
      repeat first | refine Post.sr ?_ | refine Post.br ?_
      exact Out.intro (X := [_]) (L' := []) (Res.t rfl Res.z) ⟨congrArg (fun b => i (errOf b)) (no_of hb1 (by simpa using h2)).symm, rfl⟩ (.refl _)
    · have h2 := g2
      try simp at h2
      refine TC.skip ?_
      refine TC.region ?_
      have hok : ∀ j, j < k + 1 → ∀ n lo hi p, (bnd c)[j]? = some (n, lo, hi, p) → bfits n lo hi p = true := fun j hj n' lo' hi' p' hb => by
        rcases Nat.lt_or_ge j k with h | h
        · exact hk.2 j h _ _ _ _ hb
        · have : j = k := by omega
          subst this; rw [hb1] at hb; injection hb with hb; cases hb; simpa using h2
      refine .q (LD.add rfl rfl (by omega)) rfl rfl ?_
      refine .q (LD.move rfl) rfl rfl ?_
      refine TL.nil ?_
      exact ⟨k + 1, ⟨by omega, hok⟩, by omega, ⟨rfl, rfl, rfl, trivial⟩, [_], .refl _⟩
  · have h1 := g1
    try simp at h1
    refine TC.exit ?_
    refine TC.seq ?_
    refine TC.region ?_
    refine .q (LD.assign rfl) rfl rfl ?_
    refine TL.nilS ?_
    refine TC.ret ?_
    repeat first | refine Post.sr ?_ | refine Post.br ?_
    exact Out.intro (X := []) (L' := []) (Res.t rfl Res.z) ⟨congrArg (fun b => i (errOf b)) (ok_of_all fun j hj => hk.2 j (by omega)).symm, rfl⟩ (.refl _)
end Go.SL.TryzI
