/- A part of proofs about the given program. No condition. -/
import Derived.Test.YtcgfdjijodlopaaGreatWshape
set_option linter.all false
namespace Go.SL.TryzI
open Go Go.Proofs Go.SL
set_option maxRecDepth 100000


/-! sizes that may be -/
open Mes in
theorem isPow_pow {n m : Int} (h : isPow n m = true) : ∃ j : Nat, j ≤ 10 ∧ n = 2 ^ j ∧ n ≤ m := by
  simp only [isPow, Bool.and_eq_true, decide_eq_true_eq, List.contains_iff_mem] at h
  obtain ⟨hm, h2⟩ := h
  simp only [pows, List.mem_cons, List.not_mem_nil, or_false] at hm
  rcases hm with rfl | rfl | rfl | rfl | rfl | rfl | rfl | rfl | rfl | rfl | rfl
  · exact ⟨0, by omega, rfl, h2⟩
  · exact ⟨1, by omega, rfl, h2⟩
  · exact ⟨2, by omega, rfl, h2⟩
  · exact ⟨3, by omega, rfl, h2⟩
  · exact ⟨4, by omega, rfl, h2⟩
  · exact ⟨5, by omega, rfl, h2⟩
  · exact ⟨6, by omega, rfl, h2⟩
  · exact ⟨7, by omega, rfl, h2⟩
  · exact ⟨8, by omega, rfl, h2⟩
  · exact ⟨9, by omega, rfl, h2⟩
  · exact ⟨10, by omega, rfl, h2⟩
open Mes in
structure OkS (c : Cfg) : Prop where
  cores : 1 ≤ c.cores ∧ c.cores ≤ 64
  homes : ∃ j : Nat, j ≤ 10 ∧ c.homes = 2 ^ j ∧ c.homes ≤ 16
  sets : ∃ j : Nat, j ≤ 10 ∧ c.sets = 2 ^ j ∧ c.sets ≤ 64
  words : ∃ j : Nat, j ≤ 10 ∧ c.words = 2 ^ j ∧ c.words ≤ 8
  lines : ∃ j : Nat, j ≤ 10 ∧ c.lines = 2 ^ j ∧ c.lines ≤ 1024
  ways : 1 ≤ c.ways ∧ c.ways ≤ 8
  pointers : 0 ≤ c.pointers ∧ c.pointers ≤ 8
  mshrs : 1 ≤ c.mshrs ∧ c.mshrs ≤ 8
  buffer : 1 ≤ c.buffer ∧ c.buffer ≤ 16
  writebacks : 1 ≤ c.writebacks ∧ c.writebacks ≤ 8
  r0 : 1 ≤ c.r0 ∧ c.r0 ≤ 64
  r1 : 1 ≤ c.r1 ∧ c.r1 ≤ 64
  r2 : 1 ≤ c.r2 ∧ c.r2 ≤ 64
open Mes in
theorem okS {c : Cfg} (h : c.ok = true) : OkS c := by
  simp only [Cfg.ok, inC, Bool.and_eq_true, decide_eq_true_eq, and_assoc] at h
  obtain ⟨a1, a2, h1, h2, h3, h4, b1, b2, b3, b4, b5, b6, b7, b8, b9, b10, b11, b12, b13, b14, b15, b16⟩ := h
  exact ⟨⟨a1, a2⟩, isPow_pow h1, isPow_pow h2, isPow_pow h3, isPow_pow h4, ⟨b1, b2⟩, ⟨b3, b4⟩, ⟨b5, b6⟩, ⟨b7, b8⟩, ⟨b9, b10⟩, ⟨b11, b12⟩, ⟨b13, b14⟩, ⟨b15, b16⟩⟩
theorem PowAns.of {m : Nat} {k : Int} {b : Bool} (h : PowAns (2 ^ m) k b) : k = m ∧ b = true := by
  rcases h with ⟨h1, j, h2, h3⟩ | ⟨_, _, h⟩
  · refine ⟨?_, h1⟩
    have e : m = j := by
      have h2' : ((2 ^ m : Nat) : Int) = ((2 ^ j : Nat) : Int) := by simpa using h2
      have h4 : 2 ^ m = 2 ^ j := Int.ofNat.inj h2'
      rcases Nat.lt_trichotomy m j with h | h | h
      · have := Nat.pow_lt_pow_right (a := 2) (by omega) h; omega
      · exact h
      · have := Nat.pow_lt_pow_right (a := 2) (by omega) h; omega
    omega
  · exact absurd rfl (h m)

open Mes in
theorem w_Size (c : Cfg) (hc : CfgR c) : FnP Tryz.prog 63 [.agg (encC c)] (fun v => v = i c.size) := by
  refine Fn.body Tryz.func63 rfl rfl rfl (Nat.le_of_ble_eq_true rfl) fun F => ?_
  refine TC.seq ?_
  refine TC.region ?_
  refine TL.nb (NB.boxA rfl) (Wants.un rfl) rfl (fun b1 => ?_)
  refine .q (LD.assign rfl) rfl rfl ?_
  refine TL.nilS ?_
  refine TC.seq ?_
  refine TC.seq ?_
  refine TC.region ?_
  refine .q (LD.ldA rfl m0 (by repeat constructor) rfl) rfl rfl ?_
  refine TL.cp (CL.func rfl) (w_Check c hc) (Wants.un rfl) rfl ?_
  rintro _ rfl
  refine .q (LD.neq rfl rfl) rfl rfl ?_
  refine TL.nilS ?_
  refine TC.cond rfl (fun g1 => ?_) (fun g1 => ?_)
  · have h1 := g1
    try simp at h1
    refine TC.seq ?_
    refine TC.region ?_
    refine .q (LD.assign rfl) rfl rfl ?_
    refine TL.nilS ?_
    refine TC.ret ?_
    repeat first | refine Post.sr ?_ | refine Post.br ?_
    exact Out.intro (X := [_]) (L' := []) (Res.t rfl Res.z) ⟨by simp [Cfg.size, h1, pack], rfl⟩ (.refl _)
  · have h1 := g1
    try simp at h1
    refine TC.skipS ?_
    refine TC.seq ?_
    refine TC.region ?_
    refine .q (LD.fieldAddr rfl) rfl rfl ?_
    refine .q (LD.ld1 rfl m0 rfl) rfl rfl ?_
    refine .q (LD.fieldAddr rfl) rfl rfl ?_
    refine .q (LD.ld1 rfl m0 rfl) rfl rfl ?_
    have hs := okS h1
    obtain ⟨j1, _, e1, e1'⟩ := hs.words
    obtain ⟨j2, _, e2, e2'⟩ := hs.lines
    have p1 := pow_pos j1
    have p2 := pow_pos j2
    have hb : 0 ≤ c.words * c.lines ∧ c.words * c.lines ≤ 8 * 1024 := ⟨Int.mul_nonneg (by omega) (by omega), Int.mul_le_mul (by omega) (by omega) (by omega) (by omega)⟩
    refine .q (LD.mul rfl rfl (by omega)) rfl rfl ?_
    refine .q (LD.assign rfl) rfl rfl ?_
    refine TL.nilS ?_
    refine TC.ret ?_
    repeat first | refine Post.sr ?_ | refine Post.br ?_
    exact Out.intro (X := [_]) (L' := []) (Res.t rfl Res.z) ⟨by simp [Cfg.size, h1, pack], rfl⟩ (.refl _)
open Mes in
theorem w_by (n : Int) (hn : R64 n) : FnP Tryz.prog 64 [i n] (fun v => ∃ k b, PowAns n k b ∧ v = .agg #[i (IntKind.wrap .i64 (n - 1)), i k]) := by
  refine Fn.body Tryz.func64 rfl rfl rfl (Nat.le_of_ble_eq_true rfl) fun F => ?_
  refine TC.seq ?_
  refine TC.region ?_
  refine TL.nb NB.alloc (Wants.un rfl) rfl (fun b2 => ?_)
  refine TL.nilS ?_
  refine TC.seq ?_
  refine TC.region ?_
  refine .q (LD.move rfl) rfl rfl ?_
  refine TL.cp (CL.func rfl) (w_Power _ (by assumption)) (Wants.un rfl) rfl ?_
  rintro _ ⟨k, b, rfl, hb⟩
  refine .q (LD.move rfl) rfl rfl ?_
  refine .q (LD.ex rfl rfl) rfl rfl ?_
  refine .q (LD.ex rfl rfl) rfl rfl ?_
  refine .q (LD.assign rfl) rfl rfl ?_
  refine .q (LD.assign rfl) rfl rfl ?_
  refine TL.nilS ?_
  refine TC.seq ?_
  refine TC.region ?_
  refine .q (LD.move rfl) rfl rfl ?_
  refine .q (LD.subw rfl rfl) rfl rfl ?_
  refine .q (LD.move rfl) rfl rfl ?_
  refine .q (LD.bS rfl rfl (by repeat constructor)) rfl rfl ?_
  refine .e (EF.stA (i := 0) rfl rfl rfl rfl rfl rfl (by repeat constructor)) rfl rfl ?_
  refine TL.nilS ?_
  refine TC.ret ?_
  repeat first | refine Post.sr ?_ | refine Post.br ?_
  exact Out.intro (X := [_]) (L' := []) (Res.c rfl (LV.agg m0 (blk_same ..) (Nat.le_of_ble_eq_true rfl) rfl) Res.z) ⟨⟨k, b, hb, rfl⟩, rfl⟩ (.refl _)
theorem low_R {m : Nat} (hm : m ≤ 62) : 0 ≤ (2 : Int) ^ m - 1 ∧ (2 : Int) ^ m - 1 ≤ 9223372036854775807 := by
  have h1 := pow_pos m
  have h2 : (2 : Int) ^ m ≤ 2 ^ 62 := by exact_mod_cast Nat.pow_le_pow_right (by omega) hm
  omega
theorem and_low {x : Int} {m : Nat} (hx : 0 ≤ x) : ((x.toNat &&& ((2 : Int) ^ m - 1).toNat : Nat) : Int) = x % 2 ^ m := by
  have e : ((2 : Int) ^ m - 1).toNat = 2 ^ m - 1 := by
    have := pow_toNat m; omega
  rw [e, Nat.and_two_pow_sub_one_eq_mod]
  obtain ⟨k, rfl⟩ := Int.eq_ofNat_of_zero_le hx
  simp
open Mes in
theorem w_of (m : Nat) (hm : m ≤ 62) (x : Int) (hx : 0 ≤ x ∧ x ≤ 9223372036854775807) : FnP Tryz.prog 65 [.agg #[i (2 ^ m - 1), i (m : Int)], i x] (fun v => v = .tuple #[i (x / 2 ^ m), i (x % 2 ^ m)]) := by
  refine Fn.body Tryz.func65 rfl rfl rfl (Nat.le_of_ble_eq_true rfl) fun F => ?_
  refine TC.seq ?_
  refine TC.region ?_
  refine TL.nb (NB.boxA rfl) (Wants.un rfl) rfl (fun b2 => ?_)
  refine .q (LD.assign rfl) rfl rfl ?_
  refine .q (LD.assign rfl) rfl rfl ?_
  refine TL.nilS ?_
  refine TC.seq ?_
  refine TC.draw0 [0, 0, 0, 0, 0, 0, 0, 0, 0, 0] [0, 1, 2, 3, 4, 5, 6, 7, 8, 9] TryzI.mixed (by decide +kernel) (by decide) ?_
  refine .q rfl rfl (LD.move rfl) rfl rfl ?_
  refine .q rfl rfl (LD.fieldAddr rfl) rfl rfl ?_
  refine .q rfl rfl (LD.ld1 rfl m0 rfl) rfl rfl ?_
  refine .q rfl rfl (LD.shr rfl rfl (by omega)) rfl rfl ?_
  refine .q rfl rfl (LD.move rfl) rfl rfl ?_
  refine .q rfl rfl (LD.fieldAddr rfl) rfl rfl ?_
  refine .q rfl rfl (LD.ld1 rfl m0 rfl) rfl rfl ?_
  refine .q rfl rfl (LD.and rfl rfl hx (low_R hm)) rfl rfl ?_
  refine .q rfl rfl (LD.assign rfl) rfl rfl ?_
  refine .q rfl rfl (LD.assign rfl) rfl rfl ?_
  refine TD.nilT ?_
  refine TC.ret ?_
  repeat first | refine Post.sr ?_ | refine Post.br ?_
  exact Out.intro (X := [_]) (L' := []) (Res.t rfl (Res.t rfl Res.z)) ⟨by rw [and_low hx.1]; rfl, rfl⟩ (.refl _)
open Mes in
theorem w_parted (c : Cfg) (hc : CfgR c) (n most : Int) (hn : R64 n) (low k : Int) (hf : c.ok = true → ∃ m : Nat, m ≤ 62 ∧ low = 2 ^ m - 1 ∧ k = m) : FnP Tryz.prog 62 [.agg (encC c), i n, i most, .func (.func 65) #[.agg #[i low, i k]] #[]] (fun v => v = bif c.ok && inR n most then .tuple #[i (n / (low + 1)), i (n % (low + 1)), i 0] else .tuple #[i 0, i 0, i 1]) := by
  refine Fn.body Tryz.func62 rfl rfl rfl (Nat.le_of_ble_eq_true rfl) fun F => ?_
  refine TC.seq ?_
  refine TC.region ?_
  refine TL.nb (NB.boxA rfl) (Wants.un rfl) rfl (fun b4 => ?_)
  refine .q (LD.assign rfl) rfl rfl ?_
  refine .q (LD.assign rfl) rfl rfl ?_
  refine .q (LD.assign rfl) rfl rfl ?_
  refine TL.nilS ?_
  refine TC.seq ?_
  refine TC.seq ?_
  refine TC.region ?_
  refine .q (LD.ldA rfl m0 (by repeat constructor) rfl) rfl rfl ?_
  refine TL.cp (CL.func rfl) (w_Check c hc) (Wants.un rfl) rfl ?_
  rintro _ rfl
  refine .q (LD.neq rfl rfl) rfl rfl ?_
  refine .q (LD.move rfl) rfl rfl ?_
  refine TL.split rfl rfl rfl rfl (fun g1 => ?_) (fun g1 => ?_)
  · have h1 := g1
    try simp at h1
    refine .y (LD.move rfl) g1 rfl rfl rfl rfl ?_
    refine .y (LD.lss rfl rfl) g1 rfl rfl rfl rfl ?_
    refine .q (LD.pickF rfl g1 rfl) rfl rfl ?_
    refine .q (LD.move rfl) rfl rfl ?_
    refine TL.split rfl rfl rfl rfl (fun g2 => ?_) (fun g2 => ?_)
    · have h2 := g2
      try simp at h2
      refine .y (LD.move rfl) g2 rfl rfl rfl rfl ?_
      refine .y (LD.move rfl) g2 rfl rfl rfl rfl ?_
      refine .y (LD.geq rfl rfl) g2 rfl rfl rfl rfl ?_
      refine .q (LD.pickF rfl g2 rfl) rfl rfl ?_
      refine TL.nilS ?_
      refine TC.cond rfl (fun g3 => ?_) (fun g3 => ?_)
      · have h3 := g3
        try simp at h3
        refine TC.seq ?_
        refine TC.region ?_
        refine .q (LD.assign rfl) rfl rfl ?_
        refine .q (LD.assign rfl) rfl rfl ?_
        refine .q (LD.assign rfl) rfl rfl ?_
        refine TL.nilS ?_
        refine TC.ret ?_
        repeat first | refine Post.sr ?_ | refine Post.br ?_
        exact Out.intro (X := [_]) (L' := []) (Res.t rfl (Res.t rfl (Res.t rfl Res.z))) ⟨by rw [show inR n most = false from by simp [inR]; omega]; simp; rfl, rfl⟩ (.refl _)
      · have h3 := g3
        try simp at h3
        refine TC.skipS ?_
        refine TC.seq ?_
        refine TC.region ?_
        obtain ⟨m, hm, rfl, rfl⟩ := hf h1
        unfold R64 at hn
        refine .q (LD.move rfl) rfl rfl ?_
        refine .q (LD.move rfl) rfl rfl ?_
        refine TL.cp (CL.clos rfl rfl) (w_of m hm n (by omega)) (Wants.un rfl) rfl ?_
        rintro _ rfl
        refine .q (LD.move rfl) rfl rfl ?_
        refine .q (LD.ex rfl rfl) rfl rfl ?_
        refine .q (LD.ex rfl rfl) rfl rfl ?_
        refine .q (LD.assign rfl) rfl rfl ?_
        refine .q (LD.assign rfl) rfl rfl ?_
        refine TL.nilS ?_
        refine TC.seq ?_
        refine TC.region ?_
        refine .q (LD.move rfl) rfl rfl ?_
        refine .q (LD.move rfl) rfl rfl ?_
        refine .q (LD.assign rfl) rfl rfl ?_
        refine .q (LD.assign rfl) rfl rfl ?_
        refine .q (LD.assign rfl) rfl rfl ?_
        refine TL.nilS ?_
        refine TC.ret ?_
        repeat first | refine Post.sr ?_ | refine Post.br ?_
        exact Out.intro (X := [_]) (L' := []) (Res.t rfl (Res.t rfl (Res.t rfl Res.z))) ⟨by rw [show inR n most = true from by simp [inR]; omega, h1]; simp; rfl, rfl⟩ (.refl _)
    · have h2 := g2
      try simp at h2
      refine .s g2 rfl rfl rfl rfl ?_
      refine .s g2 rfl rfl rfl rfl ?_
      refine .q (LD.pickT rfl g2 rfl) rfl rfl ?_
      refine TL.nilS ?_
      refine TC.condT rfl rfl ?_
      refine TC.seq ?_
      refine TC.region ?_
      refine .q (LD.assign rfl) rfl rfl ?_
      refine .q (LD.assign rfl) rfl rfl ?_
      refine .q (LD.assign rfl) rfl rfl ?_
      refine TL.nilS ?_
      refine TC.ret ?_
      repeat first | refine Post.sr ?_ | refine Post.br ?_
      exact Out.intro (X := [_]) (L' := []) (Res.t rfl (Res.t rfl (Res.t rfl Res.z))) ⟨by rw [show inR n most = false from by simp [inR]; omega]; simp; rfl, rfl⟩ (.refl _)
  · have h1 := g1
    try simp at h1
    refine .s g1 rfl rfl rfl rfl ?_
    refine .q (LD.pickT rfl g1 rfl) rfl rfl ?_
    refine .q (LD.move rfl) rfl rfl ?_
    refine .s rfl rfl rfl rfl rfl ?_
    refine .s rfl rfl rfl rfl rfl ?_
    refine .s rfl rfl rfl rfl rfl ?_
    refine .q (LD.pickT rfl rfl rfl) rfl rfl ?_
    refine TL.nilS ?_
    refine TC.condT rfl rfl ?_
    refine TC.seq ?_
    refine TC.region ?_
    refine .q (LD.assign rfl) rfl rfl ?_
    refine .q (LD.assign rfl) rfl rfl ?_
    refine .q (LD.assign rfl) rfl rfl ?_
    refine TL.nilS ?_
    refine TC.ret ?_
    repeat first | refine Post.sr ?_ | refine Post.br ?_
    exact Out.intro (X := [_]) (L' := []) (Res.t rfl (Res.t rfl (Res.t rfl Res.z))) ⟨by rw [h1]; rfl, rfl⟩ (.refl _)
open Mes in
theorem by_pow {n k : Int} {b : Bool} {m : Nat} (h : PowAns n k b) (e : n = 2 ^ m) (hm : m ≤ 62) : ∃ m : Nat, m ≤ 62 ∧ IntKind.wrap .i64 (n - 1) = 2 ^ m - 1 ∧ k = m ∧ n = 2 ^ m := by
  subst e
  have h1 := pow_pos m
  have h2 : (2 : Int) ^ m ≤ 2 ^ 62 := by exact_mod_cast Nat.pow_le_pow_right (by omega) hm
  exact ⟨m, hm, wrap_in (by omega), h.of.1, rfl⟩

open Mes in
theorem w_Addr (c : Cfg) (hc : CfgR c) (x : Int) (hx : R64 x) : FnP Tryz.prog 20 [.agg (encC c), i x] (fun v => v = .tuple #[i (bif c.ok && inR x c.size then x / c.words else 0), i (bif c.ok && inR x c.size then x % c.words else 0), i (bif c.ok && inR x c.size then 0 else 1)]) := by
  refine Fn.body Tryz.func20 rfl rfl rfl (Nat.le_of_ble_eq_true rfl) fun F => ?_
  refine TC.seq ?_
  refine TC.region ?_
  refine TL.nb (NB.boxA rfl) (Wants.un rfl) rfl (fun b2 => ?_)
  refine .q (LD.assign rfl) rfl rfl ?_
  refine .q (LD.assign rfl) rfl rfl ?_
  refine .q (LD.assign rfl) rfl rfl ?_
  refine TL.nilS ?_
  refine TC.seq ?_
  refine TC.draw0 [0, 0, 0, 2, 0, 0, 2, 0, 2, 0, 0, 0, 0, 0, 0] [0, 1, 2, 4, 5, 3, 6, 7, 8, 9, 10, 11, 12, 13, 14] TryzI.mixed (by decide +kernel) (by decide) ?_
  refine .q rfl rfl (LD.ldA rfl m0 (by repeat constructor) rfl) rfl rfl ?_
  refine .q rfl rfl (LD.move rfl) rfl rfl ?_
  refine .q rfl rfl (LD.ldA rfl m0 (by repeat constructor) rfl) rfl rfl ?_
  refine .q rfl rfl (LD.fieldAddr rfl) rfl rfl ?_
  refine .q rfl rfl (LD.ld1 rfl m0 rfl) rfl rfl ?_
  refine TD.cp rfl rfl (CL.func rfl) (w_Size c hc) (Wants.un rfl) rfl ?_
  rintro _ rfl
  refine TD.cp rfl rfl (CL.func rfl) (w_by _ (by first | assumption | exact hc.2.2.2.2.1 | exact hc.2.2.1 | exact hc.2.1)) (Wants.un rfl) rfl ?_
  rintro _ ⟨k, b, hb, rfl⟩
  refine .q rfl rfl (LD.makeFunc rfl rfl) rfl rfl ?_
  refine TD.cp rfl rfl (CL.func rfl) (w_parted c hc x c.size (by assumption) _ _ (fun hk => by obtain ⟨j, hj, e, _⟩ := (okS hk).words; obtain ⟨m, h1, h2, h3, _⟩ := by_pow hb e (by omega); exact ⟨m, h1, h2, h3⟩)) (Wants.un rfl) rfl ?_
  rintro _ rfl
  rw [show (bif c.ok && inR x c.size then Value.tuple #[i (x / (IntKind.wrap .i64 (c.words - 1) + 1)), i (x % (IntKind.wrap .i64 (c.words - 1) + 1)), i 0] else Value.tuple #[i 0, i 0, i 1]) = Value.tuple #[i (bif c.ok && inR x c.size then x / c.words else 0), i (bif c.ok && inR x c.size then x % c.words else 0), i (bif c.ok && inR x c.size then 0 else 1)] from by
    cases hk : (c.ok && inR x c.size)
    · rfl
    · obtain ⟨j, hj, e, _⟩ := (okS (Bool.and_eq_true_iff.1 hk).1).words
      have e3 : IntKind.wrap .i64 (c.words - 1) + 1 = c.words := by
        have h1 := pow_pos j
        have h2 : (2 : Int) ^ j ≤ 2 ^ 62 := by exact_mod_cast Nat.pow_le_pow_right (by omega) (by omega)
        rw [wrap_in (by omega)]; omega
      rw [e3]; rfl]
  refine .q rfl rfl (LD.ex rfl rfl) rfl rfl ?_
  refine .q rfl rfl (LD.ex rfl rfl) rfl rfl ?_
  refine .q rfl rfl (LD.ex rfl rfl) rfl rfl ?_
  refine .q rfl rfl (LD.assign rfl) rfl rfl ?_
  refine .q rfl rfl (LD.assign rfl) rfl rfl ?_
  refine .q rfl rfl (LD.assign rfl) rfl rfl ?_
  refine TD.nilT ?_
  refine TC.ret ?_
  repeat first | refine Post.sr ?_ | refine Post.br ?_
  exact Out.intro (X := [_]) (L' := []) (Res.t rfl (Res.t rfl (Res.t rfl Res.z))) ⟨rfl, rfl⟩ (.refl _)
open Mes in
theorem w_Line (c : Cfg) (hc : CfgR c) (x : Int) (hx : R64 x) : FnP Tryz.prog 82 [.agg (encC c), i x] (fun v => v = bif c.ok && inR x c.lines then .tuple #[i (x % c.homes), i (x % c.sets), i (x / c.sets), i 0] else .tuple #[i 0, i 0, i 0, i 1]) := by
  refine Fn.body Tryz.func82 rfl rfl rfl (Nat.le_of_ble_eq_true rfl) fun F => ?_
  refine TC.seq ?_
  refine TC.region ?_
  refine TL.nb (NB.boxA rfl) (Wants.un rfl) rfl (fun b2 => ?_)
  refine .q (LD.assign rfl) rfl rfl ?_
  refine .q (LD.assign rfl) rfl rfl ?_
  refine .q (LD.assign rfl) rfl rfl ?_
  refine .q (LD.assign rfl) rfl rfl ?_
  refine TL.nilS ?_
  refine TC.seq ?_
  refine TC.draw0 [0, 0, 0, 0, 0, 0, 2, 0, 2, 0, 0, 0, 0, 0, 0, 0] [0, 1, 2, 3, 4, 5, 6, 7, 8, 9, 10, 11, 12, 13, 14, 15] TryzI.mixed (by decide +kernel) (by decide) ?_
  refine .q rfl rfl (LD.ldA rfl m0 (by repeat constructor) rfl) rfl rfl ?_
  refine .q rfl rfl (LD.move rfl) rfl rfl ?_
  refine .q rfl rfl (LD.fieldAddr rfl) rfl rfl ?_
  refine .q rfl rfl (LD.ld1 rfl m0 rfl) rfl rfl ?_
  refine .q rfl rfl (LD.fieldAddr rfl) rfl rfl ?_
  refine .q rfl rfl (LD.ld1 rfl m0 rfl) rfl rfl ?_
  refine TD.cp rfl rfl (CL.func rfl) (w_by _ (by first | assumption | exact hc.2.2.2.2.1 | exact hc.2.2.1 | exact hc.2.1)) (Wants.un rfl) rfl ?_
  rintro _ ⟨k, b, hb, rfl⟩
  refine .q rfl rfl (LD.makeFunc rfl rfl) rfl rfl ?_
  refine TD.cp rfl rfl (CL.func rfl) (w_parted c hc x c.lines (by assumption) _ _ (fun hk => by obtain ⟨j, hj, e, _⟩ := (okS hk).sets; obtain ⟨m, h1, h2, h3, _⟩ := by_pow hb e (by omega); exact ⟨m, h1, h2, h3⟩)) (Wants.un rfl) rfl ?_
  rintro _ rfl
  rw [show (bif c.ok && inR x c.lines then Value.tuple #[i (x / (IntKind.wrap .i64 (c.sets - 1) + 1)), i (x % (IntKind.wrap .i64 (c.sets - 1) + 1)), i 0] else Value.tuple #[i 0, i 0, i 1]) = Value.tuple #[i (bif c.ok && inR x c.lines then x / c.sets else 0), i (bif c.ok && inR x c.lines then x % c.sets else 0), i (bif c.ok && inR x c.lines then 0 else 1)] from by
    cases hk : (c.ok && inR x c.lines)
    · rfl
    · obtain ⟨j, hj, e, _⟩ := (okS (Bool.and_eq_true_iff.1 hk).1).sets
      have e3 : IntKind.wrap .i64 (c.sets - 1) + 1 = c.sets := by
        have h1 := pow_pos j
        have h2 : (2 : Int) ^ j ≤ 2 ^ 62 := by exact_mod_cast Nat.pow_le_pow_right (by omega) (by omega)
        rw [wrap_in (by omega)]; omega
      rw [e3]; rfl]
  refine .q rfl rfl (LD.move rfl) rfl rfl ?_
  refine .q rfl rfl (LD.ex rfl rfl) rfl rfl ?_
  refine .q rfl rfl (LD.ex rfl rfl) rfl rfl ?_
  refine .q rfl rfl (LD.ex rfl rfl) rfl rfl ?_
  refine .q rfl rfl (LD.assign rfl) rfl rfl ?_
  refine .q rfl rfl (LD.assign rfl) rfl rfl ?_
  refine .q rfl rfl (LD.assign rfl) rfl rfl ?_
  refine TD.nilT ?_
  refine TC.seq ?_
  refine TC.seq ?_
  refine TC.region ?_
  refine .q (LD.move rfl) rfl rfl ?_
  refine .q (LD.neq rfl rfl) rfl rfl ?_
  refine TL.nilS ?_
  refine TC.cond rfl (fun g1 => ?_) (fun g1 => ?_)
  · have h1 := g1
    try simp at h1
    refine TC.seq ?_
    refine TC.region ?_
    refine .q (LD.move rfl) rfl rfl ?_
    refine .q (LD.assign rfl) rfl rfl ?_
    refine .q (LD.assign rfl) rfl rfl ?_
    refine .q (LD.assign rfl) rfl rfl ?_
    refine .q (LD.assign rfl) rfl rfl ?_
    refine TL.nilS ?_
    refine TC.ret ?_
    repeat first | refine Post.sr ?_ | refine Post.br ?_
    have hk : (c.ok && inR x c.lines) = false := by
      cases hk : (c.ok && inR x c.lines)
      · rfl
      · rw [hk] at h1; simp at h1
    simp only [hk, cond_false]
    exact Out.intro (X := [_]) (L' := []) (Res.t rfl (Res.t rfl (Res.t rfl (Res.t rfl Res.z)))) ⟨by rfl, rfl⟩ (.refl _)
  · have h1 := g1
    try simp at h1
    refine TC.skipS ?_
    refine TC.seq ?_
    refine TC.region ?_
    refine .q (LD.fieldAddr rfl) rfl rfl ?_
    refine .q (LD.ld1 rfl m0 rfl) rfl rfl ?_
    refine TL.cp (CL.func rfl) (w_by _ (by first | assumption | exact hc.2.2.2.2.1 | exact hc.2.2.1 | exact hc.2.1)) (Wants.un rfl) rfl ?_
    rintro _ ⟨k, b, hb, rfl⟩
    refine .q (LD.move rfl) rfl rfl ?_
    have hk : (c.ok && inR x c.lines) = true := by
      cases hk : (c.ok && inR x c.lines)
      · rw [hk] at h1; simp at h1
      · rfl
    simp only [hk, cond_true]
    obtain ⟨m, hm, e, _⟩ := (okS (Bool.and_eq_true_iff.1 hk).1).homes
    obtain ⟨m', hm', e1, e2, e3⟩ := by_pow hb e (by omega)
    have hin := (Bool.and_eq_true_iff.1 hk).2
    simp only [inR, Bool.and_eq_true, decide_eq_true_eq] at hin
    unfold R64 at hx
    rw [e1, e2]
    refine TL.cp (CL.func rfl) (w_of m' hm' x (by omega)) (Wants.un rfl) rfl ?_
    rintro _ rfl
    refine .q (LD.move rfl) rfl rfl ?_
    refine .q (LD.ex rfl rfl) rfl rfl ?_
    refine .q (LD.ex rfl rfl) rfl rfl ?_
    refine .q (LD.assign rfl) rfl rfl ?_
    refine .q (LD.assign rfl) rfl rfl ?_
    refine TL.nilS ?_
    refine TC.seq ?_
    refine TC.region ?_
    refine .q (LD.move rfl) rfl rfl ?_
    refine .q (LD.move rfl) rfl rfl ?_
    refine .q (LD.move rfl) rfl rfl ?_
    refine .q (LD.assign rfl) rfl rfl ?_
    refine .q (LD.assign rfl) rfl rfl ?_
    refine .q (LD.assign rfl) rfl rfl ?_
    refine .q (LD.assign rfl) rfl rfl ?_
    refine TL.nilS ?_
    refine TC.ret ?_
    repeat first | refine Post.sr ?_ | refine Post.br ?_
    exact Out.intro (X := [_]) (L' := []) (Res.t rfl (Res.t rfl (Res.t rfl (Res.t rfl Res.z)))) ⟨by simp only [e3]; rfl, rfl⟩ (.refl _)
open Mes in
theorem w_joined (c : Cfg) (hc : CfgR c) (hi lo each most : Int) (hb : c.ok = true → 1 ≤ each ∧ each ≤ 1024 ∧ most ≤ 65536) : FnP Tryz.prog 90 [.agg (encC c), i hi, i lo, i each, i most] (fun v => v = bif c.ok && inR lo each && inR hi most && decide (hi * each + lo < most) then .tuple #[i (hi * each + lo), i 0] else .tuple #[i 0, i 1]) := by
  refine Fn.body Tryz.func90 rfl rfl rfl (Nat.le_of_ble_eq_true rfl) fun F => ?_
  refine TC.seq ?_
  refine TC.region ?_
  refine TL.nb (NB.boxA rfl) (Wants.un rfl) rfl (fun b5 => ?_)
  refine .q (LD.assign rfl) rfl rfl ?_
  refine .q (LD.assign rfl) rfl rfl ?_
  refine TL.nilS ?_
  refine TC.seq ?_
  refine TC.seq ?_
  refine TC.region ?_
  refine .q (LD.ldA rfl m0 (by repeat constructor) rfl) rfl rfl ?_
  refine TL.cp (CL.func rfl) (w_Check c hc) (Wants.un rfl) rfl ?_
  rintro _ rfl
  refine .q (LD.neq rfl rfl) rfl rfl ?_
  refine .q (LD.move rfl) rfl rfl ?_
  refine TL.split rfl rfl rfl rfl (fun g1 => ?_) (fun g1 => ?_)
  · have h1 := g1
    try simp at h1
    refine .y (LD.move rfl) g1 rfl rfl rfl rfl ?_
    refine .y (LD.lss rfl rfl) g1 rfl rfl rfl rfl ?_
    refine .q (LD.pickF rfl g1 rfl) rfl rfl ?_
    refine .q (LD.move rfl) rfl rfl ?_
    refine TL.split rfl rfl rfl rfl (fun g2 => ?_) (fun g2 => ?_)
    · have h2 := g2
      try simp at h2
      refine .y (LD.move rfl) g2 rfl rfl rfl rfl ?_
      refine .y (LD.move rfl) g2 rfl rfl rfl rfl ?_
      refine .y (LD.geq rfl rfl) g2 rfl rfl rfl rfl ?_
      refine .q (LD.pickF rfl g2 rfl) rfl rfl ?_
      refine .q (LD.move rfl) rfl rfl ?_
      refine TL.split rfl rfl rfl rfl (fun g3 => ?_) (fun g3 => ?_)
      · have h3 := g3
        try simp at h3
        refine .y (LD.move rfl) g3 rfl rfl rfl rfl ?_
        refine .y (LD.lss rfl rfl) g3 rfl rfl rfl rfl ?_
        refine .q (LD.pickF rfl g3 rfl) rfl rfl ?_
        refine .q (LD.move rfl) rfl rfl ?_
        refine TL.split rfl rfl rfl rfl (fun g4 => ?_) (fun g4 => ?_)
        · have h4 := g4
          try simp at h4
          refine .y (LD.move rfl) g4 rfl rfl rfl rfl ?_
          refine .y (LD.move rfl) g4 rfl rfl rfl rfl ?_
          refine .y (LD.geq rfl rfl) g4 rfl rfl rfl rfl ?_
          refine .q (LD.pickF rfl g4 rfl) rfl rfl ?_
          refine TL.nilS ?_
          refine TC.cond rfl (fun g5 => ?_) (fun g5 => ?_)
          · have h5 := g5
            try simp at h5
            refine TC.seq ?_
            refine TC.region ?_
            refine .q (LD.assign rfl) rfl rfl ?_
            refine .q (LD.assign rfl) rfl rfl ?_
            refine TL.nilS ?_
            refine TC.ret ?_
            repeat first | refine Post.sr ?_ | refine Post.br ?_
            exact Out.intro (X := [_]) (L' := []) (Res.t rfl (Res.t rfl Res.z)) ⟨by first | (rw [Bool.cond_eq_ite, if_neg (by simp [inR, h1] <;> omega)]; rfl) | (rw [Bool.cond_eq_ite, if_pos (by simp [inR, h1] <;> omega)]; rfl), rfl⟩ (.refl _)
          · have h5 := g5
            try simp at h5
            refine TC.skipS ?_
            refine TC.seq ?_
            refine TC.region ?_
            refine .q (LD.move rfl) rfl rfl ?_
            refine .q (LD.move rfl) rfl rfl ?_
            have hbb := hb (by simpa using h1)
            have hm : 0 ≤ hi * each ∧ hi * each ≤ 65536 * 1024 := ⟨Int.mul_nonneg (by omega) (by omega), Int.mul_le_mul (by omega) (by omega) (by omega) (by omega)⟩
            refine .q (LD.mul rfl rfl (by omega)) rfl rfl ?_
            refine .q (LD.move rfl) rfl rfl ?_
            refine .q (LD.add rfl rfl (by omega)) rfl rfl ?_
            refine .q (LD.assign rfl) rfl rfl ?_
            refine TL.nilS ?_
            refine TC.seq ?_
            refine TC.seq ?_
            refine TC.region ?_
            refine .q (LD.move rfl) rfl rfl ?_
            refine .q (LD.move rfl) rfl rfl ?_
            refine .q (LD.geq rfl rfl) rfl rfl ?_
            refine TL.nilS ?_
            refine TC.cond rfl (fun g6 => ?_) (fun g6 => ?_)
            · have h6 := g6
              try simp at h6
              refine TC.seq ?_
              refine TC.region ?_
              refine .q (LD.assign rfl) rfl rfl ?_
              refine .q (LD.assign rfl) rfl rfl ?_
              refine TL.nilS ?_
              refine TC.ret ?_
              repeat first | refine Post.sr ?_ | refine Post.br ?_
              exact Out.intro (X := [_]) (L' := []) (Res.t rfl (Res.t rfl Res.z)) ⟨by first | (rw [Bool.cond_eq_ite, if_neg (by simp [inR, h1] <;> omega)]; rfl) | (rw [Bool.cond_eq_ite, if_pos (by simp [inR, h1] <;> omega)]; rfl), rfl⟩ (.refl _)
            · have h6 := g6
              try simp at h6
              refine TC.skipS ?_
              refine TC.seq ?_
              refine TC.region ?_
              refine .q (LD.move rfl) rfl rfl ?_
              refine .q (LD.assign rfl) rfl rfl ?_
              refine .q (LD.assign rfl) rfl rfl ?_
              refine TL.nilS ?_
              refine TC.ret ?_
              repeat first | refine Post.sr ?_ | refine Post.br ?_
              exact Out.intro (X := [_]) (L' := []) (Res.t rfl (Res.t rfl Res.z)) ⟨by first | (rw [Bool.cond_eq_ite, if_neg (by simp [inR, h1] <;> omega)]; rfl) | (rw [Bool.cond_eq_ite, if_pos (by simp [inR, h1] <;> omega)]; rfl), rfl⟩ (.refl _)
        · have h4 := g4
          try simp at h4
          refine .s g4 rfl rfl rfl rfl ?_
          refine .s g4 rfl rfl rfl rfl ?_
          refine .q (LD.pickT rfl g4 rfl) rfl rfl ?_
          refine TL.nilS ?_
          refine TC.condT rfl rfl ?_
          refine TC.seq ?_
          refine TC.region ?_
          refine .q (LD.assign rfl) rfl rfl ?_
          refine .q (LD.assign rfl) rfl rfl ?_
          refine TL.nilS ?_
          refine TC.ret ?_
          repeat first | refine Post.sr ?_ | refine Post.br ?_
          exact Out.intro (X := [_]) (L' := []) (Res.t rfl (Res.t rfl Res.z)) ⟨by first | (rw [Bool.cond_eq_ite, if_neg (by simp [inR, h1] <;> omega)]; rfl) | (rw [Bool.cond_eq_ite, if_pos (by simp [inR, h1] <;> omega)]; rfl), rfl⟩ (.refl _)
      · have h3 := g3
        try simp at h3
        refine .s g3 rfl rfl rfl rfl ?_
        refine .q (LD.pickT rfl g3 rfl) rfl rfl ?_
        refine .q (LD.move rfl) rfl rfl ?_
        refine .s rfl rfl rfl rfl rfl ?_
        refine .s rfl rfl rfl rfl rfl ?_
        refine .s rfl rfl rfl rfl rfl ?_
        refine .q (LD.pickT rfl rfl rfl) rfl rfl ?_
        refine TL.nilS ?_
        refine TC.condT rfl rfl ?_
        refine TC.seq ?_
        refine TC.region ?_
        refine .q (LD.assign rfl) rfl rfl ?_
        refine .q (LD.assign rfl) rfl rfl ?_
        refine TL.nilS ?_
        refine TC.ret ?_
        repeat first | refine Post.sr ?_ | refine Post.br ?_
        exact Out.intro (X := [_]) (L' := []) (Res.t rfl (Res.t rfl Res.z)) ⟨by first | (rw [Bool.cond_eq_ite, if_neg (by simp [inR, h1] <;> omega)]; rfl) | (rw [Bool.cond_eq_ite, if_pos (by simp [inR, h1] <;> omega)]; rfl), rfl⟩ (.refl _)
    · have h2 := g2
      try simp at h2
      refine .s g2 rfl rfl rfl rfl ?_
      refine .s g2 rfl rfl rfl rfl ?_
      refine .q (LD.pickT rfl g2 rfl) rfl rfl ?_
      refine .q (LD.move rfl) rfl rfl ?_
      refine .s rfl rfl rfl rfl rfl ?_
      refine .s rfl rfl rfl rfl rfl ?_
      refine .q (LD.pickT rfl rfl rfl) rfl rfl ?_
      refine .q (LD.move rfl) rfl rfl ?_
      refine .s rfl rfl rfl rfl rfl ?_
      refine .s rfl rfl rfl rfl rfl ?_
      refine .s rfl rfl rfl rfl rfl ?_
      refine .q (LD.pickT rfl rfl rfl) rfl rfl ?_
      refine TL.nilS ?_
      refine TC.condT rfl rfl ?_
      refine TC.seq ?_
      refine TC.region ?_
      refine .q (LD.assign rfl) rfl rfl ?_
      refine .q (LD.assign rfl) rfl rfl ?_
      refine TL.nilS ?_
      refine TC.ret ?_
      repeat first | refine Post.sr ?_ | refine Post.br ?_
      exact Out.intro (X := [_]) (L' := []) (Res.t rfl (Res.t rfl Res.z)) ⟨by first | (rw [Bool.cond_eq_ite, if_neg (by simp [inR, h1] <;> omega)]; rfl) | (rw [Bool.cond_eq_ite, if_pos (by simp [inR, h1] <;> omega)]; rfl), rfl⟩ (.refl _)
  · have h1 := g1
    try simp at h1
    refine .s g1 rfl rfl rfl rfl ?_
    refine .q (LD.pickT rfl g1 rfl) rfl rfl ?_
    refine .q (LD.move rfl) rfl rfl ?_
    refine .s rfl rfl rfl rfl rfl ?_
    refine .s rfl rfl rfl rfl rfl ?_
    refine .s rfl rfl rfl rfl rfl ?_
    refine .q (LD.pickT rfl rfl rfl) rfl rfl ?_
    refine .q (LD.move rfl) rfl rfl ?_
    refine .s rfl rfl rfl rfl rfl ?_
    refine .s rfl rfl rfl rfl rfl ?_
    refine .q (LD.pickT rfl rfl rfl) rfl rfl ?_
    refine .q (LD.move rfl) rfl rfl ?_
    refine .s rfl rfl rfl rfl rfl ?_
    refine .s rfl rfl rfl rfl rfl ?_
    refine .s rfl rfl rfl rfl rfl ?_
    refine .q (LD.pickT rfl rfl rfl) rfl rfl ?_
    refine TL.nilS ?_
    refine TC.condT rfl rfl ?_
    refine TC.seq ?_
    refine TC.region ?_
    refine .q (LD.assign rfl) rfl rfl ?_
    refine .q (LD.assign rfl) rfl rfl ?_
    refine TL.nilS ?_
    refine TC.ret ?_
    repeat first | refine Post.sr ?_ | refine Post.br ?_
    exact Out.intro (X := [_]) (L' := []) (Res.t rfl (Res.t rfl Res.z)) ⟨by first | (rw [Bool.cond_eq_ite, if_neg (by simp [inR, h1] <;> omega)]; rfl) | (rw [Bool.cond_eq_ite, if_pos (by simp [inR, h1] <;> omega)]; rfl), rfl⟩ (.refl _)
open Mes in
theorem w_Join (c : Cfg) (hc : CfgR c) (l w : Int) : FnP Tryz.prog 26 [.agg (encC c), i l, i w] (fun v => v = bif c.ok && inR w c.words && inR l c.size && decide (l * c.words + w < c.size) then .tuple #[i (l * c.words + w), i 0] else .tuple #[i 0, i 1]) := by
  refine Fn.body Tryz.func26 rfl rfl rfl (Nat.le_of_ble_eq_true rfl) fun F => ?_
  refine TC.seq ?_
  refine TC.region ?_
  refine TL.nb (NB.boxA rfl) (Wants.un rfl) rfl (fun b3 => ?_)
  refine .q (LD.assign rfl) rfl rfl ?_
  refine .q (LD.assign rfl) rfl rfl ?_
  refine TL.nilS ?_
  refine TC.seq ?_
  refine TC.draw0 [0, 0, 0, 0, 0, 0, 2, 2, 0, 0, 0, 0] [0, 1, 2, 3, 4, 5, 6, 7, 8, 9, 10, 11] TryzI.mixed (by decide +kernel) (by decide) ?_
  refine .q rfl rfl (LD.ldA rfl m0 (by repeat constructor) rfl) rfl rfl ?_
  refine .q rfl rfl (LD.move rfl) rfl rfl ?_
  refine .q rfl rfl (LD.move rfl) rfl rfl ?_
  refine .q rfl rfl (LD.fieldAddr rfl) rfl rfl ?_
  refine .q rfl rfl (LD.ld1 rfl m0 rfl) rfl rfl ?_
  refine .q rfl rfl (LD.ldA rfl m0 (by repeat constructor) rfl) rfl rfl ?_
  refine TD.cp rfl rfl (CL.func rfl) (w_Size c hc) (Wants.un rfl) rfl ?_
  rintro _ rfl
  refine TD.cp rfl rfl (CL.func rfl) (w_joined c hc l w c.words c.size (fun hk => by
    have hs := okS hk
    obtain ⟨j1, _, e1, e1'⟩ := hs.words
    obtain ⟨j2, _, e2, e2'⟩ := hs.lines
    have p1 := pow_pos j1
    have p2 := pow_pos j2
    have hb : 0 ≤ c.words * c.lines ∧ c.words * c.lines ≤ 8 * 1024 := ⟨Int.mul_nonneg (by omega) (by omega), Int.mul_le_mul (by omega) (by omega) (by omega) (by omega)⟩
    have e : c.size = c.words * c.lines := by simp [Cfg.size, hk]
    omega)) (Wants.un rfl) rfl ?_
  rintro _ rfl
  rw [show (bif c.ok && inR w c.words && inR l c.size && decide (l * c.words + w < c.size) then Value.tuple #[i (l * c.words + w), i 0] else Value.tuple #[i 0, i 1]) = Value.tuple #[i (bif c.ok && inR w c.words && inR l c.size && decide (l * c.words + w < c.size) then l * c.words + w else 0), i (bif c.ok && inR w c.words && inR l c.size && decide (l * c.words + w < c.size) then 0 else 1)] from by cases (c.ok && inR w c.words && inR l c.size && decide (l * c.words + w < c.size)) <;> rfl]
  refine .q rfl rfl (LD.ex rfl rfl) rfl rfl ?_
  refine .q rfl rfl (LD.ex rfl rfl) rfl rfl ?_
  refine .q rfl rfl (LD.assign rfl) rfl rfl ?_
  refine .q rfl rfl (LD.assign rfl) rfl rfl ?_
  refine TD.nilT ?_
  refine TC.ret ?_
  repeat first | refine Post.sr ?_ | refine Post.br ?_
  exact Out.intro (X := [_]) (L' := []) (Res.t rfl (Res.t rfl Res.z)) ⟨by cases (c.ok && inR w c.words && inR l c.size && decide (l * c.words + w < c.size)) <;> rfl, rfl⟩ (.refl _)
end Go.SL.TryzI
