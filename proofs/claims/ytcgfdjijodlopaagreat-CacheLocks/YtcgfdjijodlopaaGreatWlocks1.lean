/- A part of proofs about the given program. No condition. -/
import Derived.Test.YtcgfdjijodlopaaGreatWlets
import Derived.Test.YtcgfdjijodlopaaGreatEb
set_option linter.all false
namespace Go.SL.TryzI
open Go Go.Proofs Go.SL
set_option maxRecDepth 100000


open Mes in
/-- what a cache's picture holds -/
def Pic (k : Cache) (q0 q1 q2 : Option Addr) (c0 c1 c2 : Nat) (f0 f1 f2 : Frag) : Prop := IsSl 69 11 (k.a.map encWay) (.slice q0 (k.a.map encWay).length c0) f0 ∧ IsSl 75 15 (k.f.map encMiss) (.slice q1 (k.f.map encMiss).length c1) f1 ∧ IsSl 77 10 (k.b.map encWB) (.slice q2 (k.b.map encWB).length c2) f2
open Mes in
def picV (k : Cache) (q0 q1 q2 : Option Addr) (c0 c1 c2 : Nat) : Value := .agg #[.slice q0 (k.a.map encWay).length c0, .slice q1 (k.f.map encMiss).length c1, .slice q2 (k.b.map encWB).length c2]

set_option maxHeartbeats 2000000 in
open Mes in
theorem w_drawn14 {c : Cfg} {n : Int} {k : Cache} (h : CacOk c n k) {p : Nat} {r : Frag} (hr : IsCac k p r) : Fn Tryz.prog 15 [.agg (encC c), .pointer (some ⟨p, 0, none⟩)] [r] (fun v L' => ∃ q0 q1 q2 c0 c1 c2 f0 f1 f2, v = picV k q0 q1 q2 c0 c1 c2 ∧ L' = [f2, f1, f0, r] ∧ Pic k q0 q1 q2 c0 c1 c2 f0 f1 f2) := by
  refine Fn.body Tryz.func15 rfl rfl rfl (Nat.le_of_ble_eq_true rfl) fun F => ?_
  have hcc := h.inv.cfg
  obtain ⟨js, _, hjs, hjs2⟩ := (okS h.ok).sets
  have hpos := pow_pos js
  obtain ⟨hw1, hw2⟩ := (okS h.ok).ways
  obtain ⟨S, hS⟩ : ∃ S : Nat, c.sets = S := ⟨c.sets.toNat, by omega⟩
  obtain ⟨W, hW⟩ : ∃ W : Nat, c.ways = W := ⟨c.ways.toNat, by omega⟩
  have hlen : k.a.length = W * S := by
    have h8 := h.ha
    rw [hcc, hS, hW, Int.mul_comm] at h8
    exact_mod_cast h8
  have hlen2 : k.a.length ≤ 1000 := by
    obtain ⟨m, hm, hm2⟩ := sw_nat h.ok
    have h8 := h.ha
    rw [hcc, hm] at h8
    omega
  have hfl := h.hfl
  have hbl := h.hbl
  have hfm : (k.f.map encMiss).length = k.f.length := List.length_map ..
  have hbm : (k.b.map encWB).length = k.b.length := List.length_map ..
  refine TC.nof ?_
  refine TC.nof ?_
  refine TC.nof ?_
  refine TC.seq ?_
  refine TC.region ?_
  refine TL.nb (NB.boxA rfl) (Wants.un rfl) rfl (fun b2 => ?_)
  refine TL.nb NB.alloc (Wants.un rfl) rfl (fun b4 => ?_)
  refine TL.nilS ?_
  refine TC.seq ?_
  refine TC.region ?_
  refine .q (LD.bS rfl rfl (by repeat constructor)) rfl rfl ?_
  refine TL.nb NB.alloc (Wants.un rfl) rfl (fun b5 => ?_)
  refine .e (EF.stA (i := 0) rfl rfl rfl rfl rfl rfl (by repeat constructor)) rfl rfl ?_
  refine TL.nilS ?_
  refine TC.seq ?_
  refine TC.seq ?_
  refine TC.region ?_
  refine .q (LD.assign rfl) rfl rfl ?_
  refine TL.nilS ?_
  refine TC.block ?_
  refine TC.loopd (α := Nat × Option Addr × Nat × Frag) (fun a => [(1, .pointer (some ⟨p, 0, none⟩)), (2, .pointer (some ⟨b2, 0, none⟩)), (4, .pointer (some ⟨b4, 0, none⟩)), (5, .pointer (some ⟨b5, 0, none⟩)), (6, i (a.1 : Int))]) (fun a => blk b5 51 #[.slice a.2.1 ((k.a.take (W * a.1)).map encWay).length a.2.2.1, .slice none 0 0, .slice none 0 0] :: blk b4 51 #[.slice none 0 0, .slice none 0 0, .slice none 0 0] :: blk b2 24 (encC c) :: nof :: nof :: a.2.2.2 :: r :: F) (fun a => a.1 ≤ S ∧ IsSl 69 11 ((k.a.take (W * a.1)).map encWay) (.slice a.2.1 ((k.a.take (W * a.1)).map encWay).length a.2.2.1) a.2.2.2) (fun a => S - a.1) (0, none, 0, nof) ⟨Nat.zero_le _, IsSl.nil 69 11⟩ ⟨rfl, rfl, rfl, rfl, rfl, trivial⟩ ⟨[], .refl _⟩ (fun a ha => ?_)
  refine TC.seq ?_
  refine TC.seq ?_
  refine TC.region ?_
  refine .q (LD.move rfl) rfl rfl ?_
  refine .q (LD.fieldAddr rfl) rfl rfl ?_
  refine .q (LD.ld1 rfl m2 rfl) rfl rfl ?_
  refine .q (LD.lss rfl rfl) rfl rfl ?_
  refine TL.nilS ?_
  refine TC.cond rfl (fun g1 => ?_) (fun g1 => ?_)
  · have h1 := g1
    try simp at h1
    refine TC.skipS ?_
    refine TC.seq ?_
    refine TC.block ?_
    refine TC.seq ?_
    have ha1 := ha.1
    refine TC.region ?_
    refine .q (LD.assign rfl) rfl rfl ?_
    refine TL.nilS ?_
    refine TC.block ?_
    refine TC.loopd (α := Nat × Option Addr × Nat × Frag) (fun b => [(1, .pointer (some ⟨p, 0, none⟩)), (2, .pointer (some ⟨b2, 0, none⟩)), (4, .pointer (some ⟨b4, 0, none⟩)), (5, .pointer (some ⟨b5, 0, none⟩)), (6, i (a.1 : Int)), (7, i (b.1 : Int))]) (fun b => blk b5 51 #[.slice b.2.1 ((k.a.take (W * a.1 + b.1)).map encWay).length b.2.2.1, .slice none 0 0, .slice none 0 0] :: blk b4 51 #[.slice none 0 0, .slice none 0 0, .slice none 0 0] :: blk b2 24 (encC c) :: nof :: nof :: b.2.2.2 :: r :: F) (fun b => b.1 ≤ W ∧ IsSl 69 11 ((k.a.take (W * a.1 + b.1)).map encWay) (.slice b.2.1 ((k.a.take (W * a.1 + b.1)).map encWay).length b.2.2.1) b.2.2.2) (fun b => W - b.1) (0, a.2.1, a.2.2.1, a.2.2.2) ⟨Nat.zero_le _, ha.2⟩ ⟨rfl, rfl, rfl, rfl, rfl, rfl, trivial⟩ ⟨[], .refl _⟩ (fun b hb => ?_)
    refine TC.seq ?_
    refine TC.seq ?_
    refine TC.region ?_
    refine .q (LD.move rfl) rfl rfl ?_
    refine .q (LD.fieldAddr rfl) rfl rfl ?_
    refine .q (LD.ld1 rfl m2 rfl) rfl rfl ?_
    refine .q (LD.lss rfl rfl) rfl rfl ?_
    refine TL.nilS ?_
    refine TC.cond rfl (fun g2 => ?_) (fun g2 => ?_)
    · have h2 := g2
      try simp at h2
      refine TC.skipS ?_
      refine TC.seq ?_
      refine TC.block ?_
      refine TC.seq ?_
      have hb1 := hb.1
      have hb2 := hb.2
      have hlt : W * a.1 + b.1 < k.a.length := by
        rw [hlen]
        have h8 := Nat.mul_le_mul_left W (show a.1 + 1 ≤ S by omega)
        rw [Nat.mul_add] at h8
        omega
      obtain ⟨x, hx⟩ : ∃ x, k.a[W * a.1 + b.1]? = some x := ⟨_, List.getElem?_eq_getElem hlt⟩
      have hway : wayAt c k.a (a.1 : Int) (b.1 : Int) = some x := by
        have h8 : ((a.1 : Int) * c.ways + (b.1 : Int)) = ((W * a.1 + b.1 : Nat) : Int) := by rw [hW, Int.natCast_add, Int.natCast_mul, Int.mul_comm]
        unfold wayAt
        rw [if_pos (by simp [inR]; omega), h8, Int.toNat_natCast]
        exact hx
      refine TC.region ?_
      refine .q (LD.move rfl) rfl rfl ?_
      refine .q (LD.move rfl) rfl rfl ?_
      refine .q (LD.move rfl) rfl rfl ?_
      refine TL.cr (CL.func rfl) (w_WayF h hr (a.1 : Int) (b.1 : Int)) m6 (Wants.un rfl) rfl ?_
      rintro _ rfl
      rw [atV_eq, hcc, hway]
      refine .q (LD.move rfl) rfl rfl ?_
      refine .q (LD.ex rfl rfl) rfl rfl ?_
      refine .q (LD.ex rfl rfl) rfl rfl ?_
      refine TL.nb NB.alloc (Wants.un rfl) rfl (fun b8 => ?_)
      refine .e (EF.stA (i := 0) rfl rfl rfl rfl rfl rfl (by repeat constructor)) rfl rfl ?_
      refine .q (LD.assign rfl) rfl rfl ?_
      refine TL.nilS ?_
      refine TC.region ?_
      refine .q (LD.fieldAddr rfl) rfl rfl ?_
      refine .q (LD.ld1 rfl m1 rfl) rfl rfl ?_
      refine .q (LD.ldA rfl m0 (by repeat constructor) rfl) rfl rfl ?_
      refine TL.nb (NB.bSl rfl rfl rfl (by repeat constructor)) (Wants.un rfl) rfl (fun b37 => ?_)
      refine TL.app rfl rfl rfl hb2 (Rd.lit rfl rfl) m0 (i := 7) rfl (take_snoc hx encWay) (by simp only [List.length_map, List.length_take, List.length_singleton]; omega) (by simp only [List.length_map, List.length_take, List.length_singleton]; omega) (Wants.un rfl) rfl ?_
      intro q0 c0 f0 hs0
      refine .q (LD.fieldAddr rfl) rfl rfl ?_
      refine .e (EF.st1 (i := 2) rfl rfl rfl rfl rfl (by repeat constructor)) rfl rfl ?_
      refine TL.nil ?_
      refine TC.region ?_
      refine .q (LD.move rfl) rfl rfl ?_
      refine .q (LD.add rfl rfl (by omega)) rfl rfl ?_
      refine .q (LD.assign rfl) rfl rfl ?_
      refine TL.nil ?_
      exact ⟨(b.1 + 1, q0, c0, f0), ⟨by omega, hs0⟩, by omega, ⟨rfl, rfl, rfl, rfl, rfl, rfl, trivial⟩, [_, _], .refl _⟩
    · have h2 := g2
      try simp at h2
      refine TC.exit ?_
      have hb1 := hb.1
      have hb2 := hb.2
      have hbw : W * a.1 + b.1 = W * (a.1 + 1) := by rw [Nat.mul_add]; omega
      rw [hbw] at hb2 ⊢
      refine TC.region ?_
      refine .q (LD.move rfl) rfl rfl ?_
      refine .q (LD.add rfl rfl (by omega)) rfl rfl ?_
      refine .q (LD.assign rfl) rfl rfl ?_
      refine TL.nil ?_
      exact ⟨(a.1 + 1, b.2.1, b.2.2.1, b.2.2.2), ⟨by omega, hb2⟩, by omega, ⟨rfl, rfl, rfl, rfl, rfl, trivial⟩, [], .refl _⟩
  · have h1 := g1
    try simp at h1
    refine TC.exit ?_
    refine TC.seq ?_
    refine TC.seq ?_
    have ha1 := ha.1
    have haS : k.a.take (W * a.1) = k.a := List.take_of_length_le (by rw [hlen, show a.1 = S by omega]; exact Nat.le_refl _)
    refine TC.region ?_
    refine .q (LD.move rfl) rfl rfl ?_
    refine TL.crn (CL.func rfl) (w_MissesF h hr) m6 (Wants.un rfl) rfl ?_
    intro v9 fm hsm
    obtain ⟨qm, cm, rfl, hrm⟩ := hsm.rd
    refine .q (LD.lenS rfl rfl Tryz.underlying143) rfl rfl ?_
    refine .q (LD.move rfl) rfl rfl ?_
    refine TL.nilS ?_
    refine TC.block ?_
    refine TC.loopd (α := Nat × Option Addr × Nat × Frag) (fun d => [(1, .pointer (some ⟨p, 0, none⟩)), (2, .pointer (some ⟨b2, 0, none⟩)), (4, .pointer (some ⟨b4, 0, none⟩)), (5, .pointer (some ⟨b5, 0, none⟩)), (41, .slice qm (k.f.map encMiss).length cm), (42, i ((k.f.map encMiss).length : Int)), (43, i (d.1 : Int))]) (fun d => fm :: blk b5 51 #[.slice a.2.1 ((k.a.take (W * a.1)).map encWay).length a.2.2.1, .slice d.2.1 ((k.f.take (d.1)).map encMiss).length d.2.2.1, .slice none 0 0] :: blk b4 51 #[.slice none 0 0, .slice none 0 0, .slice none 0 0] :: blk b2 24 (encC c) :: nof :: d.2.2.2 :: a.2.2.2 :: r :: F) (fun d => d.1 ≤ k.f.length ∧ IsSl 75 15 ((k.f.take (d.1)).map encMiss) (.slice d.2.1 ((k.f.take (d.1)).map encMiss).length d.2.2.1) d.2.2.2) (fun d => k.f.length - d.1) (0, none, 0, nof) ⟨Nat.zero_le _, IsSl.nil 75 15⟩ ⟨rfl, rfl, rfl, rfl, rfl, rfl, rfl, trivial⟩ ⟨[], .refl _⟩ (fun d hd => ?_)
    refine TC.seq ?_
    refine TC.region ?_
    refine .q (LD.lss rfl rfl) rfl rfl ?_
    refine TL.nilS ?_
    refine TC.seq ?_
    refine TC.cond rfl (fun g3 => ?_) (fun g3 => ?_)
    · have h3 := g3
      try simp at h3
      refine TC.skipS ?_
      refine TC.seq ?_
      refine TC.block ?_
      refine TC.seq ?_
      have hd1 := hd.1
      have hd2 := hd.2
      have hltd : d.1 < k.f.length := by omega
      obtain ⟨xd, hxd⟩ : ∃ x, k.f[d.1]? = some x := ⟨_, List.getElem?_eq_getElem hltd⟩
      have hed : (k.f.map encMiss)[d.1]? = some (encMiss xd) := by rw [List.getElem?_map, hxd]; rfl
      have hned : k.f.map encMiss ≠ [] := by intro h0; rw [h0] at hed; simp at hed
      obtain ⟨bad, od, csd, Td, frd, hqd, hbbd, hcsd⟩ := hrm.got hned
      refine TC.region ?_
      refine .q (LD.indexAddr rfl rfl hqd (by omega)) rfl rfl ?_
      refine .q (LD.elA (j := d.1) rfl m0 hbbd hcsd hrm.len hed) rfl rfl ?_
      refine TL.nb NB.alloc (Wants.un rfl) rfl (fun b11 => ?_)
      refine .e (EF.stA (i := 0) rfl rfl rfl rfl rfl rfl (by repeat constructor)) rfl rfl ?_
      refine TL.nilS ?_
      refine TC.region ?_
      refine .q (LD.fieldAddr rfl) rfl rfl ?_
      refine .q (LD.ld1 rfl m2 rfl) rfl rfl ?_
      refine .q (LD.ldA rfl m0 (by repeat constructor) rfl) rfl rfl ?_
      refine TL.nb (NB.bSl rfl rfl rfl (by repeat constructor)) (Wants.un rfl) rfl (fun b50 => ?_)
      refine TL.app rfl rfl rfl hd2 (Rd.lit rfl rfl) m0 (i := 7) rfl (take_snoc hxd encMiss) (by simp only [List.length_map, List.length_take, List.length_singleton]; omega) (by simp only [List.length_map, List.length_take, List.length_singleton]; omega) (Wants.un rfl) rfl ?_
      intro q1 c1 f1 hs1
      refine .q (LD.fieldAddr rfl) rfl rfl ?_
      refine .e (EF.st1 (i := 3) rfl rfl rfl rfl rfl (by repeat constructor)) rfl rfl ?_
      refine TL.nil ?_
      refine TC.region ?_
      refine .q (LD.add rfl rfl (by omega)) rfl rfl ?_
      refine .q (LD.move rfl) rfl rfl ?_
      refine TL.nil ?_
      exact ⟨(d.1 + 1, q1, c1, f1), ⟨by omega, hs1⟩, by omega, ⟨rfl, rfl, rfl, rfl, rfl, rfl, rfl, trivial⟩, [_, _], .refl _⟩
    · have h3 := g3
      try simp at h3
      refine TC.exit ?_
      refine TC.seq ?_
      refine TC.seq ?_
      have hd1 := hd.1
      have hdS : k.f.take d.1 = k.f := List.take_of_length_le (by omega)
      refine TC.region ?_
      refine .q (LD.move rfl) rfl rfl ?_
      refine TL.crn (CL.func rfl) (w_WrittenF h hr) m7 (Wants.un rfl) rfl ?_
      intro v10 fw hsw
      obtain ⟨qw, cw, rfl, hrw⟩ := hsw.rd
      refine .q (LD.lenS rfl rfl Tryz.underlying140) rfl rfl ?_
      refine .q (LD.move rfl) rfl rfl ?_
      refine TL.nilS ?_
      refine TC.block ?_
      refine TC.loopd (α := Nat × Option Addr × Nat × Frag) (fun e => [(1, .pointer (some ⟨p, 0, none⟩)), (2, .pointer (some ⟨b2, 0, none⟩)), (4, .pointer (some ⟨b4, 0, none⟩)), (5, .pointer (some ⟨b5, 0, none⟩)), (55, .slice qw (k.b.map encWB).length cw), (56, i ((k.b.map encWB).length : Int)), (57, i (e.1 : Int))]) (fun e => fw :: fm :: blk b5 51 #[.slice a.2.1 ((k.a.take (W * a.1)).map encWay).length a.2.2.1, .slice d.2.1 ((k.f.take (d.1)).map encMiss).length d.2.2.1, .slice e.2.1 ((k.b.take (e.1)).map encWB).length e.2.2.1] :: blk b4 51 #[.slice none 0 0, .slice none 0 0, .slice none 0 0] :: blk b2 24 (encC c) :: e.2.2.2 :: d.2.2.2 :: a.2.2.2 :: r :: F) (fun e => e.1 ≤ k.b.length ∧ IsSl 77 10 ((k.b.take (e.1)).map encWB) (.slice e.2.1 ((k.b.take (e.1)).map encWB).length e.2.2.1) e.2.2.2) (fun e => k.b.length - e.1) (0, none, 0, nof) ⟨Nat.zero_le _, IsSl.nil 77 10⟩ ⟨rfl, rfl, rfl, rfl, rfl, rfl, rfl, trivial⟩ ⟨[], .refl _⟩ (fun e he => ?_)
      refine TC.seq ?_
      refine TC.region ?_
      refine .q (LD.lss rfl rfl) rfl rfl ?_
      refine TL.nilS ?_
      refine TC.seq ?_
      refine TC.cond rfl (fun g4 => ?_) (fun g4 => ?_)
      · have h4 := g4
        try simp at h4
        refine TC.skipS ?_
        refine TC.seq ?_
        refine TC.block ?_
        refine TC.seq ?_
        have he1 := he.1
        have he2 := he.2
        have hlte : e.1 < k.b.length := by omega
        obtain ⟨xe, hxe⟩ : ∃ x, k.b[e.1]? = some x := ⟨_, List.getElem?_eq_getElem hlte⟩
        have hee : (k.b.map encWB)[e.1]? = some (encWB xe) := by rw [List.getElem?_map, hxe]; rfl
        have hnee : k.b.map encWB ≠ [] := by intro h0; rw [h0] at hee; simp at hee
        obtain ⟨bae, oe, cse, Te, fre, hqe, hbbe, hcse⟩ := hrw.got hnee
        refine TC.region ?_
        refine .q (LD.indexAddr rfl rfl hqe (by omega)) rfl rfl ?_
        refine .q (LD.elA (j := e.1) rfl m0 hbbe hcse hrw.len hee) rfl rfl ?_
        refine TL.nb NB.alloc (Wants.un rfl) rfl (fun b13 => ?_)
        refine .e (EF.stA (i := 0) rfl rfl rfl rfl rfl rfl (by repeat constructor)) rfl rfl ?_
        refine TL.nilS ?_
        refine TC.region ?_
        refine .q (LD.fieldAddr rfl) rfl rfl ?_
        refine .q (LD.ld1 rfl m3 rfl) rfl rfl ?_
        refine .q (LD.ldA rfl m0 (by repeat constructor) rfl) rfl rfl ?_
        refine TL.nb (NB.bSl rfl rfl rfl (by repeat constructor)) (Wants.un rfl) rfl (fun b64 => ?_)
        refine TL.app rfl rfl rfl he2 (Rd.lit rfl rfl) m0 (i := 7) rfl (take_snoc hxe encWB) (by simp only [List.length_map, List.length_take, List.length_singleton]; omega) (by simp only [List.length_map, List.length_take, List.length_singleton]; omega) (Wants.un rfl) rfl ?_
        intro q2 c2 f2 hs2
        refine .q (LD.fieldAddr rfl) rfl rfl ?_
        refine .e (EF.st1 (i := 4) rfl rfl rfl rfl rfl (by repeat constructor)) rfl rfl ?_
        refine TL.nil ?_
        refine TC.region ?_
        refine .q (LD.add rfl rfl (by omega)) rfl rfl ?_
        refine .q (LD.move rfl) rfl rfl ?_
        refine TL.nil ?_
        exact ⟨(e.1 + 1, q2, c2, f2), ⟨by omega, hs2⟩, by omega, ⟨rfl, rfl, rfl, rfl, rfl, rfl, rfl, trivial⟩, [_, _], .refl _⟩
      · have h4 := g4
        try simp at h4
        refine TC.exit ?_
        refine TC.seq ?_
        have he1 := he.1
        have heS : k.b.take e.1 = k.b := List.take_of_length_le (by omega)
        have hA := ha.2
        have hB := hd.2
        have hC := he.2
        rw [haS] at hA ⊢
        rw [hdS] at hB ⊢
        rw [heS] at hC ⊢
        refine TC.region ?_
        refine .q (LD.ldA rfl m2 (by repeat constructor) rfl) rfl rfl ?_
        refine .e (EF.stA (i := 3) rfl rfl rfl rfl rfl rfl (by repeat constructor)) rfl rfl ?_
        refine TL.nilS ?_
        refine TC.ret ?_
        repeat first | refine Post.sr ?_ | refine Post.br ?_
        exact Out.intro (X := [_, _, _, _, _]) (L' := [_, _, _, _]) (Res.c rfl (LV.aggL m3 (by repeat constructor) rfl) Res.z) ⟨_, _, _, _, _, _, _, _, _, rfl, rfl, hA, hB, hC⟩ (.refl _)
instance eqBoolX : Eq1 Tryz.prog 4 false := ⟨.inr ⟨rfl, Tryz.underlying4⟩⟩
open Mes in
theorem CacOk.hal {c : Cfg} {n : Int} {k : Cache} (h : CacOk c n k) : k.a.length ≤ 100000 := by
  obtain ⟨m, hm, hm2⟩ := sw_nat h.ok
  have h8 := h.ha
  rw [h.inv.cfg, hm] at h8
  omega
instance eqPW : EqA Tryz.prog 69 4 (true :: (true :: (List.replicate 8 true ++ (false :: [])))) := EqA.struct Tryz.underlying69 Tryz.stoodInHeld69 (.one (by decide) rfl inferInstance inferInstance (.one (by decide) rfl inferInstance inferInstance (.agg (by decide) rfl (inferInstanceAs (Agg Tryz.prog 36 8)) eqW (by decide) rfl (.one (by decide) rfl inferInstance inferInstance .nil))))
instance eqPM : EqA Tryz.prog 75 4 (true :: (true :: (true :: (true :: (true :: (List.replicate 8 true ++ (false :: (false :: [])))))))) := EqA.struct Tryz.underlying75 Tryz.stoodInHeld75 (.one (by decide) rfl inferInstance inferInstance (.one (by decide) rfl inferInstance inferInstance (.one (by decide) rfl inferInstance inferInstance (.one (by decide) rfl inferInstance inferInstance (.one (by decide) rfl inferInstance inferInstance (.agg (by decide) rfl (inferInstanceAs (Agg Tryz.prog 36 8)) eqW (by decide) rfl (.one (by decide) rfl inferInstance inferInstance (.one (by decide) rfl inferInstance inferInstance .nil))))))))
instance eqPB : EqA Tryz.prog 77 4 (true :: (List.replicate 8 true ++ (false :: []))) := EqA.struct Tryz.underlying77 Tryz.stoodInHeld77 (.one (by decide) rfl inferInstance inferInstance (.agg (by decide) rfl (inferInstanceAs (Agg Tryz.prog 36 8)) eqW (by decide) rfl (.one (by decide) rfl inferInstance inferInstance .nil)))
set_option maxHeartbeats 2000000 in
open Mes in
theorem w_same14 (a : List Mes.Way) (f : List Mes.Miss) (b : List Mes.WB) (hA : a.length ≤ 100000) (hF : f.length ≤ 100000) (hB : b.length ≤ 100000) (f0 f1 f2 g0 g1 g2 : Frag) (q0 q1 q2 u0 u1 u2 : Option Addr) (c0 c1 c2 d0 d1 d2 : Nat) (hf0 : Rd f0 q0 11 (a.map encWay)) (hg0 : Rd g0 u0 11 (a.map encWay)) (hf1 : Rd f1 q1 15 (f.map encMiss)) (hg1 : Rd g1 u1 15 (f.map encMiss)) (hf2 : Rd f2 q2 10 (b.map encWB)) (hg2 : Rd g2 u2 10 (b.map encWB)) : Fn Tryz.prog 16 [.agg #[.slice q0 (a.map encWay).length c0, .slice q1 (f.map encMiss).length c1, .slice q2 (b.map encWB).length c2], .agg #[.slice u0 (a.map encWay).length d0, .slice u1 (f.map encMiss).length d1, .slice u2 (b.map encWB).length d2]] [f0, f1, f2, g0, g1, g2] (fun v L' => v = .bool true ∧ L' = [f0, f1, f2, g0, g1, g2]) := by
  refine Fn.body Tryz.func16 rfl rfl rfl (Nat.le_of_ble_eq_true rfl) fun F => ?_
  have hla : (a.map encWay).length = a.length := List.length_map ..
  have hlf : (f.map encMiss).length = f.length := List.length_map ..
  have hlb : (b.map encWB).length = b.length := List.length_map ..
  refine TC.seq ?_
  refine TC.region ?_
  refine TL.nb (NB.boxA rfl) (Wants.un rfl) rfl (fun b2 => ?_)
  refine TL.nb (NB.boxA rfl) (Wants.un rfl) rfl (fun b3 => ?_)
  refine .q (LD.assign rfl) rfl rfl ?_
  refine TL.nilS ?_
  refine TC.seq ?_
  refine TC.seq ?_
  refine TC.region ?_
  refine .q (LD.fieldAddr rfl) rfl rfl ?_
  refine .q (LD.ld1 rfl m1 rfl) rfl rfl ?_
  refine .q (LD.lenS rfl rfl Tryz.underlying47) rfl rfl ?_
  refine .q (LD.fieldAddr rfl) rfl rfl ?_
  refine .q (LD.ld1 rfl m0 rfl) rfl rfl ?_
  refine .q (LD.lenS rfl rfl Tryz.underlying47) rfl rfl ?_
  refine .q (LD.neqF rfl rfl rfl) rfl rfl ?_
  refine .q (LD.move rfl) rfl rfl ?_
  refine .y (LD.fieldAddr rfl) rfl rfl rfl rfl rfl ?_
  refine .y (LD.ld1 rfl m1 rfl) rfl rfl rfl rfl rfl ?_
  refine .y (LD.lenS rfl rfl Tryz.underlying48) rfl rfl rfl rfl rfl ?_
  refine .y (LD.fieldAddr rfl) rfl rfl rfl rfl rfl ?_
  refine .y (LD.ld1 rfl m0 rfl) rfl rfl rfl rfl rfl ?_
  refine .y (LD.lenS rfl rfl Tryz.underlying48) rfl rfl rfl rfl rfl ?_
  refine .y (LD.neqF rfl rfl rfl) rfl rfl rfl rfl rfl ?_
  refine .q (LD.pickF rfl rfl rfl) rfl rfl ?_
  refine .q (LD.move rfl) rfl rfl ?_
  refine .y (LD.fieldAddr rfl) rfl rfl rfl rfl rfl ?_
  refine .y (LD.ld1 rfl m1 rfl) rfl rfl rfl rfl rfl ?_
  refine .y (LD.lenS rfl rfl Tryz.underlying49) rfl rfl rfl rfl rfl ?_
  refine .y (LD.fieldAddr rfl) rfl rfl rfl rfl rfl ?_
  refine .y (LD.ld1 rfl m0 rfl) rfl rfl rfl rfl rfl ?_
  refine .y (LD.lenS rfl rfl Tryz.underlying49) rfl rfl rfl rfl rfl ?_
  refine .y (LD.neqF rfl rfl rfl) rfl rfl rfl rfl rfl ?_
  refine .q (LD.pickF rfl rfl rfl) rfl rfl ?_
  refine TL.nilS ?_
  refine TC.condF rfl rfl ?_
  refine TC.skipS ?_
  refine TC.seq ?_
  refine TC.seq ?_
  refine TC.region ?_
  refine .q (LD.fieldAddr rfl) rfl rfl ?_
  refine .q (LD.ld1 rfl m1 rfl) rfl rfl ?_
  refine .q (LD.lenS rfl rfl Tryz.underlying47) rfl rfl ?_
  refine .q (LD.move rfl) rfl rfl ?_
  refine TL.nilS ?_
  refine TC.block ?_
  refine TC.loopd (α := Nat) (fun j => [(2, .pointer (some ⟨b2, 0, none⟩)), (3, .pointer (some ⟨b3, 0, none⟩)), (35, i ((a.map encWay).length : Int)), (36, i (j : Int))]) (fun _ => _) (fun j => j ≤ a.length) (fun j => a.length - j) 0 (Nat.zero_le _) ⟨rfl, rfl, rfl, rfl, trivial⟩ ⟨[], .refl _⟩ (fun j hj => ?_)
  refine TC.seq ?_
  refine TC.region ?_
  refine .q (LD.lss rfl rfl) rfl rfl ?_
  refine TL.nilS ?_
  refine TC.seq ?_
  refine TC.cond rfl (fun g1 => ?_) (fun g1 => ?_)
  · have h1 := g1
    try simp at h1
    refine TC.skipS ?_
    refine TC.seq ?_
    refine TC.block ?_
    refine TC.seq ?_
    refine TC.region ?_
    refine .q (LD.move rfl) rfl rfl ?_
    refine .q (LD.assign rfl) rfl rfl ?_
    refine TL.nilS ?_
    refine TC.seq ?_
    have hlt : j < a.length := by omega
    obtain ⟨x, hx⟩ : ∃ x, a[j]? = some x := ⟨_, List.getElem?_eq_getElem hlt⟩
    have he : (a.map encWay)[j]? = some (encWay x) := by rw [List.getElem?_map, hx]; rfl
    have hne : a.map encWay ≠ [] := by intro h0; rw [h0] at he; simp at he
    obtain ⟨ba, oa, csa, Ta, fra, hqa, hba, hca⟩ := hf0.got hne
    obtain ⟨bb, ob, csb, Tb, frb, hqb, hbb, hcb⟩ := hg0.got hne
    refine TC.draw0 [0, 0, 0, 0, 0, 0, 0, 0, 0, 0, 0] [0, 1, 2, 3, 4, 5, 6, 7, 8, 9, 10] TryzI.mixed (by decide +kernel) (by decide) ?_
    refine .q rfl rfl (LD.fieldAddr rfl) rfl rfl ?_
    refine .q rfl rfl (LD.ld1 rfl m1 rfl) rfl rfl ?_
    refine .q rfl rfl (LD.move rfl) rfl rfl ?_
    refine .q rfl rfl (LD.indexAddr rfl rfl hqa (by omega)) rfl rfl ?_
    refine .q rfl rfl (LD.elA (j := j) rfl m2 hba hca hf0.len he) rfl rfl ?_
    refine .q rfl rfl (LD.fieldAddr rfl) rfl rfl ?_
    refine .q rfl rfl (LD.ld1 rfl m0 rfl) rfl rfl ?_
    refine .q rfl rfl (LD.move rfl) rfl rfl ?_
    refine .q rfl rfl (LD.indexAddr rfl rfl hqb (by omega)) rfl rfl ?_
    refine .q rfl rfl (LD.elA (j := j) rfl m5 hbb hcb hg0.len he) rfl rfl ?_
    refine .q rfl rfl (LD.neqSF rfl rfl Tryz.eqGuardType69 rfl (by repeat first | exact rfl | refine ⟨_, _, rfl, ⟨_, rfl⟩, ?_⟩) rfl) rfl rfl ?_
    refine TD.nilT ?_
    refine TC.condF rfl rfl ?_
    refine TC.skip ?_
    refine TC.region ?_
    refine .q (LD.add rfl rfl (by omega)) rfl rfl ?_
    refine .q (LD.move rfl) rfl rfl ?_
    refine TL.nil ?_
    exact ⟨j + 1, by omega, by omega, ⟨rfl, rfl, rfl, rfl, trivial⟩, [], .refl _⟩
  · have h1 := g1
    try simp at h1
    refine TC.exit ?_
    refine TC.seq ?_
    refine TC.seq ?_
    refine TC.region ?_
    refine .q (LD.fieldAddr rfl) rfl rfl ?_
    refine .q (LD.ld1 rfl m1 rfl) rfl rfl ?_
    refine .q (LD.lenS rfl rfl Tryz.underlying48) rfl rfl ?_
    refine .q (LD.move rfl) rfl rfl ?_
    refine TL.nilS ?_
    refine TC.block ?_
    refine TC.loopd (α := Nat) (fun j => [(2, .pointer (some ⟨b2, 0, none⟩)), (3, .pointer (some ⟨b3, 0, none⟩)), (53, i ((f.map encMiss).length : Int)), (54, i (j : Int))]) (fun _ => _) (fun j => j ≤ f.length) (fun j => f.length - j) 0 (Nat.zero_le _) ⟨rfl, rfl, rfl, rfl, trivial⟩ ⟨[], .refl _⟩ (fun j hj => ?_)
    refine TC.seq ?_
    refine TC.region ?_
    refine .q (LD.lss rfl rfl) rfl rfl ?_
    refine TL.nilS ?_
    refine TC.seq ?_
    refine TC.cond rfl (fun g2 => ?_) (fun g2 => ?_)
    · have h2 := g2
      try simp at h2
      refine TC.skipS ?_
      refine TC.seq ?_
      refine TC.block ?_
      refine TC.seq ?_
      refine TC.region ?_
      refine .q (LD.move rfl) rfl rfl ?_
      refine .q (LD.assign rfl) rfl rfl ?_
      refine TL.nilS ?_
      refine TC.seq ?_
      have hlt : j < f.length := by omega
      obtain ⟨x, hx⟩ : ∃ x, f[j]? = some x := ⟨_, List.getElem?_eq_getElem hlt⟩
      have he : (f.map encMiss)[j]? = some (encMiss x) := by rw [List.getElem?_map, hx]; rfl
      have hne : f.map encMiss ≠ [] := by intro h0; rw [h0] at he; simp at he
      obtain ⟨ba, oa, csa, Ta, fra, hqa, hba, hca⟩ := hf1.got hne
      obtain ⟨bb, ob, csb, Tb, frb, hqb, hbb, hcb⟩ := hg1.got hne
      refine TC.draw0 [0, 0, 0, 0, 0, 0, 0, 0, 0, 0, 0] [0, 1, 2, 3, 4, 5, 6, 7, 8, 9, 10] TryzI.mixed (by decide +kernel) (by decide) ?_
      refine .q rfl rfl (LD.fieldAddr rfl) rfl rfl ?_
      refine .q rfl rfl (LD.ld1 rfl m1 rfl) rfl rfl ?_
      refine .q rfl rfl (LD.move rfl) rfl rfl ?_
      refine .q rfl rfl (LD.indexAddr rfl rfl hqa (by omega)) rfl rfl ?_
      refine .q rfl rfl (LD.elA (j := j) rfl m3 hba hca hf1.len he) rfl rfl ?_
      refine .q rfl rfl (LD.fieldAddr rfl) rfl rfl ?_
      refine .q rfl rfl (LD.ld1 rfl m0 rfl) rfl rfl ?_
      refine .q rfl rfl (LD.move rfl) rfl rfl ?_
      refine .q rfl rfl (LD.indexAddr rfl rfl hqb (by omega)) rfl rfl ?_
      refine .q rfl rfl (LD.elA (j := j) rfl m6 hbb hcb hg1.len he) rfl rfl ?_
      refine .q rfl rfl (LD.neqSF rfl rfl Tryz.eqGuardType75 rfl (by repeat first | exact rfl | refine ⟨_, _, rfl, ⟨_, rfl⟩, ?_⟩) rfl) rfl rfl ?_
      refine TD.nilT ?_
      refine TC.condF rfl rfl ?_
      refine TC.skip ?_
      refine TC.region ?_
      refine .q (LD.add rfl rfl (by omega)) rfl rfl ?_
      refine .q (LD.move rfl) rfl rfl ?_
      refine TL.nil ?_
      exact ⟨j + 1, by omega, by omega, ⟨rfl, rfl, rfl, rfl, trivial⟩, [], .refl _⟩
    · have h2 := g2
      try simp at h2
      refine TC.exit ?_
      refine TC.seq ?_
      refine TC.seq ?_
      refine TC.region ?_
      refine .q (LD.fieldAddr rfl) rfl rfl ?_
      refine .q (LD.ld1 rfl m1 rfl) rfl rfl ?_
      refine .q (LD.lenS rfl rfl Tryz.underlying49) rfl rfl ?_
      refine .q (LD.move rfl) rfl rfl ?_
      refine TL.nilS ?_
      refine TC.block ?_
      refine TC.loopd (α := Nat) (fun j => [(2, .pointer (some ⟨b2, 0, none⟩)), (3, .pointer (some ⟨b3, 0, none⟩)), (71, i ((b.map encWB).length : Int)), (72, i (j : Int))]) (fun _ => _) (fun j => j ≤ b.length) (fun j => b.length - j) 0 (Nat.zero_le _) ⟨rfl, rfl, rfl, rfl, trivial⟩ ⟨[], .refl _⟩ (fun j hj => ?_)
      refine TC.seq ?_
      refine TC.region ?_
      refine .q (LD.lss rfl rfl) rfl rfl ?_
      refine TL.nilS ?_
      refine TC.seq ?_
      refine TC.cond rfl (fun g3 => ?_) (fun g3 => ?_)
      · have h3 := g3
        try simp at h3
        refine TC.skipS ?_
        refine TC.seq ?_
        refine TC.block ?_
        refine TC.seq ?_
        refine TC.region ?_
        refine .q (LD.move rfl) rfl rfl ?_
        refine .q (LD.assign rfl) rfl rfl ?_
        refine TL.nilS ?_
        refine TC.seq ?_
        have hlt : j < b.length := by omega
        obtain ⟨x, hx⟩ : ∃ x, b[j]? = some x := ⟨_, List.getElem?_eq_getElem hlt⟩
        have he : (b.map encWB)[j]? = some (encWB x) := by rw [List.getElem?_map, hx]; rfl
        have hne : b.map encWB ≠ [] := by intro h0; rw [h0] at he; simp at he
        obtain ⟨ba, oa, csa, Ta, fra, hqa, hba, hca⟩ := hf2.got hne
        obtain ⟨bb, ob, csb, Tb, frb, hqb, hbb, hcb⟩ := hg2.got hne
        refine TC.draw0 [0, 0, 0, 0, 0, 0, 0, 0, 0, 0, 0] [0, 1, 2, 3, 4, 5, 6, 7, 8, 9, 10] TryzI.mixed (by decide +kernel) (by decide) ?_
        refine .q rfl rfl (LD.fieldAddr rfl) rfl rfl ?_
        refine .q rfl rfl (LD.ld1 rfl m1 rfl) rfl rfl ?_
        refine .q rfl rfl (LD.move rfl) rfl rfl ?_
        refine .q rfl rfl (LD.indexAddr rfl rfl hqa (by omega)) rfl rfl ?_
        refine .q rfl rfl (LD.elA (j := j) rfl m4 hba hca hf2.len he) rfl rfl ?_
        refine .q rfl rfl (LD.fieldAddr rfl) rfl rfl ?_
        refine .q rfl rfl (LD.ld1 rfl m0 rfl) rfl rfl ?_
        refine .q rfl rfl (LD.move rfl) rfl rfl ?_
        refine .q rfl rfl (LD.indexAddr rfl rfl hqb (by omega)) rfl rfl ?_
        refine .q rfl rfl (LD.elA (j := j) rfl m7 hbb hcb hg2.len he) rfl rfl ?_
        refine .q rfl rfl (LD.neqSF rfl rfl Tryz.eqGuardType77 rfl (by repeat first | exact rfl | refine ⟨_, _, rfl, ⟨_, rfl⟩, ?_⟩) rfl) rfl rfl ?_
        refine TD.nilT ?_
        refine TC.condF rfl rfl ?_
        refine TC.skip ?_
        refine TC.region ?_
        refine .q (LD.add rfl rfl (by omega)) rfl rfl ?_
        refine .q (LD.move rfl) rfl rfl ?_
        refine TL.nil ?_
        exact ⟨j + 1, by omega, by omega, ⟨rfl, rfl, rfl, rfl, trivial⟩, [], .refl _⟩
      · have h3 := g3
        try simp at h3
        refine TC.exit ?_
        refine TC.seq ?_
        refine TC.region ?_
        refine .q (LD.assign rfl) rfl rfl ?_
        refine TL.nilS ?_
        refine TC.ret ?_
        repeat first | refine Post.sr ?_ | refine Post.br ?_
        exact Out.intro (X := [_, _]) (L' := [_, _, _, _, _, _]) (Res.t rfl Res.z) ⟨rfl, rfl⟩ (.refl _)
end Go.SL.TryzI
