/- A part of proofs about the given program. No condition. -/
import Derived.Test.YtcgfdjijodlopaaGreatWlaw14
set_option linter.all false
namespace Go.SL.TryzI
open Go Go.Proofs Go.SL
set_option maxRecDepth 100000


open Mes in
theorem okRun {c : Cfg} (hok : c.ok = true) (hc : CfgR c) (core : Int) (l : List Step) (hlen : l.length ≤ 1000000) : CacOk c l.length (runC (Cache.new c core) l) := by
  have hn := CInv.runN hok l (CInv.new hok core) (n := 0) (by omega) (fun x m hx => by simp [Cache.new, missOf] at hx)
  rw [Int.zero_add] at hn
  exact ⟨hn.inv, hc, hok, hn.got, by omega⟩
open Mes in
theorem coreRun {c : Cfg} (hok : c.ok = true) (core : Int) (l : List Step) : (runC (Cache.new c core) l).core = core :=
  (CInv.runN hok l (CInv.new hok core) (n := 0) (by omega) (fun x m hx => by simp [Cache.new, missOf] at hx)).core
open Mes in
theorem runTake {k : Cache} {l : List Step} {j : Nat} {s : Step} (hs : l[j]? = some s) : runC k (l.take (j + 1)) = (stepC (runC k (l.take j)) s).1 := by
  have hj := (List.getElem?_eq_some_iff.1 hs).1
  rw [List.take_add_one, hs]
  exact runC_snoc k (l.take j) s
open Mes in
def jn (c : Cfg) (l : Int) : Bool := c.ok && inR 0 c.words && inR l c.size && decide (l * c.words + 0 < c.size)
open Mes in
theorem joinV (c : Cfg) (l : Int) : (bif c.ok && inR 0 c.words && inR l c.size && decide (l * c.words + 0 < c.size) then Value.tuple #[i (l * c.words + 0), i 0] else .tuple #[i 0, i 1]) = .tuple [i (bif jn c l then l * c.words else 0), i (bif jn c l then 0 else 1)].toArray := by
  show (bif jn c l then _ else _) = _
  cases jn c l
  · rfl
  · rw [Int.add_zero]; rfl
open Mes in
theorem jn_line {c : Cfg} {l : Int} (h : jn c l = true) : 0 ≤ l ∧ l < c.lines := by
  simp only [jn, Bool.and_eq_true, inR, decide_eq_true_eq] at h
  obtain ⟨⟨⟨hok, h1⟩, h2⟩, h3⟩ := h
  have hw := ok_words hok
  refine ⟨h2.1, ?_⟩
  rw [Int.add_zero] at h3
  have hs : c.size = c.words * c.lines := by unfold Cfg.size; rw [if_pos hok]
  rw [hs, Int.mul_comm] at h3
  exact Int.lt_of_mul_lt_mul_left h3 (by omega)
theorem encStep_len (a : List Mes.Step) : ∀ e ∈ a.map encStep, e.length = 21 := fun e he => by
  obtain ⟨x, _, rfl⟩ := List.mem_map.1 he; rfl

set_option maxHeartbeats 1000000 in
open Mes in
theorem w_CacheLets (c : Cfg) (hc : CfgR c) (core : Int) (l : List Mes.Step) (hl : ∀ s ∈ l, StepR s) (q : Option Addr) (cap : Nat) (h0 : Frag) (hrd : Rd h0 q 21 (l.map encStep)) (line who kind : Int) : FnR Tryz.prog 7 [.agg (encC c), i core, .slice q l.length cap, i line, i who, i kind] h0 (fun v => v = .bool true) := by
  refine Fn.body Tryz.func7 rfl rfl rfl (Nat.le_of_ble_eq_true rfl) fun F => ?_
  refine TC.seq ?_
  refine TC.region ?_
  refine TL.nb (NB.boxA rfl) (Wants.un rfl) rfl (fun b6 => ?_)
  refine .q (LD.assign rfl) rfl rfl ?_
  refine TL.nilS ?_
  refine TC.seq ?_
  refine TC.seq ?_
  refine TC.region ?_
  refine TL.cp (CL.func rfl) w_awake14 (Wants.un rfl) rfl ?_
  rintro _ rfl
  refine .q (LD.not rfl) rfl rfl ?_
  refine TL.nilS ?_
  refine TC.condF rfl rfl ?_
  refine TC.skipS ?_
  refine TC.seq ?_
  refine TC.seq ?_
  refine TC.region ?_
  refine .q (LD.move rfl) rfl rfl ?_
  refine .q (LD.lenS rfl rfl Tryz.underlying25) rfl rfl ?_
  refine .q (LD.gtr rfl rfl) rfl rfl ?_
  refine .q (LD.move rfl) rfl rfl ?_
  refine TL.split rfl rfl rfl rfl (fun g1 => ?_) (fun g1 => ?_)
  · have h1 := g1
    try simp at h1
    refine .y (LD.ldA rfl m0 (by repeat constructor) rfl) g1 rfl rfl rfl rfl ?_
    refine TL.cp (CL.func rfl) (w_large14 c) (Wants.yes rfl rfl rfl g1) rfl ?_
    rintro _ rfl
    refine .q (LD.pickF rfl g1 rfl) rfl rfl ?_
    refine TL.nilS ?_
    refine TC.cond rfl (fun g2 => ?_) (fun g2 => ?_)
    · have h2 := g2
      try simp at h2
      refine TC.seq ?_
      refine TC.region ?_
      refine .q (LD.assign rfl) rfl rfl ?_
      refine TL.nilS ?_
      refine TC.ret ?_
      repeat first | refine Post.sr ?_ | refine Post.br ?_
      exact Out.intro (X := [_]) (L' := [_]) (Res.t rfl Res.z) ⟨by simp_all [pack], rfl⟩ (.refl _)
    · have h2 := g2
      try simp at h2
      refine TC.skipS ?_
      refine TC.seq ?_
      refine TC.region ?_
      refine .q (LD.ldA rfl m0 (by repeat constructor) rfl) rfl rfl ?_
      refine .q (LD.move rfl) rfl rfl ?_
      refine TL.cn (CL.func rfl) (w_CacNew c hc core) (Wants.un rfl) rfl ?_
      intro v0 r0 hcn
      rcases hcn with ⟨hok, hcore, p, rfl, hr0⟩ | ⟨hno, rfl, rfl⟩
      · skip
        refine .q (LD.move rfl) rfl rfl ?_
        refine .q (LD.ex rfl rfl) rfl rfl ?_
        refine .q (LD.ex rfl rfl) rfl rfl ?_
        refine .q (LD.assign rfl) rfl rfl ?_
        refine .q (LD.assign rfl) rfl rfl ?_
        refine TL.nilS ?_
        refine TC.seq ?_
        refine TC.seq ?_
        refine TC.region ?_
        refine .q (LD.move rfl) rfl rfl ?_
        refine .q (LD.ptrEql rfl rfl Tryz.underlying28 (by first | exact .inr rfl | exact .inl rfl)) rfl rfl ?_
        refine .q (LD.move rfl) rfl rfl ?_
        refine .y (LD.move rfl) rfl rfl rfl rfl rfl ?_
        refine .y (LD.lss rfl rfl) rfl rfl rfl rfl rfl ?_
        refine .q (LD.pickF rfl rfl rfl) rfl rfl ?_
        refine .q (LD.move rfl) rfl rfl ?_
        refine TL.split rfl rfl rfl rfl (fun g3 => ?_) (fun g3 => ?_)
        · have h3 := g3
          try simp at h3
          refine .y (LD.move rfl) g3 rfl rfl rfl rfl ?_
          refine .y (LD.gtr rfl rfl) g3 rfl rfl rfl rfl ?_
          refine .q (LD.pickF rfl g3 rfl) rfl rfl ?_
          refine TL.nilS ?_
          refine TC.cond rfl (fun g4 => ?_) (fun g4 => ?_)
          · have h4 := g4
            try simp at h4
            refine TC.seq ?_
            refine TC.region ?_
            refine .q (LD.assign rfl) rfl rfl ?_
            refine TL.nilS ?_
            refine TC.ret ?_
            repeat first | refine Post.sr ?_ | refine Post.br ?_
            exact Out.intro (X := [_, _]) (L' := [_]) (Res.t rfl Res.z) ⟨by simp_all [pack], rfl⟩ (.refl _)
          · have h4 := g4
            try simp at h4
            refine TC.skipS ?_
            refine TC.seq ?_
            refine TC.seq ?_
            refine TC.region ?_
            refine .q (LD.move rfl) rfl rfl ?_
            refine .q (LD.lenS rfl rfl Tryz.underlying25) rfl rfl ?_
            refine .q (LD.move rfl) rfl rfl ?_
            refine TL.nilS ?_
            refine TC.block ?_
            refine TC.loopd (α := Nat × Frag) (fun k => [(1, i core), (3, i line), (4, i who), (5, i kind), (6, .pointer (some ⟨b6, 0, none⟩)), (13, .pointer (some ⟨p, 0, none⟩)), (54, .slice q l.length cap), (55, i (l.length : Int)), (56, i (k.1 : Int))]) (fun k => k.2 :: blk b6 24 (encC c) :: h0 :: F) (fun k => k.1 ≤ l.length ∧ IsCac (runC (Cache.new c core) (l.take k.1)) p k.2) (fun k => l.length - k.1) (0, r0) ⟨Nat.zero_le _, hr0⟩ ⟨rfl, rfl, rfl, rfl, rfl, rfl, rfl, rfl, rfl, trivial⟩ ⟨[], .refl _⟩ (fun k hk => ?_)
            refine TC.seq ?_
            refine TC.region ?_
            refine .q (LD.lss rfl rfl) rfl rfl ?_
            refine TL.nilS ?_
            refine TC.seq ?_
            refine TC.cond rfl (fun g5 => ?_) (fun g5 => ?_)
            · have h5 := g5
              try simp at h5
              refine TC.skipS ?_
              refine TC.seq ?_
              refine TC.block ?_
              refine TC.seq ?_
              have hkl : k.1 < l.length := by omega
              obtain ⟨s, hs0⟩ : ∃ s, l[k.1]? = some s := ⟨_, List.getElem?_eq_getElem hkl⟩
              have hsm := List.mem_of_getElem? hs0
              have he : (l.map encStep)[k.1]? = some (encStep s) := by rw [List.getElem?_map, hs0]; rfl
              have hne : l.map encStep ≠ [] := by intro h0; rw [h0] at he; simp at he
              obtain ⟨ba, o, cs, T, fr, hq2, hb, hcs⟩ := hrd.got hne
              have hok9 := okRun hok hc core (l.take k.1) (by rw [List.length_take]; omega)
              refine TC.region ?_
              refine .q (LD.indexAddr rfl rfl hq2 (by omega)) rfl rfl ?_
              refine .q (LD.elA (j := k.1) rfl m2 hb hcs hrd.len he) rfl rfl ?_
              refine TL.nb NB.alloc (Wants.un rfl) rfl (fun b16 => ?_)
              refine .e (EF.stA (i := 0) rfl rfl rfl rfl rfl rfl (by repeat constructor)) rfl rfl ?_
              refine TL.nilS ?_
              refine TC.region ?_
              refine .q (LD.move rfl) rfl rfl ?_
              refine .q (LD.ldA rfl m0 (by repeat constructor) rfl) rfl rfl ?_
              refine TL.cw (CL.func rfl) (w_do14 hok9 hk.2 s (hl s hsm)) (i := 1) rfl (Wants.un rfl) rfl ?_
              rintro _ r2 ⟨rfl, hr2⟩
              refine TL.nil ?_
              refine TC.region ?_
              refine .q (LD.add rfl rfl (by omega)) rfl rfl ?_
              refine .q (LD.move rfl) rfl rfl ?_
              refine TL.nil ?_
              exact ⟨(k.1 + 1, r2), ⟨by omega, by rw [runTake hs0]; exact hr2⟩, by omega, ⟨rfl, rfl, rfl, rfl, rfl, rfl, rfl, rfl, rfl, trivial⟩, [_], .refl _⟩
            · have h5 := g5
              try simp at h5
              refine TC.exit ?_
              refine TC.seq ?_
              have hlk : k.1 = l.length := by omega
              have hr1 := hk.2
              rw [hlk, List.take_length] at hr1
              have hok9 := okRun hok hc core l (by omega)
              have hcr := coreRun hok core l
              obtain ⟨kk, hkk⟩ : ∃ kk, kk = runC (Cache.new c core) l := ⟨_, rfl⟩
              rw [← hkk] at hr1 hok9 hcr
              refine TC.region ?_
              refine .q (LD.ldA rfl m1 (by repeat constructor) rfl) rfl rfl ?_
              refine .q (LD.move rfl) rfl rfl ?_
              refine TL.cp (CL.func rfl) (w_Join c hc line 0) (Wants.un rfl) rfl ?_
              rintro _ rfl
              rw [joinV]
              refine .q (LD.move rfl) rfl rfl ?_
              refine .q (LD.ex rfl rfl) rfl rfl ?_
              refine .q (LD.ex rfl rfl) rfl rfl ?_
              refine .q (LD.assign rfl) rfl rfl ?_
              refine .q (LD.assign rfl) rfl rfl ?_
              refine TL.nilS ?_
              refine TC.seq ?_
              refine TC.seq ?_
              refine TC.region ?_
              refine .q (LD.move rfl) rfl rfl ?_
              refine .q (LD.neq rfl rfl) rfl rfl ?_
              refine TL.nilS ?_
              refine TC.cond rfl (fun g6 => ?_) (fun g6 => ?_)
              · have h6 := g6
                try simp at h6
                refine TC.seq ?_
                refine TC.region ?_
                refine .q (LD.assign rfl) rfl rfl ?_
                refine TL.nilS ?_
                refine TC.ret ?_
                repeat first | refine Post.sr ?_ | refine Post.br ?_
                exact Out.intro (X := [_, _]) (L' := [_]) (Res.t rfl Res.z) ⟨by simp_all [pack], rfl⟩ (.refl _)
              · have h6 := g6
                try simp at h6
                refine TC.skipS ?_
                refine TC.seq ?_
                have hj : jn c line = true := by cases hq : jn c line <;> simp_all
                rw [hj]
                simp only [cond_true]
                have hl01 := jn_line hj
                have hln := ok_lines hok
                obtain ⟨f1, f2, f3, f4, f5⟩ := first_word hok hl01
                have hxr : R64 (line * c.words) := ⟨by omega, by omega⟩
                have hhom : 0 < c.homes := by obtain ⟨k9, hk9, e, _⟩ := (okS hok).homes; have := pow_pos k9; omega
                obtain ⟨g1, g2, g3, g4, g5⟩ := hok9.inv.letsAll hok hok9.got hl01 (kind := kind) (who := who) (by omega) (⟨kind, line, line % c.homes, core, who, 0, 0, Words.zero⟩ : Msg) (by rw [hcr])
                have hok10 := hok9.nx (hok9.inv.takeN hok9.got (⟨kind, line, line % c.homes, core, who, 0, 0, Words.zero⟩ : Msg)) (by have h9 : ((l.length : Nat) : Int) ≤ 60 := (by omega); omega)
                obtain ⟨k2, mm, bb, ee, ht⟩ : ∃ k2 mm bb ee, kk.take (⟨kind, line, line % c.homes, core, who, 0, 0, Words.zero⟩ : Msg) = (k2, mm, bb, ee) := ⟨_, _, _, _, rfl⟩
                rw [ht] at g2 g3 g4 g5 hok10
                simp only at g2 g3 g4 g5 hok10
                refine TC.region ?_
                refine .q (LD.move rfl) rfl rfl ?_
                refine .q (LD.bS rfl rfl (by repeat constructor)) rfl rfl ?_
                refine TL.nb NB.alloc (Wants.un rfl) rfl (fun b19 => ?_)
                refine .e (EF.stA (i := 0) rfl rfl rfl rfl rfl rfl (by repeat constructor)) rfl rfl ?_
                refine TL.nilS ?_
                refine TC.seq ?_
                refine TC.region ?_
                refine .q (LD.move rfl) rfl rfl ?_
                refine .q (LD.ldA rfl m0 (by repeat constructor) rfl) rfl rfl ?_
                refine TL.cw (CL.func rfl) (w_DoF hok9 hr1 (⟨1, line * c.words, 0⟩ : Mes.Op) hxr) (i := 1) rfl (Wants.un rfl) rfl ?_
                rintro _ r2 ⟨rfl, hr2⟩
                rw [doV]
                rw [g1] at hr2
                refine .q (LD.move rfl) rfl rfl ?_
                refine .q (LD.ex rfl rfl) rfl rfl ?_
                refine .q (LD.ex rfl rfl) rfl rfl ?_
                refine .q (LD.assign rfl) rfl rfl ?_
                refine .q (LD.assign rfl) rfl rfl ?_
                refine TL.nilS ?_
                refine TC.seq ?_
                refine TC.region ?_
                refine .q (LD.move rfl) rfl rfl ?_
                refine .q (LD.move rfl) rfl rfl ?_
                refine .q (LD.move rfl) rfl rfl ?_
                refine .q (LD.move rfl) rfl rfl ?_
                refine .q (LD.fieldAddr rfl) rfl rfl ?_
                refine .q (LD.ld1 rfl m2 rfl) rfl rfl ?_
                refine .q (LD.rem rfl rfl (by omega) (by omega)) rfl rfl ?_
                refine .q (LD.move rfl) rfl rfl ?_
                refine .q (LD.move rfl) rfl rfl ?_
                refine .q (LD.bS rfl rfl (by repeat constructor)) rfl rfl ?_
                refine TL.cw (CL.func rfl) (w_TakeF hok9 hr2 (⟨kind, line, line % c.homes, core, who, 0, 0, Words.zero⟩ : Msg) (⟨by show _ ≤ line; omega, by show line ≤ _; omega⟩)) (i := 1) rfl (Wants.un rfl) rfl ?_
                rintro _ r3 ⟨rfl, hr3⟩
                rw [ht] at hr3 ⊢
                rw [evictV]
                simp only at hr3
                refine .q (LD.move rfl) rfl rfl ?_
                refine .q (LD.ex rfl rfl) rfl rfl ?_
                refine .q (LD.ex rfl rfl) rfl rfl ?_
                refine .q (LD.ex rfl rfl) rfl rfl ?_
                refine TL.nb NB.alloc (Wants.un rfl) rfl (fun b22 => ?_)
                refine .e (EF.stA (i := 0) rfl rfl rfl rfl rfl rfl (by repeat constructor)) rfl rfl ?_
                refine .q (LD.assign rfl) rfl rfl ?_
                refine .q (LD.assign rfl) rfl rfl ?_
                refine TL.nilS ?_
                refine TC.seq ?_
                refine TC.region ?_
                refine .q (LD.move rfl) rfl rfl ?_
                refine .q (LD.ldA rfl m1 (by repeat constructor) rfl) rfl rfl ?_
                refine TL.cw (CL.func rfl) (w_DoF hok10 hr3 (⟨1, line * c.words, 0⟩ : Mes.Op) hxr) (i := 2) rfl (Wants.un rfl) rfl ?_
                rintro _ r4 ⟨rfl, hr4⟩
                rw [doV]
                rw [g2] at hr4
                refine .q (LD.move rfl) rfl rfl ?_
                refine .q (LD.ex rfl rfl) rfl rfl ?_
                refine .q (LD.ex rfl rfl) rfl rfl ?_
                refine .q (LD.assign rfl) rfl rfl ?_
                refine .q (LD.assign rfl) rfl rfl ?_
                refine TL.nilS ?_
                refine TC.seq ?_
                refine TC.seq ?_
                refine TC.region ?_
                refine .q (LD.move rfl) rfl rfl ?_
                refine .q (LD.neq rfl rfl) rfl rfl ?_
                refine TL.nilS ?_
                refine TC.cond rfl (fun g7 => ?_) (fun g7 => ?_)
                · have h7 := g7
                  try simp at h7
                  refine TC.seq ?_
                  refine TC.region ?_
                  refine .q (LD.move rfl) rfl rfl ?_
                  refine .q (LD.move rfl) rfl rfl ?_
                  refine .q (LD.eql rfl rfl) rfl rfl ?_
                  refine .q (LD.move rfl) rfl rfl ?_
                  refine TL.split rfl rfl rfl rfl (fun g8 => ?_) (fun g8 => ?_)
                  · have h8 := g8
                    try simp at h8
                    refine .y (LD.move rfl) g8 rfl rfl rfl rfl ?_
                    refine .y (LD.move rfl) g8 rfl rfl rfl rfl ?_
                    refine .y (LD.eql rfl rfl) g8 rfl rfl rfl rfl ?_
                    refine .q (LD.pickT rfl g8 rfl) rfl rfl ?_
                    refine .q (LD.assign rfl) rfl rfl ?_
                    refine TL.nilS ?_
                    refine TC.ret ?_
                    repeat first | refine Post.sr ?_ | refine Post.br ?_
                    exact Out.intro (X := [_, _, _, _]) (L' := [_]) (Res.t rfl Res.z) ⟨by simp_all [pack], rfl⟩ (.refl _)
                  · have h8 := g8
                    try simp at h8
                    refine .s g8 rfl rfl rfl rfl ?_
                    refine .s g8 rfl rfl rfl rfl ?_
                    refine .q (LD.pickF rfl g8 rfl) rfl rfl ?_
                    refine .q (LD.assign rfl) rfl rfl ?_
                    refine TL.nilS ?_
                    refine TC.ret ?_
                    repeat first | refine Post.sr ?_ | refine Post.br ?_
                    exact Out.intro (X := [_, _, _, _]) (L' := [_]) (Res.t rfl Res.z) ⟨by simp_all [pack], rfl⟩ (.refl _)
                · have h7 := g7
                  try simp at h7
                  refine TC.skipS ?_
                  refine TC.seq ?_
                  refine TC.seq ?_
                  refine TC.region ?_
                  refine .q (LD.move rfl) rfl rfl ?_
                  refine .q (LD.neq rfl rfl) rfl rfl ?_
                  refine TL.nilS ?_
                  refine TC.cond rfl (fun g9 => ?_) (fun g9 => ?_)
                  · have h9 := g9
                    try simp at h9
                    refine TC.seq ?_
                    refine TC.region ?_
                    refine .q (LD.move rfl) rfl rfl ?_
                    refine .q (LD.eql rfl rfl) rfl rfl ?_
                    refine .q (LD.assign rfl) rfl rfl ?_
                    refine TL.nilS ?_
                    refine TC.ret ?_
                    repeat first | refine Post.sr ?_ | refine Post.br ?_
                    exact Out.intro (X := [_, _, _, _]) (L' := [_]) (Res.t rfl Res.z) ⟨by simp_all [pack], rfl⟩ (.refl _)
                  · have h9 := g9
                    try simp at h9
                    refine TC.skipS ?_
                    refine TC.seq ?_
                    refine TC.region ?_
                    refine .q (LD.move rfl) rfl rfl ?_
                    refine .q (LD.move rfl) rfl rfl ?_
                    refine .q (LD.bS rfl rfl (by repeat constructor)) rfl rfl ?_
                    refine TL.cw (CL.func rfl) (w_DoF hok10 hr4 ⟨3, line * c.words, 0⟩ hxr) (i := 2) rfl (Wants.un rfl) rfl ?_
                    rintro _ r5 ⟨rfl, hr5⟩
                    rw [doV]
                    refine .q (LD.move rfl) rfl rfl ?_
                    refine .q (LD.ex rfl rfl) rfl rfl ?_
                    refine .q (LD.ex rfl rfl) rfl rfl ?_
                    refine .q (LD.assign rfl) rfl rfl ?_
                    refine .q (LD.assign rfl) rfl rfl ?_
                    refine TL.nilS ?_
                    refine TC.seq ?_
                    refine TC.region ?_
                    refine .q (LD.move rfl) rfl rfl ?_
                    refine .q (LD.move rfl) rfl rfl ?_
                    refine .q (LD.eql rfl rfl) rfl rfl ?_
                    refine .q (LD.move rfl) rfl rfl ?_
                    refine TL.split rfl rfl rfl rfl (fun g10 => ?_) (fun g10 => ?_)
                    · have h10 := g10
                      try simp at h10
                      refine .y (LD.move rfl) g10 rfl rfl rfl rfl ?_
                      refine .y (LD.move rfl) g10 rfl rfl rfl rfl ?_
                      refine .y (LD.eql rfl rfl) g10 rfl rfl rfl rfl ?_
                      refine .q (LD.pickT rfl g10 rfl) rfl rfl ?_
                      refine .q (LD.move rfl) rfl rfl ?_
                      refine TL.split rfl rfl rfl rfl (fun g11 => ?_) (fun g11 => ?_)
                      · have h11 := g11
                        try simp at h11
                        refine .y (LD.move rfl) g11 rfl rfl rfl rfl ?_
                        refine .y (LD.eql rfl rfl) g11 rfl rfl rfl rfl ?_
                        refine .q (LD.pickT rfl g11 rfl) rfl rfl ?_
                        refine .q (LD.assign rfl) rfl rfl ?_
                        refine TL.nilS ?_
                        refine TC.ret ?_
                        repeat first | refine Post.sr ?_ | refine Post.br ?_
                        exact Out.intro (X := [_, _, _, _]) (L' := [_]) (Res.t rfl Res.z) ⟨by simp_all [pack], rfl⟩ (.refl _)
                      · have h11 := g11
                        try simp at h11
                        refine .s g11 rfl rfl rfl rfl ?_
                        refine .q (LD.pickF rfl g11 rfl) rfl rfl ?_
                        refine .q (LD.assign rfl) rfl rfl ?_
                        refine TL.nilS ?_
                        refine TC.ret ?_
                        repeat first | refine Post.sr ?_ | refine Post.br ?_
                        exact Out.intro (X := [_, _, _, _]) (L' := [_]) (Res.t rfl Res.z) ⟨by simp_all [pack], rfl⟩ (.refl _)
                    · have h10 := g10
                      try simp at h10
                      refine .s g10 rfl rfl rfl rfl ?_
                      refine .s g10 rfl rfl rfl rfl ?_
                      refine .q (LD.pickF rfl g10 rfl) rfl rfl ?_
                      refine .q (LD.move rfl) rfl rfl ?_
                      refine .s rfl rfl rfl rfl rfl ?_
                      refine .s rfl rfl rfl rfl rfl ?_
                      refine .q (LD.pickF rfl rfl rfl) rfl rfl ?_
                      refine .q (LD.assign rfl) rfl rfl ?_
                      refine TL.nilS ?_
                      refine TC.ret ?_
                      repeat first | refine Post.sr ?_ | refine Post.br ?_
                      exact Out.intro (X := [_, _, _, _]) (L' := [_]) (Res.t rfl Res.z) ⟨by simp_all [pack], rfl⟩ (.refl _)
        · have h3 := g3
          try simp at h3
          refine .s g3 rfl rfl rfl rfl ?_
          refine .q (LD.pickT rfl g3 rfl) rfl rfl ?_
          refine TL.nilS ?_
          refine TC.condT rfl rfl ?_
          refine TC.seq ?_
          refine TC.region ?_
          refine .q (LD.assign rfl) rfl rfl ?_
          refine TL.nilS ?_
          refine TC.ret ?_
          repeat first | refine Post.sr ?_ | refine Post.br ?_
          exact Out.intro (X := [_, _]) (L' := [_]) (Res.t rfl Res.z) ⟨by simp_all [pack], rfl⟩ (.refl _)
      · skip
        refine .q (LD.move rfl) rfl rfl ?_
        refine .q (LD.ex rfl rfl) rfl rfl ?_
        refine .q (LD.ex rfl rfl) rfl rfl ?_
        refine .q (LD.assign rfl) rfl rfl ?_
        refine .q (LD.assign rfl) rfl rfl ?_
        refine TL.nilS ?_
        refine TC.seq ?_
        refine TC.seq ?_
        refine TC.region ?_
        refine .q (LD.move rfl) rfl rfl ?_
        refine .q (LD.ptrEql rfl rfl Tryz.underlying28 (by first | exact .inr rfl | exact .inl rfl)) rfl rfl ?_
        refine .q (LD.move rfl) rfl rfl ?_
        refine .s rfl rfl rfl rfl rfl ?_
        refine .s rfl rfl rfl rfl rfl ?_
        refine .q (LD.pickT rfl rfl rfl) rfl rfl ?_
        refine .q (LD.move rfl) rfl rfl ?_
        refine .s rfl rfl rfl rfl rfl ?_
        refine .s rfl rfl rfl rfl rfl ?_
        refine .q (LD.pickT rfl rfl rfl) rfl rfl ?_
        refine TL.nilS ?_
        refine TC.condT rfl rfl ?_
        refine TC.seq ?_
        refine TC.region ?_
        refine .q (LD.assign rfl) rfl rfl ?_
        refine TL.nilS ?_
        refine TC.ret ?_
        repeat first | refine Post.sr ?_ | refine Post.br ?_
        exact Out.intro (X := [_, _]) (L' := [_]) (Res.t rfl Res.z) ⟨by simp_all [pack], rfl⟩ (.refl _)
  · have h1 := g1
    try simp at h1
    refine .s g1 rfl rfl rfl rfl ?_
    refine .q (LD.pickT rfl g1 rfl) rfl rfl ?_
    refine TL.nilS ?_
    refine TC.condT rfl rfl ?_
    refine TC.seq ?_
    refine TC.region ?_
    refine .q (LD.assign rfl) rfl rfl ?_
    refine TL.nilS ?_
    refine TC.ret ?_
    repeat first | refine Post.sr ?_ | refine Post.br ?_
    exact Out.intro (X := [_]) (L' := [_]) (Res.t rfl Res.z) ⟨by simp_all [pack], rfl⟩ (.refl _)
end Go.SL.TryzI
