/- A part of proofs about the given program. No condition. -/
import Derived.Test.YtcgfdjijodlopaaGreatWlets
import Derived.Test.YtcgfdjijodlopaaGreatCac8
import Derived.Test.YtcgfdjijodlopaaGreatSL16
set_option linter.all false
namespace Go.SL.TryzI
open Go Go.Proofs Go.SL
set_option maxRecDepth 100000


open Mes in
theorem CacOk.mono {c : Cfg} {n m : Int} {k : Cache} (h : CacOk c n k) (hn : n ≤ m) (hm : m ≤ 1000000) : CacOk c m k := ⟨h.inv, h.cfgR, h.ok, h.got.mono hn, hm⟩
open Mes in
theorem lookV_eq (k : Cache) (l : Int) : lookV k.c k.a l = .tuple [.agg (encWay (k.look l)).toArray, .bool (k.find l).isSome].toArray := rfl
open Mes in
theorem lookV_w {k : Cache} {l : Int} {w : Words} (h : (k.look l).words = w) : lookV k.c k.a l = .tuple [.agg (encWay ⟨(k.look l).state, (k.look l).line, w, (k.look l).locked⟩).toArray, .bool (k.find l).isSome].toArray := by
  rw [lookV_eq]; subst h; rfl
open Mes in
theorem addrV (c : Cfg) (a : Int) (hok : c.ok = true) : ∃ (L : Int) (wd : Nat) (e : Int), (Value.tuple #[i (bif c.ok && inR a c.size then a / c.words else 0), i (bif c.ok && inR a c.size then a % c.words else 0), i (bif c.ok && inR a c.size then 0 else 1)]) = .tuple [i L, i (wd : Int), i e].toArray ∧ (0 ≤ L ∧ L < c.lines) ∧ wd < 8 ∧ ((e = 0 ∧ inR a c.size = true ∧ L = c.lineOf a ∧ wd = c.wordOf a) ∨ (e = 1 ∧ inR a c.size = false)) := by
  cases hin : inR a c.size
  · refine ⟨0, 0, 1, by rw [hok]; rfl, ?_, by omega, .inr ⟨rfl, rfl⟩⟩
    have := ok_lines hok; omega
  · obtain ⟨h1, h2, h3⟩ := lineOf_rng hok hin
    refine ⟨c.lineOf a, c.wordOf a, 0, by rw [hok]; simp only [Bool.and_true, cond_true, h2]; rfl, h1, h3, .inl ⟨rfl, rfl, rfl, rfl⟩⟩
open Mes in
theorem way_get (w : Mes.Way) {n : Nat} (hn : n < 8) : (encWay w).toArray[0 + 2 + (n : Int).toNat * 1]? = some (i (w.words.get n)) := by
  match n, hn with
  | 0, _ => rfl
  | 1, _ => rfl
  | 2, _ => rfl
  | 3, _ => rfl
  | 4, _ => rfl
  | 5, _ => rfl
  | 6, _ => rfl
  | 7, _ => rfl

set_option maxHeartbeats 4000000 in
open Mes in
theorem w_CacheWrites (c : Cfg) (hc : CfgR c) (core : Int) (l : List Mes.Step) (hl : ∀ s ∈ l, StepR s) (q : Option Addr) (cap : Nat) (h0 : Frag) (hrd : Rd h0 q 21 (l.map encStep)) (x : Mes.Op) (who : Int) (ev : Bool) (hx : R64 x.addr) : FnR Tryz.prog 5 [.agg (encC c), i core, .slice q l.length cap, .agg (encO x).toArray, i who, .bool ev] h0 (fun v => v = .bool true) := by
  refine Fn.body Tryz.func5 rfl rfl rfl (Nat.le_of_ble_eq_true rfl) fun F => ?_
  refine TC.seq ?_
  refine TC.region ?_
  refine TL.nb (NB.boxA rfl) (Wants.un rfl) rfl (fun b6 => ?_)
  refine TL.nb (NB.boxA rfl) (Wants.un rfl) rfl (fun b9 => ?_)
  refine .q (LD.assign rfl) rfl rfl ?_
  refine TL.nilS ?_
  refine TC.seq ?_
  refine TC.seq ?_
  refine TC.region ?_
  refine TL.cp (CL.func rfl) w_awake14 (Wants.un rfl) rfl ?_
  rintro _ rfl
  refine .q (LD.not rfl) rfl rfl ?_
  refine TL.nilS ?_
  refine TC.condF rfl rfl ?_
  refine TC.skipS ?_
  refine TC.seq ?_
  refine TC.seq ?_
  refine TC.region ?_
  refine .q (LD.move rfl) rfl rfl ?_
  refine .q (LD.lenS rfl rfl Tryz.underlying25) rfl rfl ?_
  refine .q (LD.gtr rfl rfl) rfl rfl ?_
  refine .q (LD.move rfl) rfl rfl ?_
  refine TL.split rfl rfl rfl rfl (fun g1 => ?_) (fun g1 => ?_)
  · have h1 := g1
    try simp at h1
    refine .y (LD.ldA rfl m1 (by repeat constructor) rfl) g1 rfl rfl rfl rfl ?_
    refine TL.cp (CL.func rfl) (w_large14 c) (Wants.yes rfl rfl rfl g1) rfl ?_
    rintro _ rfl
    refine .q (LD.pickF rfl g1 rfl) rfl rfl ?_
    refine TL.nilS ?_
    refine TC.cond rfl (fun g2 => ?_) (fun g2 => ?_)
    · have h2 := g2
      try simp at h2
      refine TC.seq ?_
      refine TC.region ?_
      refine .q (LD.assign rfl) rfl rfl ?_
      refine TL.nilS ?_
      refine TC.ret ?_
      repeat first | refine Post.sr ?_ | refine Post.br ?_
      exact Out.intro (X := [_, _]) (L' := [_]) (Res.t rfl Res.z) ⟨by simp_all [pack], rfl⟩ (.refl _)
    · have h2 := g2
      try simp at h2
      refine TC.skipS ?_
      refine TC.seq ?_
      refine TC.region ?_
      refine .q (LD.ldA rfl m1 (by repeat constructor) rfl) rfl rfl ?_
      refine .q (LD.move rfl) rfl rfl ?_
      refine TL.cn (CL.func rfl) (w_CacNew c hc core) (Wants.un rfl) rfl ?_
      intro v0 r0 hcn
      rcases hcn with ⟨hok, hcore, p, rfl, hr0⟩ | ⟨hno, rfl, rfl⟩
      · skip
        refine .q (LD.move rfl) rfl rfl ?_
        refine .q (LD.ex rfl rfl) rfl rfl ?_
        refine .q (LD.ex rfl rfl) rfl rfl ?_
        refine .q (LD.assign rfl) rfl rfl ?_
        refine .q (LD.assign rfl) rfl rfl ?_
        refine TL.nilS ?_
        refine TC.seq ?_
        refine TC.seq ?_
        refine TC.region ?_
        refine .q (LD.move rfl) rfl rfl ?_
        refine .q (LD.ptrEql rfl rfl Tryz.underlying28 (by first | exact .inr rfl | exact .inl rfl)) rfl rfl ?_
        refine TL.nilS ?_
        refine TC.condF rfl rfl ?_
        refine TC.skipS ?_
        refine TC.seq ?_
        refine TC.seq ?_
        refine TC.region ?_
        refine .q (LD.move rfl) rfl rfl ?_
        refine .q (LD.lenS rfl rfl Tryz.underlying25) rfl rfl ?_
        refine .q (LD.move rfl) rfl rfl ?_
        refine TL.nilS ?_
        refine TC.block ?_
        refine TC.loopd (α := Nat × Frag) (fun k => [(1, i core), (4, i who), (5, .bool ev), (6, .pointer (some ⟨b6, 0, none⟩)), (9, .pointer (some ⟨b9, 0, none⟩)), (13, .pointer (some ⟨p, 0, none⟩)), (57, .slice q l.length cap), (58, i (l.length : Int)), (59, i (k.1 : Int))]) (fun k => k.2 :: blk b9 43 (encO x).toArray :: blk b6 24 (encC c) :: h0 :: F) (fun k => k.1 ≤ l.length ∧ IsCac (runC (Cache.new c core) (l.take k.1)) p k.2) (fun k => l.length - k.1) (0, r0) ⟨Nat.zero_le _, hr0⟩ ⟨rfl, rfl, rfl, rfl, rfl, rfl, rfl, rfl, rfl, trivial⟩ ⟨[], .refl _⟩ (fun k hk => ?_)
        refine TC.seq ?_
        refine TC.region ?_
        refine .q (LD.lss rfl rfl) rfl rfl ?_
        refine TL.nilS ?_
        refine TC.seq ?_
        refine TC.cond rfl (fun g3 => ?_) (fun g3 => ?_)
        · have h3 := g3
          try simp at h3
          refine TC.skipS ?_
          refine TC.seq ?_
          refine TC.block ?_
          refine TC.seq ?_
          have hkl : k.1 < l.length := by omega
          obtain ⟨s, hs0⟩ : ∃ s, l[k.1]? = some s := ⟨_, List.getElem?_eq_getElem hkl⟩
          have hsm := List.mem_of_getElem? hs0
          have he : (l.map encStep)[k.1]? = some (encStep s) := by rw [List.getElem?_map, hs0]; rfl
          have hne : l.map encStep ≠ [] := by intro h0; rw [h0] at he; simp at he
          obtain ⟨ba, o, cs, T, fr, hq2, hb, hcs⟩ := hrd.got hne
          have hok9 := okRun hok hc core (l.take k.1) (by rw [List.length_take]; omega)
          refine TC.region ?_
          refine .q (LD.indexAddr rfl rfl hq2 (by omega)) rfl rfl ?_
          refine .q (LD.elA (j := k.1) rfl m3 hb hcs hrd.len he) rfl rfl ?_
          refine TL.nb NB.alloc (Wants.un rfl) rfl (fun b16 => ?_)
          refine .e (EF.stA (i := 0) rfl rfl rfl rfl rfl rfl (by repeat constructor)) rfl rfl ?_
          refine TL.nilS ?_
          refine TC.region ?_
          refine .q (LD.move rfl) rfl rfl ?_
          refine .q (LD.ldA rfl m0 (by repeat constructor) rfl) rfl rfl ?_
          refine TL.cw (CL.func rfl) (w_do14 hok9 hk.2 s (hl s hsm)) (i := 1) rfl (Wants.un rfl) rfl ?_
          rintro _ r2 ⟨rfl, hr2⟩
          refine TL.nil ?_
          refine TC.region ?_
          refine .q (LD.add rfl rfl (by omega)) rfl rfl ?_
          refine .q (LD.move rfl) rfl rfl ?_
          refine TL.nil ?_
          exact ⟨(k.1 + 1, r2), ⟨by omega, by rw [runTake hs0]; exact hr2⟩, by omega, ⟨rfl, rfl, rfl, rfl, rfl, rfl, rfl, rfl, rfl, trivial⟩, [_], .refl _⟩
        · have h3 := g3
          try simp at h3
          refine TC.exit ?_
          refine TC.seq ?_
          have hlk : k.1 = l.length := by omega
          have hr1 := hk.2
          rw [hlk, List.take_length] at hr1
          have hok9 := okRun hok hc core l (by omega)
          have hcr := coreRun hok core l
          obtain ⟨kk, hkk⟩ : ∃ kk, kk = runC (Cache.new c core) l := ⟨_, rfl⟩
          rw [← hkk] at hr1 hok9 hcr
          have hcs := (okS hok).cores
          obtain ⟨L, wd, e0, hAV, hL, hwd, hA⟩ := addrV c x.addr hok
          have hLr : R64 L := by have := ok_lines hok; exact ⟨by omega, by omega⟩
          have hD1 := (hok9.inv.doE hok x).1
          have hD2 := fun he => ((hok9.inv.doE hok x).2 he).1
          have hD3 := hok9.inv.written hok x
          have hok1 := hok9.nx (hok9.inv.doN hok hok9.got x) (by have h9 : ((l.length : Nat) : Int) ≤ 60 := (by omega); omega)
          obtain ⟨k1, nn, ff, hd⟩ : ∃ k1 nn ff, kk.do x = (k1, nn, ff) := ⟨_, _, _, rfl⟩
          rw [hd] at hD1 hD2 hD3 hok1
          dsimp only at hD1 hD2 hD3 hok1
          refine TC.region ?_
          refine .q (LD.ldA rfl m2 (by repeat constructor) rfl) rfl rfl ?_
          refine .q (LD.fieldAddr rfl) rfl rfl ?_
          refine .q (LD.ld1 rfl m1 rfl) rfl rfl ?_
          refine TL.cp (CL.func rfl) (w_Addr c hc x.addr hx) (Wants.un rfl) rfl ?_
          rintro _ rfl
          rw [hAV]
          refine .q (LD.move rfl) rfl rfl ?_
          refine .q (LD.ex rfl rfl) rfl rfl ?_
          refine .q (LD.ex rfl rfl) rfl rfl ?_
          refine .q (LD.ex rfl rfl) rfl rfl ?_
          refine .q (LD.assign rfl) rfl rfl ?_
          refine .q (LD.assign rfl) rfl rfl ?_
          refine .q (LD.assign rfl) rfl rfl ?_
          refine TL.nilS ?_
          refine TC.seq ?_
          refine TC.region ?_
          refine .q (LD.move rfl) rfl rfl ?_
          refine .q (LD.move rfl) rfl rfl ?_
          refine TL.cr (CL.func rfl) (w_LookF hok9 hr1 L hLr) m0 (Wants.un rfl) rfl ?_
          rintro _ rfl
          rw [lookV_eq]
          refine .q (LD.move rfl) rfl rfl ?_
          refine .q (LD.ex rfl rfl) rfl rfl ?_
          refine .q (LD.ex rfl rfl) rfl rfl ?_
          refine TL.nb NB.alloc (Wants.un rfl) rfl (fun b20 => ?_)
          refine .e (EF.stA (i := 0) rfl rfl rfl rfl rfl rfl (by repeat constructor)) rfl rfl ?_
          refine .q (LD.assign rfl) rfl rfl ?_
          refine TL.nilS ?_
          refine TC.seq ?_
          refine TC.region ?_
          refine .q (LD.move rfl) rfl rfl ?_
          refine .q (LD.ldA rfl m2 (by repeat constructor) rfl) rfl rfl ?_
          refine TL.cw (CL.func rfl) (w_DoF hok9 hr1 x hx) (i := 1) rfl (Wants.un rfl) rfl ?_
          rintro _ r2 ⟨rfl, hr2⟩
          rw [hd] at hr2 ⊢
          rw [doV]
          dsimp only at hr2
          refine .q (LD.move rfl) rfl rfl ?_
          refine .q (LD.ex rfl rfl) rfl rfl ?_
          refine .q (LD.ex rfl rfl) rfl rfl ?_
          refine .q (LD.assign rfl) rfl rfl ?_
          refine .q (LD.assign rfl) rfl rfl ?_
          refine TL.nilS ?_
          refine TC.seq ?_
          refine TC.seq ?_
          refine TC.region ?_
          refine .q (LD.move rfl) rfl rfl ?_
          refine .q (LD.neq rfl rfl) rfl rfl ?_
          refine .q (LD.move rfl) rfl rfl ?_
          refine TL.split rfl rfl rfl rfl (fun g4 => ?_) (fun g4 => ?_)
          · have h4 := g4
            try simp at h4
            refine .y (LD.move rfl) g4 rfl rfl rfl rfl ?_
            refine .y (LD.neq rfl rfl) g4 rfl rfl rfl rfl ?_
            refine .q (LD.pickF rfl g4 rfl) rfl rfl ?_
            refine TL.nilS ?_
            refine TC.cond rfl (fun g5 => ?_) (fun g5 => ?_)
            · have h5 := g5
              try simp at h5
              refine TC.seq ?_
              have hn0 : nn = 0 := by
                by_cases hf : ff = 0
                · have hin := hD2 hf
                  rcases hA with ⟨h8, _⟩ | ⟨_, h8⟩
                  · simp_all
                  · rw [hin] at h8; cases h8
                · exact (hD1 hf).2
              refine TC.region ?_
              refine .q (LD.move rfl) rfl rfl ?_
              refine .q (LD.eqT rfl rfl hn0) rfl rfl ?_
              refine .q (LD.assign rfl) rfl rfl ?_
              refine TL.nilS ?_
              refine TC.ret ?_
              repeat first | refine Post.sr ?_ | refine Post.br ?_
              exact Out.intro (X := [_, _, _, _]) (L' := [_]) (Res.t rfl Res.z) ⟨rfl, rfl⟩ (.refl _)
            · have h5 := g5
              try simp at h5
              refine TC.skipS ?_
              refine TC.seq ?_
              have hf0 : ff = 0 := by simp_all
              have he00 : e0 = 0 := by simp_all
              rcases hA with ⟨_, hin, hLL, hww⟩ | ⟨h8, _⟩
              rotate_left
              · omega
              subst hLL
              obtain ⟨v1, v2, v3, v4, v5⟩ := hD3 hf0
              rw [← hww] at v2 v3 v5
              generalize hLL : c.lineOf x.addr = L at *
              by_cases hk1 : x.kind = 1
              · rw [if_pos hk1] at v2 v5
                refine TC.region ?_
                refine .q (LD.move rfl) rfl rfl ?_
                refine .q (LD.move rfl) rfl rfl ?_
                refine TL.cr (CL.func rfl) (w_LookF hok1 hr2 L hLr) m1 (Wants.un rfl) rfl ?_
                rintro _ rfl
                rw [lookV_w v2]
                refine .q (LD.move rfl) rfl rfl ?_
                refine .q (LD.ex rfl rfl) rfl rfl ?_
                refine .q (LD.ex rfl rfl) rfl rfl ?_
                refine TL.nb NB.alloc (Wants.un rfl) rfl (fun b24 => ?_)
                refine .e (EF.stA (i := 0) rfl rfl rfl rfl rfl rfl (by repeat constructor)) rfl rfl ?_
                refine .q (LD.assign rfl) rfl rfl ?_
                refine TL.nilS ?_
                refine TC.seq ?_
                refine TC.region ?_
                refine .q (LD.fieldAddr rfl) rfl rfl ?_
                refine .q (LD.ldA rfl m1 (by repeat constructor) rfl) rfl rfl ?_
                refine TL.nb NB.alloc (Wants.un rfl) rfl (fun b26 => ?_)
                refine .e (EF.stA (i := 0) rfl rfl rfl rfl rfl rfl (by repeat constructor)) rfl rfl ?_
                refine TL.nilS ?_
                refine TC.seq ?_
                refine TC.seq ?_
                refine TC.region ?_
                refine .q (LD.fieldAddr rfl) rfl rfl ?_
                refine .q (LD.ld1 rfl m4 rfl) rfl rfl ?_
                refine .q (LD.neqF rfl rfl hk1) rfl rfl ?_
                refine TL.nilS ?_
                refine TC.condF rfl rfl ?_
                refine TC.skipS ?_
                refine TC.seq ?_
                refine TC.seq ?_
                refine TC.region ?_
                refine .q (LD.fieldAddr rfl) rfl rfl ?_
                refine .q (LD.ldA rfl m1 (by repeat constructor) rfl) rfl rfl ?_
                refine .q (LD.ldA rfl m0 (by repeat constructor) rfl) rfl rfl ?_
                refine .q (LD.neqSF rfl rfl Tryz.eqGuardType36 rfl (by repeat first | exact rfl | refine ⟨_, _, rfl, ⟨_, rfl⟩, ?_⟩) rfl) rfl rfl ?_
                refine .q (LD.move rfl) rfl rfl ?_
                refine .y (LD.fieldAddr rfl) rfl rfl rfl rfl rfl ?_
                refine .y (LD.ld1 rfl m4 rfl) rfl rfl rfl rfl rfl ?_
                refine .y (LD.neqT rfl rfl (by omega)) rfl rfl rfl rfl rfl ?_
                refine .y (LD.move rfl) rfl rfl rfl rfl rfl ?_
                refine .y (LD.move rfl) rfl rfl rfl rfl rfl ?_
                refine .y (LD.move rfl) rfl rfl rfl rfl rfl ?_
                refine .y (LD.fieldAddr rfl) rfl rfl rfl rfl rfl ?_
                refine .y (LD.indexAddrA rfl rfl (by omega)) rfl rfl rfl rfl rfl ?_
                refine .y (LD.load1 rfl m2 (way_get (kk.look L) hwd)) rfl rfl rfl rfl rfl ?_
                refine .y (LD.neqF rfl rfl (v3 (by simp_all))) rfl rfl rfl rfl rfl ?_
                refine .y (LD.pickT rfl rfl rfl) rfl rfl rfl rfl rfl ?_
                refine .q (LD.pickF rfl rfl rfl) rfl rfl ?_
                refine .q (LD.move rfl) rfl rfl ?_
                refine .y (LD.fieldAddr rfl) rfl rfl rfl rfl rfl ?_
                refine .y (LD.ld1 rfl m4 rfl) rfl rfl rfl rfl rfl ?_
                refine .y (LD.neqF rfl rfl hk1) rfl rfl rfl rfl rfl ?_
                refine .y (LD.move rfl) rfl rfl rfl rfl rfl ?_
                refine .s rfl rfl rfl rfl rfl ?_
                refine .s rfl rfl rfl rfl rfl ?_
                refine .s rfl rfl rfl rfl rfl ?_
                refine .y (LD.pickF rfl rfl rfl) rfl rfl rfl rfl rfl ?_
                refine .q (LD.pickF rfl rfl rfl) rfl rfl ?_
                refine TL.nilS ?_
                refine TC.condF rfl rfl ?_
                refine TC.skipS ?_
                refine TC.seq ?_
                refine TC.seq ?_
                refine TC.region ?_
                refine .q (LD.fieldAddr rfl) rfl rfl ?_
                refine .q (LD.ld1 rfl m1 rfl) rfl rfl ?_
                refine .q (LD.lss rfl rfl) rfl rfl ?_
                refine .q (LD.move rfl) rfl rfl ?_
                refine TL.split rfl rfl rfl rfl (fun g6 => ?_) (fun g6 => ?_)
                · have h6 := g6
                  try simp at h6
                  refine .y (LD.move rfl) g6 rfl rfl rfl rfl ?_
                  refine .y (LD.lss rfl rfl) g6 rfl rfl rfl rfl ?_
                  refine .q (LD.pickF rfl g6 rfl) rfl rfl ?_
                  refine .q (LD.move rfl) rfl rfl ?_
                  refine TL.split rfl rfl rfl rfl (fun g7 => ?_) (fun g7 => ?_)
                  · have h7 := g7
                    try simp at h7
                    refine .y (LD.move rfl) g7 rfl rfl rfl rfl ?_
                    refine .y (LD.fieldAddr rfl) g7 rfl rfl rfl rfl ?_
                    refine .y (LD.ld1 rfl m5 rfl) g7 rfl rfl rfl rfl ?_
                    refine .y (LD.geq rfl rfl) g7 rfl rfl rfl rfl ?_
                    refine .q (LD.pickF rfl g7 rfl) rfl rfl ?_
                    refine .q (LD.move rfl) rfl rfl ?_
                    refine TL.split rfl rfl rfl rfl (fun g8 => ?_) (fun g8 => ?_)
                    · have h8 := g8
                      try simp at h8
                      refine .y (LD.move rfl) g8 rfl rfl rfl rfl ?_
                      refine .y (LD.move rfl) g8 rfl rfl rfl rfl ?_
                      refine .y (LD.eql rfl rfl) g8 rfl rfl rfl rfl ?_
                      refine .q (LD.pickF rfl g8 rfl) rfl rfl ?_
                      refine TL.nilS ?_
                      refine TC.cond rfl (fun g9 => ?_) (fun g9 => ?_)
                      · have h9 := g9
                        try simp at h9
                        refine TC.seq ?_
                        refine TC.region ?_
                        refine .q (LD.assign rfl) rfl rfl ?_
                        refine TL.nilS ?_
                        refine TC.ret ?_
                        repeat first | refine Post.sr ?_ | refine Post.br ?_
                        exact Out.intro (X := [_, _, _, _, _, _]) (L' := [_]) (Res.t rfl Res.z) ⟨rfl, rfl⟩ (.refl _)
                      · have h9 := g9
                        try simp at h9
                        refine TC.skipS ?_
                        refine TC.seq ?_
                        refine TC.seq ?_
                        have hwho : inR who c.cores = true := inR_iff.2 (by simp_all)
                        have hwc : who ≠ core := by simp_all
                        have hst2 : 2 ≤ (k1.look L).state := by simp_all
                        have hHd := v5 hst2
                        rw [hcr] at hHd
                        have hsets : 0 < c.sets := by obtain ⟨j, _, e, _⟩ := (okS hok).sets; have := pow_pos j; omega
                        have hhom : 0 < c.homes := by have := ok_homes hok; omega
                        have hways := (okS hok).ways
                        refine TC.region ?_
                        refine .q (LD.assign rfl) rfl rfl ?_
                        refine TL.nilS ?_
                        refine TC.block ?_
                        refine TC.loopd (α := Nat × Frag × Mes.Cache) (fun u => [(1, i core), (4, i who), (5, .bool ev), (6, .pointer (some ⟨b6, 0, none⟩)), (13, .pointer (some ⟨p, 0, none⟩)), (17, i L), (26, .pointer (some ⟨b26, 0, none⟩)), (27, i (u.1 : Int))]) (fun u => blk b26 36 [i (((kk.look L).words).get 0), i (((kk.look L).words).get 1), i (((kk.look L).words).get 2), i (((kk.look L).words).get 3), i (((kk.look L).words).get 4), i (((kk.look L).words).get 5), i (((kk.look L).words).get 6), i (((kk.look L).words).get 7)].toArray :: blk b24 66 (encWay ⟨(k1.look L).state, (k1.look L).line, (kk.look L).words, (k1.look L).locked⟩).toArray :: blk b20 66 (encWay (kk.look L)).toArray :: u.2.1 :: blk b9 43 (encO x).toArray :: blk b6 24 (encC c) :: h0 :: F) (fun u => (u.1 : Int) ≤ c.ways ∧ CacOk c l.length u.2.2 ∧ Mes.Hold c core L (kk.look L).words u.2.2 ∧ IsCac u.2.2 p u.2.1) (fun u => c.ways.toNat - u.1) (0, r2, k1) ⟨by show ((0 : Nat) : Int) ≤ _; omega, hok1, hHd, hr2⟩ ⟨rfl, rfl, rfl, rfl, rfl, rfl, rfl, rfl, trivial⟩ ⟨[], .refl _⟩ (fun u hu => ?_)
                        refine TC.seq ?_
                        refine TC.seq ?_
                        obtain ⟨hui, hok2, hHl, hru⟩ := hu
                        refine TC.region ?_
                        refine .q (LD.move rfl) rfl rfl ?_
                        refine .q (LD.move rfl) rfl rfl ?_
                        refine TL.split rfl rfl rfl rfl (fun g10 => ?_) (fun g10 => ?_)
                        · have h10 := g10
                          try simp at h10
                          refine .y (LD.move rfl) g10 rfl rfl rfl rfl ?_
                          refine .y (LD.fieldAddr rfl) g10 rfl rfl rfl rfl ?_
                          refine .y (LD.ld1 rfl m5 rfl) g10 rfl rfl rfl rfl ?_
                          refine .y (LD.lss rfl rfl) g10 rfl rfl rfl rfl ?_
                          refine .q (LD.pickT rfl g10 rfl) rfl rfl ?_
                          refine TL.nilS ?_
                          refine TC.cond rfl (fun g11 => ?_) (fun g11 => ?_)
                          · have h11 := g11
                            try simp at h11
                            refine TC.skipS ?_
                            refine TC.seq ?_
                            refine TC.block ?_
                            refine TC.seq ?_
                            refine TC.region ?_
                            refine .q (LD.move rfl) rfl rfl ?_
                            refine .q (LD.move rfl) rfl rfl ?_
                            refine .q (LD.fieldAddr rfl) rfl rfl ?_
                            refine .q (LD.ld1 rfl m5 rfl) rfl rfl ?_
                            refine .q (LD.rem rfl rfl (by omega) (by omega)) rfl rfl ?_
                            refine .q (LD.move rfl) rfl rfl ?_
                            refine TL.cr (CL.func rfl) (w_WayF hok2 hru (L % c.sets) u.1) m3 (Wants.un rfl) rfl ?_
                            rintro _ rfl
                            rw [atV_eq]
                            refine .q (LD.move rfl) rfl rfl ?_
                            refine .q (LD.ex rfl rfl) rfl rfl ?_
                            refine .q (LD.ex rfl rfl) rfl rfl ?_
                            refine TL.nb NB.alloc (Wants.un rfl) rfl (fun b28 => ?_)
                            refine .e (EF.stA (i := 0) rfl rfl rfl rfl rfl rfl (by repeat constructor)) rfl rfl ?_
                            refine .q (LD.assign rfl) rfl rfl ?_
                            refine TL.nilS ?_
                            refine TC.seq ?_
                            refine TC.region ?_
                            refine .q (LD.fieldAddr rfl) rfl rfl ?_
                            refine .q (LD.ld1 rfl m0 rfl) rfl rfl ?_
                            refine .q (LD.move rfl) rfl rfl ?_
                            refine .q (LD.eql rfl rfl) rfl rfl ?_
                            refine TL.nilS ?_
                            refine TC.cond rfl (fun g12 => ?_) (fun g12 => ?_)
                            · have h12 := g12
                              try simp at h12
                              refine TC.region ?_
                              refine .q (LD.move rfl) rfl rfl ?_
                              refine .q (LD.move rfl) rfl rfl ?_
                              refine .q (LD.fieldAddr rfl) rfl rfl ?_
                              refine .q (LD.ld1 rfl m6 rfl) rfl rfl ?_
                              refine .q (LD.rem rfl rfl (by omega) (by omega)) rfl rfl ?_
                              refine .q (LD.move rfl) rfl rfl ?_
                              refine TL.cw (CL.func rfl) (w_EvictF hok2 hru (L % c.sets) u.1) (i := 4) rfl (Wants.un rfl) rfl ?_
                              rintro _ r3 ⟨rfl, hr3⟩
                              rw [evictV]
                              refine TL.nil ?_
                              refine TC.region ?_
                              refine .q (LD.move rfl) rfl rfl ?_
                              refine .q (LD.add rfl rfl (by omega)) rfl rfl ?_
                              refine .q (LD.assign rfl) rfl rfl ?_
                              refine TL.nil ?_
                              exact ⟨(u.1 + 1, r3, (u.2.2.evict (L % c.sets) u.1).1), ⟨by omega, hok2.nx (hok2.inv.evictN hok2.got _ _) hok2.small, hHl.evict _ _, hr3⟩, by omega, ⟨rfl, rfl, rfl, rfl, rfl, rfl, rfl, rfl, trivial⟩, [_], .refl _⟩
                            · have h12 := g12
                              try simp at h12
                              refine TC.skip ?_
                              refine TC.region ?_
                              refine .q (LD.move rfl) rfl rfl ?_
                              refine .q (LD.add rfl rfl (by omega)) rfl rfl ?_
                              refine .q (LD.assign rfl) rfl rfl ?_
                              refine TL.nil ?_
                              exact ⟨(u.1 + 1, u.2.1, u.2.2), ⟨by omega, hok2, hHl, hru⟩, by omega, ⟨rfl, rfl, rfl, rfl, rfl, rfl, rfl, rfl, trivial⟩, [_], .refl _⟩
                          · have h11 := g11
                            try simp at h11
                            refine TC.exit ?_
                            refine TC.seq ?_
                            refine TC.region ?_
                            refine .q (LD.move rfl) rfl rfl ?_
                            refine .q (LD.move rfl) rfl rfl ?_
                            refine .q (LD.fieldAddr rfl) rfl rfl ?_
                            refine .q (LD.ld1 rfl m5 rfl) rfl rfl ?_
                            refine .q (LD.rem rfl rfl (by omega) (by omega)) rfl rfl ?_
                            refine .q (LD.move rfl) rfl rfl ?_
                            refine .q (LD.move rfl) rfl rfl ?_
                            refine .q (LD.bS rfl rfl (by repeat constructor)) rfl rfl ?_
                            refine TL.nb NB.alloc (Wants.un rfl) rfl (fun b30 => ?_)
                            refine .e (EF.stA (i := 0) rfl rfl rfl rfl rfl rfl (by repeat constructor)) rfl rfl ?_
                            refine TL.nilS ?_
                            refine TC.seq ?_
                            obtain ⟨es1, hH2⟩ := hHl.share hok hL hcore hwho hwc
                            have hok3 := hok2.nx (hok2.inv.takeN hok2.got (⟨4, L, L % c.homes, core, who, 0, 0, Words.zero⟩ : Msg)) (by have h9 : ((l.length : Nat) : Int) ≤ 60 := (by omega); omega)
                            obtain ⟨k2, mmk2, bbk2, eek2, htk2⟩ : ∃ q2 q3 q4 q5, (u.2.2).take (⟨4, L, L % c.homes, core, who, 0, 0, Words.zero⟩ : Msg) = (q2, q3, q4, q5) := ⟨_, _, _, _, rfl⟩
                            rw [htk2] at es1 hH2 hok3
                            dsimp only at es1 hH2 hok3
                            injection es1 with e2 e3
                            injection e3 with e4 e5
                            subst e2 e4 e5
                            refine TC.region ?_
                            refine .q (LD.move rfl) rfl rfl ?_
                            refine .q (LD.ldA rfl m0 (by repeat constructor) rfl) rfl rfl ?_
                            refine TL.cw (CL.func rfl) (w_TakeF hok2 hru (⟨4, L, L % c.homes, core, who, 0, 0, Words.zero⟩ : Msg) hLr) (i := 4) rfl (Wants.un rfl) rfl ?_
                            rintro _ r3 ⟨rfl, hr3⟩
                            rw [htk2] at hr3 ⊢
                            rw [evictV]
                            dsimp only at hr3
                            refine .q (LD.move rfl) rfl rfl ?_
                            refine .q (LD.ex rfl rfl) rfl rfl ?_
                            refine .q (LD.ex rfl rfl) rfl rfl ?_
                            refine .q (LD.ex rfl rfl) rfl rfl ?_
                            refine TL.nb NB.alloc (Wants.un rfl) rfl (fun b31 => ?_)
                            refine .e (EF.stA (i := 0) rfl rfl rfl rfl rfl rfl (by repeat constructor)) rfl rfl ?_
                            refine .q (LD.assign rfl) rfl rfl ?_
                            refine .q (LD.assign rfl) rfl rfl ?_
                            refine TL.nilS ?_
                            refine TC.seq ?_
                            refine TC.region ?_
                            refine .q (LD.fieldAddr rfl) rfl rfl ?_
                            refine .e (EF.st1 (i := 1) rfl rfl rfl rfl rfl (by repeat constructor)) rfl rfl ?_
                            refine TL.nilS ?_
                            refine TC.seq ?_
                            obtain ⟨es2, hH3⟩ := hH2.give hok hL hcore hwho hwc
                            have hok4 := hok3.nx (hok3.inv.takeN hok3.got (⟨5, L, L % c.homes, core, who, 0, 0, Words.zero⟩ : Msg)) (by have h9 : ((l.length : Nat) : Int) ≤ 60 := (by omega); omega)
                            obtain ⟨k3, mmk3, bbk3, eek3, htk3⟩ : ∃ q2 q3 q4 q5, (k2).take (⟨5, L, L % c.homes, core, who, 0, 0, Words.zero⟩ : Msg) = (q2, q3, q4, q5) := ⟨_, _, _, _, rfl⟩
                            rw [htk3] at es2 hH3 hok4
                            dsimp only at es2 hH3 hok4
                            injection es2 with e2 e3
                            injection e3 with e4 e5
                            subst e2 e4 e5
                            refine TC.region ?_
                            refine .q (LD.move rfl) rfl rfl ?_
                            refine .q (LD.ldA rfl m1 (by repeat constructor) rfl) rfl rfl ?_
                            refine TL.cw (CL.func rfl) (w_TakeF hok3 hr3 (⟨5, L, L % c.homes, core, who, 0, 0, Words.zero⟩ : Msg) hLr) (i := 5) rfl (Wants.un rfl) rfl ?_
                            rintro _ r4 ⟨rfl, hr4⟩
                            rw [htk3] at hr4 ⊢
                            rw [evictV]
                            dsimp only at hr4
                            refine .q (LD.move rfl) rfl rfl ?_
                            refine .q (LD.ex rfl rfl) rfl rfl ?_
                            refine .q (LD.ex rfl rfl) rfl rfl ?_
                            refine .q (LD.ex rfl rfl) rfl rfl ?_
                            refine TL.nb NB.alloc (Wants.un rfl) rfl (fun b34 => ?_)
                            refine .e (EF.stA (i := 0) rfl rfl rfl rfl rfl rfl (by repeat constructor)) rfl rfl ?_
                            refine .q (LD.assign rfl) rfl rfl ?_
                            refine .q (LD.assign rfl) rfl rfl ?_
                            refine TL.nilS ?_
                            refine TC.seq ?_
                            refine TC.region ?_
                            refine .q (LD.fieldAddr rfl) rfl rfl ?_
                            refine .e (EF.st1 (i := 2) rfl rfl rfl rfl rfl (by repeat constructor)) rfl rfl ?_
                            refine TL.nilS ?_
                            refine TC.seq ?_
                            skip
                            have hok5 := hok4.nx (hok4.inv.takeN hok4.got (⟨4, L, L % c.homes, core, who, 0, 0, Words.zero⟩ : Msg)) (by have h9 : ((l.length : Nat) : Int) ≤ 60 := (by omega); omega)
                            obtain ⟨k4, mmk4, bbk4, eek4, htk4⟩ : ∃ q2 q3 q4 q5, (k3).take (⟨4, L, L % c.homes, core, who, 0, 0, Words.zero⟩ : Msg) = (q2, q3, q4, q5) := ⟨_, _, _, _, rfl⟩
                            rw [htk4] at hH3 hok5
                            dsimp only at hH3 hok5
                            subst hH3
                            refine TC.region ?_
                            refine .q (LD.move rfl) rfl rfl ?_
                            refine .q (LD.ldA rfl m2 (by repeat constructor) rfl) rfl rfl ?_
                            refine TL.cw (CL.func rfl) (w_TakeF hok4 hr4 (⟨4, L, L % c.homes, core, who, 0, 0, Words.zero⟩ : Msg) hLr) (i := 6) rfl (Wants.un rfl) rfl ?_
                            rintro _ r5 ⟨rfl, hr5⟩
                            rw [htk4] at hr5 ⊢
                            rw [evictV]
                            dsimp only at hr5
                            refine .q (LD.move rfl) rfl rfl ?_
                            refine .q (LD.ex rfl rfl) rfl rfl ?_
                            refine .q (LD.ex rfl rfl) rfl rfl ?_
                            refine .q (LD.ex rfl rfl) rfl rfl ?_
                            refine TL.nb NB.alloc (Wants.un rfl) rfl (fun b37 => ?_)
                            refine .e (EF.stA (i := 0) rfl rfl rfl rfl rfl rfl (by repeat constructor)) rfl rfl ?_
                            refine .q (LD.assign rfl) rfl rfl ?_
                            refine .q (LD.assign rfl) rfl rfl ?_
                            refine TL.nilS ?_
                            refine TC.seq ?_
                            refine TC.region ?_
                            refine .q (LD.move rfl) rfl rfl ?_
                            refine .q (LD.move rfl) rfl rfl ?_
                            refine .y (LD.move rfl) rfl rfl rfl rfl rfl ?_
                            refine .y (LD.eql rfl rfl) rfl rfl rfl rfl rfl ?_
                            refine .q (LD.pickT rfl rfl rfl) rfl rfl ?_
                            refine .q (LD.move rfl) rfl rfl ?_
                            refine .y (LD.move rfl) rfl rfl rfl rfl rfl ?_
                            refine .q (LD.pickT rfl rfl rfl) rfl rfl ?_
                            refine .q (LD.move rfl) rfl rfl ?_
                            refine .y (LD.move rfl) rfl rfl rfl rfl rfl ?_
                            refine .y (LD.eql rfl rfl) rfl rfl rfl rfl rfl ?_
                            refine .q (LD.pickT rfl rfl rfl) rfl rfl ?_
                            refine .q (LD.move rfl) rfl rfl ?_
                            refine .y (LD.fieldAddr rfl) rfl rfl rfl rfl rfl ?_
                            refine .y (LD.ldA rfl m2 (by repeat constructor) rfl) rfl rfl rfl rfl rfl ?_
                            refine .y (LD.ldA rfl m4 (by repeat constructor) rfl) rfl rfl rfl rfl rfl ?_
                            refine .y (LD.eqST rfl rfl Tryz.eqGuardType36 rfl (by repeat first | exact rfl | refine ⟨_, _, rfl, ⟨_, rfl⟩, ?_⟩) rfl) rfl rfl rfl rfl rfl ?_
                            refine .q (LD.pickT rfl rfl rfl) rfl rfl ?_
                            refine .q (LD.move rfl) rfl rfl ?_
                            refine .y (LD.fieldAddr rfl) rfl rfl rfl rfl rfl ?_
                            refine .y (LD.ldA rfl m1 (by repeat constructor) rfl) rfl rfl rfl rfl rfl ?_
                            refine .y (LD.ldA rfl m4 (by repeat constructor) rfl) rfl rfl rfl rfl rfl ?_
                            refine .y (LD.eqST rfl rfl Tryz.eqGuardType36 rfl (by repeat first | exact rfl | refine ⟨_, _, rfl, ⟨_, rfl⟩, ?_⟩) rfl) rfl rfl rfl rfl rfl ?_
                            refine .q (LD.pickT rfl rfl rfl) rfl rfl ?_
                            refine .q (LD.move rfl) rfl rfl ?_
                            refine .y (LD.fieldAddr rfl) rfl rfl rfl rfl rfl ?_
                            refine .y (LD.ld1 rfl m2 rfl) rfl rfl rfl rfl rfl ?_
                            refine .y (LD.eql rfl rfl) rfl rfl rfl rfl rfl ?_
                            refine .q (LD.pickT rfl rfl rfl) rfl rfl ?_
                            refine .q (LD.move rfl) rfl rfl ?_
                            refine .y (LD.fieldAddr rfl) rfl rfl rfl rfl rfl ?_
                            refine .y (LD.ld1 rfl m1 rfl) rfl rfl rfl rfl rfl ?_
                            refine .y (LD.eql rfl rfl) rfl rfl rfl rfl rfl ?_
                            refine .q (LD.pickT rfl rfl rfl) rfl rfl ?_
                            refine .q (LD.move rfl) rfl rfl ?_
                            refine .y (LD.fieldAddr rfl) rfl rfl rfl rfl rfl ?_
                            refine .y (LD.ld1 rfl m2 rfl) rfl rfl rfl rfl rfl ?_
                            refine .y (LD.move rfl) rfl rfl rfl rfl rfl ?_
                            refine .y (LD.eqT rfl rfl rfl) rfl rfl rfl rfl rfl ?_
                            refine .q (LD.pickT rfl rfl rfl) rfl rfl ?_
                            refine .q (LD.move rfl) rfl rfl ?_
                            refine .y (LD.fieldAddr rfl) rfl rfl rfl rfl rfl ?_
                            refine .y (LD.ld1 rfl m1 rfl) rfl rfl rfl rfl rfl ?_
                            refine .y (LD.move rfl) rfl rfl rfl rfl rfl ?_
                            refine .y (LD.eqT rfl rfl rfl) rfl rfl rfl rfl rfl ?_
                            refine .q (LD.pickT rfl rfl rfl) rfl rfl ?_
                            refine .q (LD.move rfl) rfl rfl ?_
                            refine .y (LD.move rfl) rfl rfl rfl rfl rfl ?_
                            refine .y (LD.eql rfl rfl) rfl rfl rfl rfl rfl ?_
                            refine .q (LD.pickT rfl rfl rfl) rfl rfl ?_
                            refine .q (LD.assign rfl) rfl rfl ?_
                            refine TL.nilS ?_
                            refine TC.ret ?_
                            repeat first | refine Post.sr ?_ | refine Post.br ?_
                            exact Out.intro (X := [_, _, _, _, _, _, _, _, _, _]) (L' := [_]) (Res.t rfl Res.z) ⟨rfl, rfl⟩ (.refl _)
                        · have h10 := g10
                          try simp at h10
                          refine .s g10 rfl rfl rfl rfl ?_
                          refine .s g10 rfl rfl rfl rfl ?_
                          refine .s g10 rfl rfl rfl rfl ?_
                          refine .q (LD.pickF rfl g10 rfl) rfl rfl ?_
                          refine TL.nilS ?_
                          refine TC.condF rfl rfl ?_
                          refine TC.exit ?_
                          refine TC.seq ?_
                          refine TC.region ?_
                          refine .q (LD.move rfl) rfl rfl ?_
                          refine .q (LD.move rfl) rfl rfl ?_
                          refine .q (LD.fieldAddr rfl) rfl rfl ?_
                          refine .q (LD.ld1 rfl m5 rfl) rfl rfl ?_
                          refine .q (LD.rem rfl rfl (by omega) (by omega)) rfl rfl ?_
                          refine .q (LD.move rfl) rfl rfl ?_
                          refine .q (LD.move rfl) rfl rfl ?_
                          refine .q (LD.bS rfl rfl (by repeat constructor)) rfl rfl ?_
                          refine TL.nb NB.alloc (Wants.un rfl) rfl (fun b30 => ?_)
                          refine .e (EF.stA (i := 0) rfl rfl rfl rfl rfl rfl (by repeat constructor)) rfl rfl ?_
                          refine TL.nilS ?_
                          refine TC.seq ?_
                          obtain ⟨es1, hH2⟩ := hHl.share hok hL hcore hwho hwc
                          have hok3 := hok2.nx (hok2.inv.takeN hok2.got (⟨4, L, L % c.homes, core, who, 0, 0, Words.zero⟩ : Msg)) (by have h9 : ((l.length : Nat) : Int) ≤ 60 := (by omega); omega)
                          obtain ⟨k2, mmk2, bbk2, eek2, htk2⟩ : ∃ q2 q3 q4 q5, (u.2.2).take (⟨4, L, L % c.homes, core, who, 0, 0, Words.zero⟩ : Msg) = (q2, q3, q4, q5) := ⟨_, _, _, _, rfl⟩
                          rw [htk2] at es1 hH2 hok3
                          dsimp only at es1 hH2 hok3
                          injection es1 with e2 e3
                          injection e3 with e4 e5
                          subst e2 e4 e5
                          refine TC.region ?_
                          refine .q (LD.move rfl) rfl rfl ?_
                          refine .q (LD.ldA rfl m0 (by repeat constructor) rfl) rfl rfl ?_
                          refine TL.cw (CL.func rfl) (w_TakeF hok2 hru (⟨4, L, L % c.homes, core, who, 0, 0, Words.zero⟩ : Msg) hLr) (i := 4) rfl (Wants.un rfl) rfl ?_
                          rintro _ r3 ⟨rfl, hr3⟩
                          rw [htk2] at hr3 ⊢
                          rw [evictV]
                          dsimp only at hr3
                          refine .q (LD.move rfl) rfl rfl ?_
                          refine .q (LD.ex rfl rfl) rfl rfl ?_
                          refine .q (LD.ex rfl rfl) rfl rfl ?_
                          refine .q (LD.ex rfl rfl) rfl rfl ?_
                          refine TL.nb NB.alloc (Wants.un rfl) rfl (fun b31 => ?_)
                          refine .e (EF.stA (i := 0) rfl rfl rfl rfl rfl rfl (by repeat constructor)) rfl rfl ?_
                          refine .q (LD.assign rfl) rfl rfl ?_
                          refine .q (LD.assign rfl) rfl rfl ?_
                          refine TL.nilS ?_
                          refine TC.seq ?_
                          refine TC.region ?_
                          refine .q (LD.fieldAddr rfl) rfl rfl ?_
                          refine .e (EF.st1 (i := 1) rfl rfl rfl rfl rfl (by repeat constructor)) rfl rfl ?_
                          refine TL.nilS ?_
                          refine TC.seq ?_
                          obtain ⟨es2, hH3⟩ := hH2.give hok hL hcore hwho hwc
                          have hok4 := hok3.nx (hok3.inv.takeN hok3.got (⟨5, L, L % c.homes, core, who, 0, 0, Words.zero⟩ : Msg)) (by have h9 : ((l.length : Nat) : Int) ≤ 60 := (by omega); omega)
                          obtain ⟨k3, mmk3, bbk3, eek3, htk3⟩ : ∃ q2 q3 q4 q5, (k2).take (⟨5, L, L % c.homes, core, who, 0, 0, Words.zero⟩ : Msg) = (q2, q3, q4, q5) := ⟨_, _, _, _, rfl⟩
                          rw [htk3] at es2 hH3 hok4
                          dsimp only at es2 hH3 hok4
                          injection es2 with e2 e3
                          injection e3 with e4 e5
                          subst e2 e4 e5
                          refine TC.region ?_
                          refine .q (LD.move rfl) rfl rfl ?_
                          refine .q (LD.ldA rfl m1 (by repeat constructor) rfl) rfl rfl ?_
                          refine TL.cw (CL.func rfl) (w_TakeF hok3 hr3 (⟨5, L, L % c.homes, core, who, 0, 0, Words.zero⟩ : Msg) hLr) (i := 5) rfl (Wants.un rfl) rfl ?_
                          rintro _ r4 ⟨rfl, hr4⟩
                          rw [htk3] at hr4 ⊢
                          rw [evictV]
                          dsimp only at hr4
                          refine .q (LD.move rfl) rfl rfl ?_
                          refine .q (LD.ex rfl rfl) rfl rfl ?_
                          refine .q (LD.ex rfl rfl) rfl rfl ?_
                          refine .q (LD.ex rfl rfl) rfl rfl ?_
                          refine TL.nb NB.alloc (Wants.un rfl) rfl (fun b34 => ?_)
                          refine .e (EF.stA (i := 0) rfl rfl rfl rfl rfl rfl (by repeat constructor)) rfl rfl ?_
                          refine .q (LD.assign rfl) rfl rfl ?_
                          refine .q (LD.assign rfl) rfl rfl ?_
                          refine TL.nilS ?_
                          refine TC.seq ?_
                          refine TC.region ?_
                          refine .q (LD.fieldAddr rfl) rfl rfl ?_
                          refine .e (EF.st1 (i := 2) rfl rfl rfl rfl rfl (by repeat constructor)) rfl rfl ?_
                          refine TL.nilS ?_
                          refine TC.seq ?_
                          skip
                          have hok5 := hok4.nx (hok4.inv.takeN hok4.got (⟨4, L, L % c.homes, core, who, 0, 0, Words.zero⟩ : Msg)) (by have h9 : ((l.length : Nat) : Int) ≤ 60 := (by omega); omega)
                          obtain ⟨k4, mmk4, bbk4, eek4, htk4⟩ : ∃ q2 q3 q4 q5, (k3).take (⟨4, L, L % c.homes, core, who, 0, 0, Words.zero⟩ : Msg) = (q2, q3, q4, q5) := ⟨_, _, _, _, rfl⟩
                          rw [htk4] at hH3 hok5
                          dsimp only at hH3 hok5
                          subst hH3
                          refine TC.region ?_
                          refine .q (LD.move rfl) rfl rfl ?_
                          refine .q (LD.ldA rfl m2 (by repeat constructor) rfl) rfl rfl ?_
                          refine TL.cw (CL.func rfl) (w_TakeF hok4 hr4 (⟨4, L, L % c.homes, core, who, 0, 0, Words.zero⟩ : Msg) hLr) (i := 6) rfl (Wants.un rfl) rfl ?_
                          rintro _ r5 ⟨rfl, hr5⟩
                          rw [htk4] at hr5 ⊢
                          rw [evictV]
                          dsimp only at hr5
                          refine .q (LD.move rfl) rfl rfl ?_
                          refine .q (LD.ex rfl rfl) rfl rfl ?_
                          refine .q (LD.ex rfl rfl) rfl rfl ?_
                          refine .q (LD.ex rfl rfl) rfl rfl ?_
                          refine TL.nb NB.alloc (Wants.un rfl) rfl (fun b37 => ?_)
                          refine .e (EF.stA (i := 0) rfl rfl rfl rfl rfl rfl (by repeat constructor)) rfl rfl ?_
                          refine .q (LD.assign rfl) rfl rfl ?_
                          refine .q (LD.assign rfl) rfl rfl ?_
                          refine TL.nilS ?_
                          refine TC.seq ?_
                          refine TC.region ?_
                          refine .q (LD.move rfl) rfl rfl ?_
                          refine .q (LD.move rfl) rfl rfl ?_
                          refine .y (LD.move rfl) rfl rfl rfl rfl rfl ?_
                          refine .y (LD.eql rfl rfl) rfl rfl rfl rfl rfl ?_
                          refine .q (LD.pickT rfl rfl rfl) rfl rfl ?_
                          refine .q (LD.move rfl) rfl rfl ?_
                          refine .y (LD.move rfl) rfl rfl rfl rfl rfl ?_
                          refine .q (LD.pickT rfl rfl rfl) rfl rfl ?_
                          refine .q (LD.move rfl) rfl rfl ?_
                          refine .y (LD.move rfl) rfl rfl rfl rfl rfl ?_
                          refine .y (LD.eql rfl rfl) rfl rfl rfl rfl rfl ?_
                          refine .q (LD.pickT rfl rfl rfl) rfl rfl ?_
                          refine .q (LD.move rfl) rfl rfl ?_
                          refine .y (LD.fieldAddr rfl) rfl rfl rfl rfl rfl ?_
                          refine .y (LD.ldA rfl m2 (by repeat constructor) rfl) rfl rfl rfl rfl rfl ?_
                          refine .y (LD.ldA rfl m4 (by repeat constructor) rfl) rfl rfl rfl rfl rfl ?_
                          refine .y (LD.eqST rfl rfl Tryz.eqGuardType36 rfl (by repeat first | exact rfl | refine ⟨_, _, rfl, ⟨_, rfl⟩, ?_⟩) rfl) rfl rfl rfl rfl rfl ?_
                          refine .q (LD.pickT rfl rfl rfl) rfl rfl ?_
                          refine .q (LD.move rfl) rfl rfl ?_
                          refine .y (LD.fieldAddr rfl) rfl rfl rfl rfl rfl ?_
                          refine .y (LD.ldA rfl m1 (by repeat constructor) rfl) rfl rfl rfl rfl rfl ?_
                          refine .y (LD.ldA rfl m4 (by repeat constructor) rfl) rfl rfl rfl rfl rfl ?_
                          refine .y (LD.eqST rfl rfl Tryz.eqGuardType36 rfl (by repeat first | exact rfl | refine ⟨_, _, rfl, ⟨_, rfl⟩, ?_⟩) rfl) rfl rfl rfl rfl rfl ?_
                          refine .q (LD.pickT rfl rfl rfl) rfl rfl ?_
                          refine .q (LD.move rfl) rfl rfl ?_
                          refine .y (LD.fieldAddr rfl) rfl rfl rfl rfl rfl ?_
                          refine .y (LD.ld1 rfl m2 rfl) rfl rfl rfl rfl rfl ?_
                          refine .y (LD.eql rfl rfl) rfl rfl rfl rfl rfl ?_
                          refine .q (LD.pickT rfl rfl rfl) rfl rfl ?_
                          refine .q (LD.move rfl) rfl rfl ?_
                          refine .y (LD.fieldAddr rfl) rfl rfl rfl rfl rfl ?_
                          refine .y (LD.ld1 rfl m1 rfl) rfl rfl rfl rfl rfl ?_
                          refine .y (LD.eql rfl rfl) rfl rfl rfl rfl rfl ?_
                          refine .q (LD.pickT rfl rfl rfl) rfl rfl ?_
                          refine .q (LD.move rfl) rfl rfl ?_
                          refine .y (LD.fieldAddr rfl) rfl rfl rfl rfl rfl ?_
                          refine .y (LD.ld1 rfl m2 rfl) rfl rfl rfl rfl rfl ?_
                          refine .y (LD.move rfl) rfl rfl rfl rfl rfl ?_
                          refine .y (LD.eqT rfl rfl rfl) rfl rfl rfl rfl rfl ?_
                          refine .q (LD.pickT rfl rfl rfl) rfl rfl ?_
                          refine .q (LD.move rfl) rfl rfl ?_
                          refine .y (LD.fieldAddr rfl) rfl rfl rfl rfl rfl ?_
                          refine .y (LD.ld1 rfl m1 rfl) rfl rfl rfl rfl rfl ?_
                          refine .y (LD.move rfl) rfl rfl rfl rfl rfl ?_
                          refine .y (LD.eqT rfl rfl rfl) rfl rfl rfl rfl rfl ?_
                          refine .q (LD.pickT rfl rfl rfl) rfl rfl ?_
                          refine .q (LD.move rfl) rfl rfl ?_
                          refine .y (LD.move rfl) rfl rfl rfl rfl rfl ?_
                          refine .y (LD.eql rfl rfl) rfl rfl rfl rfl rfl ?_
                          refine .q (LD.pickT rfl rfl rfl) rfl rfl ?_
                          refine .q (LD.assign rfl) rfl rfl ?_
                          refine TL.nilS ?_
                          refine TC.ret ?_
                          repeat first | refine Post.sr ?_ | refine Post.br ?_
                          exact Out.intro (X := [_, _, _, _, _, _, _, _, _, _]) (L' := [_]) (Res.t rfl Res.z) ⟨rfl, rfl⟩ (.refl _)
                    · have h8 := g8
                      try simp at h8
                      refine .s g8 rfl rfl rfl rfl ?_
                      refine .s g8 rfl rfl rfl rfl ?_
                      refine .q (LD.pickT rfl g8 rfl) rfl rfl ?_
                      refine TL.nilS ?_
                      refine TC.condT rfl rfl ?_
                      refine TC.seq ?_
                      refine TC.region ?_
                      refine .q (LD.assign rfl) rfl rfl ?_
                      refine TL.nilS ?_
                      refine TC.ret ?_
                      repeat first | refine Post.sr ?_ | refine Post.br ?_
                      exact Out.intro (X := [_, _, _, _, _, _]) (L' := [_]) (Res.t rfl Res.z) ⟨rfl, rfl⟩ (.refl _)
                  · have h7 := g7
                    try simp at h7
                    refine .s g7 rfl rfl rfl rfl ?_
                    refine .s g7 rfl rfl rfl rfl ?_
                    refine .s g7 rfl rfl rfl rfl ?_
                    refine .q (LD.pickT rfl g7 rfl) rfl rfl ?_
                    refine .q (LD.move rfl) rfl rfl ?_
                    refine .s rfl rfl rfl rfl rfl ?_
                    refine .s rfl rfl rfl rfl rfl ?_
                    refine .s rfl rfl rfl rfl rfl ?_
                    refine .q (LD.pickT rfl rfl rfl) rfl rfl ?_
                    refine TL.nilS ?_
                    refine TC.condT rfl rfl ?_
                    refine TC.seq ?_
                    refine TC.region ?_
                    refine .q (LD.assign rfl) rfl rfl ?_
                    refine TL.nilS ?_
                    refine TC.ret ?_
                    repeat first | refine Post.sr ?_ | refine Post.br ?_
                    exact Out.intro (X := [_, _, _, _, _, _]) (L' := [_]) (Res.t rfl Res.z) ⟨rfl, rfl⟩ (.refl _)
                · have h6 := g6
                  try simp at h6
                  refine .s g6 rfl rfl rfl rfl ?_
                  refine .q (LD.pickT rfl g6 rfl) rfl rfl ?_
                  refine .q (LD.move rfl) rfl rfl ?_
                  refine .s rfl rfl rfl rfl rfl ?_
                  refine .s rfl rfl rfl rfl rfl ?_
                  refine .s rfl rfl rfl rfl rfl ?_
                  refine .s rfl rfl rfl rfl rfl ?_
                  refine .q (LD.pickT rfl rfl rfl) rfl rfl ?_
                  refine .q (LD.move rfl) rfl rfl ?_
                  refine .s rfl rfl rfl rfl rfl ?_
                  refine .s rfl rfl rfl rfl rfl ?_
                  refine .s rfl rfl rfl rfl rfl ?_
                  refine .q (LD.pickT rfl rfl rfl) rfl rfl ?_
                  refine TL.nilS ?_
                  refine TC.condT rfl rfl ?_
                  refine TC.seq ?_
                  refine TC.region ?_
                  refine .q (LD.assign rfl) rfl rfl ?_
                  refine TL.nilS ?_
                  refine TC.ret ?_
                  repeat first | refine Post.sr ?_ | refine Post.br ?_
                  exact Out.intro (X := [_, _, _, _, _, _]) (L' := [_]) (Res.t rfl Res.z) ⟨rfl, rfl⟩ (.refl _)
              · rw [if_neg hk1] at v2 v5
                obtain ⟨Wn, hWn⟩ : ∃ w, w = (kk.look L).words.set wd x.value := ⟨_, rfl⟩
                rw [← hWn] at v2 v5
                refine TC.region ?_
                refine .q (LD.move rfl) rfl rfl ?_
                refine .q (LD.move rfl) rfl rfl ?_
                refine TL.cr (CL.func rfl) (w_LookF hok1 hr2 L hLr) m1 (Wants.un rfl) rfl ?_
                rintro _ rfl
                rw [lookV_w v2]
                refine .q (LD.move rfl) rfl rfl ?_
                refine .q (LD.ex rfl rfl) rfl rfl ?_
                refine .q (LD.ex rfl rfl) rfl rfl ?_
                refine TL.nb NB.alloc (Wants.un rfl) rfl (fun b24 => ?_)
                refine .e (EF.stA (i := 0) rfl rfl rfl rfl rfl rfl (by repeat constructor)) rfl rfl ?_
                refine .q (LD.assign rfl) rfl rfl ?_
                refine TL.nilS ?_
                refine TC.seq ?_
                refine TC.region ?_
                refine .q (LD.fieldAddr rfl) rfl rfl ?_
                refine .q (LD.ldA rfl m1 (by repeat constructor) rfl) rfl rfl ?_
                refine TL.nb NB.alloc (Wants.un rfl) rfl (fun b26 => ?_)
                refine .e (EF.stA (i := 0) rfl rfl rfl rfl rfl rfl (by repeat constructor)) rfl rfl ?_
                refine TL.nilS ?_
                refine TC.seq ?_
                refine TC.seq ?_
                refine TC.region ?_
                refine .q (LD.fieldAddr rfl) rfl rfl ?_
                refine .q (LD.ld1 rfl m4 rfl) rfl rfl ?_
                refine .q (LD.neqT rfl rfl hk1) rfl rfl ?_
                refine TL.nilS ?_
                refine TC.condT rfl rfl ?_
                refine TC.region ?_
                refine .q (LD.move rfl) rfl rfl ?_
                refine .q (LD.fieldAddr rfl) rfl rfl ?_
                refine .q (LD.ld1 rfl m4 rfl) rfl rfl ?_
                refine .q (LD.indexAddrA rfl rfl (by omega)) rfl rfl ?_
                rw [Nat.zero_add, Int.toNat_natCast, Nat.mul_one]
                refine .e (EF.store1 (i := 0) rfl rfl rfl rfl (by simpa using hwd)) rfl rfl ?_
                rw [show ([i (((kk.look L).words).get 0), i (((kk.look L).words).get 1), i (((kk.look L).words).get 2), i (((kk.look L).words).get 3), i (((kk.look L).words).get 4), i (((kk.look L).words).get 5), i (((kk.look L).words).get 6), i (((kk.look L).words).get 7)].toArray.setIfInBounds wd (i x.value)) = [i ((Wn).get 0), i ((Wn).get 1), i ((Wn).get 2), i ((Wn).get 3), i ((Wn).get 4), i ((Wn).get 5), i ((Wn).get 6), i ((Wn).get 7)].toArray from by rw [hWn]; have := words_set (kk.look L).words hwd x.value; simp only [encW] at this; simpa using this]
                refine TL.nilS ?_
                refine TC.seq ?_
                refine TC.seq ?_
                refine TC.region ?_
                refine .q (LD.fieldAddr rfl) rfl rfl ?_
                refine .q (LD.ldA rfl m1 (by repeat constructor) rfl) rfl rfl ?_
                refine .q (LD.ldA rfl m0 (by repeat constructor) rfl) rfl rfl ?_
                refine .q (LD.neqSF rfl rfl Tryz.eqGuardType36 rfl (by repeat first | exact rfl | refine ⟨_, _, rfl, ⟨_, rfl⟩, ?_⟩) rfl) rfl rfl ?_
                refine .q (LD.move rfl) rfl rfl ?_
                refine .y (LD.fieldAddr rfl) rfl rfl rfl rfl rfl ?_
                refine .y (LD.ld1 rfl m4 rfl) rfl rfl rfl rfl rfl ?_
                refine .y (LD.neq rfl rfl) rfl rfl rfl rfl rfl ?_
                refine .y (LD.move rfl) rfl rfl rfl rfl rfl ?_
                refine TL.split rfl rfl rfl rfl (fun g13 => ?_) (fun g13 => ?_)
                · have h13 := g13
                  try simp at h13
                  refine .y (LD.move rfl) g13 rfl rfl rfl rfl ?_
                  refine .y (LD.move rfl) g13 rfl rfl rfl rfl ?_
                  refine .y (LD.fieldAddr rfl) g13 rfl rfl rfl rfl ?_
                  refine .y (LD.indexAddrA rfl rfl (by omega)) g13 rfl rfl rfl rfl ?_
                  refine .y (LD.load1 rfl m2 (way_get (kk.look L) hwd)) g13 rfl rfl rfl rfl ?_
                  refine .y (LD.neqF rfl rfl (v3 (by simp_all))) g13 rfl rfl rfl rfl ?_
                  refine .y (LD.pickT rfl g13 rfl) rfl rfl rfl rfl rfl ?_
                  refine .q (LD.pickF rfl rfl rfl) rfl rfl ?_
                  refine .q (LD.move rfl) rfl rfl ?_
                  refine .y (LD.fieldAddr rfl) rfl rfl rfl rfl rfl ?_
                  refine .y (LD.ld1 rfl m4 rfl) rfl rfl rfl rfl rfl ?_
                  refine .y (LD.neqT rfl rfl hk1) rfl rfl rfl rfl rfl ?_
                  refine .y (LD.move rfl) rfl rfl rfl rfl rfl ?_
                  refine .y (LD.fieldAddr rfl) rfl rfl rfl rfl rfl ?_
                  refine .y (LD.ld1 rfl m1 rfl) rfl rfl rfl rfl rfl ?_
                  refine .y (LD.neqF rfl rfl (v4 hk1)) rfl rfl rfl rfl rfl ?_
                  refine .y (LD.pickT rfl rfl rfl) rfl rfl rfl rfl rfl ?_
                  refine .q (LD.pickF rfl rfl rfl) rfl rfl ?_
                  refine TL.nilS ?_
                  refine TC.condF rfl rfl ?_
                  refine TC.skipS ?_
                  refine TC.seq ?_
                  refine TC.seq ?_
                  refine TC.region ?_
                  refine .q (LD.fieldAddr rfl) rfl rfl ?_
                  refine .q (LD.ld1 rfl m1 rfl) rfl rfl ?_
                  refine .q (LD.lss rfl rfl) rfl rfl ?_
                  refine .q (LD.move rfl) rfl rfl ?_
                  refine TL.split rfl rfl rfl rfl (fun g14 => ?_) (fun g14 => ?_)
                  · have h14 := g14
                    try simp at h14
                    refine .y (LD.move rfl) g14 rfl rfl rfl rfl ?_
                    refine .y (LD.lss rfl rfl) g14 rfl rfl rfl rfl ?_
                    refine .q (LD.pickF rfl g14 rfl) rfl rfl ?_
                    refine .q (LD.move rfl) rfl rfl ?_
                    refine TL.split rfl rfl rfl rfl (fun g15 => ?_) (fun g15 => ?_)
                    · have h15 := g15
                      try simp at h15
                      refine .y (LD.move rfl) g15 rfl rfl rfl rfl ?_
                      refine .y (LD.fieldAddr rfl) g15 rfl rfl rfl rfl ?_
                      refine .y (LD.ld1 rfl m5 rfl) g15 rfl rfl rfl rfl ?_
                      refine .y (LD.geq rfl rfl) g15 rfl rfl rfl rfl ?_
                      refine .q (LD.pickF rfl g15 rfl) rfl rfl ?_
                      refine .q (LD.move rfl) rfl rfl ?_
                      refine TL.split rfl rfl rfl rfl (fun g16 => ?_) (fun g16 => ?_)
                      · have h16 := g16
                        try simp at h16
                        refine .y (LD.move rfl) g16 rfl rfl rfl rfl ?_
                        refine .y (LD.move rfl) g16 rfl rfl rfl rfl ?_
                        refine .y (LD.eql rfl rfl) g16 rfl rfl rfl rfl ?_
                        refine .q (LD.pickF rfl g16 rfl) rfl rfl ?_
                        refine TL.nilS ?_
                        refine TC.cond rfl (fun g17 => ?_) (fun g17 => ?_)
                        · have h17 := g17
                          try simp at h17
                          refine TC.seq ?_
                          refine TC.region ?_
                          refine .q (LD.assign rfl) rfl rfl ?_
                          refine TL.nilS ?_
                          refine TC.ret ?_
                          repeat first | refine Post.sr ?_ | refine Post.br ?_
                          exact Out.intro (X := [_, _, _, _, _, _]) (L' := [_]) (Res.t rfl Res.z) ⟨rfl, rfl⟩ (.refl _)
                        · have h17 := g17
                          try simp at h17
                          refine TC.skipS ?_
                          refine TC.seq ?_
                          refine TC.seq ?_
                          have hwho : inR who c.cores = true := inR_iff.2 (by simp_all)
                          have hwc : who ≠ core := by simp_all
                          have hst2 : 2 ≤ (k1.look L).state := by simp_all
                          have hHd := v5 hst2
                          rw [hcr] at hHd
                          have hsets : 0 < c.sets := by obtain ⟨j, _, e, _⟩ := (okS hok).sets; have := pow_pos j; omega
                          have hhom : 0 < c.homes := by have := ok_homes hok; omega
                          have hways := (okS hok).ways
                          refine TC.region ?_
                          refine .q (LD.assign rfl) rfl rfl ?_
                          refine TL.nilS ?_
                          refine TC.block ?_
                          refine TC.loopd (α := Nat × Frag × Mes.Cache) (fun u => [(1, i core), (4, i who), (5, .bool ev), (6, .pointer (some ⟨b6, 0, none⟩)), (13, .pointer (some ⟨p, 0, none⟩)), (17, i L), (26, .pointer (some ⟨b26, 0, none⟩)), (27, i (u.1 : Int))]) (fun u => blk b26 36 [i ((Wn).get 0), i ((Wn).get 1), i ((Wn).get 2), i ((Wn).get 3), i ((Wn).get 4), i ((Wn).get 5), i ((Wn).get 6), i ((Wn).get 7)].toArray :: blk b24 66 (encWay ⟨(k1.look L).state, (k1.look L).line, Wn, (k1.look L).locked⟩).toArray :: blk b20 66 (encWay (kk.look L)).toArray :: u.2.1 :: blk b9 43 (encO x).toArray :: blk b6 24 (encC c) :: h0 :: F) (fun u => (u.1 : Int) ≤ c.ways ∧ CacOk c l.length u.2.2 ∧ Mes.Hold c core L Wn u.2.2 ∧ IsCac u.2.2 p u.2.1) (fun u => c.ways.toNat - u.1) (0, r2, k1) ⟨by show ((0 : Nat) : Int) ≤ _; omega, hok1, hHd, hr2⟩ ⟨rfl, rfl, rfl, rfl, rfl, rfl, rfl, rfl, trivial⟩ ⟨[], .refl _⟩ (fun u hu => ?_)
                          refine TC.seq ?_
                          refine TC.seq ?_
                          obtain ⟨hui, hok2, hHl, hru⟩ := hu
                          refine TC.region ?_
                          refine .q (LD.move rfl) rfl rfl ?_
                          refine .q (LD.move rfl) rfl rfl ?_
                          refine TL.split rfl rfl rfl rfl (fun g18 => ?_) (fun g18 => ?_)
                          · have h18 := g18
                            try simp at h18
                            refine .y (LD.move rfl) g18 rfl rfl rfl rfl ?_
                            refine .y (LD.fieldAddr rfl) g18 rfl rfl rfl rfl ?_
                            refine .y (LD.ld1 rfl m5 rfl) g18 rfl rfl rfl rfl ?_
                            refine .y (LD.lss rfl rfl) g18 rfl rfl rfl rfl ?_
                            refine .q (LD.pickT rfl g18 rfl) rfl rfl ?_
                            refine TL.nilS ?_
                            refine TC.cond rfl (fun g19 => ?_) (fun g19 => ?_)
                            · have h19 := g19
                              try simp at h19
                              refine TC.skipS ?_
                              refine TC.seq ?_
                              refine TC.block ?_
                              refine TC.seq ?_
                              refine TC.region ?_
                              refine .q (LD.move rfl) rfl rfl ?_
                              refine .q (LD.move rfl) rfl rfl ?_
                              refine .q (LD.fieldAddr rfl) rfl rfl ?_
                              refine .q (LD.ld1 rfl m5 rfl) rfl rfl ?_
                              refine .q (LD.rem rfl rfl (by omega) (by omega)) rfl rfl ?_
                              refine .q (LD.move rfl) rfl rfl ?_
                              refine TL.cr (CL.func rfl) (w_WayF hok2 hru (L % c.sets) u.1) m3 (Wants.un rfl) rfl ?_
                              rintro _ rfl
                              rw [atV_eq]
                              refine .q (LD.move rfl) rfl rfl ?_
                              refine .q (LD.ex rfl rfl) rfl rfl ?_
                              refine .q (LD.ex rfl rfl) rfl rfl ?_
                              refine TL.nb NB.alloc (Wants.un rfl) rfl (fun b28 => ?_)
                              refine .e (EF.stA (i := 0) rfl rfl rfl rfl rfl rfl (by repeat constructor)) rfl rfl ?_
                              refine .q (LD.assign rfl) rfl rfl ?_
                              refine TL.nilS ?_
                              refine TC.seq ?_
                              refine TC.region ?_
                              refine .q (LD.fieldAddr rfl) rfl rfl ?_
                              refine .q (LD.ld1 rfl m0 rfl) rfl rfl ?_
                              refine .q (LD.move rfl) rfl rfl ?_
                              refine .q (LD.eql rfl rfl) rfl rfl ?_
                              refine TL.nilS ?_
                              refine TC.cond rfl (fun g20 => ?_) (fun g20 => ?_)
                              · have h20 := g20
                                try simp at h20
                                refine TC.region ?_
                                refine .q (LD.move rfl) rfl rfl ?_
                                refine .q (LD.move rfl) rfl rfl ?_
                                refine .q (LD.fieldAddr rfl) rfl rfl ?_
                                refine .q (LD.ld1 rfl m6 rfl) rfl rfl ?_
                                refine .q (LD.rem rfl rfl (by omega) (by omega)) rfl rfl ?_
                                refine .q (LD.move rfl) rfl rfl ?_
                                refine TL.cw (CL.func rfl) (w_EvictF hok2 hru (L % c.sets) u.1) (i := 4) rfl (Wants.un rfl) rfl ?_
                                rintro _ r3 ⟨rfl, hr3⟩
                                rw [evictV]
                                refine TL.nil ?_
                                refine TC.region ?_
                                refine .q (LD.move rfl) rfl rfl ?_
                                refine .q (LD.add rfl rfl (by omega)) rfl rfl ?_
                                refine .q (LD.assign rfl) rfl rfl ?_
                                refine TL.nil ?_
                                exact ⟨(u.1 + 1, r3, (u.2.2.evict (L % c.sets) u.1).1), ⟨by omega, hok2.nx (hok2.inv.evictN hok2.got _ _) hok2.small, hHl.evict _ _, hr3⟩, by omega, ⟨rfl, rfl, rfl, rfl, rfl, rfl, rfl, rfl, trivial⟩, [_], .refl _⟩
                              · have h20 := g20
                                try simp at h20
                                refine TC.skip ?_
                                refine TC.region ?_
                                refine .q (LD.move rfl) rfl rfl ?_
                                refine .q (LD.add rfl rfl (by omega)) rfl rfl ?_
                                refine .q (LD.assign rfl) rfl rfl ?_
                                refine TL.nil ?_
                                exact ⟨(u.1 + 1, u.2.1, u.2.2), ⟨by omega, hok2, hHl, hru⟩, by omega, ⟨rfl, rfl, rfl, rfl, rfl, rfl, rfl, rfl, trivial⟩, [_], .refl _⟩
                            · have h19 := g19
                              try simp at h19
                              refine TC.exit ?_
                              refine TC.seq ?_
                              refine TC.region ?_
                              refine .q (LD.move rfl) rfl rfl ?_
                              refine .q (LD.move rfl) rfl rfl ?_
                              refine .q (LD.fieldAddr rfl) rfl rfl ?_
                              refine .q (LD.ld1 rfl m5 rfl) rfl rfl ?_
                              refine .q (LD.rem rfl rfl (by omega) (by omega)) rfl rfl ?_
                              refine .q (LD.move rfl) rfl rfl ?_
                              refine .q (LD.move rfl) rfl rfl ?_
                              refine .q (LD.bS rfl rfl (by repeat constructor)) rfl rfl ?_
                              refine TL.nb NB.alloc (Wants.un rfl) rfl (fun b30 => ?_)
                              refine .e (EF.stA (i := 0) rfl rfl rfl rfl rfl rfl (by repeat constructor)) rfl rfl ?_
                              refine TL.nilS ?_
                              refine TC.seq ?_
                              obtain ⟨es1, hH2⟩ := hHl.share hok hL hcore hwho hwc
                              have hok3 := hok2.nx (hok2.inv.takeN hok2.got (⟨4, L, L % c.homes, core, who, 0, 0, Words.zero⟩ : Msg)) (by have h9 : ((l.length : Nat) : Int) ≤ 60 := (by omega); omega)
                              obtain ⟨k2, mmk2, bbk2, eek2, htk2⟩ : ∃ q2 q3 q4 q5, (u.2.2).take (⟨4, L, L % c.homes, core, who, 0, 0, Words.zero⟩ : Msg) = (q2, q3, q4, q5) := ⟨_, _, _, _, rfl⟩
                              rw [htk2] at es1 hH2 hok3
                              dsimp only at es1 hH2 hok3
                              injection es1 with e2 e3
                              injection e3 with e4 e5
                              subst e2 e4 e5
                              refine TC.region ?_
                              refine .q (LD.move rfl) rfl rfl ?_
                              refine .q (LD.ldA rfl m0 (by repeat constructor) rfl) rfl rfl ?_
                              refine TL.cw (CL.func rfl) (w_TakeF hok2 hru (⟨4, L, L % c.homes, core, who, 0, 0, Words.zero⟩ : Msg) hLr) (i := 4) rfl (Wants.un rfl) rfl ?_
                              rintro _ r3 ⟨rfl, hr3⟩
                              rw [htk2] at hr3 ⊢
                              rw [evictV]
                              dsimp only at hr3
                              refine .q (LD.move rfl) rfl rfl ?_
                              refine .q (LD.ex rfl rfl) rfl rfl ?_
                              refine .q (LD.ex rfl rfl) rfl rfl ?_
                              refine .q (LD.ex rfl rfl) rfl rfl ?_
                              refine TL.nb NB.alloc (Wants.un rfl) rfl (fun b31 => ?_)
                              refine .e (EF.stA (i := 0) rfl rfl rfl rfl rfl rfl (by repeat constructor)) rfl rfl ?_
                              refine .q (LD.assign rfl) rfl rfl ?_
                              refine .q (LD.assign rfl) rfl rfl ?_
                              refine TL.nilS ?_
                              refine TC.seq ?_
                              refine TC.region ?_
                              refine .q (LD.fieldAddr rfl) rfl rfl ?_
                              refine .e (EF.st1 (i := 1) rfl rfl rfl rfl rfl (by repeat constructor)) rfl rfl ?_
                              refine TL.nilS ?_
                              refine TC.seq ?_
                              obtain ⟨es2, hH3⟩ := hH2.give hok hL hcore hwho hwc
                              have hok4 := hok3.nx (hok3.inv.takeN hok3.got (⟨5, L, L % c.homes, core, who, 0, 0, Words.zero⟩ : Msg)) (by have h9 : ((l.length : Nat) : Int) ≤ 60 := (by omega); omega)
                              obtain ⟨k3, mmk3, bbk3, eek3, htk3⟩ : ∃ q2 q3 q4 q5, (k2).take (⟨5, L, L % c.homes, core, who, 0, 0, Words.zero⟩ : Msg) = (q2, q3, q4, q5) := ⟨_, _, _, _, rfl⟩
                              rw [htk3] at es2 hH3 hok4
                              dsimp only at es2 hH3 hok4
                              injection es2 with e2 e3
                              injection e3 with e4 e5
                              subst e2 e4 e5
                              refine TC.region ?_
                              refine .q (LD.move rfl) rfl rfl ?_
                              refine .q (LD.ldA rfl m1 (by repeat constructor) rfl) rfl rfl ?_
                              refine TL.cw (CL.func rfl) (w_TakeF hok3 hr3 (⟨5, L, L % c.homes, core, who, 0, 0, Words.zero⟩ : Msg) hLr) (i := 5) rfl (Wants.un rfl) rfl ?_
                              rintro _ r4 ⟨rfl, hr4⟩
                              rw [htk3] at hr4 ⊢
                              rw [evictV]
                              dsimp only at hr4
                              refine .q (LD.move rfl) rfl rfl ?_
                              refine .q (LD.ex rfl rfl) rfl rfl ?_
                              refine .q (LD.ex rfl rfl) rfl rfl ?_
                              refine .q (LD.ex rfl rfl) rfl rfl ?_
                              refine TL.nb NB.alloc (Wants.un rfl) rfl (fun b34 => ?_)
                              refine .e (EF.stA (i := 0) rfl rfl rfl rfl rfl rfl (by repeat constructor)) rfl rfl ?_
                              refine .q (LD.assign rfl) rfl rfl ?_
                              refine .q (LD.assign rfl) rfl rfl ?_
                              refine TL.nilS ?_
                              refine TC.seq ?_
                              refine TC.region ?_
                              refine .q (LD.fieldAddr rfl) rfl rfl ?_
                              refine .e (EF.st1 (i := 2) rfl rfl rfl rfl rfl (by repeat constructor)) rfl rfl ?_
                              refine TL.nilS ?_
                              refine TC.seq ?_
                              skip
                              have hok5 := hok4.nx (hok4.inv.takeN hok4.got (⟨4, L, L % c.homes, core, who, 0, 0, Words.zero⟩ : Msg)) (by have h9 : ((l.length : Nat) : Int) ≤ 60 := (by omega); omega)
                              obtain ⟨k4, mmk4, bbk4, eek4, htk4⟩ : ∃ q2 q3 q4 q5, (k3).take (⟨4, L, L % c.homes, core, who, 0, 0, Words.zero⟩ : Msg) = (q2, q3, q4, q5) := ⟨_, _, _, _, rfl⟩
                              rw [htk4] at hH3 hok5
                              dsimp only at hH3 hok5
                              subst hH3
                              refine TC.region ?_
                              refine .q (LD.move rfl) rfl rfl ?_
                              refine .q (LD.ldA rfl m2 (by repeat constructor) rfl) rfl rfl ?_
                              refine TL.cw (CL.func rfl) (w_TakeF hok4 hr4 (⟨4, L, L % c.homes, core, who, 0, 0, Words.zero⟩ : Msg) hLr) (i := 6) rfl (Wants.un rfl) rfl ?_
                              rintro _ r5 ⟨rfl, hr5⟩
                              rw [htk4] at hr5 ⊢
                              rw [evictV]
                              dsimp only at hr5
                              refine .q (LD.move rfl) rfl rfl ?_
                              refine .q (LD.ex rfl rfl) rfl rfl ?_
                              refine .q (LD.ex rfl rfl) rfl rfl ?_
                              refine .q (LD.ex rfl rfl) rfl rfl ?_
                              refine TL.nb NB.alloc (Wants.un rfl) rfl (fun b37 => ?_)
                              refine .e (EF.stA (i := 0) rfl rfl rfl rfl rfl rfl (by repeat constructor)) rfl rfl ?_
                              refine .q (LD.assign rfl) rfl rfl ?_
                              refine .q (LD.assign rfl) rfl rfl ?_
                              refine TL.nilS ?_
                              refine TC.seq ?_
                              refine TC.region ?_
                              refine .q (LD.move rfl) rfl rfl ?_
                              refine .q (LD.move rfl) rfl rfl ?_
                              refine .y (LD.move rfl) rfl rfl rfl rfl rfl ?_
                              refine .y (LD.eql rfl rfl) rfl rfl rfl rfl rfl ?_
                              refine .q (LD.pickT rfl rfl rfl) rfl rfl ?_
                              refine .q (LD.move rfl) rfl rfl ?_
                              refine .y (LD.move rfl) rfl rfl rfl rfl rfl ?_
                              refine .q (LD.pickT rfl rfl rfl) rfl rfl ?_
                              refine .q (LD.move rfl) rfl rfl ?_
                              refine .y (LD.move rfl) rfl rfl rfl rfl rfl ?_
                              refine .y (LD.eql rfl rfl) rfl rfl rfl rfl rfl ?_
                              refine .q (LD.pickT rfl rfl rfl) rfl rfl ?_
                              refine .q (LD.move rfl) rfl rfl ?_
                              refine .y (LD.fieldAddr rfl) rfl rfl rfl rfl rfl ?_
                              refine .y (LD.ldA rfl m2 (by repeat constructor) rfl) rfl rfl rfl rfl rfl ?_
                              refine .y (LD.ldA rfl m4 (by repeat constructor) rfl) rfl rfl rfl rfl rfl ?_
                              refine .y (LD.eqST rfl rfl Tryz.eqGuardType36 rfl (by repeat first | exact rfl | refine ⟨_, _, rfl, ⟨_, rfl⟩, ?_⟩) rfl) rfl rfl rfl rfl rfl ?_
                              refine .q (LD.pickT rfl rfl rfl) rfl rfl ?_
                              refine .q (LD.move rfl) rfl rfl ?_
                              refine .y (LD.fieldAddr rfl) rfl rfl rfl rfl rfl ?_
                              refine .y (LD.ldA rfl m1 (by repeat constructor) rfl) rfl rfl rfl rfl rfl ?_
                              refine .y (LD.ldA rfl m4 (by repeat constructor) rfl) rfl rfl rfl rfl rfl ?_
                              refine .y (LD.eqST rfl rfl Tryz.eqGuardType36 rfl (by repeat first | exact rfl | refine ⟨_, _, rfl, ⟨_, rfl⟩, ?_⟩) rfl) rfl rfl rfl rfl rfl ?_
                              refine .q (LD.pickT rfl rfl rfl) rfl rfl ?_
                              refine .q (LD.move rfl) rfl rfl ?_
                              refine .y (LD.fieldAddr rfl) rfl rfl rfl rfl rfl ?_
                              refine .y (LD.ld1 rfl m2 rfl) rfl rfl rfl rfl rfl ?_
                              refine .y (LD.eql rfl rfl) rfl rfl rfl rfl rfl ?_
                              refine .q (LD.pickT rfl rfl rfl) rfl rfl ?_
                              refine .q (LD.move rfl) rfl rfl ?_
                              refine .y (LD.fieldAddr rfl) rfl rfl rfl rfl rfl ?_
                              refine .y (LD.ld1 rfl m1 rfl) rfl rfl rfl rfl rfl ?_
                              refine .y (LD.eql rfl rfl) rfl rfl rfl rfl rfl ?_
                              refine .q (LD.pickT rfl rfl rfl) rfl rfl ?_
                              refine .q (LD.move rfl) rfl rfl ?_
                              refine .y (LD.fieldAddr rfl) rfl rfl rfl rfl rfl ?_
                              refine .y (LD.ld1 rfl m2 rfl) rfl rfl rfl rfl rfl ?_
                              refine .y (LD.move rfl) rfl rfl rfl rfl rfl ?_
                              refine .y (LD.eqT rfl rfl rfl) rfl rfl rfl rfl rfl ?_
                              refine .q (LD.pickT rfl rfl rfl) rfl rfl ?_
                              refine .q (LD.move rfl) rfl rfl ?_
                              refine .y (LD.fieldAddr rfl) rfl rfl rfl rfl rfl ?_
                              refine .y (LD.ld1 rfl m1 rfl) rfl rfl rfl rfl rfl ?_
                              refine .y (LD.move rfl) rfl rfl rfl rfl rfl ?_
                              refine .y (LD.eqT rfl rfl rfl) rfl rfl rfl rfl rfl ?_
                              refine .q (LD.pickT rfl rfl rfl) rfl rfl ?_
                              refine .q (LD.move rfl) rfl rfl ?_
                              refine .y (LD.move rfl) rfl rfl rfl rfl rfl ?_
                              refine .y (LD.eql rfl rfl) rfl rfl rfl rfl rfl ?_
                              refine .q (LD.pickT rfl rfl rfl) rfl rfl ?_
                              refine .q (LD.assign rfl) rfl rfl ?_
                              refine TL.nilS ?_
                              refine TC.ret ?_
                              repeat first | refine Post.sr ?_ | refine Post.br ?_
                              exact Out.intro (X := [_, _, _, _, _, _, _, _, _, _]) (L' := [_]) (Res.t rfl Res.z) ⟨rfl, rfl⟩ (.refl _)
                          · have h18 := g18
                            try simp at h18
                            refine .s g18 rfl rfl rfl rfl ?_
                            refine .s g18 rfl rfl rfl rfl ?_
                            refine .s g18 rfl rfl rfl rfl ?_
                            refine .q (LD.pickF rfl g18 rfl) rfl rfl ?_
                            refine TL.nilS ?_
                            refine TC.condF rfl rfl ?_
                            refine TC.exit ?_
                            refine TC.seq ?_
                            refine TC.region ?_
                            refine .q (LD.move rfl) rfl rfl ?_
                            refine .q (LD.move rfl) rfl rfl ?_
                            refine .q (LD.fieldAddr rfl) rfl rfl ?_
                            refine .q (LD.ld1 rfl m5 rfl) rfl rfl ?_
                            refine .q (LD.rem rfl rfl (by omega) (by omega)) rfl rfl ?_
                            refine .q (LD.move rfl) rfl rfl ?_
                            refine .q (LD.move rfl) rfl rfl ?_
                            refine .q (LD.bS rfl rfl (by repeat constructor)) rfl rfl ?_
                            refine TL.nb NB.alloc (Wants.un rfl) rfl (fun b30 => ?_)
                            refine .e (EF.stA (i := 0) rfl rfl rfl rfl rfl rfl (by repeat constructor)) rfl rfl ?_
                            refine TL.nilS ?_
                            refine TC.seq ?_
                            obtain ⟨es1, hH2⟩ := hHl.share hok hL hcore hwho hwc
                            have hok3 := hok2.nx (hok2.inv.takeN hok2.got (⟨4, L, L % c.homes, core, who, 0, 0, Words.zero⟩ : Msg)) (by have h9 : ((l.length : Nat) : Int) ≤ 60 := (by omega); omega)
                            obtain ⟨k2, mmk2, bbk2, eek2, htk2⟩ : ∃ q2 q3 q4 q5, (u.2.2).take (⟨4, L, L % c.homes, core, who, 0, 0, Words.zero⟩ : Msg) = (q2, q3, q4, q5) := ⟨_, _, _, _, rfl⟩
                            rw [htk2] at es1 hH2 hok3
                            dsimp only at es1 hH2 hok3
                            injection es1 with e2 e3
                            injection e3 with e4 e5
                            subst e2 e4 e5
                            refine TC.region ?_
                            refine .q (LD.move rfl) rfl rfl ?_
                            refine .q (LD.ldA rfl m0 (by repeat constructor) rfl) rfl rfl ?_
                            refine TL.cw (CL.func rfl) (w_TakeF hok2 hru (⟨4, L, L % c.homes, core, who, 0, 0, Words.zero⟩ : Msg) hLr) (i := 4) rfl (Wants.un rfl) rfl ?_
                            rintro _ r3 ⟨rfl, hr3⟩
                            rw [htk2] at hr3 ⊢
                            rw [evictV]
                            dsimp only at hr3
                            refine .q (LD.move rfl) rfl rfl ?_
                            refine .q (LD.ex rfl rfl) rfl rfl ?_
                            refine .q (LD.ex rfl rfl) rfl rfl ?_
                            refine .q (LD.ex rfl rfl) rfl rfl ?_
                            refine TL.nb NB.alloc (Wants.un rfl) rfl (fun b31 => ?_)
                            refine .e (EF.stA (i := 0) rfl rfl rfl rfl rfl rfl (by repeat constructor)) rfl rfl ?_
                            refine .q (LD.assign rfl) rfl rfl ?_
                            refine .q (LD.assign rfl) rfl rfl ?_
                            refine TL.nilS ?_
                            refine TC.seq ?_
                            refine TC.region ?_
                            refine .q (LD.fieldAddr rfl) rfl rfl ?_
                            refine .e (EF.st1 (i := 1) rfl rfl rfl rfl rfl (by repeat constructor)) rfl rfl ?_
                            refine TL.nilS ?_
                            refine TC.seq ?_
                            obtain ⟨es2, hH3⟩ := hH2.give hok hL hcore hwho hwc
                            have hok4 := hok3.nx (hok3.inv.takeN hok3.got (⟨5, L, L % c.homes, core, who, 0, 0, Words.zero⟩ : Msg)) (by have h9 : ((l.length : Nat) : Int) ≤ 60 := (by omega); omega)
                            obtain ⟨k3, mmk3, bbk3, eek3, htk3⟩ : ∃ q2 q3 q4 q5, (k2).take (⟨5, L, L % c.homes, core, who, 0, 0, Words.zero⟩ : Msg) = (q2, q3, q4, q5) := ⟨_, _, _, _, rfl⟩
                            rw [htk3] at es2 hH3 hok4
                            dsimp only at es2 hH3 hok4
                            injection es2 with e2 e3
                            injection e3 with e4 e5
                            subst e2 e4 e5
                            refine TC.region ?_
                            refine .q (LD.move rfl) rfl rfl ?_
                            refine .q (LD.ldA rfl m1 (by repeat constructor) rfl) rfl rfl ?_
                            refine TL.cw (CL.func rfl) (w_TakeF hok3 hr3 (⟨5, L, L % c.homes, core, who, 0, 0, Words.zero⟩ : Msg) hLr) (i := 5) rfl (Wants.un rfl) rfl ?_
                            rintro _ r4 ⟨rfl, hr4⟩
                            rw [htk3] at hr4 ⊢
                            rw [evictV]
                            dsimp only at hr4
                            refine .q (LD.move rfl) rfl rfl ?_
                            refine .q (LD.ex rfl rfl) rfl rfl ?_
                            refine .q (LD.ex rfl rfl) rfl rfl ?_
                            refine .q (LD.ex rfl rfl) rfl rfl ?_
                            refine TL.nb NB.alloc (Wants.un rfl) rfl (fun b34 => ?_)
                            refine .e (EF.stA (i := 0) rfl rfl rfl rfl rfl rfl (by repeat constructor)) rfl rfl ?_
                            refine .q (LD.assign rfl) rfl rfl ?_
                            refine .q (LD.assign rfl) rfl rfl ?_
                            refine TL.nilS ?_
                            refine TC.seq ?_
                            refine TC.region ?_
                            refine .q (LD.fieldAddr rfl) rfl rfl ?_
                            refine .e (EF.st1 (i := 2) rfl rfl rfl rfl rfl (by repeat constructor)) rfl rfl ?_
                            refine TL.nilS ?_
                            refine TC.seq ?_
                            skip
                            have hok5 := hok4.nx (hok4.inv.takeN hok4.got (⟨4, L, L % c.homes, core, who, 0, 0, Words.zero⟩ : Msg)) (by have h9 : ((l.length : Nat) : Int) ≤ 60 := (by omega); omega)
                            obtain ⟨k4, mmk4, bbk4, eek4, htk4⟩ : ∃ q2 q3 q4 q5, (k3).take (⟨4, L, L % c.homes, core, who, 0, 0, Words.zero⟩ : Msg) = (q2, q3, q4, q5) := ⟨_, _, _, _, rfl⟩
                            rw [htk4] at hH3 hok5
                            dsimp only at hH3 hok5
                            subst hH3
                            refine TC.region ?_
                            refine .q (LD.move rfl) rfl rfl ?_
                            refine .q (LD.ldA rfl m2 (by repeat constructor) rfl) rfl rfl ?_
                            refine TL.cw (CL.func rfl) (w_TakeF hok4 hr4 (⟨4, L, L % c.homes, core, who, 0, 0, Words.zero⟩ : Msg) hLr) (i := 6) rfl (Wants.un rfl) rfl ?_
                            rintro _ r5 ⟨rfl, hr5⟩
                            rw [htk4] at hr5 ⊢
                            rw [evictV]
                            dsimp only at hr5
                            refine .q (LD.move rfl) rfl rfl ?_
                            refine .q (LD.ex rfl rfl) rfl rfl ?_
                            refine .q (LD.ex rfl rfl) rfl rfl ?_
                            refine .q (LD.ex rfl rfl) rfl rfl ?_
                            refine TL.nb NB.alloc (Wants.un rfl) rfl (fun b37 => ?_)
                            refine .e (EF.stA (i := 0) rfl rfl rfl rfl rfl rfl (by repeat constructor)) rfl rfl ?_
                            refine .q (LD.assign rfl) rfl rfl ?_
                            refine .q (LD.assign rfl) rfl rfl ?_
                            refine TL.nilS ?_
                            refine TC.seq ?_
                            refine TC.region ?_
                            refine .q (LD.move rfl) rfl rfl ?_
                            refine .q (LD.move rfl) rfl rfl ?_
                            refine .y (LD.move rfl) rfl rfl rfl rfl rfl ?_
                            refine .y (LD.eql rfl rfl) rfl rfl rfl rfl rfl ?_
                            refine .q (LD.pickT rfl rfl rfl) rfl rfl ?_
                            refine .q (LD.move rfl) rfl rfl ?_
                            refine .y (LD.move rfl) rfl rfl rfl rfl rfl ?_
                            refine .q (LD.pickT rfl rfl rfl) rfl rfl ?_
                            refine .q (LD.move rfl) rfl rfl ?_
                            refine .y (LD.move rfl) rfl rfl rfl rfl rfl ?_
                            refine .y (LD.eql rfl rfl) rfl rfl rfl rfl rfl ?_
                            refine .q (LD.pickT rfl rfl rfl) rfl rfl ?_
                            refine .q (LD.move rfl) rfl rfl ?_
                            refine .y (LD.fieldAddr rfl) rfl rfl rfl rfl rfl ?_
                            refine .y (LD.ldA rfl m2 (by repeat constructor) rfl) rfl rfl rfl rfl rfl ?_
                            refine .y (LD.ldA rfl m4 (by repeat constructor) rfl) rfl rfl rfl rfl rfl ?_
                            refine .y (LD.eqST rfl rfl Tryz.eqGuardType36 rfl (by repeat first | exact rfl | refine ⟨_, _, rfl, ⟨_, rfl⟩, ?_⟩) rfl) rfl rfl rfl rfl rfl ?_
                            refine .q (LD.pickT rfl rfl rfl) rfl rfl ?_
                            refine .q (LD.move rfl) rfl rfl ?_
                            refine .y (LD.fieldAddr rfl) rfl rfl rfl rfl rfl ?_
                            refine .y (LD.ldA rfl m1 (by repeat constructor) rfl) rfl rfl rfl rfl rfl ?_
                            refine .y (LD.ldA rfl m4 (by repeat constructor) rfl) rfl rfl rfl rfl rfl ?_
                            refine .y (LD.eqST rfl rfl Tryz.eqGuardType36 rfl (by repeat first | exact rfl | refine ⟨_, _, rfl, ⟨_, rfl⟩, ?_⟩) rfl) rfl rfl rfl rfl rfl ?_
                            refine .q (LD.pickT rfl rfl rfl) rfl rfl ?_
                            refine .q (LD.move rfl) rfl rfl ?_
                            refine .y (LD.fieldAddr rfl) rfl rfl rfl rfl rfl ?_
                            refine .y (LD.ld1 rfl m2 rfl) rfl rfl rfl rfl rfl ?_
                            refine .y (LD.eql rfl rfl) rfl rfl rfl rfl rfl ?_
                            refine .q (LD.pickT rfl rfl rfl) rfl rfl ?_
                            refine .q (LD.move rfl) rfl rfl ?_
                            refine .y (LD.fieldAddr rfl) rfl rfl rfl rfl rfl ?_
                            refine .y (LD.ld1 rfl m1 rfl) rfl rfl rfl rfl rfl ?_
                            refine .y (LD.eql rfl rfl) rfl rfl rfl rfl rfl ?_
                            refine .q (LD.pickT rfl rfl rfl) rfl rfl ?_
                            refine .q (LD.move rfl) rfl rfl ?_
                            refine .y (LD.fieldAddr rfl) rfl rfl rfl rfl rfl ?_
                            refine .y (LD.ld1 rfl m2 rfl) rfl rfl rfl rfl rfl ?_
                            refine .y (LD.move rfl) rfl rfl rfl rfl rfl ?_
                            refine .y (LD.eqT rfl rfl rfl) rfl rfl rfl rfl rfl ?_
                            refine .q (LD.pickT rfl rfl rfl) rfl rfl ?_
                            refine .q (LD.move rfl) rfl rfl ?_
                            refine .y (LD.fieldAddr rfl) rfl rfl rfl rfl rfl ?_
                            refine .y (LD.ld1 rfl m1 rfl) rfl rfl rfl rfl rfl ?_
                            refine .y (LD.move rfl) rfl rfl rfl rfl rfl ?_
                            refine .y (LD.eqT rfl rfl rfl) rfl rfl rfl rfl rfl ?_
                            refine .q (LD.pickT rfl rfl rfl) rfl rfl ?_
                            refine .q (LD.move rfl) rfl rfl ?_
                            refine .y (LD.move rfl) rfl rfl rfl rfl rfl ?_
                            refine .y (LD.eql rfl rfl) rfl rfl rfl rfl rfl ?_
                            refine .q (LD.pickT rfl rfl rfl) rfl rfl ?_
                            refine .q (LD.assign rfl) rfl rfl ?_
                            refine TL.nilS ?_
                            refine TC.ret ?_
                            repeat first | refine Post.sr ?_ | refine Post.br ?_
                            exact Out.intro (X := [_, _, _, _, _, _, _, _, _, _]) (L' := [_]) (Res.t rfl Res.z) ⟨rfl, rfl⟩ (.refl _)
                      · have h16 := g16
                        try simp at h16
                        refine .s g16 rfl rfl rfl rfl ?_
                        refine .s g16 rfl rfl rfl rfl ?_
                        refine .q (LD.pickT rfl g16 rfl) rfl rfl ?_
                        refine TL.nilS ?_
                        refine TC.condT rfl rfl ?_
                        refine TC.seq ?_
                        refine TC.region ?_
                        refine .q (LD.assign rfl) rfl rfl ?_
                        refine TL.nilS ?_
                        refine TC.ret ?_
                        repeat first | refine Post.sr ?_ | refine Post.br ?_
                        exact Out.intro (X := [_, _, _, _, _, _]) (L' := [_]) (Res.t rfl Res.z) ⟨rfl, rfl⟩ (.refl _)
                    · have h15 := g15
                      try simp at h15
                      refine .s g15 rfl rfl rfl rfl ?_
                      refine .s g15 rfl rfl rfl rfl ?_
                      refine .s g15 rfl rfl rfl rfl ?_
                      refine .q (LD.pickT rfl g15 rfl) rfl rfl ?_
                      refine .q (LD.move rfl) rfl rfl ?_
                      refine .s rfl rfl rfl rfl rfl ?_
                      refine .s rfl rfl rfl rfl rfl ?_
                      refine .s rfl rfl rfl rfl rfl ?_
                      refine .q (LD.pickT rfl rfl rfl) rfl rfl ?_
                      refine TL.nilS ?_
                      refine TC.condT rfl rfl ?_
                      refine TC.seq ?_
                      refine TC.region ?_
                      refine .q (LD.assign rfl) rfl rfl ?_
                      refine TL.nilS ?_
                      refine TC.ret ?_
                      repeat first | refine Post.sr ?_ | refine Post.br ?_
                      exact Out.intro (X := [_, _, _, _, _, _]) (L' := [_]) (Res.t rfl Res.z) ⟨rfl, rfl⟩ (.refl _)
                  · have h14 := g14
                    try simp at h14
                    refine .s g14 rfl rfl rfl rfl ?_
                    refine .q (LD.pickT rfl g14 rfl) rfl rfl ?_
                    refine .q (LD.move rfl) rfl rfl ?_
                    refine .s rfl rfl rfl rfl rfl ?_
                    refine .s rfl rfl rfl rfl rfl ?_
                    refine .s rfl rfl rfl rfl rfl ?_
                    refine .s rfl rfl rfl rfl rfl ?_
                    refine .q (LD.pickT rfl rfl rfl) rfl rfl ?_
                    refine .q (LD.move rfl) rfl rfl ?_
                    refine .s rfl rfl rfl rfl rfl ?_
                    refine .s rfl rfl rfl rfl rfl ?_
                    refine .s rfl rfl rfl rfl rfl ?_
                    refine .q (LD.pickT rfl rfl rfl) rfl rfl ?_
                    refine TL.nilS ?_
                    refine TC.condT rfl rfl ?_
                    refine TC.seq ?_
                    refine TC.region ?_
                    refine .q (LD.assign rfl) rfl rfl ?_
                    refine TL.nilS ?_
                    refine TC.ret ?_
                    repeat first | refine Post.sr ?_ | refine Post.br ?_
                    exact Out.intro (X := [_, _, _, _, _, _]) (L' := [_]) (Res.t rfl Res.z) ⟨rfl, rfl⟩ (.refl _)
                · have h13 := g13
                  try simp at h13
                  refine .s g13 rfl rfl rfl rfl ?_
                  refine .s g13 rfl rfl rfl rfl ?_
                  refine .s g13 rfl rfl rfl rfl ?_
                  refine .s g13 rfl rfl rfl rfl ?_
                  refine .s g13 rfl rfl rfl rfl ?_
                  refine .y (LD.pickF rfl g13 rfl) rfl rfl rfl rfl rfl ?_
                  refine .q (LD.pickF rfl rfl rfl) rfl rfl ?_
                  refine .q (LD.move rfl) rfl rfl ?_
                  refine .y (LD.fieldAddr rfl) rfl rfl rfl rfl rfl ?_
                  refine .y (LD.ld1 rfl m4 rfl) rfl rfl rfl rfl rfl ?_
                  refine .y (LD.neqT rfl rfl hk1) rfl rfl rfl rfl rfl ?_
                  refine .y (LD.move rfl) rfl rfl rfl rfl rfl ?_
                  refine .y (LD.fieldAddr rfl) rfl rfl rfl rfl rfl ?_
                  refine .y (LD.ld1 rfl m1 rfl) rfl rfl rfl rfl rfl ?_
                  refine .y (LD.neqF rfl rfl (v4 hk1)) rfl rfl rfl rfl rfl ?_
                  refine .y (LD.pickT rfl rfl rfl) rfl rfl rfl rfl rfl ?_
                  refine .q (LD.pickF rfl rfl rfl) rfl rfl ?_
                  refine TL.nilS ?_
                  refine TC.condF rfl rfl ?_
                  refine TC.skipS ?_
                  refine TC.seq ?_
                  refine TC.seq ?_
                  refine TC.region ?_
                  refine .q (LD.fieldAddr rfl) rfl rfl ?_
                  refine .q (LD.ld1 rfl m1 rfl) rfl rfl ?_
                  refine .q (LD.lss rfl rfl) rfl rfl ?_
                  refine .q (LD.move rfl) rfl rfl ?_
                  refine TL.split rfl rfl rfl rfl (fun g21 => ?_) (fun g21 => ?_)
                  · have h21 := g21
                    try simp at h21
                    refine .y (LD.move rfl) g21 rfl rfl rfl rfl ?_
                    refine .y (LD.lss rfl rfl) g21 rfl rfl rfl rfl ?_
                    refine .q (LD.pickF rfl g21 rfl) rfl rfl ?_
                    refine .q (LD.move rfl) rfl rfl ?_
                    refine TL.split rfl rfl rfl rfl (fun g22 => ?_) (fun g22 => ?_)
                    · have h22 := g22
                      try simp at h22
                      refine .y (LD.move rfl) g22 rfl rfl rfl rfl ?_
                      refine .y (LD.fieldAddr rfl) g22 rfl rfl rfl rfl ?_
                      refine .y (LD.ld1 rfl m5 rfl) g22 rfl rfl rfl rfl ?_
                      refine .y (LD.geq rfl rfl) g22 rfl rfl rfl rfl ?_
                      refine .q (LD.pickF rfl g22 rfl) rfl rfl ?_
                      refine .q (LD.move rfl) rfl rfl ?_
                      refine TL.split rfl rfl rfl rfl (fun g23 => ?_) (fun g23 => ?_)
                      · have h23 := g23
                        try simp at h23
                        refine .y (LD.move rfl) g23 rfl rfl rfl rfl ?_
                        refine .y (LD.move rfl) g23 rfl rfl rfl rfl ?_
                        refine .y (LD.eql rfl rfl) g23 rfl rfl rfl rfl ?_
                        refine .q (LD.pickF rfl g23 rfl) rfl rfl ?_
                        refine TL.nilS ?_
                        refine TC.cond rfl (fun g24 => ?_) (fun g24 => ?_)
                        · have h24 := g24
                          try simp at h24
                          refine TC.seq ?_
                          refine TC.region ?_
                          refine .q (LD.assign rfl) rfl rfl ?_
                          refine TL.nilS ?_
                          refine TC.ret ?_
                          repeat first | refine Post.sr ?_ | refine Post.br ?_
                          exact Out.intro (X := [_, _, _, _, _, _]) (L' := [_]) (Res.t rfl Res.z) ⟨rfl, rfl⟩ (.refl _)
                        · have h24 := g24
                          try simp at h24
                          refine TC.skipS ?_
                          refine TC.seq ?_
                          refine TC.seq ?_
                          have hwho : inR who c.cores = true := inR_iff.2 (by simp_all)
                          have hwc : who ≠ core := by simp_all
                          have hst2 : 2 ≤ (k1.look L).state := by simp_all
                          have hHd := v5 hst2
                          rw [hcr] at hHd
                          have hsets : 0 < c.sets := by obtain ⟨j, _, e, _⟩ := (okS hok).sets; have := pow_pos j; omega
                          have hhom : 0 < c.homes := by have := ok_homes hok; omega
                          have hways := (okS hok).ways
                          refine TC.region ?_
                          refine .q (LD.assign rfl) rfl rfl ?_
                          refine TL.nilS ?_
                          refine TC.block ?_
                          refine TC.loopd (α := Nat × Frag × Mes.Cache) (fun u => [(1, i core), (4, i who), (5, .bool ev), (6, .pointer (some ⟨b6, 0, none⟩)), (13, .pointer (some ⟨p, 0, none⟩)), (17, i L), (26, .pointer (some ⟨b26, 0, none⟩)), (27, i (u.1 : Int))]) (fun u => blk b26 36 [i ((Wn).get 0), i ((Wn).get 1), i ((Wn).get 2), i ((Wn).get 3), i ((Wn).get 4), i ((Wn).get 5), i ((Wn).get 6), i ((Wn).get 7)].toArray :: blk b24 66 (encWay ⟨(k1.look L).state, (k1.look L).line, Wn, (k1.look L).locked⟩).toArray :: blk b20 66 (encWay (kk.look L)).toArray :: u.2.1 :: blk b9 43 (encO x).toArray :: blk b6 24 (encC c) :: h0 :: F) (fun u => (u.1 : Int) ≤ c.ways ∧ CacOk c l.length u.2.2 ∧ Mes.Hold c core L Wn u.2.2 ∧ IsCac u.2.2 p u.2.1) (fun u => c.ways.toNat - u.1) (0, r2, k1) ⟨by show ((0 : Nat) : Int) ≤ _; omega, hok1, hHd, hr2⟩ ⟨rfl, rfl, rfl, rfl, rfl, rfl, rfl, rfl, trivial⟩ ⟨[], .refl _⟩ (fun u hu => ?_)
                          refine TC.seq ?_
                          refine TC.seq ?_
                          obtain ⟨hui, hok2, hHl, hru⟩ := hu
                          refine TC.region ?_
                          refine .q (LD.move rfl) rfl rfl ?_
                          refine .q (LD.move rfl) rfl rfl ?_
                          refine TL.split rfl rfl rfl rfl (fun g25 => ?_) (fun g25 => ?_)
                          · have h25 := g25
                            try simp at h25
                            refine .y (LD.move rfl) g25 rfl rfl rfl rfl ?_
                            refine .y (LD.fieldAddr rfl) g25 rfl rfl rfl rfl ?_
                            refine .y (LD.ld1 rfl m5 rfl) g25 rfl rfl rfl rfl ?_
                            refine .y (LD.lss rfl rfl) g25 rfl rfl rfl rfl ?_
                            refine .q (LD.pickT rfl g25 rfl) rfl rfl ?_
                            refine TL.nilS ?_
                            refine TC.cond rfl (fun g26 => ?_) (fun g26 => ?_)
                            · have h26 := g26
                              try simp at h26
                              refine TC.skipS ?_
                              refine TC.seq ?_
                              refine TC.block ?_
                              refine TC.seq ?_
                              refine TC.region ?_
                              refine .q (LD.move rfl) rfl rfl ?_
                              refine .q (LD.move rfl) rfl rfl ?_
                              refine .q (LD.fieldAddr rfl) rfl rfl ?_
                              refine .q (LD.ld1 rfl m5 rfl) rfl rfl ?_
                              refine .q (LD.rem rfl rfl (by omega) (by omega)) rfl rfl ?_
                              refine .q (LD.move rfl) rfl rfl ?_
                              refine TL.cr (CL.func rfl) (w_WayF hok2 hru (L % c.sets) u.1) m3 (Wants.un rfl) rfl ?_
                              rintro _ rfl
                              rw [atV_eq]
                              refine .q (LD.move rfl) rfl rfl ?_
                              refine .q (LD.ex rfl rfl) rfl rfl ?_
                              refine .q (LD.ex rfl rfl) rfl rfl ?_
                              refine TL.nb NB.alloc (Wants.un rfl) rfl (fun b28 => ?_)
                              refine .e (EF.stA (i := 0) rfl rfl rfl rfl rfl rfl (by repeat constructor)) rfl rfl ?_
                              refine .q (LD.assign rfl) rfl rfl ?_
                              refine TL.nilS ?_
                              refine TC.seq ?_
                              refine TC.region ?_
                              refine .q (LD.fieldAddr rfl) rfl rfl ?_
                              refine .q (LD.ld1 rfl m0 rfl) rfl rfl ?_
                              refine .q (LD.move rfl) rfl rfl ?_
                              refine .q (LD.eql rfl rfl) rfl rfl ?_
                              refine TL.nilS ?_
                              refine TC.cond rfl (fun g27 => ?_) (fun g27 => ?_)
                              · have h27 := g27
                                try simp at h27
                                refine TC.region ?_
                                refine .q (LD.move rfl) rfl rfl ?_
                                refine .q (LD.move rfl) rfl rfl ?_
                                refine .q (LD.fieldAddr rfl) rfl rfl ?_
                                refine .q (LD.ld1 rfl m6 rfl) rfl rfl ?_
                                refine .q (LD.rem rfl rfl (by omega) (by omega)) rfl rfl ?_
                                refine .q (LD.move rfl) rfl rfl ?_
                                refine TL.cw (CL.func rfl) (w_EvictF hok2 hru (L % c.sets) u.1) (i := 4) rfl (Wants.un rfl) rfl ?_
                                rintro _ r3 ⟨rfl, hr3⟩
                                rw [evictV]
                                refine TL.nil ?_
                                refine TC.region ?_
                                refine .q (LD.move rfl) rfl rfl ?_
                                refine .q (LD.add rfl rfl (by omega)) rfl rfl ?_
                                refine .q (LD.assign rfl) rfl rfl ?_
                                refine TL.nil ?_
                                exact ⟨(u.1 + 1, r3, (u.2.2.evict (L % c.sets) u.1).1), ⟨by omega, hok2.nx (hok2.inv.evictN hok2.got _ _) hok2.small, hHl.evict _ _, hr3⟩, by omega, ⟨rfl, rfl, rfl, rfl, rfl, rfl, rfl, rfl, trivial⟩, [_], .refl _⟩
                              · have h27 := g27
                                try simp at h27
                                refine TC.skip ?_
                                refine TC.region ?_
                                refine .q (LD.move rfl) rfl rfl ?_
                                refine .q (LD.add rfl rfl (by omega)) rfl rfl ?_
                                refine .q (LD.assign rfl) rfl rfl ?_
                                refine TL.nil ?_
                                exact ⟨(u.1 + 1, u.2.1, u.2.2), ⟨by omega, hok2, hHl, hru⟩, by omega, ⟨rfl, rfl, rfl, rfl, rfl, rfl, rfl, rfl, trivial⟩, [_], .refl _⟩
                            · have h26 := g26
                              try simp at h26
                              refine TC.exit ?_
                              refine TC.seq ?_
                              refine TC.region ?_
                              refine .q (LD.move rfl) rfl rfl ?_
                              refine .q (LD.move rfl) rfl rfl ?_
                              refine .q (LD.fieldAddr rfl) rfl rfl ?_
                              refine .q (LD.ld1 rfl m5 rfl) rfl rfl ?_
                              refine .q (LD.rem rfl rfl (by omega) (by omega)) rfl rfl ?_
                              refine .q (LD.move rfl) rfl rfl ?_
                              refine .q (LD.move rfl) rfl rfl ?_
                              refine .q (LD.bS rfl rfl (by repeat constructor)) rfl rfl ?_
                              refine TL.nb NB.alloc (Wants.un rfl) rfl (fun b30 => ?_)
                              refine .e (EF.stA (i := 0) rfl rfl rfl rfl rfl rfl (by repeat constructor)) rfl rfl ?_
                              refine TL.nilS ?_
                              refine TC.seq ?_
                              obtain ⟨es1, hH2⟩ := hHl.share hok hL hcore hwho hwc
                              have hok3 := hok2.nx (hok2.inv.takeN hok2.got (⟨4, L, L % c.homes, core, who, 0, 0, Words.zero⟩ : Msg)) (by have h9 : ((l.length : Nat) : Int) ≤ 60 := (by omega); omega)
                              obtain ⟨k2, mmk2, bbk2, eek2, htk2⟩ : ∃ q2 q3 q4 q5, (u.2.2).take (⟨4, L, L % c.homes, core, who, 0, 0, Words.zero⟩ : Msg) = (q2, q3, q4, q5) := ⟨_, _, _, _, rfl⟩
                              rw [htk2] at es1 hH2 hok3
                              dsimp only at es1 hH2 hok3
                              injection es1 with e2 e3
                              injection e3 with e4 e5
                              subst e2 e4 e5
                              refine TC.region ?_
                              refine .q (LD.move rfl) rfl rfl ?_
                              refine .q (LD.ldA rfl m0 (by repeat constructor) rfl) rfl rfl ?_
                              refine TL.cw (CL.func rfl) (w_TakeF hok2 hru (⟨4, L, L % c.homes, core, who, 0, 0, Words.zero⟩ : Msg) hLr) (i := 4) rfl (Wants.un rfl) rfl ?_
                              rintro _ r3 ⟨rfl, hr3⟩
                              rw [htk2] at hr3 ⊢
                              rw [evictV]
                              dsimp only at hr3
                              refine .q (LD.move rfl) rfl rfl ?_
                              refine .q (LD.ex rfl rfl) rfl rfl ?_
                              refine .q (LD.ex rfl rfl) rfl rfl ?_
                              refine .q (LD.ex rfl rfl) rfl rfl ?_
                              refine TL.nb NB.alloc (Wants.un rfl) rfl (fun b31 => ?_)
                              refine .e (EF.stA (i := 0) rfl rfl rfl rfl rfl rfl (by repeat constructor)) rfl rfl ?_
                              refine .q (LD.assign rfl) rfl rfl ?_
                              refine .q (LD.assign rfl) rfl rfl ?_
                              refine TL.nilS ?_
                              refine TC.seq ?_
                              refine TC.region ?_
                              refine .q (LD.fieldAddr rfl) rfl rfl ?_
                              refine .e (EF.st1 (i := 1) rfl rfl rfl rfl rfl (by repeat constructor)) rfl rfl ?_
                              refine TL.nilS ?_
                              refine TC.seq ?_
                              obtain ⟨es2, hH3⟩ := hH2.give hok hL hcore hwho hwc
                              have hok4 := hok3.nx (hok3.inv.takeN hok3.got (⟨5, L, L % c.homes, core, who, 0, 0, Words.zero⟩ : Msg)) (by have h9 : ((l.length : Nat) : Int) ≤ 60 := (by omega); omega)
                              obtain ⟨k3, mmk3, bbk3, eek3, htk3⟩ : ∃ q2 q3 q4 q5, (k2).take (⟨5, L, L % c.homes, core, who, 0, 0, Words.zero⟩ : Msg) = (q2, q3, q4, q5) := ⟨_, _, _, _, rfl⟩
                              rw [htk3] at es2 hH3 hok4
                              dsimp only at es2 hH3 hok4
                              injection es2 with e2 e3
                              injection e3 with e4 e5
                              subst e2 e4 e5
                              refine TC.region ?_
                              refine .q (LD.move rfl) rfl rfl ?_
                              refine .q (LD.ldA rfl m1 (by repeat constructor) rfl) rfl rfl ?_
                              refine TL.cw (CL.func rfl) (w_TakeF hok3 hr3 (⟨5, L, L % c.homes, core, who, 0, 0, Words.zero⟩ : Msg) hLr) (i := 5) rfl (Wants.un rfl) rfl ?_
                              rintro _ r4 ⟨rfl, hr4⟩
                              rw [htk3] at hr4 ⊢
                              rw [evictV]
                              dsimp only at hr4
                              refine .q (LD.move rfl) rfl rfl ?_
                              refine .q (LD.ex rfl rfl) rfl rfl ?_
                              refine .q (LD.ex rfl rfl) rfl rfl ?_
                              refine .q (LD.ex rfl rfl) rfl rfl ?_
                              refine TL.nb NB.alloc (Wants.un rfl) rfl (fun b34 => ?_)
                              refine .e (EF.stA (i := 0) rfl rfl rfl rfl rfl rfl (by repeat constructor)) rfl rfl ?_
                              refine .q (LD.assign rfl) rfl rfl ?_
                              refine .q (LD.assign rfl) rfl rfl ?_
                              refine TL.nilS ?_
                              refine TC.seq ?_
                              refine TC.region ?_
                              refine .q (LD.fieldAddr rfl) rfl rfl ?_
                              refine .e (EF.st1 (i := 2) rfl rfl rfl rfl rfl (by repeat constructor)) rfl rfl ?_
                              refine TL.nilS ?_
                              refine TC.seq ?_
                              skip
                              have hok5 := hok4.nx (hok4.inv.takeN hok4.got (⟨4, L, L % c.homes, core, who, 0, 0, Words.zero⟩ : Msg)) (by have h9 : ((l.length : Nat) : Int) ≤ 60 := (by omega); omega)
                              obtain ⟨k4, mmk4, bbk4, eek4, htk4⟩ : ∃ q2 q3 q4 q5, (k3).take (⟨4, L, L % c.homes, core, who, 0, 0, Words.zero⟩ : Msg) = (q2, q3, q4, q5) := ⟨_, _, _, _, rfl⟩
                              rw [htk4] at hH3 hok5
                              dsimp only at hH3 hok5
                              subst hH3
                              refine TC.region ?_
                              refine .q (LD.move rfl) rfl rfl ?_
                              refine .q (LD.ldA rfl m2 (by repeat constructor) rfl) rfl rfl ?_
                              refine TL.cw (CL.func rfl) (w_TakeF hok4 hr4 (⟨4, L, L % c.homes, core, who, 0, 0, Words.zero⟩ : Msg) hLr) (i := 6) rfl (Wants.un rfl) rfl ?_
                              rintro _ r5 ⟨rfl, hr5⟩
                              rw [htk4] at hr5 ⊢
                              rw [evictV]
                              dsimp only at hr5
                              refine .q (LD.move rfl) rfl rfl ?_
                              refine .q (LD.ex rfl rfl) rfl rfl ?_
                              refine .q (LD.ex rfl rfl) rfl rfl ?_
                              refine .q (LD.ex rfl rfl) rfl rfl ?_
                              refine TL.nb NB.alloc (Wants.un rfl) rfl (fun b37 => ?_)
                              refine .e (EF.stA (i := 0) rfl rfl rfl rfl rfl rfl (by repeat constructor)) rfl rfl ?_
                              refine .q (LD.assign rfl) rfl rfl ?_
                              refine .q (LD.assign rfl) rfl rfl ?_
                              refine TL.nilS ?_
                              refine TC.seq ?_
                              refine TC.region ?_
                              refine .q (LD.move rfl) rfl rfl ?_
                              refine .q (LD.move rfl) rfl rfl ?_
                              refine .y (LD.move rfl) rfl rfl rfl rfl rfl ?_
                              refine .y (LD.eql rfl rfl) rfl rfl rfl rfl rfl ?_
                              refine .q (LD.pickT rfl rfl rfl) rfl rfl ?_
                              refine .q (LD.move rfl) rfl rfl ?_
                              refine .y (LD.move rfl) rfl rfl rfl rfl rfl ?_
                              refine .q (LD.pickT rfl rfl rfl) rfl rfl ?_
                              refine .q (LD.move rfl) rfl rfl ?_
                              refine .y (LD.move rfl) rfl rfl rfl rfl rfl ?_
                              refine .y (LD.eql rfl rfl) rfl rfl rfl rfl rfl ?_
                              refine .q (LD.pickT rfl rfl rfl) rfl rfl ?_
                              refine .q (LD.move rfl) rfl rfl ?_
                              refine .y (LD.fieldAddr rfl) rfl rfl rfl rfl rfl ?_
                              refine .y (LD.ldA rfl m2 (by repeat constructor) rfl) rfl rfl rfl rfl rfl ?_
                              refine .y (LD.ldA rfl m4 (by repeat constructor) rfl) rfl rfl rfl rfl rfl ?_
                              refine .y (LD.eqST rfl rfl Tryz.eqGuardType36 rfl (by repeat first | exact rfl | refine ⟨_, _, rfl, ⟨_, rfl⟩, ?_⟩) rfl) rfl rfl rfl rfl rfl ?_
                              refine .q (LD.pickT rfl rfl rfl) rfl rfl ?_
                              refine .q (LD.move rfl) rfl rfl ?_
                              refine .y (LD.fieldAddr rfl) rfl rfl rfl rfl rfl ?_
                              refine .y (LD.ldA rfl m1 (by repeat constructor) rfl) rfl rfl rfl rfl rfl ?_
                              refine .y (LD.ldA rfl m4 (by repeat constructor) rfl) rfl rfl rfl rfl rfl ?_
                              refine .y (LD.eqST rfl rfl Tryz.eqGuardType36 rfl (by repeat first | exact rfl | refine ⟨_, _, rfl, ⟨_, rfl⟩, ?_⟩) rfl) rfl rfl rfl rfl rfl ?_
                              refine .q (LD.pickT rfl rfl rfl) rfl rfl ?_
                              refine .q (LD.move rfl) rfl rfl ?_
                              refine .y (LD.fieldAddr rfl) rfl rfl rfl rfl rfl ?_
                              refine .y (LD.ld1 rfl m2 rfl) rfl rfl rfl rfl rfl ?_
                              refine .y (LD.eql rfl rfl) rfl rfl rfl rfl rfl ?_
                              refine .q (LD.pickT rfl rfl rfl) rfl rfl ?_
                              refine .q (LD.move rfl) rfl rfl ?_
                              refine .y (LD.fieldAddr rfl) rfl rfl rfl rfl rfl ?_
                              refine .y (LD.ld1 rfl m1 rfl) rfl rfl rfl rfl rfl ?_
                              refine .y (LD.eql rfl rfl) rfl rfl rfl rfl rfl ?_
                              refine .q (LD.pickT rfl rfl rfl) rfl rfl ?_
                              refine .q (LD.move rfl) rfl rfl ?_
                              refine .y (LD.fieldAddr rfl) rfl rfl rfl rfl rfl ?_
                              refine .y (LD.ld1 rfl m2 rfl) rfl rfl rfl rfl rfl ?_
                              refine .y (LD.move rfl) rfl rfl rfl rfl rfl ?_
                              refine .y (LD.eqT rfl rfl rfl) rfl rfl rfl rfl rfl ?_
                              refine .q (LD.pickT rfl rfl rfl) rfl rfl ?_
                              refine .q (LD.move rfl) rfl rfl ?_
                              refine .y (LD.fieldAddr rfl) rfl rfl rfl rfl rfl ?_
                              refine .y (LD.ld1 rfl m1 rfl) rfl rfl rfl rfl rfl ?_
                              refine .y (LD.move rfl) rfl rfl rfl rfl rfl ?_
                              refine .y (LD.eqT rfl rfl rfl) rfl rfl rfl rfl rfl ?_
                              refine .q (LD.pickT rfl rfl rfl) rfl rfl ?_
                              refine .q (LD.move rfl) rfl rfl ?_
                              refine .y (LD.move rfl) rfl rfl rfl rfl rfl ?_
                              refine .y (LD.eql rfl rfl) rfl rfl rfl rfl rfl ?_
                              refine .q (LD.pickT rfl rfl rfl) rfl rfl ?_
                              refine .q (LD.assign rfl) rfl rfl ?_
                              refine TL.nilS ?_
                              refine TC.ret ?_
                              repeat first | refine Post.sr ?_ | refine Post.br ?_
                              exact Out.intro (X := [_, _, _, _, _, _, _, _, _, _]) (L' := [_]) (Res.t rfl Res.z) ⟨rfl, rfl⟩ (.refl _)
                          · have h25 := g25
                            try simp at h25
                            refine .s g25 rfl rfl rfl rfl ?_
                            refine .s g25 rfl rfl rfl rfl ?_
                            refine .s g25 rfl rfl rfl rfl ?_
                            refine .q (LD.pickF rfl g25 rfl) rfl rfl ?_
                            refine TL.nilS ?_
                            refine TC.condF rfl rfl ?_
                            refine TC.exit ?_
                            refine TC.seq ?_
                            refine TC.region ?_
                            refine .q (LD.move rfl) rfl rfl ?_
                            refine .q (LD.move rfl) rfl rfl ?_
                            refine .q (LD.fieldAddr rfl) rfl rfl ?_
                            refine .q (LD.ld1 rfl m5 rfl) rfl rfl ?_
                            refine .q (LD.rem rfl rfl (by omega) (by omega)) rfl rfl ?_
                            refine .q (LD.move rfl) rfl rfl ?_
                            refine .q (LD.move rfl) rfl rfl ?_
                            refine .q (LD.bS rfl rfl (by repeat constructor)) rfl rfl ?_
                            refine TL.nb NB.alloc (Wants.un rfl) rfl (fun b30 => ?_)
                            refine .e (EF.stA (i := 0) rfl rfl rfl rfl rfl rfl (by repeat constructor)) rfl rfl ?_
                            refine TL.nilS ?_
                            refine TC.seq ?_
                            obtain ⟨es1, hH2⟩ := hHl.share hok hL hcore hwho hwc
                            have hok3 := hok2.nx (hok2.inv.takeN hok2.got (⟨4, L, L % c.homes, core, who, 0, 0, Words.zero⟩ : Msg)) (by have h9 : ((l.length : Nat) : Int) ≤ 60 := (by omega); omega)
                            obtain ⟨k2, mmk2, bbk2, eek2, htk2⟩ : ∃ q2 q3 q4 q5, (u.2.2).take (⟨4, L, L % c.homes, core, who, 0, 0, Words.zero⟩ : Msg) = (q2, q3, q4, q5) := ⟨_, _, _, _, rfl⟩
                            rw [htk2] at es1 hH2 hok3
                            dsimp only at es1 hH2 hok3
                            injection es1 with e2 e3
                            injection e3 with e4 e5
                            subst e2 e4 e5
                            refine TC.region ?_
                            refine .q (LD.move rfl) rfl rfl ?_
                            refine .q (LD.ldA rfl m0 (by repeat constructor) rfl) rfl rfl ?_
                            refine TL.cw (CL.func rfl) (w_TakeF hok2 hru (⟨4, L, L % c.homes, core, who, 0, 0, Words.zero⟩ : Msg) hLr) (i := 4) rfl (Wants.un rfl) rfl ?_
                            rintro _ r3 ⟨rfl, hr3⟩
                            rw [htk2] at hr3 ⊢
                            rw [evictV]
                            dsimp only at hr3
                            refine .q (LD.move rfl) rfl rfl ?_
                            refine .q (LD.ex rfl rfl) rfl rfl ?_
                            refine .q (LD.ex rfl rfl) rfl rfl ?_
                            refine .q (LD.ex rfl rfl) rfl rfl ?_
                            refine TL.nb NB.alloc (Wants.un rfl) rfl (fun b31 => ?_)
                            refine .e (EF.stA (i := 0) rfl rfl rfl rfl rfl rfl (by repeat constructor)) rfl rfl ?_
                            refine .q (LD.assign rfl) rfl rfl ?_
                            refine .q (LD.assign rfl) rfl rfl ?_
                            refine TL.nilS ?_
                            refine TC.seq ?_
                            refine TC.region ?_
                            refine .q (LD.fieldAddr rfl) rfl rfl ?_
                            refine .e (EF.st1 (i := 1) rfl rfl rfl rfl rfl (by repeat constructor)) rfl rfl ?_
                            refine TL.nilS ?_
                            refine TC.seq ?_
                            obtain ⟨es2, hH3⟩ := hH2.give hok hL hcore hwho hwc
                            have hok4 := hok3.nx (hok3.inv.takeN hok3.got (⟨5, L, L % c.homes, core, who, 0, 0, Words.zero⟩ : Msg)) (by have h9 : ((l.length : Nat) : Int) ≤ 60 := (by omega); omega)
                            obtain ⟨k3, mmk3, bbk3, eek3, htk3⟩ : ∃ q2 q3 q4 q5, (k2).take (⟨5, L, L % c.homes, core, who, 0, 0, Words.zero⟩ : Msg) = (q2, q3, q4, q5) := ⟨_, _, _, _, rfl⟩
                            rw [htk3] at es2 hH3 hok4
                            dsimp only at es2 hH3 hok4
                            injection es2 with e2 e3
                            injection e3 with e4 e5
                            subst e2 e4 e5
                            refine TC.region ?_
                            refine .q (LD.move rfl) rfl rfl ?_
                            refine .q (LD.ldA rfl m1 (by repeat constructor) rfl) rfl rfl ?_
                            refine TL.cw (CL.func rfl) (w_TakeF hok3 hr3 (⟨5, L, L % c.homes, core, who, 0, 0, Words.zero⟩ : Msg) hLr) (i := 5) rfl (Wants.un rfl) rfl ?_
                            rintro _ r4 ⟨rfl, hr4⟩
                            rw [htk3] at hr4 ⊢
                            rw [evictV]
                            dsimp only at hr4
                            refine .q (LD.move rfl) rfl rfl ?_
                            refine .q (LD.ex rfl rfl) rfl rfl ?_
                            refine .q (LD.ex rfl rfl) rfl rfl ?_
                            refine .q (LD.ex rfl rfl) rfl rfl ?_
                            refine TL.nb NB.alloc (Wants.un rfl) rfl (fun b34 => ?_)
                            refine .e (EF.stA (i := 0) rfl rfl rfl rfl rfl rfl (by repeat constructor)) rfl rfl ?_
                            refine .q (LD.assign rfl) rfl rfl ?_
                            refine .q (LD.assign rfl) rfl rfl ?_
                            refine TL.nilS ?_
                            refine TC.seq ?_
                            refine TC.region ?_
                            refine .q (LD.fieldAddr rfl) rfl rfl ?_
                            refine .e (EF.st1 (i := 2) rfl rfl rfl rfl rfl (by repeat constructor)) rfl rfl ?_
                            refine TL.nilS ?_
                            refine TC.seq ?_
                            skip
                            have hok5 := hok4.nx (hok4.inv.takeN hok4.got (⟨4, L, L % c.homes, core, who, 0, 0, Words.zero⟩ : Msg)) (by have h9 : ((l.length : Nat) : Int) ≤ 60 := (by omega); omega)
                            obtain ⟨k4, mmk4, bbk4, eek4, htk4⟩ : ∃ q2 q3 q4 q5, (k3).take (⟨4, L, L % c.homes, core, who, 0, 0, Words.zero⟩ : Msg) = (q2, q3, q4, q5) := ⟨_, _, _, _, rfl⟩
                            rw [htk4] at hH3 hok5
                            dsimp only at hH3 hok5
                            subst hH3
                            refine TC.region ?_
                            refine .q (LD.move rfl) rfl rfl ?_
                            refine .q (LD.ldA rfl m2 (by repeat constructor) rfl) rfl rfl ?_
                            refine TL.cw (CL.func rfl) (w_TakeF hok4 hr4 (⟨4, L, L % c.homes, core, who, 0, 0, Words.zero⟩ : Msg) hLr) (i := 6) rfl (Wants.un rfl) rfl ?_
                            rintro _ r5 ⟨rfl, hr5⟩
                            rw [htk4] at hr5 ⊢
                            rw [evictV]
                            dsimp only at hr5
                            refine .q (LD.move rfl) rfl rfl ?_
                            refine .q (LD.ex rfl rfl) rfl rfl ?_
                            refine .q (LD.ex rfl rfl) rfl rfl ?_
                            refine .q (LD.ex rfl rfl) rfl rfl ?_
                            refine TL.nb NB.alloc (Wants.un rfl) rfl (fun b37 => ?_)
                            refine .e (EF.stA (i := 0) rfl rfl rfl rfl rfl rfl (by repeat constructor)) rfl rfl ?_
                            refine .q (LD.assign rfl) rfl rfl ?_
                            refine .q (LD.assign rfl) rfl rfl ?_
                            refine TL.nilS ?_
                            refine TC.seq ?_
                            refine TC.region ?_
                            refine .q (LD.move rfl) rfl rfl ?_
                            refine .q (LD.move rfl) rfl rfl ?_
                            refine .y (LD.move rfl) rfl rfl rfl rfl rfl ?_
                            refine .y (LD.eql rfl rfl) rfl rfl rfl rfl rfl ?_
                            refine .q (LD.pickT rfl rfl rfl) rfl rfl ?_
                            refine .q (LD.move rfl) rfl rfl ?_
                            refine .y (LD.move rfl) rfl rfl rfl rfl rfl ?_
                            refine .q (LD.pickT rfl rfl rfl) rfl rfl ?_
                            refine .q (LD.move rfl) rfl rfl ?_
                            refine .y (LD.move rfl) rfl rfl rfl rfl rfl ?_
                            refine .y (LD.eql rfl rfl) rfl rfl rfl rfl rfl ?_
                            refine .q (LD.pickT rfl rfl rfl) rfl rfl ?_
                            refine .q (LD.move rfl) rfl rfl ?_
                            refine .y (LD.fieldAddr rfl) rfl rfl rfl rfl rfl ?_
                            refine .y (LD.ldA rfl m2 (by repeat constructor) rfl) rfl rfl rfl rfl rfl ?_
                            refine .y (LD.ldA rfl m4 (by repeat constructor) rfl) rfl rfl rfl rfl rfl ?_
                            refine .y (LD.eqST rfl rfl Tryz.eqGuardType36 rfl (by repeat first | exact rfl | refine ⟨_, _, rfl, ⟨_, rfl⟩, ?_⟩) rfl) rfl rfl rfl rfl rfl ?_
                            refine .q (LD.pickT rfl rfl rfl) rfl rfl ?_
                            refine .q (LD.move rfl) rfl rfl ?_
                            refine .y (LD.fieldAddr rfl) rfl rfl rfl rfl rfl ?_
                            refine .y (LD.ldA rfl m1 (by repeat constructor) rfl) rfl rfl rfl rfl rfl ?_
                            refine .y (LD.ldA rfl m4 (by repeat constructor) rfl) rfl rfl rfl rfl rfl ?_
                            refine .y (LD.eqST rfl rfl Tryz.eqGuardType36 rfl (by repeat first | exact rfl | refine ⟨_, _, rfl, ⟨_, rfl⟩, ?_⟩) rfl) rfl rfl rfl rfl rfl ?_
                            refine .q (LD.pickT rfl rfl rfl) rfl rfl ?_
                            refine .q (LD.move rfl) rfl rfl ?_
                            refine .y (LD.fieldAddr rfl) rfl rfl rfl rfl rfl ?_
                            refine .y (LD.ld1 rfl m2 rfl) rfl rfl rfl rfl rfl ?_
                            refine .y (LD.eql rfl rfl) rfl rfl rfl rfl rfl ?_
                            refine .q (LD.pickT rfl rfl rfl) rfl rfl ?_
                            refine .q (LD.move rfl) rfl rfl ?_
                            refine .y (LD.fieldAddr rfl) rfl rfl rfl rfl rfl ?_
                            refine .y (LD.ld1 rfl m1 rfl) rfl rfl rfl rfl rfl ?_
                            refine .y (LD.eql rfl rfl) rfl rfl rfl rfl rfl ?_
                            refine .q (LD.pickT rfl rfl rfl) rfl rfl ?_
                            refine .q (LD.move rfl) rfl rfl ?_
                            refine .y (LD.fieldAddr rfl) rfl rfl rfl rfl rfl ?_
                            refine .y (LD.ld1 rfl m2 rfl) rfl rfl rfl rfl rfl ?_
                            refine .y (LD.move rfl) rfl rfl rfl rfl rfl ?_
                            refine .y (LD.eqT rfl rfl rfl) rfl rfl rfl rfl rfl ?_
                            refine .q (LD.pickT rfl rfl rfl) rfl rfl ?_
                            refine .q (LD.move rfl) rfl rfl ?_
                            refine .y (LD.fieldAddr rfl) rfl rfl rfl rfl rfl ?_
                            refine .y (LD.ld1 rfl m1 rfl) rfl rfl rfl rfl rfl ?_
                            refine .y (LD.move rfl) rfl rfl rfl rfl rfl ?_
                            refine .y (LD.eqT rfl rfl rfl) rfl rfl rfl rfl rfl ?_
                            refine .q (LD.pickT rfl rfl rfl) rfl rfl ?_
                            refine .q (LD.move rfl) rfl rfl ?_
                            refine .y (LD.move rfl) rfl rfl rfl rfl rfl ?_
                            refine .y (LD.eql rfl rfl) rfl rfl rfl rfl rfl ?_
                            refine .q (LD.pickT rfl rfl rfl) rfl rfl ?_
                            refine .q (LD.assign rfl) rfl rfl ?_
                            refine TL.nilS ?_
                            refine TC.ret ?_
                            repeat first | refine Post.sr ?_ | refine Post.br ?_
                            exact Out.intro (X := [_, _, _, _, _, _, _, _, _, _]) (L' := [_]) (Res.t rfl Res.z) ⟨rfl, rfl⟩ (.refl _)
                      · have h23 := g23
                        try simp at h23
                        refine .s g23 rfl rfl rfl rfl ?_
                        refine .s g23 rfl rfl rfl rfl ?_
                        refine .q (LD.pickT rfl g23 rfl) rfl rfl ?_
                        refine TL.nilS ?_
                        refine TC.condT rfl rfl ?_
                        refine TC.seq ?_
                        refine TC.region ?_
                        refine .q (LD.assign rfl) rfl rfl ?_
                        refine TL.nilS ?_
                        refine TC.ret ?_
                        repeat first | refine Post.sr ?_ | refine Post.br ?_
                        exact Out.intro (X := [_, _, _, _, _, _]) (L' := [_]) (Res.t rfl Res.z) ⟨rfl, rfl⟩ (.refl _)
                    · have h22 := g22
                      try simp at h22
                      refine .s g22 rfl rfl rfl rfl ?_
                      refine .s g22 rfl rfl rfl rfl ?_
                      refine .s g22 rfl rfl rfl rfl ?_
                      refine .q (LD.pickT rfl g22 rfl) rfl rfl ?_
                      refine .q (LD.move rfl) rfl rfl ?_
                      refine .s rfl rfl rfl rfl rfl ?_
                      refine .s rfl rfl rfl rfl rfl ?_
                      refine .s rfl rfl rfl rfl rfl ?_
                      refine .q (LD.pickT rfl rfl rfl) rfl rfl ?_
                      refine TL.nilS ?_
                      refine TC.condT rfl rfl ?_
                      refine TC.seq ?_
                      refine TC.region ?_
                      refine .q (LD.assign rfl) rfl rfl ?_
                      refine TL.nilS ?_
                      refine TC.ret ?_
                      repeat first | refine Post.sr ?_ | refine Post.br ?_
                      exact Out.intro (X := [_, _, _, _, _, _]) (L' := [_]) (Res.t rfl Res.z) ⟨rfl, rfl⟩ (.refl _)
                  · have h21 := g21
                    try simp at h21
                    refine .s g21 rfl rfl rfl rfl ?_
                    refine .q (LD.pickT rfl g21 rfl) rfl rfl ?_
                    refine .q (LD.move rfl) rfl rfl ?_
                    refine .s rfl rfl rfl rfl rfl ?_
                    refine .s rfl rfl rfl rfl rfl ?_
                    refine .s rfl rfl rfl rfl rfl ?_
                    refine .s rfl rfl rfl rfl rfl ?_
                    refine .q (LD.pickT rfl rfl rfl) rfl rfl ?_
                    refine .q (LD.move rfl) rfl rfl ?_
                    refine .s rfl rfl rfl rfl rfl ?_
                    refine .s rfl rfl rfl rfl rfl ?_
                    refine .s rfl rfl rfl rfl rfl ?_
                    refine .q (LD.pickT rfl rfl rfl) rfl rfl ?_
                    refine TL.nilS ?_
                    refine TC.condT rfl rfl ?_
                    refine TC.seq ?_
                    refine TC.region ?_
                    refine .q (LD.assign rfl) rfl rfl ?_
                    refine TL.nilS ?_
                    refine TC.ret ?_
                    repeat first | refine Post.sr ?_ | refine Post.br ?_
                    exact Out.intro (X := [_, _, _, _, _, _]) (L' := [_]) (Res.t rfl Res.z) ⟨rfl, rfl⟩ (.refl _)
          · have h4 := g4
            try simp at h4
            refine .s g4 rfl rfl rfl rfl ?_
            refine .q (LD.pickT rfl g4 rfl) rfl rfl ?_
            refine TL.nilS ?_
            refine TC.condT rfl rfl ?_
            refine TC.seq ?_
            have hn0 : nn = 0 := by
              by_cases hf : ff = 0
              · have hin := hD2 hf
                rcases hA with ⟨h8, _⟩ | ⟨_, h8⟩
                · simp_all
                · rw [hin] at h8; cases h8
              · exact (hD1 hf).2
            refine TC.region ?_
            refine .q (LD.move rfl) rfl rfl ?_
            refine .q (LD.eqT rfl rfl hn0) rfl rfl ?_
            refine .q (LD.assign rfl) rfl rfl ?_
            refine TL.nilS ?_
            refine TC.ret ?_
            repeat first | refine Post.sr ?_ | refine Post.br ?_
            exact Out.intro (X := [_, _, _, _]) (L' := [_]) (Res.t rfl Res.z) ⟨rfl, rfl⟩ (.refl _)
      · skip
        refine .q (LD.move rfl) rfl rfl ?_
        refine .q (LD.ex rfl rfl) rfl rfl ?_
        refine .q (LD.ex rfl rfl) rfl rfl ?_
        refine .q (LD.assign rfl) rfl rfl ?_
        refine .q (LD.assign rfl) rfl rfl ?_
        refine TL.nilS ?_
        refine TC.seq ?_
        refine TC.seq ?_
        refine TC.region ?_
        refine .q (LD.move rfl) rfl rfl ?_
        refine .q (LD.ptrEql rfl rfl Tryz.underlying28 (by first | exact .inr rfl | exact .inl rfl)) rfl rfl ?_
        refine TL.nilS ?_
        refine TC.condT rfl rfl ?_
        refine TC.seq ?_
        refine TC.region ?_
        refine .q (LD.assign rfl) rfl rfl ?_
        refine TL.nilS ?_
        refine TC.ret ?_
        repeat first | refine Post.sr ?_ | refine Post.br ?_
        exact Out.intro (X := [_, _, _]) (L' := [_]) (Res.t rfl Res.z) ⟨by simp_all [pack], rfl⟩ (.refl _)
  · have h1 := g1
    try simp at h1
    refine .s g1 rfl rfl rfl rfl ?_
    refine .q (LD.pickT rfl g1 rfl) rfl rfl ?_
    refine TL.nilS ?_
    refine TC.condT rfl rfl ?_
    refine TC.seq ?_
    refine TC.region ?_
    refine .q (LD.assign rfl) rfl rfl ?_
    refine TL.nilS ?_
    refine TC.ret ?_
    repeat first | refine Post.sr ?_ | refine Post.br ?_
    exact Out.intro (X := [_, _]) (L' := [_]) (Res.t rfl Res.z) ⟨by simp_all [pack], rfl⟩ (.refl _)
end Go.SL.TryzI
