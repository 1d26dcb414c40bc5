/- A part of proofs about the given program. No condition. -/
import Derived.Test.YtcgfdjijodlopaaGreatWlets
import Derived.Test.YtcgfdjijodlopaaGreatCac7
import Derived.Test.YtcgfdjijodlopaaGreatSL16
set_option linter.all false
namespace Go.SL.TryzI
open Go Go.Proofs Go.SL
set_option maxRecDepth 100000


open Mes in
theorem jn_of {c : Cfg} {l : Int} (hok : c.ok = true) (hl : 0 ≤ l ∧ l < c.lines) : jn c l = true := by
  obtain ⟨f1, _, _, f4, f5⟩ := first_word hok hl
  have f1' := inR_iff.1 f1
  have hw := ok_words hok
  have hs : c.lines ≤ c.size := by
    unfold Cfg.size; rw [if_pos hok]
    have := ok_lines hok
    have h9 : 1 * c.lines ≤ c.words * c.lines := Int.mul_le_mul_of_nonneg_right (by omega) (by omega)
    omega
  simp only [jn, Bool.and_eq_true, decide_eq_true_eq, Int.add_zero]
  exact ⟨⟨⟨hok, inR_iff.2 (by omega)⟩, inR_iff.2 (by omega)⟩, f1'.2⟩
open Mes in
theorem lookV_of {k : Cache} {c : Cfg} (hc : k.c = c) {l s : Int} {w : Words} (h1 : (k.find l).isSome = true) (h2 : (k.look l).state = s) (h3 : (k.look l).locked = true) (h4 : (k.look l).words = w) : lookV k.c k.a l = .tuple [.agg (encWay ⟨s, (k.look l).line, w, true⟩).toArray, .bool true].toArray := by
  have e : lookWay k.c k.a l = ⟨s, (k.look l).line, w, true⟩ := by
    show k.look l = _
    cases hq : k.look l with
    | mk a b d f => rw [hq] at h2 h3 h4; simp only at h2 h3 h4; subst h2 h3 h4; rfl
  have h1' : (findWay k.c k.a l).isSome = true := h1
  rw [lookV, e, h1']
open Mes in
theorem CacOk.mono {c : Cfg} {n m : Int} {k : Cache} (h : CacOk c n k) (hn : n ≤ m) (hm : m ≤ 1000000) : CacOk c m k := ⟨h.inv, h.cfgR, h.ok, h.got.mono hn, hm⟩
def frs (core j : Int) : Int := if j ≤ core then j else j + 1
def snt (ahead j : Int) : Int := if j ≤ ahead then j else j - 1

set_option maxHeartbeats 2000000 in
open Mes in
theorem w_CacheFills (c : Cfg) (hc : CfgR c) (core : Int) (l : List Mes.Step) (hl : ∀ s ∈ l, StepR s) (q : Option Addr) (cap : Nat) (h0 : Frag) (hrd : Rd h0 q 21 (l.map encStep)) (line w0 w1 ahead : Int) (hline : R64 line) : FnR Tryz.prog 6 [.agg (encC c), i core, .slice q l.length cap, i line, .agg #[i w0, i w1], i ahead] h0 (fun v => v = .bool true) := by
  refine Fn.body Tryz.func6 rfl rfl rfl (Nat.le_of_ble_eq_true rfl) fun F => ?_
  refine TC.seq ?_
  refine TC.region ?_
  refine TL.nb (NB.boxA rfl) (Wants.un rfl) rfl (fun b6 => ?_)
  refine TL.nb (NB.boxA rfl) (Wants.un rfl) rfl (fun b10 => ?_)
  refine .q (LD.assign rfl) rfl rfl ?_
  refine TL.nilS ?_
  refine TC.seq ?_
  refine TC.seq ?_
  refine TC.region ?_
  refine TL.cp (CL.func rfl) w_awake14 (Wants.un rfl) rfl ?_
  rintro _ rfl
  refine .q (LD.not rfl) rfl rfl ?_
  refine TL.nilS ?_
  refine TC.condF rfl rfl ?_
  refine TC.skipS ?_
  refine TC.seq ?_
  refine TC.seq ?_
  refine TC.region ?_
  refine .q (LD.move rfl) rfl rfl ?_
  refine .q (LD.lenS rfl rfl Tryz.underlying25) rfl rfl ?_
  refine .q (LD.gtr rfl rfl) rfl rfl ?_
  refine .q (LD.move rfl) rfl rfl ?_
  refine TL.split rfl rfl rfl rfl (fun g1 => ?_) (fun g1 => ?_)
  · have h1 := g1
    try simp at h1
    refine .y (LD.ldA rfl m1 (by repeat constructor) rfl) g1 rfl rfl rfl rfl ?_
    refine TL.cp (CL.func rfl) (w_large14 c) (Wants.yes rfl rfl rfl g1) rfl ?_
    rintro _ rfl
    refine .q (LD.pickF rfl g1 rfl) rfl rfl ?_
    refine TL.nilS ?_
    refine TC.cond rfl (fun g2 => ?_) (fun g2 => ?_)
    · have h2 := g2
      try simp at h2
      refine TC.seq ?_
      refine TC.region ?_
      refine .q (LD.assign rfl) rfl rfl ?_
      refine TL.nilS ?_
      refine TC.ret ?_
      repeat first | refine Post.sr ?_ | refine Post.br ?_
      exact Out.intro (X := [_, _]) (L' := [_]) (Res.t rfl Res.z) ⟨by simp_all [pack], rfl⟩ (.refl _)
    · have h2 := g2
      try simp at h2
      refine TC.skipS ?_
      refine TC.seq ?_
      refine TC.region ?_
      refine .q (LD.ldA rfl m1 (by repeat constructor) rfl) rfl rfl ?_
      refine .q (LD.move rfl) rfl rfl ?_
      refine TL.cn (CL.func rfl) (w_CacNew c hc core) (Wants.un rfl) rfl ?_
      intro v0 r0 hcn
      rcases hcn with ⟨hok, hcore, p, rfl, hr0⟩ | ⟨hno, rfl, rfl⟩
      · skip
        refine .q (LD.move rfl) rfl rfl ?_
        refine .q (LD.ex rfl rfl) rfl rfl ?_
        refine .q (LD.ex rfl rfl) rfl rfl ?_
        refine .q (LD.assign rfl) rfl rfl ?_
        refine .q (LD.assign rfl) rfl rfl ?_
        refine TL.nilS ?_
        refine TC.seq ?_
        refine TC.seq ?_
        refine TC.region ?_
        refine .q (LD.move rfl) rfl rfl ?_
        refine .q (LD.ptrEql rfl rfl Tryz.underlying28 (by first | exact .inr rfl | exact .inl rfl)) rfl rfl ?_
        refine TL.nilS ?_
        refine TC.condF rfl rfl ?_
        refine TC.skipS ?_
        refine TC.seq ?_
        refine TC.seq ?_
        refine TC.region ?_
        refine .q (LD.move rfl) rfl rfl ?_
        refine .q (LD.lenS rfl rfl Tryz.underlying25) rfl rfl ?_
        refine .q (LD.move rfl) rfl rfl ?_
        refine TL.nilS ?_
        refine TC.block ?_
        refine TC.loopd (α := Nat × Frag) (fun k => [(1, i core), (3, i line), (5, i ahead), (6, .pointer (some ⟨b6, 0, none⟩)), (10, .pointer (some ⟨b10, 0, none⟩)), (13, .pointer (some ⟨p, 0, none⟩)), (52, .slice q l.length cap), (53, i (l.length : Int)), (54, i (k.1 : Int))]) (fun k => k.2 :: blk b10 87 #[i w0, i w1] :: blk b6 24 (encC c) :: h0 :: F) (fun k => k.1 ≤ l.length ∧ IsCac (runC (Cache.new c core) (l.take k.1)) p k.2) (fun k => l.length - k.1) (0, r0) ⟨Nat.zero_le _, hr0⟩ ⟨rfl, rfl, rfl, rfl, rfl, rfl, rfl, rfl, rfl, trivial⟩ ⟨[], .refl _⟩ (fun k hk => ?_)
        refine TC.seq ?_
        refine TC.region ?_
        refine .q (LD.lss rfl rfl) rfl rfl ?_
        refine TL.nilS ?_
        refine TC.seq ?_
        refine TC.cond rfl (fun g3 => ?_) (fun g3 => ?_)
        · have h3 := g3
          try simp at h3
          refine TC.skipS ?_
          refine TC.seq ?_
          refine TC.block ?_
          refine TC.seq ?_
          have hkl : k.1 < l.length := by omega
          obtain ⟨s, hs0⟩ : ∃ s, l[k.1]? = some s := ⟨_, List.getElem?_eq_getElem hkl⟩
          have hsm := List.mem_of_getElem? hs0
          have he : (l.map encStep)[k.1]? = some (encStep s) := by rw [List.getElem?_map, hs0]; rfl
          have hne : l.map encStep ≠ [] := by intro h0; rw [h0] at he; simp at he
          obtain ⟨ba, o, cs, T, fr, hq2, hb, hcs⟩ := hrd.got hne
          have hok9 := okRun hok hc core (l.take k.1) (by rw [List.length_take]; omega)
          refine TC.region ?_
          refine .q (LD.indexAddr rfl rfl hq2 (by omega)) rfl rfl ?_
          refine .q (LD.elA (j := k.1) rfl m3 hb hcs hrd.len he) rfl rfl ?_
          refine TL.nb NB.alloc (Wants.un rfl) rfl (fun b16 => ?_)
          refine .e (EF.stA (i := 0) rfl rfl rfl rfl rfl rfl (by repeat constructor)) rfl rfl ?_
          refine TL.nilS ?_
          refine TC.region ?_
          refine .q (LD.move rfl) rfl rfl ?_
          refine .q (LD.ldA rfl m0 (by repeat constructor) rfl) rfl rfl ?_
          refine TL.cw (CL.func rfl) (w_do14 hok9 hk.2 s (hl s hsm)) (i := 1) rfl (Wants.un rfl) rfl ?_
          rintro _ r2 ⟨rfl, hr2⟩
          refine TL.nil ?_
          refine TC.region ?_
          refine .q (LD.add rfl rfl (by omega)) rfl rfl ?_
          refine .q (LD.move rfl) rfl rfl ?_
          refine TL.nil ?_
          exact ⟨(k.1 + 1, r2), ⟨by omega, by rw [runTake hs0]; exact hr2⟩, by omega, ⟨rfl, rfl, rfl, rfl, rfl, rfl, rfl, rfl, rfl, trivial⟩, [_], .refl _⟩
        · have h3 := g3
          try simp at h3
          refine TC.exit ?_
          refine TC.seq ?_
          have hlk : k.1 = l.length := by omega
          have hr1 := hk.2
          rw [hlk, List.take_length] at hr1
          have hok9 := okRun hok hc core l (by omega)
          have hcr := coreRun hok core l
          obtain ⟨kk, hkk⟩ : ∃ kk, kk = runC (Cache.new c core) l := ⟨_, rfl⟩
          rw [← hkk] at hr1 hok9 hcr
          have hcs := (okS hok).cores
          have hA1 := (hok9.inv.ask line 2).1
          have hA2 := (hok9.inv.ask line 2).2
          have hA3 : (kk.ask line 2).2.2 = 0 → 0 ≤ ahead → Fil c kk.core line (c.cores - 1) ahead (Words.one w0) 0 (kk.ask line 2).1 := fun he ha => Fil.zero hok9.inv he ha (by omega)
          have hok1 := hok9.nx (hok9.inv.askN (by omega) hok9.got line 2) (by have h9 : ((l.length : Nat) : Int) ≤ 60 := (by omega); omega)
          obtain ⟨k1, mm, ee, ha⟩ : ∃ k1 mm ee, kk.ask line 2 = (k1, mm, ee) := ⟨_, _, _, rfl⟩
          rw [ha] at hA1 hA2 hA3 hok1
          dsimp only at hA1 hA2 hA3 hok1
          refine TC.region ?_
          refine .q (LD.move rfl) rfl rfl ?_
          refine .q (LD.move rfl) rfl rfl ?_
          refine TL.cw (CL.func rfl) (w_AskF hok9 hr1 line 2 hline) (i := 0) rfl (Wants.un rfl) rfl ?_
          rintro _ r2 ⟨rfl, hr2⟩
          rw [ha] at hr2 ⊢
          rw [askV]
          dsimp only at hr2
          refine .q (LD.move rfl) rfl rfl ?_
          refine .q (LD.ex rfl rfl) rfl rfl ?_
          refine .q (LD.ex rfl rfl) rfl rfl ?_
          refine TL.nb NB.alloc (Wants.un rfl) rfl (fun b17 => ?_)
          refine .e (EF.stA (i := 0) rfl rfl rfl rfl rfl rfl (by repeat constructor)) rfl rfl ?_
          refine .q (LD.assign rfl) rfl rfl ?_
          refine TL.nilS ?_
          refine TC.seq ?_
          refine TC.seq ?_
          refine TC.region ?_
          refine .q (LD.move rfl) rfl rfl ?_
          refine .q (LD.neq rfl rfl) rfl rfl ?_
          refine TL.nilS ?_
          refine TC.cond rfl (fun g4 => ?_) (fun g4 => ?_)
          · have h4 := g4
            try simp at h4
            refine TC.seq ?_
            obtain ⟨_, rfl⟩ := hA1 (by assumption)
            refine TC.region ?_
            refine .q (LD.ldA rfl m0 (by repeat constructor) rfl) rfl rfl ?_
            refine .q (LD.bS rfl rfl (by repeat constructor)) rfl rfl ?_
            refine .q (LD.eqS rfl rfl Tryz.eqGuardType38 rfl (by repeat first | exact rfl | refine ⟨_, _, rfl, ⟨_, rfl⟩, ?_⟩) (by repeat first | exact rfl | refine ⟨_, _, rfl, ⟨_, rfl⟩, ?_⟩)) rfl rfl ?_
            refine .q (LD.assign rfl) rfl rfl ?_
            refine TL.nilS ?_
            refine TC.ret ?_
            repeat first | refine Post.sr ?_ | refine Post.br ?_
            exact Out.intro (X := [_, _, _, _]) (L' := [_]) (Res.t rfl Res.z) ⟨rfl, rfl⟩ (.refl _)
          · have h4 := g4
            try simp at h4
            refine TC.skipS ?_
            refine TC.seq ?_
            have he0 : ee = 0 := by simp_all
            subst he0
            obtain ⟨a1, _, hl01, _⟩ := hA2 rfl
            have hln := ok_lines hok
            refine TC.region ?_
            refine .q (LD.fieldAddr rfl) rfl rfl ?_
            refine .q (LD.ld1 rfl m3 rfl) rfl rfl ?_
            refine .q (LD.sub rfl rfl (by omega)) rfl rfl ?_
            refine .q (LD.assign rfl) rfl rfl ?_
            refine TL.nilS ?_
            refine TC.seq ?_
            refine TC.seq ?_
            refine TC.region ?_
            refine .q (LD.move rfl) rfl rfl ?_
            refine .q (LD.lss rfl rfl) rfl rfl ?_
            refine .q (LD.move rfl) rfl rfl ?_
            refine TL.split rfl rfl rfl rfl (fun g5 => ?_) (fun g5 => ?_)
            · have h5 := g5
              try simp at h5
              refine .y (LD.move rfl) g5 rfl rfl rfl rfl ?_
              refine .y (LD.move rfl) g5 rfl rfl rfl rfl ?_
              refine .y (LD.gtr rfl rfl) g5 rfl rfl rfl rfl ?_
              refine .q (LD.pickF rfl g5 rfl) rfl rfl ?_
              refine .q (LD.move rfl) rfl rfl ?_
              refine TL.split rfl rfl rfl rfl (fun g6 => ?_) (fun g6 => ?_)
              · have h6 := g6
                try simp at h6
                refine .y (LD.indexAddrA rfl rfl (by omega)) g6 rfl rfl rfl rfl ?_
                refine .y (LD.ld1 rfl m2 rfl) g6 rfl rfl rfl rfl ?_
                refine .y (LD.indexAddrA rfl rfl (by omega)) g6 rfl rfl rfl rfl ?_
                refine .y (LD.ld1 rfl m2 rfl) g6 rfl rfl rfl rfl ?_
                refine .y (LD.conv rfl Tryz.underlying3 Tryz.underlying21) g6 rfl rfl rfl rfl ?_
                refine .y (LD.conv rfl Tryz.underlying21 Tryz.underlying3) g6 rfl rfl rfl rfl ?_
                refine .y (LD.neq rfl rfl) g6 rfl rfl rfl rfl ?_
                refine .q (LD.pickF rfl g6 rfl) rfl rfl ?_
                refine TL.nilS ?_
                refine TC.cond rfl (fun g7 => ?_) (fun g7 => ?_)
                · have h7 := g7
                  try simp at h7
                  refine TC.seq ?_
                  refine TC.region ?_
                  refine .q (LD.assign rfl) rfl rfl ?_
                  refine TL.nilS ?_
                  refine TC.ret ?_
                  repeat first | refine Post.sr ?_ | refine Post.br ?_
                  exact Out.intro (X := [_, _, _, _]) (L' := [_]) (Res.t rfl Res.z) ⟨by simp_all [pack], rfl⟩ (.refl _)
                · have h7 := g7
                  try simp at h7
                  refine TC.skipS ?_
                  refine TC.seq ?_
                  have hw0 : -2147483648 ≤ w0 ∧ w0 ≤ 2147483647 := by
                    have h9 : w0 = IntKind.wrap .i64 (IntKind.wrap .i32 w0) := by assumption
                    exact wrap32_id.1 h9.symm
                  have hjn := jn_of hok hl01
                  obtain ⟨f1, f2, f3, f4, f5⟩ := first_word hok hl01
                  have hxr : R64 (line * c.words) := ⟨by omega, by omega⟩
                  have hhom : 0 < c.homes := by have := ok_homes hok; omega
                  have hF0 := hA3 rfl (by omega)
                  rw [hcr] at hF0
                  have hfr0 : (0 : Int) = frs core (snt ahead ((0 : Nat) : Int)) := by have := inR_iff.1 hcore; simp only [frs, snt]; (repeat' split) <;> omega
                  refine TC.region ?_
                  refine .q (LD.ldA rfl m3 (by repeat constructor) rfl) rfl rfl ?_
                  refine .q (LD.move rfl) rfl rfl ?_
                  refine TL.cp (CL.func rfl) (w_Join c hc line 0) (Wants.un rfl) rfl ?_
                  rintro _ rfl
                  rw [joinV]
                  rw [hjn]
                  simp only [cond_true]
                  refine .q (LD.move rfl) rfl rfl ?_
                  refine .q (LD.ex rfl rfl) rfl rfl ?_
                  refine .q (LD.ex rfl rfl) rfl rfl ?_
                  refine .q (LD.assign rfl) rfl rfl ?_
                  refine .q (LD.assign rfl) rfl rfl ?_
                  refine TL.nilS ?_
                  refine TC.seq ?_
                  refine TC.region ?_
                  refine .q (LD.move rfl) rfl rfl ?_
                  refine .q (LD.bS rfl rfl (by repeat constructor)) rfl rfl ?_
                  refine TL.nb NB.alloc (Wants.un rfl) rfl (fun b22 => ?_)
                  refine .e (EF.stA (i := 0) rfl rfl rfl rfl rfl rfl (by repeat constructor)) rfl rfl ?_
                  refine TL.nilS ?_
                  refine TC.seq ?_
                  refine TC.region ?_
                  refine .q (LD.assign rfl) rfl rfl ?_
                  refine TL.nilS ?_
                  refine TC.seq ?_
                  refine TC.seq ?_
                  refine TC.region ?_
                  refine .q (LD.assign rfl) rfl rfl ?_
                  refine TL.nilS ?_
                  refine TC.block ?_
                  refine TC.loopd (α := Nat × Int × Frag × Mes.Cache) (fun u => [(1, i core), (3, i line), (5, i ahead), (6, .pointer (some ⟨b6, 0, none⟩)), (10, .pointer (some ⟨b10, 0, none⟩)), (13, .pointer (some ⟨p, 0, none⟩)), (19, i (c.cores - 1)), (22, .pointer (some ⟨b22, 0, none⟩)), (23, i u.2.1), (24, i (u.1 : Int))]) (fun u => blk b22 43 (encO (⟨3, line * c.words, 3⟩ : Mes.Op)).toArray :: blk b17 38 (encMsg mm).toArray :: u.2.2.1 :: blk b10 87 #[i w0, i w1] :: blk b6 24 (encC c) :: h0 :: F) (fun u => (u.1 : Int) ≤ c.cores ∧ Mes.Fil c core line (c.cores - 1) ahead (Mes.Words.one w0) u.1 u.2.2.2 ∧ CacOk c (l.length + 1 + u.1) u.2.2.2 ∧ u.2.1 = frs core (snt ahead u.1) ∧ IsCac u.2.2.2 p u.2.2.1) (fun u => c.cores.toNat - u.1) (0, 0, r2, k1) ⟨by show ((0 : Nat) : Int) ≤ _; omega, hF0, hok1.mono (by omega) (by have h9 : ((l.length : Nat) : Int) ≤ 60 := (by omega); show ((l.length : Nat) : Int) + 1 + ((0 : Nat) : Int) ≤ _; omega), hfr0, hr2⟩ ⟨rfl, rfl, rfl, rfl, rfl, rfl, rfl, rfl, rfl, rfl, trivial⟩ ⟨[], .refl _⟩ (fun u hu => ?_)
                  refine TC.seq ?_
                  refine TC.seq ?_
                  refine TC.region ?_
                  refine .q (LD.move rfl) rfl rfl ?_
                  refine .q (LD.move rfl) rfl rfl ?_
                  refine .q (LD.leq rfl rfl) rfl rfl ?_
                  refine TL.nilS ?_
                  refine TC.cond rfl (fun g8 => ?_) (fun g8 => ?_)
                  · have h8 := g8
                    try simp at h8
                    refine TC.skipS ?_
                    refine TC.seq ?_
                    refine TC.block ?_
                    refine TC.seq ?_
                    refine TC.seq ?_
                    obtain ⟨hui, hF, hok2, hfr, hru⟩ := hu
                    have hnoD := hF.no hok hl01 (by omega)
                    refine TC.region ?_
                    refine .q (LD.move rfl) rfl rfl ?_
                    refine .q (LD.ldA rfl m0 (by repeat constructor) rfl) rfl rfl ?_
                    refine TL.cw (CL.func rfl) (w_DoF hok2 hru (⟨3, line * c.words, 3⟩ : Mes.Op) hxr) (i := 2) rfl (Wants.un rfl) rfl ?_
                    rintro _ r2 ⟨rfl, hr2⟩
                    rw [hnoD] at hr2 ⊢
                    rw [doV]
                    dsimp only at hr2
                    refine .q (LD.move rfl) rfl rfl ?_
                    refine .q (LD.ex rfl rfl) rfl rfl ?_
                    refine .q (LD.ex rfl rfl) rfl rfl ?_
                    refine .q (LD.assign rfl) rfl rfl ?_
                    refine .q (LD.assign rfl) rfl rfl ?_
                    refine TL.nilS ?_
                    refine TC.seq ?_
                    refine TC.region ?_
                    refine .q (LD.move rfl) rfl rfl ?_
                    refine .q (LD.neq rfl rfl) rfl rfl ?_
                    refine TL.nilS ?_
                    refine TC.condF rfl rfl ?_
                    refine TC.skipS ?_
                    refine TC.seq ?_
                    refine TC.region ?_
                    refine .q (LD.move rfl) rfl rfl ?_
                    refine .q (LD.move rfl) rfl rfl ?_
                    refine .q (LD.bS rfl rfl (by repeat constructor)) rfl rfl ?_
                    refine TL.nb NB.alloc (Wants.un rfl) rfl (fun b27 => ?_)
                    refine .e (EF.stA (i := 0) rfl rfl rfl rfl rfl rfl (by repeat constructor)) rfl rfl ?_
                    refine TL.nilS ?_
                    refine TC.seq ?_
                    refine TC.seq ?_
                    refine TC.region ?_
                    refine .q (LD.move rfl) rfl rfl ?_
                    refine .q (LD.move rfl) rfl rfl ?_
                    refine .q (LD.eql rfl rfl) rfl rfl ?_
                    refine TL.nilS ?_
                    refine TC.cond rfl (fun g9 => ?_) (fun g9 => ?_)
                    · have h9 := g9
                      try simp at h9
                      refine TC.drawW [0, 0, 0, 1, 0, 0, 0, 0, 1, 0, 0, 2] [0, 1, 2, 3, 4, 5, 6, 7, 8, 9, 10, 11] TryzI.mixed (by decide +kernel) (by decide) ?_
                      refine .q rfl rfl (LD.move rfl) rfl rfl ?_
                      refine .q rfl rfl (LD.move rfl) rfl rfl ?_
                      refine .q rfl rfl (LD.fieldAddr rfl) rfl rfl ?_
                      refine .r rfl rfl (LD.ld1 rfl m5 rfl) rfl rfl ?_
                      refine .q rfl rfl (LD.rem rfl rfl (by omega) (by omega)) rfl rfl ?_
                      refine .q rfl rfl (LD.move rfl) rfl rfl ?_
                      refine .q rfl rfl (LD.move rfl) rfl rfl ?_
                      refine .q rfl rfl (LD.indexAddrA rfl rfl (by omega)) rfl rfl ?_
                      refine .r rfl rfl (LD.ld1 rfl m4 rfl) rfl rfl ?_
                      refine .q rfl rfl (LD.bA rfl rfl (by repeat constructor)) rfl rfl ?_
                      refine .q rfl rfl (LD.bS rfl rfl (by repeat constructor)) rfl rfl ?_
                      refine TD.efF (j := 0) rfl rfl (EF.stA (i := 0) rfl rfl rfl rfl rfl rfl (by repeat constructor)) rfl (Wants.un rfl) rfl ?_
                      refine TD.nilC ?_
                      refine TC.seq ?_
                      obtain ⟨e1, hF2⟩ := hF.data hok hcore hl01 (by omega) (by omega) (by omega) (by omega) (valuesOk_one hok hw0) rfl
                      have hx2 := hok2.nx (hok2.inv.takeN hok2.got (⟨7, line, line % c.homes, core, 0, c.cores - 1, 4, Words.one w0⟩ : Msg)) (by have h9 : ((l.length : Nat) : Int) ≤ 60 := (by omega); omega)
                      obtain ⟨k2, mm2, bb, ee2, ht⟩ : ∃ k2 mm2 bb ee2, u.2.2.2.take (⟨7, line, line % c.homes, core, 0, c.cores - 1, 4, Words.one w0⟩ : Msg) = (k2, mm2, bb, ee2) := ⟨_, _, _, _, rfl⟩
                      rw [ht] at e1 hF2 hx2
                      dsimp only at e1 hF2 hx2
                      injection e1 with e2 e3
                      injection e3 with e4 e5
                      subst e2 e4 e5
                      refine TC.region ?_
                      refine .q (LD.move rfl) rfl rfl ?_
                      refine .q (LD.ldA rfl m0 (by repeat constructor) rfl) rfl rfl ?_
                      refine TL.cw (CL.func rfl) (w_TakeF hok2 hr2 (⟨7, line, line % c.homes, core, 0, c.cores - 1, 4, Words.one w0⟩ : Msg) hline) (i := 3) rfl (Wants.un rfl) rfl ?_
                      rintro _ r3 ⟨rfl, hr3⟩
                      rw [ht] at hr3 ⊢
                      rw [evictV]
                      dsimp only at hr3
                      refine .q (LD.move rfl) rfl rfl ?_
                      refine .q (LD.ex rfl rfl) rfl rfl ?_
                      refine .q (LD.ex rfl rfl) rfl rfl ?_
                      refine .q (LD.ex rfl rfl) rfl rfl ?_
                      refine TL.nb NB.alloc (Wants.un rfl) rfl (fun b28 => ?_)
                      refine .e (EF.stA (i := 0) rfl rfl rfl rfl rfl rfl (by repeat constructor)) rfl rfl ?_
                      refine .q (LD.assign rfl) rfl rfl ?_
                      refine .q (LD.assign rfl) rfl rfl ?_
                      refine TL.nilS ?_
                      refine TC.seq ?_
                      refine TC.region ?_
                      refine .q (LD.move rfl) rfl rfl ?_
                      refine .q (LD.move rfl) rfl rfl ?_
                      refine .y (LD.move rfl) rfl rfl rfl rfl rfl ?_
                      refine .y (LD.neq rfl rfl) rfl rfl rfl rfl rfl ?_
                      refine .q (LD.pickF rfl rfl rfl) rfl rfl ?_
                      refine TL.nilS ?_
                      refine TC.condF rfl rfl ?_
                      refine TC.skip ?_
                      refine TC.region ?_
                      refine .q (LD.move rfl) rfl rfl ?_
                      refine .q (LD.add rfl rfl (by omega)) rfl rfl ?_
                      refine .q (LD.assign rfl) rfl rfl ?_
                      refine TL.nil ?_
                      exact ⟨(u.1 + 1, u.2.1, r3, k2), ⟨by omega, hF2, hx2.mono (by omega) (by have h9 : ((l.length : Nat) : Int) ≤ 60 := (by omega); omega), by show _ = frs core (snt ahead ((u.1 : Int) + 1)); have := inR_iff.1 hcore; simp only [frs, snt] at hfr ⊢; (repeat' split at hfr) <;> (repeat' split) <;> omega, hr3⟩, by omega, ⟨rfl, rfl, rfl, rfl, rfl, rfl, rfl, rfl, rfl, rfl, trivial⟩, [_, _], .refl _⟩
                    · have h9 := g9
                      try simp at h9
                      refine TC.seq ?_
                      refine TC.seq ?_
                      have hfb : 0 ≤ u.2.1 ∧ u.2.1 ≤ 100 := by have := inR_iff.1 hcore; simp only [frs, snt] at hfr; (repeat' split at hfr) <;> omega
                      refine TC.region ?_
                      refine .q (LD.move rfl) rfl rfl ?_
                      refine .q (LD.move rfl) rfl rfl ?_
                      refine .q (LD.eql rfl rfl) rfl rfl ?_
                      refine TL.nilS ?_
                      refine TC.cond rfl (fun g10 => ?_) (fun g10 => ?_)
                      · have h10 := g10
                        try simp at h10
                        refine TC.region ?_
                        refine .q (LD.move rfl) rfl rfl ?_
                        refine .q (LD.add rfl rfl (by omega)) rfl rfl ?_
                        refine .q (LD.assign rfl) rfl rfl ?_
                        refine TL.nilS ?_
                        refine TC.seq ?_
                        refine TC.region ?_
                        refine .q (LD.move rfl) rfl rfl ?_
                        refine .q (LD.fieldAddr rfl) rfl rfl ?_
                        refine .e (EF.st1 (i := 0) rfl rfl rfl rfl rfl (by repeat constructor)) rfl rfl ?_
                        refine TL.nilS ?_
                        refine TC.region ?_
                        refine .q (LD.move rfl) rfl rfl ?_
                        refine .q (LD.add rfl rfl (by omega)) rfl rfl ?_
                        refine .q (LD.assign rfl) rfl rfl ?_
                        refine TL.nilS ?_
                        refine TC.seq ?_
                        obtain ⟨e1, hF2⟩ := hF.ack hok hcore hl01 (by omega) (by omega) (by omega) (by omega) (frm := u.2.1 + 1) (inR_iff.2 (by have := inR_iff.1 hcore; simp only [frs, snt] at hfr; split at hfr <;> split at hfr <;> omega)) (by omega)
                        have hx2 := hok2.nx (hok2.inv.takeN hok2.got (⟨9, line, u.2.1 + 1, core, 0, 0, 0, Words.zero⟩ : Msg)) (by have h9 : ((l.length : Nat) : Int) ≤ 60 := (by omega); omega)
                        obtain ⟨k2, mm2, bb, ee2, ht⟩ : ∃ k2 mm2 bb ee2, u.2.2.2.take (⟨9, line, u.2.1 + 1, core, 0, 0, 0, Words.zero⟩ : Msg) = (k2, mm2, bb, ee2) := ⟨_, _, _, _, rfl⟩
                        rw [ht] at e1 hF2 hx2
                        dsimp only at e1 hF2 hx2
                        injection e1 with e2 e3
                        injection e3 with e4 e5
                        subst e2 e4 e5
                        refine TC.region ?_
                        refine .q (LD.move rfl) rfl rfl ?_
                        refine .q (LD.ldA rfl m0 (by repeat constructor) rfl) rfl rfl ?_
                        refine TL.cw (CL.func rfl) (w_TakeF hok2 hr2 (⟨9, line, u.2.1 + 1, core, 0, 0, 0, Words.zero⟩ : Msg) hline) (i := 3) rfl (Wants.un rfl) rfl ?_
                        rintro _ r3 ⟨rfl, hr3⟩
                        rw [ht] at hr3 ⊢
                        rw [evictV]
                        dsimp only at hr3
                        refine .q (LD.move rfl) rfl rfl ?_
                        refine .q (LD.ex rfl rfl) rfl rfl ?_
                        refine .q (LD.ex rfl rfl) rfl rfl ?_
                        refine .q (LD.ex rfl rfl) rfl rfl ?_
                        refine TL.nb NB.alloc (Wants.un rfl) rfl (fun b28 => ?_)
                        refine .e (EF.stA (i := 0) rfl rfl rfl rfl rfl rfl (by repeat constructor)) rfl rfl ?_
                        refine .q (LD.assign rfl) rfl rfl ?_
                        refine .q (LD.assign rfl) rfl rfl ?_
                        refine TL.nilS ?_
                        refine TC.seq ?_
                        refine TC.region ?_
                        refine .q (LD.move rfl) rfl rfl ?_
                        refine .q (LD.move rfl) rfl rfl ?_
                        refine .y (LD.move rfl) rfl rfl rfl rfl rfl ?_
                        refine .y (LD.neq rfl rfl) rfl rfl rfl rfl rfl ?_
                        refine .q (LD.pickF rfl rfl rfl) rfl rfl ?_
                        refine TL.nilS ?_
                        refine TC.condF rfl rfl ?_
                        refine TC.skip ?_
                        refine TC.region ?_
                        refine .q (LD.move rfl) rfl rfl ?_
                        refine .q (LD.add rfl rfl (by omega)) rfl rfl ?_
                        refine .q (LD.assign rfl) rfl rfl ?_
                        refine TL.nil ?_
                        exact ⟨(u.1 + 1, u.2.1 + 1 + 1, r3, k2), ⟨by omega, hF2, hx2.mono (by omega) (by have h9 : ((l.length : Nat) : Int) ≤ 60 := (by omega); omega), by show _ = frs core (snt ahead ((u.1 : Int) + 1)); have := inR_iff.1 hcore; simp only [frs, snt] at hfr ⊢; (repeat' split at hfr) <;> (repeat' split) <;> omega, hr3⟩, by omega, ⟨rfl, rfl, rfl, rfl, rfl, rfl, rfl, rfl, rfl, rfl, trivial⟩, [_, _], .refl _⟩
                      · have h10 := g10
                        try simp at h10
                        refine TC.skipS ?_
                        refine TC.seq ?_
                        refine TC.region ?_
                        refine .q (LD.move rfl) rfl rfl ?_
                        refine .q (LD.fieldAddr rfl) rfl rfl ?_
                        refine .e (EF.st1 (i := 0) rfl rfl rfl rfl rfl (by repeat constructor)) rfl rfl ?_
                        refine TL.nilS ?_
                        refine TC.region ?_
                        refine .q (LD.move rfl) rfl rfl ?_
                        refine .q (LD.add rfl rfl (by omega)) rfl rfl ?_
                        refine .q (LD.assign rfl) rfl rfl ?_
                        refine TL.nilS ?_
                        refine TC.seq ?_
                        obtain ⟨e1, hF2⟩ := hF.ack hok hcore hl01 (by omega) (by omega) (by omega) (by omega) (frm := u.2.1) (inR_iff.2 (by have := inR_iff.1 hcore; simp only [frs, snt] at hfr; split at hfr <;> split at hfr <;> omega)) (by omega)
                        have hx2 := hok2.nx (hok2.inv.takeN hok2.got (⟨9, line, u.2.1, core, 0, 0, 0, Words.zero⟩ : Msg)) (by have h9 : ((l.length : Nat) : Int) ≤ 60 := (by omega); omega)
                        obtain ⟨k2, mm2, bb, ee2, ht⟩ : ∃ k2 mm2 bb ee2, u.2.2.2.take (⟨9, line, u.2.1, core, 0, 0, 0, Words.zero⟩ : Msg) = (k2, mm2, bb, ee2) := ⟨_, _, _, _, rfl⟩
                        rw [ht] at e1 hF2 hx2
                        dsimp only at e1 hF2 hx2
                        injection e1 with e2 e3
                        injection e3 with e4 e5
                        subst e2 e4 e5
                        refine TC.region ?_
                        refine .q (LD.move rfl) rfl rfl ?_
                        refine .q (LD.ldA rfl m0 (by repeat constructor) rfl) rfl rfl ?_
                        refine TL.cw (CL.func rfl) (w_TakeF hok2 hr2 (⟨9, line, u.2.1, core, 0, 0, 0, Words.zero⟩ : Msg) hline) (i := 3) rfl (Wants.un rfl) rfl ?_
                        rintro _ r3 ⟨rfl, hr3⟩
                        rw [ht] at hr3 ⊢
                        rw [evictV]
                        dsimp only at hr3
                        refine .q (LD.move rfl) rfl rfl ?_
                        refine .q (LD.ex rfl rfl) rfl rfl ?_
                        refine .q (LD.ex rfl rfl) rfl rfl ?_
                        refine .q (LD.ex rfl rfl) rfl rfl ?_
                        refine TL.nb NB.alloc (Wants.un rfl) rfl (fun b28 => ?_)
                        refine .e (EF.stA (i := 0) rfl rfl rfl rfl rfl rfl (by repeat constructor)) rfl rfl ?_
                        refine .q (LD.assign rfl) rfl rfl ?_
                        refine .q (LD.assign rfl) rfl rfl ?_
                        refine TL.nilS ?_
                        refine TC.seq ?_
                        refine TC.region ?_
                        refine .q (LD.move rfl) rfl rfl ?_
                        refine .q (LD.move rfl) rfl rfl ?_
                        refine .y (LD.move rfl) rfl rfl rfl rfl rfl ?_
                        refine .y (LD.neq rfl rfl) rfl rfl rfl rfl rfl ?_
                        refine .q (LD.pickF rfl rfl rfl) rfl rfl ?_
                        refine TL.nilS ?_
                        refine TC.condF rfl rfl ?_
                        refine TC.skip ?_
                        refine TC.region ?_
                        refine .q (LD.move rfl) rfl rfl ?_
                        refine .q (LD.add rfl rfl (by omega)) rfl rfl ?_
                        refine .q (LD.assign rfl) rfl rfl ?_
                        refine TL.nil ?_
                        exact ⟨(u.1 + 1, u.2.1 + 1, r3, k2), ⟨by omega, hF2, hx2.mono (by omega) (by have h9 : ((l.length : Nat) : Int) ≤ 60 := (by omega); omega), by show _ = frs core (snt ahead ((u.1 : Int) + 1)); have := inR_iff.1 hcore; simp only [frs, snt] at hfr ⊢; (repeat' split at hfr) <;> (repeat' split) <;> omega, hr3⟩, by omega, ⟨rfl, rfl, rfl, rfl, rfl, rfl, rfl, rfl, rfl, rfl, trivial⟩, [_, _], .refl _⟩
                  · have h8 := g8
                    try simp at h8
                    refine TC.exit ?_
                    refine TC.seq ?_
                    obtain ⟨hui, hF, hok2, hfr, hru⟩ := hu
                    obtain ⟨d1, d2, d3, d4, d5⟩ := hF.last hok hl01 (by omega)
                    have hx3 := hok2.nx (hok2.inv.doN hok hok2.got (⟨3, line * c.words, 3⟩ : Mes.Op)) (by have h9 : ((l.length : Nat) : Int) ≤ 60 := (by omega); omega)
                    obtain ⟨k3, nn, e3, hd⟩ : ∃ k3 nn e3, u.2.2.2.do (⟨3, line * c.words, 3⟩ : Mes.Op) = (k3, nn, e3) := ⟨_, _, _, rfl⟩
                    rw [hd] at d1 d2 d3 d4 d5 hx3
                    dsimp only at d1 d2 d3 d4 d5 hx3
                    injection d1 with e4 e5
                    subst e4 e5
                    refine TC.region ?_
                    refine .q (LD.move rfl) rfl rfl ?_
                    refine .q (LD.ldA rfl m0 (by repeat constructor) rfl) rfl rfl ?_
                    refine TL.cw (CL.func rfl) (w_DoF hok2 hru (⟨3, line * c.words, 3⟩ : Mes.Op) hxr) (i := 2) rfl (Wants.un rfl) rfl ?_
                    rintro _ r3 ⟨rfl, hr3⟩
                    rw [hd] at hr3 ⊢
                    rw [doV]
                    dsimp only at hr3
                    refine .q (LD.move rfl) rfl rfl ?_
                    refine .q (LD.ex rfl rfl) rfl rfl ?_
                    refine .q (LD.ex rfl rfl) rfl rfl ?_
                    refine .q (LD.assign rfl) rfl rfl ?_
                    refine .q (LD.assign rfl) rfl rfl ?_
                    refine TL.nilS ?_
                    refine TC.seq ?_
                    refine TC.region ?_
                    refine .q (LD.move rfl) rfl rfl ?_
                    refine .q (LD.move rfl) rfl rfl ?_
                    refine TL.cr (CL.func rfl) (w_LookF hx3 hr3 line hline) m2 (Wants.un rfl) rfl ?_
                    rintro _ rfl
                    rw [lookV_of hx3.inv.cfg d2 d3 d4 d5]
                    refine .q (LD.move rfl) rfl rfl ?_
                    refine .q (LD.ex rfl rfl) rfl rfl ?_
                    refine .q (LD.ex rfl rfl) rfl rfl ?_
                    refine TL.nb NB.alloc (Wants.un rfl) rfl (fun b33 => ?_)
                    refine .e (EF.stA (i := 0) rfl rfl rfl rfl rfl rfl (by repeat constructor)) rfl rfl ?_
                    refine .q (LD.assign rfl) rfl rfl ?_
                    refine TL.nilS ?_
                    refine TC.seq ?_
                    refine TC.region ?_
                    refine .q (LD.move rfl) rfl rfl ?_
                    refine .q (LD.indexAddrA rfl rfl (by omega)) rfl rfl ?_
                    refine .q (LD.ld1 rfl m4 rfl) rfl rfl ?_
                    refine .q (LD.eqT rfl rfl rfl) rfl rfl ?_
                    refine .q (LD.move rfl) rfl rfl ?_
                    refine .y (LD.move rfl) rfl rfl rfl rfl rfl ?_
                    refine .y (LD.eql rfl rfl) rfl rfl rfl rfl rfl ?_
                    refine .q (LD.pickT rfl rfl rfl) rfl rfl ?_
                    refine .q (LD.move rfl) rfl rfl ?_
                    refine .y (LD.move rfl) rfl rfl rfl rfl rfl ?_
                    refine .q (LD.pickT rfl rfl rfl) rfl rfl ?_
                    refine .q (LD.move rfl) rfl rfl ?_
                    refine .y (LD.fieldAddr rfl) rfl rfl rfl rfl rfl ?_
                    refine .y (LD.ld1 rfl m0 rfl) rfl rfl rfl rfl rfl ?_
                    refine .y (LD.eql rfl rfl) rfl rfl rfl rfl rfl ?_
                    refine .q (LD.pickT rfl rfl rfl) rfl rfl ?_
                    refine .q (LD.move rfl) rfl rfl ?_
                    refine .y (LD.fieldAddr rfl) rfl rfl rfl rfl rfl ?_
                    refine .y (LD.ld1 rfl m0 rfl) rfl rfl rfl rfl rfl ?_
                    refine .q (LD.pickT rfl rfl rfl) rfl rfl ?_
                    refine .q (LD.move rfl) rfl rfl ?_
                    refine .y (LD.fieldAddr rfl) rfl rfl rfl rfl rfl ?_
                    refine .y (LD.ldA rfl m0 (by repeat constructor) rfl) rfl rfl rfl rfl rfl ?_
                    refine .y (LD.bA rfl rfl (by repeat constructor)) rfl rfl rfl rfl rfl ?_
                    refine .y (LD.eqS rfl rfl Tryz.eqGuardType36 rfl (by repeat first | exact rfl | refine ⟨_, _, rfl, ⟨_, rfl⟩, ?_⟩) (by repeat first | exact rfl | refine ⟨_, _, rfl, ⟨_, rfl⟩, ?_⟩)) rfl rfl rfl rfl rfl ?_
                    refine .q (LD.pickT rfl rfl rfl) rfl rfl ?_
                    refine .q (LD.assign rfl) rfl rfl ?_
                    refine TL.nilS ?_
                    refine TC.ret ?_
                    repeat first | refine Post.sr ?_ | refine Post.br ?_
                    exact Out.intro (X := [_, _, _, _, _, _]) (L' := [_]) (Res.t rfl Res.z) ⟨rfl, rfl⟩ (.refl _)
              · have h6 := g6
                try simp at h6
                refine .s g6 rfl rfl rfl rfl ?_
                refine .s g6 rfl rfl rfl rfl ?_
                refine .s g6 rfl rfl rfl rfl ?_
                refine .s g6 rfl rfl rfl rfl ?_
                refine .s g6 rfl rfl rfl rfl ?_
                refine .s g6 rfl rfl rfl rfl ?_
                refine .q (LD.pickT rfl g6 rfl) rfl rfl ?_
                refine TL.nilS ?_
                refine TC.condT rfl rfl ?_
                refine TC.seq ?_
                refine TC.region ?_
                refine .q (LD.assign rfl) rfl rfl ?_
                refine TL.nilS ?_
                refine TC.ret ?_
                repeat first | refine Post.sr ?_ | refine Post.br ?_
                exact Out.intro (X := [_, _, _, _]) (L' := [_]) (Res.t rfl Res.z) ⟨by simp_all [pack], rfl⟩ (.refl _)
            · have h5 := g5
              try simp at h5
              refine .s g5 rfl rfl rfl rfl ?_
              refine .s g5 rfl rfl rfl rfl ?_
              refine .q (LD.pickT rfl g5 rfl) rfl rfl ?_
              refine .q (LD.move rfl) rfl rfl ?_
              refine .s rfl rfl rfl rfl rfl ?_
              refine .s rfl rfl rfl rfl rfl ?_
              refine .s rfl rfl rfl rfl rfl ?_
              refine .s rfl rfl rfl rfl rfl ?_
              refine .s rfl rfl rfl rfl rfl ?_
              refine .s rfl rfl rfl rfl rfl ?_
              refine .s rfl rfl rfl rfl rfl ?_
              refine .q (LD.pickT rfl rfl rfl) rfl rfl ?_
              refine TL.nilS ?_
              refine TC.condT rfl rfl ?_
              refine TC.seq ?_
              refine TC.region ?_
              refine .q (LD.assign rfl) rfl rfl ?_
              refine TL.nilS ?_
              refine TC.ret ?_
              repeat first | refine Post.sr ?_ | refine Post.br ?_
              exact Out.intro (X := [_, _, _, _]) (L' := [_]) (Res.t rfl Res.z) ⟨by simp_all [pack], rfl⟩ (.refl _)
      · skip
        refine .q (LD.move rfl) rfl rfl ?_
        refine .q (LD.ex rfl rfl) rfl rfl ?_
        refine .q (LD.ex rfl rfl) rfl rfl ?_
        refine .q (LD.assign rfl) rfl rfl ?_
        refine .q (LD.assign rfl) rfl rfl ?_
        refine TL.nilS ?_
        refine TC.seq ?_
        refine TC.seq ?_
        refine TC.region ?_
        refine .q (LD.move rfl) rfl rfl ?_
        refine .q (LD.ptrEql rfl rfl Tryz.underlying28 (by first | exact .inr rfl | exact .inl rfl)) rfl rfl ?_
        refine TL.nilS ?_
        refine TC.condT rfl rfl ?_
        refine TC.seq ?_
        refine TC.region ?_
        refine .q (LD.assign rfl) rfl rfl ?_
        refine TL.nilS ?_
        refine TC.ret ?_
        repeat first | refine Post.sr ?_ | refine Post.br ?_
        exact Out.intro (X := [_, _, _]) (L' := [_]) (Res.t rfl Res.z) ⟨by simp_all [pack], rfl⟩ (.refl _)
  · have h1 := g1
    try simp at h1
    refine .s g1 rfl rfl rfl rfl ?_
    refine .q (LD.pickT rfl g1 rfl) rfl rfl ?_
    refine TL.nilS ?_
    refine TC.condT rfl rfl ?_
    refine TC.seq ?_
    refine TC.region ?_
    refine .q (LD.assign rfl) rfl rfl ?_
    refine TL.nilS ?_
    refine TC.ret ?_
    repeat first | refine Post.sr ?_ | refine Post.br ?_
    exact Out.intro (X := [_, _]) (L' := [_]) (Res.t rfl Res.z) ⟨by simp_all [pack], rfl⟩ (.refl _)
end Go.SL.TryzI
