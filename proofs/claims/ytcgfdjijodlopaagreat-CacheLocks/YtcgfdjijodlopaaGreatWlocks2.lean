/- A part of proofs about the given program. No condition. -/
import Derived.Test.YtcgfdjijodlopaaGreatWlocks1
import Derived.Test.YtcgfdjijodlopaaGreatPa
set_option linter.all false
namespace Go.SL.TryzI
open Go Go.Proofs Go.SL
set_option maxRecDepth 100000


open Mes in
theorem lookV_lk {k : Cache} {l : Int} (h1 : (k.find l).isSome = true) (h3 : (k.look l).locked = true) : lookV k.c k.a l = .tuple [.agg (encWay ⟨(k.look l).state, (k.look l).line, (k.look l).words, true⟩).toArray, .bool true].toArray := by
  have e : lookWay k.c k.a l = ⟨(k.look l).state, (k.look l).line, (k.look l).words, true⟩ := by
    show k.look l = _
    rw [← h3]
  have h1' : (findWay k.c k.a l).isSome = true := h1
  rw [lookV, e, h1']
open Mes in
theorem errOf_ne {c : Cfg} {core : Int} (h : (c.ok && inR core c.cores) = false) : c.ok = true → core < 0 ∨ c.cores ≤ core := by
  intro hk
  rw [hk, Bool.true_and] at h
  have : ¬ inR core c.cores = true := by rw [h]; simp
  rw [inR_iff] at this
  omega

set_option maxHeartbeats 4000000 in
open Mes in
theorem w_CacheLocks (c : Cfg) (hc : CfgR c) (core : Int) (l : List Mes.Step) (hl : ∀ s ∈ l, StepR s) (q : Option Addr) (cap : Nat) (h0 : Frag) (hrd : Rd h0 q 21 (l.map encStep)) : FnR Tryz.prog 4 [.agg (encC c), i core, .slice q l.length cap] h0 (fun v => v = .bool true) := by
  refine Fn.body Tryz.func4 rfl rfl rfl (Nat.le_of_ble_eq_true rfl) fun F => ?_
  refine TC.seq ?_
  refine TC.region ?_
  refine TL.nb (NB.boxA rfl) (Wants.un rfl) rfl (fun b3 => ?_)
  refine .q (LD.assign rfl) rfl rfl ?_
  refine TL.nilS ?_
  refine TC.seq ?_
  refine TC.seq ?_
  refine TC.region ?_
  refine TL.cp (CL.func rfl) w_awake14 (Wants.un rfl) rfl ?_
  rintro _ rfl
  refine .q (LD.not rfl) rfl rfl ?_
  refine TL.nilS ?_
  refine TC.condF rfl rfl ?_
  refine TC.skipS ?_
  refine TC.seq ?_
  refine TC.seq ?_
  refine TC.region ?_
  refine .q (LD.move rfl) rfl rfl ?_
  refine .q (LD.lenS rfl rfl Tryz.underlying25) rfl rfl ?_
  refine .q (LD.gtr rfl rfl) rfl rfl ?_
  refine .q (LD.move rfl) rfl rfl ?_
  refine TL.split rfl rfl rfl rfl (fun g1 => ?_) (fun g1 => ?_)
  · have h1 := g1
    try simp at h1
    refine .y (LD.ldA rfl m0 (by repeat constructor) rfl) g1 rfl rfl rfl rfl ?_
    refine TL.cp (CL.func rfl) (w_large14 c) (Wants.yes rfl rfl rfl g1) rfl ?_
    rintro _ rfl
    refine .q (LD.pickF rfl g1 rfl) rfl rfl ?_
    refine TL.nilS ?_
    refine TC.cond rfl (fun g2 => ?_) (fun g2 => ?_)
    · have h2 := g2
      try simp at h2
      refine TC.seq ?_
      refine TC.region ?_
      refine .q (LD.assign rfl) rfl rfl ?_
      refine TL.nilS ?_
      refine TC.ret ?_
      repeat first | refine Post.sr ?_ | refine Post.br ?_
      exact Out.intro (X := [_]) (L' := [_]) (Res.t rfl Res.z) ⟨by simp_all [pack], rfl⟩ (.refl _)
    · have h2 := g2
      try simp at h2
      refine TC.skipS ?_
      refine TC.seq ?_
      refine TC.region ?_
      refine .q (LD.ldA rfl m0 (by repeat constructor) rfl) rfl rfl ?_
      refine .q (LD.move rfl) rfl rfl ?_
      refine TL.cn (CL.func rfl) (w_CacNew c hc core) (Wants.un rfl) rfl ?_
      intro v0 r0 hcn
      rcases hcn with ⟨hok, hcore, p, rfl, hr0⟩ | ⟨hno, rfl, rfl⟩
      · skip
        refine .q (LD.move rfl) rfl rfl ?_
        refine .q (LD.ex rfl rfl) rfl rfl ?_
        refine .q (LD.ex rfl rfl) rfl rfl ?_
        refine .q (LD.assign rfl) rfl rfl ?_
        refine .q (LD.assign rfl) rfl rfl ?_
        refine TL.nilS ?_
        refine TC.seq ?_
        refine TC.seq ?_
        refine TC.region ?_
        refine .q (LD.move rfl) rfl rfl ?_
        refine .q (LD.ptrEql rfl rfl Tryz.underlying28 (by first | exact .inr rfl | exact .inl rfl)) rfl rfl ?_
        refine TL.nilS ?_
        refine TC.condF rfl rfl ?_
        refine TC.skipS ?_
        refine TC.seq ?_
        refine TC.seq ?_
        refine TC.region ?_
        refine .q (LD.move rfl) rfl rfl ?_
        refine .q (LD.lenS rfl rfl Tryz.underlying25) rfl rfl ?_
        refine .q (LD.move rfl) rfl rfl ?_
        refine TL.nilS ?_
        refine TC.block ?_
        refine TC.loopd (α := Nat × Frag) (fun k => [(1, i core), (3, .pointer (some ⟨b3, 0, none⟩)), (7, .pointer (some ⟨p, 0, none⟩)), (53, .slice q l.length cap), (54, i (l.length : Int)), (55, i (k.1 : Int))]) (fun k => k.2 :: blk b3 24 (encC c) :: h0 :: F) (fun k => k.1 ≤ l.length ∧ IsCac (runC (Cache.new c core) (l.take k.1)) p k.2) (fun k => l.length - k.1) (0, r0) ⟨Nat.zero_le _, hr0⟩ ⟨rfl, rfl, rfl, rfl, rfl, rfl, trivial⟩ ⟨[], .refl _⟩ (fun k hk => ?_)
        refine TC.seq ?_
        refine TC.region ?_
        refine .q (LD.lss rfl rfl) rfl rfl ?_
        refine TL.nilS ?_
        refine TC.seq ?_
        refine TC.cond rfl (fun g3 => ?_) (fun g3 => ?_)
        · have h3 := g3
          try simp at h3
          refine TC.skipS ?_
          refine TC.seq ?_
          refine TC.block ?_
          refine TC.seq ?_
          have hkl : k.1 < l.length := by omega
          obtain ⟨s, hs0⟩ : ∃ s, l[k.1]? = some s := ⟨_, List.getElem?_eq_getElem hkl⟩
          have hsm := List.mem_of_getElem? hs0
          have he : (l.map encStep)[k.1]? = some (encStep s) := by rw [List.getElem?_map, hs0]; rfl
          have hne : l.map encStep ≠ [] := by intro h0; rw [h0] at he; simp at he
          obtain ⟨ba, o, cs, T, fr, hq2, hb, hcs⟩ := hrd.got hne
          have hok9 := okRun hok hc core (l.take k.1) (by rw [List.length_take]; omega)
          have hok10 := okRun hok hc core (l.take (k.1 + 1)) (by rw [List.length_take]; omega)
          rw [runTake hs0] at hok10
          have hserr := hok9.inv.step_err hok s
          obtain ⟨K2, ⟨rm, ris, rn, re⟩, hst⟩ : ∃ K2 rp, stepC (runC (Cache.new c core) (l.take k.1)) s = (K2, rp) := ⟨_, _, rfl⟩
          rw [hst] at hok10 hserr
          dsimp only at hok10 hserr
          have hkr := hk.2
          generalize hKK : runC (Cache.new c core) (l.take k.1) = K at hok9 hserr hst hkr
          refine TC.region ?_
          refine .q (LD.indexAddr rfl rfl hq2 (by omega)) rfl rfl ?_
          refine .q (LD.elA (j := k.1) rfl m2 hb hcs hrd.len he) rfl rfl ?_
          refine TL.nb NB.alloc (Wants.un rfl) rfl (fun b10 => ?_)
          refine .e (EF.stA (i := 0) rfl rfl rfl rfl rfl rfl (by repeat constructor)) rfl rfl ?_
          refine TL.nilS ?_
          refine TC.seq ?_
          refine TC.region ?_
          refine .q (LD.ldA rfl m2 (by repeat constructor) rfl) rfl rfl ?_
          refine .q (LD.move rfl) rfl rfl ?_
          refine TL.cl (CL.func rfl) (w_drawn14 hok9 hkr) (perm_get (i := 1) rfl) (Wants.un rfl) rfl ?_
          rintro _ _ ⟨fq0, fq1, fq2, fc0, fc1, fc2, f0, f1, f2, rfl, rfl, fP⟩
          rw [picV]
          refine TL.nb NB.alloc (Wants.un rfl) rfl (fun b11 => ?_)
          refine .e (EF.stA (i := 0) rfl rfl rfl rfl rfl rfl (by repeat constructor)) rfl rfl ?_
          refine TL.nilS ?_
          refine TC.seq ?_
          refine TC.region ?_
          refine .q (LD.move rfl) rfl rfl ?_
          refine .q (LD.ldA rfl m5 (by repeat constructor) rfl) rfl rfl ?_
          refine TL.cw (CL.func rfl) (w_do14 hok9 hkr s (hl s hsm)) (i := 4) rfl (Wants.un rfl) rfl ?_
          rintro _ r2 ⟨rfl, hr2⟩
          rw [hst] at hr2 ⊢
          dsimp only at hr2
          refine TL.nb NB.alloc (Wants.un rfl) rfl (fun b12 => ?_)
          refine .e (EF.stA (i := 0) rfl rfl rfl rfl rfl rfl (by repeat constructor)) rfl rfl ?_
          refine TL.nilS ?_
          refine TC.seq ?_
          refine TC.region ?_
          refine .q (LD.ldA rfl m7 (by repeat constructor) rfl) rfl rfl ?_
          refine .q (LD.move rfl) rfl rfl ?_
          refine TL.cl (CL.func rfl) (w_drawn14 hok10 hr2) (perm_get (i := 5) rfl) (Wants.un rfl) rfl ?_
          rintro _ _ ⟨gq0, gq1, gq2, gc0, gc1, gc2, g0, g1, g2, rfl, rfl, gP⟩
          rw [picV]
          refine TL.nb NB.alloc (Wants.un rfl) rfl (fun b13 => ?_)
          refine .e (EF.stA (i := 0) rfl rfl rfl rfl rfl rfl (by repeat constructor)) rfl rfl ?_
          by_cases hre : re ≠ 0
          · obtain ⟨e1, e2, e3, e4⟩ := hserr hre
            subst e1 e2 e3 e4
            obtain ⟨gP0, gP1, gP2⟩ := gP
            obtain ⟨fP0, fP1, fP2⟩ := fP
            have hg0 := gP0.rd'
            have hg1 := gP1.rd'
            have hg2 := gP2.rd'
            have hok10 := hok10
            have hxa := hok10.hal
            have hxf := hok10.hfl
            have hxb := hok10.hbl
            have hlf9 := hok10.inv.lf
            have hlb9 := hok10.inv.lb
            have hla : (K2.a.map encWay).length = K2.a.length := List.length_map ..
            have hlf : (K2.f.map encMiss).length = K2.f.length := List.length_map ..
            have hlb : (K2.b.map encWB).length = K2.b.length := List.length_map ..
            refine TL.nilS ?_
            refine TC.seq ?_
            refine TC.seq ?_
            refine TC.region ?_
            refine .q (LD.fieldAddr rfl) rfl rfl ?_
            refine .q (LD.ld1 rfl m5 rfl) rfl rfl ?_
            refine .q (LD.neqT rfl rfl hre) rfl rfl ?_
            refine .q (LD.move rfl) rfl rfl ?_
            refine .y (LD.ldA rfl m6 (by repeat constructor) rfl) rfl rfl rfl rfl rfl ?_
            refine .y (LD.ldA rfl m0 (by repeat constructor) rfl) rfl rfl rfl rfl rfl ?_
            refine TL.crs (CL.func rfl) (w_same14 _ _ _ hok10.hal hok10.hfl hok10.hbl _ _ _ _ _ _ _ _ _ _ _ _ _ _ _ _ _ _ fP0.rd'.2 hg0.2 fP1.rd'.2 hg1.2 fP2.rd'.2 hg2.2) (perm_get2 (i := 9) rfl (perm_get2 (i := 8) rfl (perm_get2 (i := 7) rfl (perm_get2 (i := 3) rfl (perm_get2 (i := 2) rfl (perm_get2 (i := 1) rfl (.refl _))))))) (Wants.yes rfl rfl rfl rfl) rfl ?_
            rintro _ rfl
            refine .y (LD.not rfl) rfl rfl rfl rfl rfl ?_
            refine .y (LD.move rfl) rfl rfl rfl rfl rfl ?_
            refine .y (LD.fieldAddr rfl) rfl rfl rfl rfl rfl ?_
            refine .y (LD.ld1 rfl m5 rfl) rfl rfl rfl rfl rfl ?_
            refine .y (LD.pickF rfl rfl rfl) rfl rfl rfl rfl rfl ?_
            refine .y (LD.move rfl) rfl rfl rfl rfl rfl ?_
            refine .y (LD.fieldAddr rfl) rfl rfl rfl rfl rfl ?_
            refine .y (LD.ldA rfl m5 (by repeat constructor) rfl) rfl rfl rfl rfl rfl ?_
            refine .y (LD.bS rfl rfl (by repeat constructor)) rfl rfl rfl rfl rfl ?_
            refine .y (LD.neqSF rfl rfl Tryz.eqGuardType38 rfl (by repeat first | exact rfl | refine ⟨_, _, rfl, ⟨_, rfl⟩, ?_⟩) rfl) rfl rfl rfl rfl rfl ?_
            refine .y (LD.pickF rfl rfl rfl) rfl rfl rfl rfl rfl ?_
            refine .y (LD.move rfl) rfl rfl rfl rfl rfl ?_
            refine .y (LD.fieldAddr rfl) rfl rfl rfl rfl rfl ?_
            refine .y (LD.ld1 rfl m5 rfl) rfl rfl rfl rfl rfl ?_
            refine .y (LD.neq rfl rfl) rfl rfl rfl rfl rfl ?_
            refine .y (LD.pickF rfl rfl rfl) rfl rfl rfl rfl rfl ?_
            refine .q (LD.pickT rfl rfl rfl) rfl rfl ?_
            refine TL.nilS ?_
            refine TC.condF rfl rfl ?_
            refine TC.skipS ?_
            refine TC.seq ?_
            refine TC.region ?_
            refine .q (LD.assign rfl) rfl rfl ?_
            refine TL.nilS ?_
            refine TC.seq ?_
            refine TC.seq ?_
            refine TC.region ?_
            refine .q (LD.fieldAddr rfl) rfl rfl ?_
            refine .q (LD.ld1 rfl m0 rfl) rfl rfl ?_
            refine .q (LD.lenS rfl rfl Tryz.underlying47) rfl rfl ?_
            refine .q (LD.move rfl) rfl rfl ?_
            refine TL.nilS ?_
            refine TC.block ?_
            refine TC.loopd (α := Nat) (fun u => [(1, i core), (3, .pointer (some ⟨b3, 0, none⟩)), (7, .pointer (some ⟨p, 0, none⟩)), (13, .pointer (some ⟨b13, 0, none⟩)), (53, .slice q l.length cap), (54, i (l.length : Int)), (55, i (k.1 : Int)), (14, i ((K2.a.take u).countP (·.locked) : Nat)), (93, .slice gq0 (K2.a.map encWay).length gc0), (94, i ((K2.a.map encWay).length : Int)), (95, i (u : Int))]) (fun _ => _) (fun u => u ≤ K2.a.length) (fun u => K2.a.length - u) 0 (Nat.zero_le _) ⟨rfl, rfl, rfl, rfl, rfl, rfl, rfl, rfl, rfl, rfl, rfl, trivial⟩ ⟨[], .refl _⟩ (fun u hu => ?_)
            skip
            refine TC.seq ?_
            refine TC.region ?_
            refine .q (LD.lss rfl rfl) rfl rfl ?_
            refine TL.nilS ?_
            refine TC.seq ?_
            refine TC.cond rfl (fun g4 => ?_) (fun g4 => ?_)
            · have h4 := g4
              try simp at h4
              refine TC.skipS ?_
              refine TC.seq ?_
              refine TC.block ?_
              refine TC.seq ?_
              have hlt : u < K2.a.length := by omega
              obtain ⟨x, hx⟩ : ∃ x, K2.a[u]? = some x := ⟨_, List.getElem?_eq_getElem hlt⟩
              have he : (K2.a.map encWay)[u]? = some (encWay x) := by rw [List.getElem?_map, hx]; rfl
              have hne : K2.a.map encWay ≠ [] := by intro h0; rw [h0] at he; simp at he
              obtain ⟨ba, oa, csa, Ta, fra, hqa, hba, hca⟩ := hg0.2.got hne
              have hcu : (K2.a.take u).countP (·.locked) ≤ u := Nat.le_trans List.countP_le_length (by rw [List.length_take]; omega)
              refine TC.region ?_
              refine .q (LD.indexAddr rfl rfl hqa (by omega)) rfl rfl ?_
              refine .q (LD.elA (j := u) rfl m3 hba hca hg0.2.len he) rfl rfl ?_
              refine TL.nb NB.alloc (Wants.un rfl) rfl (fun b16 => ?_)
              refine .e (EF.stA (i := 0) rfl rfl rfl rfl rfl rfl (by repeat constructor)) rfl rfl ?_
              refine TL.nilS ?_
              refine TC.seq ?_
              refine TC.region ?_
              refine .q (LD.fieldAddr rfl) rfl rfl ?_
              refine .q (LD.ld1 rfl m0 rfl) rfl rfl ?_
              refine TL.nilS ?_
              refine TC.cond rfl (fun g5 => ?_) (fun g5 => ?_)
              · have h5 := g5
                try simp at h5
                refine TC.region ?_
                refine .q (LD.move rfl) rfl rfl ?_
                refine .q (LD.add rfl rfl (by omega)) rfl rfl ?_
                refine .q (LD.assign rfl) rfl rfl ?_
                refine TL.nil ?_
                have hlk : x.locked = true := by assumption
                have hc8 := Mes.cnt_snoc (p := (·.locked)) hx
                rw [if_pos hlk] at hc8
                rw [show (((K2.a.take u).countP (·.locked) : Nat) : Int) + 1 = (((K2.a.take (u + 1)).countP (·.locked) : Nat) : Int) from by rw [hc8]; rfl]
                refine TC.region ?_
                refine .q (LD.add rfl rfl (by omega)) rfl rfl ?_
                refine .q (LD.move rfl) rfl rfl ?_
                refine TL.nil ?_
                exact ⟨u + 1, by omega, by omega, ⟨rfl, rfl, rfl, rfl, rfl, rfl, rfl, rfl, rfl, rfl, rfl, trivial⟩, [_], .refl _⟩
              · have h5 := g5
                try simp at h5
                refine TC.skip ?_
                have hlk : ¬ x.locked = true := by simp_all
                have hc8 := Mes.cnt_snoc (p := (·.locked)) hx
                rw [if_neg hlk] at hc8
                rw [show (((K2.a.take u).countP (·.locked) : Nat) : Int) = (((K2.a.take (u + 1)).countP (·.locked) : Nat) : Int) from by rw [hc8]; rfl]
                refine TC.region ?_
                refine .q (LD.add rfl rfl (by omega)) rfl rfl ?_
                refine .q (LD.move rfl) rfl rfl ?_
                refine TL.nil ?_
                exact ⟨u + 1, by omega, by omega, ⟨rfl, rfl, rfl, rfl, rfl, rfl, rfl, rfl, rfl, rfl, rfl, trivial⟩, [_], .refl _⟩
            · have h4 := g4
              try simp at h4
              refine TC.exit ?_
              refine TC.seq ?_
              refine TC.seq ?_
              have hcnt : (((K2.a.take u).countP (·.locked) : Nat) : Int) = ((K2.f.map encMiss).length : Nat) := by
                rw [List.take_of_length_le (by omega), CInv.locked hok10.inv, List.length_map]
              refine TC.region ?_
              refine .q (LD.move rfl) rfl rfl ?_
              refine .q (LD.fieldAddr rfl) rfl rfl ?_
              refine .q (LD.ld1 rfl m0 rfl) rfl rfl ?_
              refine .q (LD.lenS rfl rfl Tryz.underlying48) rfl rfl ?_
              refine .q (LD.neqF rfl rfl hcnt) rfl rfl ?_
              refine .q (LD.move rfl) rfl rfl ?_
              refine .y (LD.fieldAddr rfl) rfl rfl rfl rfl rfl ?_
              refine .y (LD.ld1 rfl m0 rfl) rfl rfl rfl rfl rfl ?_
              refine .y (LD.lenS rfl rfl Tryz.underlying48) rfl rfl rfl rfl rfl ?_
              refine .y (LD.fieldAddr rfl) rfl rfl rfl rfl rfl ?_
              refine .y (LD.ld1 rfl (.tail _ (.tail _ (.tail _ (.tail _ (.tail _ (.tail _ (.tail _ (.tail _ (.tail _ (.tail _ (.tail _ (.head _)))))))))))) rfl) rfl rfl rfl rfl rfl ?_
              refine .y (LD.gtrF rfl rfl (by omega)) rfl rfl rfl rfl rfl ?_
              refine .q (LD.pickF rfl rfl rfl) rfl rfl ?_
              refine .q (LD.move rfl) rfl rfl ?_
              refine .y (LD.fieldAddr rfl) rfl rfl rfl rfl rfl ?_
              refine .y (LD.ld1 rfl m0 rfl) rfl rfl rfl rfl rfl ?_
              refine .y (LD.lenS rfl rfl Tryz.underlying49) rfl rfl rfl rfl rfl ?_
              refine .y (LD.fieldAddr rfl) rfl rfl rfl rfl rfl ?_
              refine .y (LD.ld1 rfl (.tail _ (.tail _ (.tail _ (.tail _ (.tail _ (.tail _ (.tail _ (.tail _ (.tail _ (.tail _ (.tail _ (.head _)))))))))))) rfl) rfl rfl rfl rfl rfl ?_
              refine .y (LD.gtrF rfl rfl (by omega)) rfl rfl rfl rfl rfl ?_
              refine .q (LD.pickF rfl rfl rfl) rfl rfl ?_
              refine TL.nilS ?_
              refine TC.condF rfl rfl ?_
              refine TC.skipS ?_
              refine TC.seq ?_
              refine TC.region ?_
              refine .q (LD.fieldAddr rfl) rfl rfl ?_
              refine .q (LD.ld1 rfl m0 rfl) rfl rfl ?_
              refine .q (LD.lenS rfl rfl Tryz.underlying48) rfl rfl ?_
              refine .q (LD.move rfl) rfl rfl ?_
              refine TL.nilS ?_
              refine TC.block ?_
              refine TC.loopd (α := Nat) (fun y => [(1, i core), (3, .pointer (some ⟨b3, 0, none⟩)), (7, .pointer (some ⟨p, 0, none⟩)), (13, .pointer (some ⟨b13, 0, none⟩)), (53, .slice q l.length cap), (54, i (l.length : Int)), (55, i (k.1 : Int)), (126, .slice gq1 (K2.f.map encMiss).length gc1), (127, i ((K2.f.map encMiss).length : Int)), (128, i (y : Int))]) (fun _ => _) (fun y => y ≤ K2.f.length) (fun y => K2.f.length - y) 0 (Nat.zero_le _) ⟨rfl, rfl, rfl, rfl, rfl, rfl, rfl, rfl, rfl, rfl, trivial⟩ ⟨[], .refl _⟩ (fun y hy => ?_)
              refine TC.seq ?_
              refine TC.region ?_
              refine .q (LD.lss rfl rfl) rfl rfl ?_
              refine TL.nilS ?_
              refine TC.seq ?_
              refine TC.cond rfl (fun g6 => ?_) (fun g6 => ?_)
              · have h6 := g6
                try simp at h6
                refine TC.skipS ?_
                refine TC.seq ?_
                refine TC.block ?_
                refine TC.seq ?_
                have hlt : y < K2.f.length := by omega
                obtain ⟨x, hx⟩ : ∃ x, K2.f[y]? = some x := ⟨_, List.getElem?_eq_getElem hlt⟩
                have he : (K2.f.map encMiss)[y]? = some (encMiss x) := by rw [List.getElem?_map, hx]; rfl
                have hne : K2.f.map encMiss ≠ [] := by intro h0; rw [h0] at he; simp at he
                obtain ⟨ba, oa, csa, Ta, fra, hqa, hba, hca⟩ := hg1.2.got hne
                have hxm := List.mem_of_getElem? hx
                obtain ⟨mi1, mi2, mi3⟩ := hok10.inv.of_miss hxm
                have hnb := fun e he => hok10.inv.no_buf hxm (e := e) he
                have hlx := (hok10.line mi3).2
                refine TC.region ?_
                refine .q (LD.indexAddr rfl rfl hqa (by omega)) rfl rfl ?_
                refine .q (LD.elA (j := y) rfl m2 hba hca hg1.2.len he) rfl rfl ?_
                refine TL.nb NB.alloc (Wants.un rfl) rfl (fun b18 => ?_)
                refine .e (EF.stA (i := 0) rfl rfl rfl rfl rfl rfl (by repeat constructor)) rfl rfl ?_
                refine TL.nilS ?_
                refine TC.seq ?_
                refine TC.seq ?_
                refine TC.region ?_
                refine .q (LD.move rfl) rfl rfl ?_
                refine .q (LD.fieldAddr rfl) rfl rfl ?_
                refine .q (LD.ld1 rfl m0 rfl) rfl rfl ?_
                refine TL.cr (CL.func rfl) (w_LookF hok10 hr2 x.line hlx) m5 (Wants.un rfl) rfl ?_
                rintro _ rfl
                rw [lookV_lk mi1 mi2]
                refine .q (LD.move rfl) rfl rfl ?_
                refine .q (LD.ex rfl rfl) rfl rfl ?_
                refine .q (LD.ex rfl rfl) rfl rfl ?_
                refine TL.nb NB.alloc (Wants.un rfl) rfl (fun b19 => ?_)
                refine .e (EF.stA (i := 0) rfl rfl rfl rfl rfl rfl (by repeat constructor)) rfl rfl ?_
                refine .q (LD.assign rfl) rfl rfl ?_
                refine TL.nilS ?_
                refine TC.seq ?_
                refine TC.region ?_
                refine .q (LD.move rfl) rfl rfl ?_
                refine .q (LD.not rfl) rfl rfl ?_
                refine .q (LD.move rfl) rfl rfl ?_
                refine .y (LD.fieldAddr rfl) rfl rfl rfl rfl rfl ?_
                refine .y (LD.ld1 rfl m0 rfl) rfl rfl rfl rfl rfl ?_
                refine .y (LD.not rfl) rfl rfl rfl rfl rfl ?_
                refine .q (LD.pickF rfl rfl rfl) rfl rfl ?_
                refine TL.nilS ?_
                refine TC.condF rfl rfl ?_
                refine TC.skipS ?_
                refine TC.seq ?_
                refine TC.region ?_
                refine .q (LD.fieldAddr rfl) rfl rfl ?_
                refine .q (LD.ld1 rfl m2 rfl) rfl rfl ?_
                refine .q (LD.lenS rfl rfl Tryz.underlying49) rfl rfl ?_
                refine .q (LD.move rfl) rfl rfl ?_
                refine TL.nilS ?_
                refine TC.block ?_
                refine TC.loopd (α := Nat) (fun z => [(1, i core), (3, .pointer (some ⟨b3, 0, none⟩)), (7, .pointer (some ⟨p, 0, none⟩)), (13, .pointer (some ⟨b13, 0, none⟩)), (53, .slice q l.length cap), (54, i (l.length : Int)), (55, i (k.1 : Int)), (18, .pointer (some ⟨b18, 0, none⟩)), (126, .slice gq1 (K2.f.map encMiss).length gc1), (127, i ((K2.f.map encMiss).length : Int)), (128, i (y : Int)), (147, .slice gq2 (K2.b.map encWB).length gc2), (148, i ((K2.b.map encWB).length : Int)), (149, i (z : Int))]) (fun _ => _) (fun z => z ≤ K2.b.length) (fun z => K2.b.length - z) 0 (Nat.zero_le _) ⟨rfl, rfl, rfl, rfl, rfl, rfl, rfl, rfl, rfl, rfl, rfl, rfl, rfl, rfl, trivial⟩ ⟨[], .refl _⟩ (fun z hz => ?_)
                refine TC.seq ?_
                refine TC.region ?_
                refine .q (LD.lss rfl rfl) rfl rfl ?_
                refine TL.nilS ?_
                refine TC.seq ?_
                refine TC.cond rfl (fun g7 => ?_) (fun g7 => ?_)
                · have h7 := g7
                  try simp at h7
                  refine TC.skipS ?_
                  refine TC.seq ?_
                  refine TC.block ?_
                  refine TC.seq ?_
                  have hlt : z < K2.b.length := by omega
                  obtain ⟨e, he8⟩ : ∃ e, K2.b[z]? = some e := ⟨_, List.getElem?_eq_getElem hlt⟩
                  have he9 : (K2.b.map encWB)[z]? = some (encWB e) := by rw [List.getElem?_map, he8]; rfl
                  have hne : K2.b.map encWB ≠ [] := by intro h0; rw [h0] at he9; simp at he9
                  obtain ⟨ba, oa, csa, Ta, fra, hqa, hba, hca⟩ := hg2.2.got hne
                  refine TC.region ?_
                  refine .q (LD.indexAddr rfl rfl hqa (by omega)) rfl rfl ?_
                  refine .q (LD.elA (j := z) rfl m3 hba hca hg2.2.len he9) rfl rfl ?_
                  refine TL.nb NB.alloc (Wants.un rfl) rfl (fun b22 => ?_)
                  refine .e (EF.stA (i := 0) rfl rfl rfl rfl rfl rfl (by repeat constructor)) rfl rfl ?_
                  refine TL.nilS ?_
                  refine TC.seq ?_
                  refine TC.region ?_
                  refine .q (LD.fieldAddr rfl) rfl rfl ?_
                  refine .q (LD.ld1 rfl m0 rfl) rfl rfl ?_
                  refine .q (LD.fieldAddr rfl) rfl rfl ?_
                  refine .q (LD.ld1 rfl m2 rfl) rfl rfl ?_
                  refine .q (LD.eqF rfl rfl (hnb e (List.mem_of_getElem? he8))) rfl rfl ?_
                  refine TL.nilS ?_
                  refine TC.condF rfl rfl ?_
                  refine TC.skip ?_
                  refine TC.region ?_
                  refine .q (LD.add rfl rfl (by omega)) rfl rfl ?_
                  refine .q (LD.move rfl) rfl rfl ?_
                  refine TL.nil ?_
                  exact ⟨z + 1, by omega, by omega, ⟨rfl, rfl, rfl, rfl, rfl, rfl, rfl, rfl, rfl, rfl, rfl, rfl, rfl, rfl, trivial⟩, [_], .refl _⟩
                · have h7 := g7
                  try simp at h7
                  refine TC.exit ?_
                  refine TC.region ?_
                  refine .q (LD.add rfl rfl (by omega)) rfl rfl ?_
                  refine .q (LD.move rfl) rfl rfl ?_
                  refine TL.nil ?_
                  exact ⟨y + 1, by omega, by omega, ⟨rfl, rfl, rfl, rfl, rfl, rfl, rfl, rfl, rfl, rfl, trivial⟩, [_, _], .refl _⟩
              · have h6 := g6
                try simp at h6
                refine TC.exit ?_
                refine TC.region ?_
                refine .q (LD.add rfl rfl (by omega)) rfl rfl ?_
                refine .q (LD.move rfl) rfl rfl ?_
                refine TL.nil ?_
                exact ⟨(k.1 + 1, r2), ⟨by omega, by rw [runTake hs0, hKK, hst]; exact hr2⟩, by omega, ⟨rfl, rfl, rfl, rfl, rfl, rfl, trivial⟩, [_, _, _, _, _, _, _, _, _, _], perm_out (i := 4) rfl rfl⟩
          · obtain ⟨gP0, gP1, gP2⟩ := gP
            have hg0 := gP0.rd'
            have hg1 := gP1.rd'
            have hg2 := gP2.rd'
            have hxa := hok10.hal
            have hxf := hok10.hfl
            have hxb := hok10.hbl
            have hlf9 := hok10.inv.lf
            have hlb9 := hok10.inv.lb
            have hla : (K2.a.map encWay).length = K2.a.length := List.length_map ..
            have hlf : (K2.f.map encMiss).length = K2.f.length := List.length_map ..
            have hlb : (K2.b.map encWB).length = K2.b.length := List.length_map ..
            refine TL.nilS ?_
            refine TC.seq ?_
            refine TC.seq ?_
            refine TC.region ?_
            refine .q (LD.fieldAddr rfl) rfl rfl ?_
            refine .q (LD.ld1 rfl m5 rfl) rfl rfl ?_
            refine .q (LD.neqF rfl rfl (show re = 0 by omega)) rfl rfl ?_
            refine .q (LD.move rfl) rfl rfl ?_
            refine .s rfl rfl rfl rfl rfl ?_
            refine .s rfl rfl rfl rfl rfl ?_
            refine .s rfl rfl rfl rfl rfl ?_
            refine .s rfl rfl rfl rfl rfl ?_
            refine .s rfl rfl rfl rfl rfl ?_
            refine .un rfl rfl rfl rfl ?_
            refine .un rfl rfl rfl rfl ?_
            refine .s rfl rfl rfl rfl rfl ?_
            refine .s rfl rfl rfl rfl rfl ?_
            refine .un rfl rfl rfl rfl ?_
            refine .un rfl rfl rfl rfl ?_
            refine .un rfl rfl rfl rfl ?_
            refine .un rfl rfl rfl rfl ?_
            refine .s rfl rfl rfl rfl rfl ?_
            refine .s rfl rfl rfl rfl rfl ?_
            refine .un rfl rfl rfl rfl ?_
            refine .un rfl rfl rfl rfl ?_
            refine .un rfl rfl rfl rfl ?_
            refine .s rfl rfl rfl rfl rfl ?_
            refine .q (LD.pickF rfl rfl rfl) rfl rfl ?_
            refine TL.nilS ?_
            refine TC.condF rfl rfl ?_
            refine TC.skipS ?_
            refine TC.seq ?_
            refine TC.region ?_
            refine .q (LD.assign rfl) rfl rfl ?_
            refine TL.nilS ?_
            refine TC.seq ?_
            refine TC.seq ?_
            refine TC.region ?_
            refine .q (LD.fieldAddr rfl) rfl rfl ?_
            refine .q (LD.ld1 rfl m0 rfl) rfl rfl ?_
            refine .q (LD.lenS rfl rfl Tryz.underlying47) rfl rfl ?_
            refine .q (LD.move rfl) rfl rfl ?_
            refine TL.nilS ?_
            refine TC.block ?_
            refine TC.loopd (α := Nat) (fun u => [(1, i core), (3, .pointer (some ⟨b3, 0, none⟩)), (7, .pointer (some ⟨p, 0, none⟩)), (13, .pointer (some ⟨b13, 0, none⟩)), (53, .slice q l.length cap), (54, i (l.length : Int)), (55, i (k.1 : Int)), (14, i ((K2.a.take u).countP (·.locked) : Nat)), (93, .slice gq0 (K2.a.map encWay).length gc0), (94, i ((K2.a.map encWay).length : Int)), (95, i (u : Int))]) (fun _ => _) (fun u => u ≤ K2.a.length) (fun u => K2.a.length - u) 0 (Nat.zero_le _) ⟨rfl, rfl, rfl, rfl, rfl, rfl, rfl, rfl, rfl, rfl, rfl, trivial⟩ ⟨[], .refl _⟩ (fun u hu => ?_)
            skip
            refine TC.seq ?_
            refine TC.region ?_
            refine .q (LD.lss rfl rfl) rfl rfl ?_
            refine TL.nilS ?_
            refine TC.seq ?_
            refine TC.cond rfl (fun g8 => ?_) (fun g8 => ?_)
            · have h8 := g8
              try simp at h8
              refine TC.skipS ?_
              refine TC.seq ?_
              refine TC.block ?_
              refine TC.seq ?_
              have hlt : u < K2.a.length := by omega
              obtain ⟨x, hx⟩ : ∃ x, K2.a[u]? = some x := ⟨_, List.getElem?_eq_getElem hlt⟩
              have he : (K2.a.map encWay)[u]? = some (encWay x) := by rw [List.getElem?_map, hx]; rfl
              have hne : K2.a.map encWay ≠ [] := by intro h0; rw [h0] at he; simp at he
              obtain ⟨ba, oa, csa, Ta, fra, hqa, hba, hca⟩ := hg0.2.got hne
              have hcu : (K2.a.take u).countP (·.locked) ≤ u := Nat.le_trans List.countP_le_length (by rw [List.length_take]; omega)
              refine TC.region ?_
              refine .q (LD.indexAddr rfl rfl hqa (by omega)) rfl rfl ?_
              refine .q (LD.elA (j := u) rfl m3 hba hca hg0.2.len he) rfl rfl ?_
              refine TL.nb NB.alloc (Wants.un rfl) rfl (fun b16 => ?_)
              refine .e (EF.stA (i := 0) rfl rfl rfl rfl rfl rfl (by repeat constructor)) rfl rfl ?_
              refine TL.nilS ?_
              refine TC.seq ?_
              refine TC.region ?_
              refine .q (LD.fieldAddr rfl) rfl rfl ?_
              refine .q (LD.ld1 rfl m0 rfl) rfl rfl ?_
              refine TL.nilS ?_
              refine TC.cond rfl (fun g9 => ?_) (fun g9 => ?_)
              · have h9 := g9
                try simp at h9
                refine TC.region ?_
                refine .q (LD.move rfl) rfl rfl ?_
                refine .q (LD.add rfl rfl (by omega)) rfl rfl ?_
                refine .q (LD.assign rfl) rfl rfl ?_
                refine TL.nil ?_
                have hlk : x.locked = true := by assumption
                have hc8 := Mes.cnt_snoc (p := (·.locked)) hx
                rw [if_pos hlk] at hc8
                rw [show (((K2.a.take u).countP (·.locked) : Nat) : Int) + 1 = (((K2.a.take (u + 1)).countP (·.locked) : Nat) : Int) from by rw [hc8]; rfl]
                refine TC.region ?_
                refine .q (LD.add rfl rfl (by omega)) rfl rfl ?_
                refine .q (LD.move rfl) rfl rfl ?_
                refine TL.nil ?_
                exact ⟨u + 1, by omega, by omega, ⟨rfl, rfl, rfl, rfl, rfl, rfl, rfl, rfl, rfl, rfl, rfl, trivial⟩, [_], .refl _⟩
              · have h9 := g9
                try simp at h9
                refine TC.skip ?_
                have hlk : ¬ x.locked = true := by simp_all
                have hc8 := Mes.cnt_snoc (p := (·.locked)) hx
                rw [if_neg hlk] at hc8
                rw [show (((K2.a.take u).countP (·.locked) : Nat) : Int) = (((K2.a.take (u + 1)).countP (·.locked) : Nat) : Int) from by rw [hc8]; rfl]
                refine TC.region ?_
                refine .q (LD.add rfl rfl (by omega)) rfl rfl ?_
                refine .q (LD.move rfl) rfl rfl ?_
                refine TL.nil ?_
                exact ⟨u + 1, by omega, by omega, ⟨rfl, rfl, rfl, rfl, rfl, rfl, rfl, rfl, rfl, rfl, rfl, trivial⟩, [_], .refl _⟩
            · have h8 := g8
              try simp at h8
              refine TC.exit ?_
              refine TC.seq ?_
              refine TC.seq ?_
              have hcnt : (((K2.a.take u).countP (·.locked) : Nat) : Int) = ((K2.f.map encMiss).length : Nat) := by
                rw [List.take_of_length_le (by omega), CInv.locked hok10.inv, List.length_map]
              refine TC.region ?_
              refine .q (LD.move rfl) rfl rfl ?_
              refine .q (LD.fieldAddr rfl) rfl rfl ?_
              refine .q (LD.ld1 rfl m0 rfl) rfl rfl ?_
              refine .q (LD.lenS rfl rfl Tryz.underlying48) rfl rfl ?_
              refine .q (LD.neqF rfl rfl hcnt) rfl rfl ?_
              refine .q (LD.move rfl) rfl rfl ?_
              refine .y (LD.fieldAddr rfl) rfl rfl rfl rfl rfl ?_
              refine .y (LD.ld1 rfl m0 rfl) rfl rfl rfl rfl rfl ?_
              refine .y (LD.lenS rfl rfl Tryz.underlying48) rfl rfl rfl rfl rfl ?_
              refine .y (LD.fieldAddr rfl) rfl rfl rfl rfl rfl ?_
              refine .y (LD.ld1 rfl (.tail _ (.tail _ (.tail _ (.tail _ (.tail _ (.tail _ (.tail _ (.tail _ (.tail _ (.tail _ (.tail _ (.head _)))))))))))) rfl) rfl rfl rfl rfl rfl ?_
              refine .y (LD.gtrF rfl rfl (by omega)) rfl rfl rfl rfl rfl ?_
              refine .q (LD.pickF rfl rfl rfl) rfl rfl ?_
              refine .q (LD.move rfl) rfl rfl ?_
              refine .y (LD.fieldAddr rfl) rfl rfl rfl rfl rfl ?_
              refine .y (LD.ld1 rfl m0 rfl) rfl rfl rfl rfl rfl ?_
              refine .y (LD.lenS rfl rfl Tryz.underlying49) rfl rfl rfl rfl rfl ?_
              refine .y (LD.fieldAddr rfl) rfl rfl rfl rfl rfl ?_
              refine .y (LD.ld1 rfl (.tail _ (.tail _ (.tail _ (.tail _ (.tail _ (.tail _ (.tail _ (.tail _ (.tail _ (.tail _ (.tail _ (.head _)))))))))))) rfl) rfl rfl rfl rfl rfl ?_
              refine .y (LD.gtrF rfl rfl (by omega)) rfl rfl rfl rfl rfl ?_
              refine .q (LD.pickF rfl rfl rfl) rfl rfl ?_
              refine TL.nilS ?_
              refine TC.condF rfl rfl ?_
              refine TC.skipS ?_
              refine TC.seq ?_
              refine TC.region ?_
              refine .q (LD.fieldAddr rfl) rfl rfl ?_
              refine .q (LD.ld1 rfl m0 rfl) rfl rfl ?_
              refine .q (LD.lenS rfl rfl Tryz.underlying48) rfl rfl ?_
              refine .q (LD.move rfl) rfl rfl ?_
              refine TL.nilS ?_
              refine TC.block ?_
              refine TC.loopd (α := Nat) (fun y => [(1, i core), (3, .pointer (some ⟨b3, 0, none⟩)), (7, .pointer (some ⟨p, 0, none⟩)), (13, .pointer (some ⟨b13, 0, none⟩)), (53, .slice q l.length cap), (54, i (l.length : Int)), (55, i (k.1 : Int)), (126, .slice gq1 (K2.f.map encMiss).length gc1), (127, i ((K2.f.map encMiss).length : Int)), (128, i (y : Int))]) (fun _ => _) (fun y => y ≤ K2.f.length) (fun y => K2.f.length - y) 0 (Nat.zero_le _) ⟨rfl, rfl, rfl, rfl, rfl, rfl, rfl, rfl, rfl, rfl, trivial⟩ ⟨[], .refl _⟩ (fun y hy => ?_)
              refine TC.seq ?_
              refine TC.region ?_
              refine .q (LD.lss rfl rfl) rfl rfl ?_
              refine TL.nilS ?_
              refine TC.seq ?_
              refine TC.cond rfl (fun g10 => ?_) (fun g10 => ?_)
              · have h10 := g10
                try simp at h10
                refine TC.skipS ?_
                refine TC.seq ?_
                refine TC.block ?_
                refine TC.seq ?_
                have hlt : y < K2.f.length := by omega
                obtain ⟨x, hx⟩ : ∃ x, K2.f[y]? = some x := ⟨_, List.getElem?_eq_getElem hlt⟩
                have he : (K2.f.map encMiss)[y]? = some (encMiss x) := by rw [List.getElem?_map, hx]; rfl
                have hne : K2.f.map encMiss ≠ [] := by intro h0; rw [h0] at he; simp at he
                obtain ⟨ba, oa, csa, Ta, fra, hqa, hba, hca⟩ := hg1.2.got hne
                have hxm := List.mem_of_getElem? hx
                obtain ⟨mi1, mi2, mi3⟩ := hok10.inv.of_miss hxm
                have hnb := fun e he => hok10.inv.no_buf hxm (e := e) he
                have hlx := (hok10.line mi3).2
                refine TC.region ?_
                refine .q (LD.indexAddr rfl rfl hqa (by omega)) rfl rfl ?_
                refine .q (LD.elA (j := y) rfl m2 hba hca hg1.2.len he) rfl rfl ?_
                refine TL.nb NB.alloc (Wants.un rfl) rfl (fun b18 => ?_)
                refine .e (EF.stA (i := 0) rfl rfl rfl rfl rfl rfl (by repeat constructor)) rfl rfl ?_
                refine TL.nilS ?_
                refine TC.seq ?_
                refine TC.seq ?_
                refine TC.region ?_
                refine .q (LD.move rfl) rfl rfl ?_
                refine .q (LD.fieldAddr rfl) rfl rfl ?_
                refine .q (LD.ld1 rfl m0 rfl) rfl rfl ?_
                refine TL.cr (CL.func rfl) (w_LookF hok10 hr2 x.line hlx) m5 (Wants.un rfl) rfl ?_
                rintro _ rfl
                rw [lookV_lk mi1 mi2]
                refine .q (LD.move rfl) rfl rfl ?_
                refine .q (LD.ex rfl rfl) rfl rfl ?_
                refine .q (LD.ex rfl rfl) rfl rfl ?_
                refine TL.nb NB.alloc (Wants.un rfl) rfl (fun b19 => ?_)
                refine .e (EF.stA (i := 0) rfl rfl rfl rfl rfl rfl (by repeat constructor)) rfl rfl ?_
                refine .q (LD.assign rfl) rfl rfl ?_
                refine TL.nilS ?_
                refine TC.seq ?_
                refine TC.region ?_
                refine .q (LD.move rfl) rfl rfl ?_
                refine .q (LD.not rfl) rfl rfl ?_
                refine .q (LD.move rfl) rfl rfl ?_
                refine .y (LD.fieldAddr rfl) rfl rfl rfl rfl rfl ?_
                refine .y (LD.ld1 rfl m0 rfl) rfl rfl rfl rfl rfl ?_
                refine .y (LD.not rfl) rfl rfl rfl rfl rfl ?_
                refine .q (LD.pickF rfl rfl rfl) rfl rfl ?_
                refine TL.nilS ?_
                refine TC.condF rfl rfl ?_
                refine TC.skipS ?_
                refine TC.seq ?_
                refine TC.region ?_
                refine .q (LD.fieldAddr rfl) rfl rfl ?_
                refine .q (LD.ld1 rfl m2 rfl) rfl rfl ?_
                refine .q (LD.lenS rfl rfl Tryz.underlying49) rfl rfl ?_
                refine .q (LD.move rfl) rfl rfl ?_
                refine TL.nilS ?_
                refine TC.block ?_
                refine TC.loopd (α := Nat) (fun z => [(1, i core), (3, .pointer (some ⟨b3, 0, none⟩)), (7, .pointer (some ⟨p, 0, none⟩)), (13, .pointer (some ⟨b13, 0, none⟩)), (53, .slice q l.length cap), (54, i (l.length : Int)), (55, i (k.1 : Int)), (18, .pointer (some ⟨b18, 0, none⟩)), (126, .slice gq1 (K2.f.map encMiss).length gc1), (127, i ((K2.f.map encMiss).length : Int)), (128, i (y : Int)), (147, .slice gq2 (K2.b.map encWB).length gc2), (148, i ((K2.b.map encWB).length : Int)), (149, i (z : Int))]) (fun _ => _) (fun z => z ≤ K2.b.length) (fun z => K2.b.length - z) 0 (Nat.zero_le _) ⟨rfl, rfl, rfl, rfl, rfl, rfl, rfl, rfl, rfl, rfl, rfl, rfl, rfl, rfl, trivial⟩ ⟨[], .refl _⟩ (fun z hz => ?_)
                refine TC.seq ?_
                refine TC.region ?_
                refine .q (LD.lss rfl rfl) rfl rfl ?_
                refine TL.nilS ?_
                refine TC.seq ?_
                refine TC.cond rfl (fun g11 => ?_) (fun g11 => ?_)
                · have h11 := g11
                  try simp at h11
                  refine TC.skipS ?_
                  refine TC.seq ?_
                  refine TC.block ?_
                  refine TC.seq ?_
                  have hlt : z < K2.b.length := by omega
                  obtain ⟨e, he8⟩ : ∃ e, K2.b[z]? = some e := ⟨_, List.getElem?_eq_getElem hlt⟩
                  have he9 : (K2.b.map encWB)[z]? = some (encWB e) := by rw [List.getElem?_map, he8]; rfl
                  have hne : K2.b.map encWB ≠ [] := by intro h0; rw [h0] at he9; simp at he9
                  obtain ⟨ba, oa, csa, Ta, fra, hqa, hba, hca⟩ := hg2.2.got hne
                  refine TC.region ?_
                  refine .q (LD.indexAddr rfl rfl hqa (by omega)) rfl rfl ?_
                  refine .q (LD.elA (j := z) rfl m3 hba hca hg2.2.len he9) rfl rfl ?_
                  refine TL.nb NB.alloc (Wants.un rfl) rfl (fun b22 => ?_)
                  refine .e (EF.stA (i := 0) rfl rfl rfl rfl rfl rfl (by repeat constructor)) rfl rfl ?_
                  refine TL.nilS ?_
                  refine TC.seq ?_
                  refine TC.region ?_
                  refine .q (LD.fieldAddr rfl) rfl rfl ?_
                  refine .q (LD.ld1 rfl m0 rfl) rfl rfl ?_
                  refine .q (LD.fieldAddr rfl) rfl rfl ?_
                  refine .q (LD.ld1 rfl m2 rfl) rfl rfl ?_
                  refine .q (LD.eqF rfl rfl (hnb e (List.mem_of_getElem? he8))) rfl rfl ?_
                  refine TL.nilS ?_
                  refine TC.condF rfl rfl ?_
                  refine TC.skip ?_
                  refine TC.region ?_
                  refine .q (LD.add rfl rfl (by omega)) rfl rfl ?_
                  refine .q (LD.move rfl) rfl rfl ?_
                  refine TL.nil ?_
                  exact ⟨z + 1, by omega, by omega, ⟨rfl, rfl, rfl, rfl, rfl, rfl, rfl, rfl, rfl, rfl, rfl, rfl, rfl, rfl, trivial⟩, [_], .refl _⟩
                · have h11 := g11
                  try simp at h11
                  refine TC.exit ?_
                  refine TC.region ?_
                  refine .q (LD.add rfl rfl (by omega)) rfl rfl ?_
                  refine .q (LD.move rfl) rfl rfl ?_
                  refine TL.nil ?_
                  exact ⟨y + 1, by omega, by omega, ⟨rfl, rfl, rfl, rfl, rfl, rfl, rfl, rfl, rfl, rfl, trivial⟩, [_, _], .refl _⟩
              · have h10 := g10
                try simp at h10
                refine TC.exit ?_
                refine TC.region ?_
                refine .q (LD.add rfl rfl (by omega)) rfl rfl ?_
                refine .q (LD.move rfl) rfl rfl ?_
                refine TL.nil ?_
                exact ⟨(k.1 + 1, r2), ⟨by omega, by rw [runTake hs0, hKK, hst]; exact hr2⟩, by omega, ⟨rfl, rfl, rfl, rfl, rfl, rfl, trivial⟩, [_, _, _, _, _, _, _, _, _, _], perm_out (i := 4) rfl rfl⟩
        · have h3 := g3
          try simp at h3
          refine TC.exit ?_
          refine TC.seq ?_
          refine TC.region ?_
          refine .q (LD.assign rfl) rfl rfl ?_
          refine TL.nilS ?_
          refine TC.ret ?_
          repeat first | refine Post.sr ?_ | refine Post.br ?_
          exact Out.intro (X := [_, _]) (L' := [_]) (Res.t rfl Res.z) ⟨by simp_all [pack], rfl⟩ (.refl _)
      · skip
        refine .q (LD.move rfl) rfl rfl ?_
        refine .q (LD.ex rfl rfl) rfl rfl ?_
        refine .q (LD.ex rfl rfl) rfl rfl ?_
        refine .q (LD.assign rfl) rfl rfl ?_
        refine .q (LD.assign rfl) rfl rfl ?_
        refine TL.nilS ?_
        refine TC.seq ?_
        refine TC.seq ?_
        refine TC.region ?_
        refine .q (LD.move rfl) rfl rfl ?_
        refine .q (LD.ptrEql rfl rfl Tryz.underlying28 (by first | exact .inr rfl | exact .inl rfl)) rfl rfl ?_
        refine TL.nilS ?_
        refine TC.condT rfl rfl ?_
        refine TC.seq ?_
        refine TC.region ?_
        refine .q (LD.ldA rfl m1 (by repeat constructor) rfl) rfl rfl ?_
        refine TL.cp (CL.func rfl) (w_Check c hc) (Wants.un rfl) rfl ?_
        rintro _ rfl
        refine .q (LD.neq rfl rfl) rfl rfl ?_
        refine .q (LD.move rfl) rfl rfl ?_
        refine TL.split rfl rfl rfl rfl (fun g12 => ?_) (fun g12 => ?_)
        · have h12 := g12
          try simp at h12
          refine .y (LD.move rfl) g12 rfl rfl rfl rfl ?_
          refine .y (LD.lss rfl rfl) g12 rfl rfl rfl rfl ?_
          refine .q (LD.pickF rfl g12 rfl) rfl rfl ?_
          refine .q (LD.move rfl) rfl rfl ?_
          refine TL.split rfl rfl rfl rfl (fun g13 => ?_) (fun g13 => ?_)
          · have h13 := g13
            try simp at h13
            refine .y (LD.move rfl) g13 rfl rfl rfl rfl ?_
            refine .y (LD.fieldAddr rfl) g13 rfl rfl rfl rfl ?_
            refine .y (LD.ld1 rfl m1 rfl) g13 rfl rfl rfl rfl ?_
            refine .y (LD.geq rfl rfl) g13 rfl rfl rfl rfl ?_
            refine .q (LD.pickF rfl g13 rfl) rfl rfl ?_
            refine .q (LD.assign rfl) rfl rfl ?_
            refine TL.nilS ?_
            refine TC.ret ?_
            repeat first | refine Post.sr ?_ | refine Post.br ?_
            have hee := errOf_ne hno
            exact Out.intro (X := [_, _]) (L' := [_]) (Res.t rfl Res.z) ⟨by simp_all [pack] <;> omega, rfl⟩ (.refl _)
          · have h13 := g13
            try simp at h13
            refine .s g13 rfl rfl rfl rfl ?_
            refine .s g13 rfl rfl rfl rfl ?_
            refine .s g13 rfl rfl rfl rfl ?_
            refine .q (LD.pickT rfl g13 rfl) rfl rfl ?_
            refine .q (LD.assign rfl) rfl rfl ?_
            refine TL.nilS ?_
            refine TC.ret ?_
            repeat first | refine Post.sr ?_ | refine Post.br ?_
            have hee := errOf_ne hno
            exact Out.intro (X := [_, _]) (L' := [_]) (Res.t rfl Res.z) ⟨by simp_all [pack] <;> omega, rfl⟩ (.refl _)
        · have h12 := g12
          try simp at h12
          refine .s g12 rfl rfl rfl rfl ?_
          refine .q (LD.pickT rfl g12 rfl) rfl rfl ?_
          refine .q (LD.move rfl) rfl rfl ?_
          refine .s rfl rfl rfl rfl rfl ?_
          refine .s rfl rfl rfl rfl rfl ?_
          refine .s rfl rfl rfl rfl rfl ?_
          refine .s rfl rfl rfl rfl rfl ?_
          refine .q (LD.pickT rfl rfl rfl) rfl rfl ?_
          refine .q (LD.assign rfl) rfl rfl ?_
          refine TL.nilS ?_
          refine TC.ret ?_
          repeat first | refine Post.sr ?_ | refine Post.br ?_
          have hee := errOf_ne hno
          exact Out.intro (X := [_, _]) (L' := [_]) (Res.t rfl Res.z) ⟨by simp_all [pack] <;> omega, rfl⟩ (.refl _)
  · have h1 := g1
    try simp at h1
    refine .s g1 rfl rfl rfl rfl ?_
    refine .q (LD.pickT rfl g1 rfl) rfl rfl ?_
    refine TL.nilS ?_
    refine TC.condT rfl rfl ?_
    refine TC.seq ?_
    refine TC.region ?_
    refine .q (LD.assign rfl) rfl rfl ?_
    refine TL.nilS ?_
    refine TC.ret ?_
    repeat first | refine Post.sr ?_ | refine Post.br ?_
    exact Out.intro (X := [_]) (L' := [_]) (Res.t rfl Res.z) ⟨by simp_all [pack], rfl⟩ (.refl _)
end Go.SL.TryzI
