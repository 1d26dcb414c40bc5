/- A part of proofs about the given program. No condition. -/
import Derived.Test.YtcgfdjijodlopaaGreatWcac3
set_option linter.all false
namespace Go.SL.TryzI
open Go Go.Proofs Go.SL
set_option maxRecDepth 100000


open Mes in
theorem owingV_eq (f : List Miss) : owingV f = .tuple [i ((missOwing f).getD 0), .bool (missOwing f).isSome].toArray := rfl

open Mes in
theorem w_Finish (c : Cfg) (hc : CfgR c) (hok : c.ok = true) (core : Int) (a : List Mes.Way) (ha : (a.length : Int) = c.sets * c.ways) (p pa ba pf pb : Nat) (hpab : pa ≠ ba) (fl : List Miss) (hfl : fl.length ≤ 100000) (bl : List WB) (hbl : bl.length ≤ 100000) (rf rb : Frag) (hF : IsFile c.mshrs fl pf rf) (hB : IsBuf c.writebacks bl pb rb) (hl : ∀ line, missOwing fl = some line → inR line c.lines = true ∧ R64 line) : Fn Tryz.prog 44 [.pointer (some ⟨p, 0, none⟩)] [CacP p c core pa pf pb, ArrF pa ba c a, rf, rb] (CacPost c core p pa ba pf pb (finV (⟨c, core, a, fl, bl⟩ : Cache).finish) (⟨c, core, a, fl, bl⟩ : Cache).finish.1) := by
  refine Fn.body Tryz.func44 rfl rfl rfl (Nat.le_of_ble_eq_true rfl) fun F => ?_
  refine TC.seq ?_
  refine TC.region ?_
  refine TL.nb NB.alloc (Wants.un rfl) rfl (fun b2 => ?_)
  refine .q (LD.assign rfl) rfl rfl ?_
  refine TL.nilS ?_
  refine TC.seq ?_
  refine TC.region ?_
  refine .q (LD.move rfl) rfl rfl ?_
  refine .q (LD.nilCheck rfl) rfl rfl ?_
  refine .q (LD.fieldAddr rfl) rfl rfl ?_
  refine .q (LD.ld1 rfl m1 rfl) rfl rfl ?_
  refine TL.cr (CL.func rfl) (w_mOwing c.mshrs fl pf rf hF hfl) m3 (Wants.un rfl) rfl ?_
  rintro _ rfl
  rw [owingV_eq]
  refine .q (LD.move rfl) rfl rfl ?_
  refine .q (LD.ex rfl rfl) rfl rfl ?_
  refine .q (LD.ex rfl rfl) rfl rfl ?_
  refine .q (LD.assign rfl) rfl rfl ?_
  refine .q (LD.assign rfl) rfl rfl ?_
  refine TL.nilS ?_
  refine TC.seq ?_
  refine TC.seq ?_
  refine TC.region ?_
  refine .q (LD.move rfl) rfl rfl ?_
  refine .q (LD.not rfl) rfl rfl ?_
  refine TL.nilS ?_
  refine TC.cond rfl (fun g1 => ?_) (fun g1 => ?_)
  · have h1 := g1
    try simp at h1
    refine TC.seq ?_
    refine TC.region ?_
    refine .q (LD.bS rfl rfl (by repeat constructor)) rfl rfl ?_
    refine .e (EF.stA (i := 0) rfl rfl rfl rfl rfl rfl (by repeat constructor)) rfl rfl ?_
    refine .q (LD.assign rfl) rfl rfl ?_
    refine TL.nilS ?_
    refine TC.ret ?_
    repeat first | refine Post.sr ?_ | refine Post.br ?_
    have e : (⟨c, core, a, fl, bl⟩ : Cache).finish = ((⟨c, core, a, fl, bl⟩ : Cache), none) := (by unfold Cache.finish; cases hq : missOwing fl <;> simp_all)
    exact Out.intro (X := [_]) (L' := [_, _, _, _]) (Res.c rfl (LV.aggL m0 (by repeat constructor) rfl) (Res.t rfl Res.z)) (by rw [e]; exact ⟨rfl, _, _, hF, hB, rfl⟩) (.refl _)
  · have h1 := g1
    try simp at h1
    refine TC.skipS ?_
    refine TC.seq ?_
    obtain ⟨line, hlo⟩ : ∃ line, missOwing fl = some line := by cases hq : missOwing fl <;> simp_all
    rw [hlo]
    simp only [Option.getD_some]
    obtain ⟨hin, hline⟩ := hl line hlo
    refine TC.region ?_
    refine .q (LD.move rfl) rfl rfl ?_
    refine .q (LD.nilCheck rfl) rfl rfl ?_
    refine .q (LD.fieldAddr rfl) rfl rfl ?_
    refine .q (LD.ld1 rfl m1 rfl) rfl rfl ?_
    refine .q (LD.move rfl) rfl rfl ?_
    refine TL.cw (CL.func rfl) (w_mClose c.mshrs fl pf rf hF hfl line) (i := 3) rfl (Wants.un rfl) rfl ?_
    rintro _ rf2 ⟨rfl, hF2⟩
    refine TL.nilS ?_
    refine TC.seq ?_
    refine TC.region ?_
    refine .q (LD.move rfl) rfl rfl ?_
    refine .q (LD.nilCheck rfl) rfl rfl ?_
    refine .q (LD.fieldAddr rfl) rfl rfl ?_
    refine .q (LD.ld1 rfl m1 rfl) rfl rfl ?_
    refine .q (LD.move rfl) rfl rfl ?_
    refine TL.cw (CL.func rfl) (w_Lock c hc hok a ha pa ba hpab line hline false) (i := 2) rfl (Wants.un rfl) rfl ?_
    rintro _ _ ⟨rfl, rfl⟩
    refine TL.nilS ?_
    refine TC.seq ?_
    refine TC.region ?_
    refine .q (LD.move rfl) rfl rfl ?_
    refine .q (LD.move rfl) rfl rfl ?_
    refine TL.clX (X := [_]) (pre := [_]) (CL.func rfl) (w_home c hc hok core p pa pf pb 11 line hin hline) rfl (Wants.un rfl) rfl ?_
    rintro _ _ ⟨rfl, rfl⟩
    refine .e (EF.stA (i := 0) rfl rfl rfl rfl rfl rfl (by repeat constructor)) rfl rfl ?_
    refine .q (LD.assign rfl) rfl rfl ?_
    refine TL.nilS ?_
    refine TC.ret ?_
    repeat first | refine Post.sr ?_ | refine Post.br ?_
    have e : (⟨c, core, a, fl, bl⟩ : Cache).finish = (⟨c, core, lockWay c a line false, missClose fl line, bl⟩, some ((⟨c, core, a, fl, bl⟩ : Cache).home 11 line)) := (by unfold Cache.finish; simp_all)
    exact Out.intro (X := [_]) (L' := [_, _, _, _]) (Res.c rfl (LV.aggL m0 (by repeat constructor) rfl) (Res.t rfl Res.z)) (by rw [e]; exact ⟨rfl, _, _, hF2, hB, rfl⟩) (.refl _)

open Mes in
def lineOrZ (c : Cfg) (x : Mes.Op) : Int := if inR x.addr c.size then c.lineOf x.addr else 0
open Mes in
theorem applyOp_err {c : Cfg} {w : Words} {x : Mes.Op} (h : ¬ (applyOp c w x).2.2 = 0) : applyOp c w x = (Words.zero, 0, 1) := by
  unfold applyOp at h ⊢
  split
  · rfl
  · simp_all

open Mes in
theorem w_Do (c : Cfg) (hc : CfgR c) (hok : c.ok = true) (core : Int) (a : List Mes.Way) (ha : (a.length : Int) = c.sets * c.ways) (p pa ba pf pb : Nat) (hpab : pa ≠ ba) (fl : List Miss) (hfl : fl.length ≤ 100000) (bl : List WB) (hbl : bl.length ≤ 100000) (rf rb : Frag) (hF : IsFile c.mshrs fl pf rf) (hB : IsBuf c.writebacks bl pb rb) (x : Mes.Op) (hx : R64 x.addr) : Fn Tryz.prog 21 [.pointer (some ⟨p, 0, none⟩), .agg (encO x).toArray] [CacP p c core pa pf pb, ArrF pa ba c a, rf, rb] (CacPost c core p pa ba pf pb (doV ((⟨c, core, a, fl, bl⟩ : Cache).do x)) ((⟨c, core, a, fl, bl⟩ : Cache).do x).1) := by
  refine Fn.body Tryz.func21 rfl rfl rfl (Nat.le_of_ble_eq_true rfl) fun F => ?_
  have hline : R64 (lineOrZ c x) := by
    unfold lineOrZ
    split
    · rename_i hin
      simp only [inR, Bool.and_eq_true, decide_eq_true_eq] at hin
      have h0 : 0 ≤ x.addr / c.words := Int.ediv_nonneg hin.1 (by obtain ⟨j, _, e, _⟩ := (okS hok).words; have := pow_pos j; omega)
      have h1 : x.addr / c.words ≤ x.addr := Int.ediv_le_self _ hin.1
      have := hx.2
      exact ⟨by unfold Cfg.lineOf; omega, by unfold Cfg.lineOf; omega⟩
    · exact ⟨by omega, by omega⟩
  refine TC.seq ?_
  refine TC.region ?_
  refine TL.nb (NB.boxA rfl) (Wants.un rfl) rfl (fun b3 => ?_)
  refine .q (LD.assign rfl) rfl rfl ?_
  refine .q (LD.assign rfl) rfl rfl ?_
  refine TL.nilS ?_
  refine TC.seq ?_
  refine TC.draw0 [0, 0, 0, 0, 0, 0, 2, 0, 0, 0, 0, 0, 0, 0] [0, 1, 2, 3, 4, 5, 6, 7, 8, 9, 10, 11, 12, 13] TryzI.mixed (by decide +kernel) (by decide) ?_
  refine .q rfl rfl (LD.move rfl) rfl rfl ?_
  refine .q rfl rfl (LD.nilCheck rfl) rfl rfl ?_
  refine .q rfl rfl (LD.fieldAddr rfl) rfl rfl ?_
  refine .q rfl rfl (LD.ldA rfl m1 (by repeat constructor) rfl) rfl rfl ?_
  refine .q rfl rfl (LD.fieldAddr rfl) rfl rfl ?_
  refine .q rfl rfl (LD.ld1 rfl m0 rfl) rfl rfl ?_
  refine TD.cp rfl rfl (CL.func rfl) (w_Addr c hc x.addr hx) (Wants.un rfl) rfl ?_
  rintro _ rfl
  rw [hok, Bool.true_and, show (bif inR x.addr c.size then x.addr / c.words else 0) = lineOrZ c x by unfold lineOrZ; cases inR x.addr c.size <;> rfl]
  refine .q rfl rfl (LD.move rfl) rfl rfl ?_
  refine .q rfl rfl (LD.ex rfl rfl) rfl rfl ?_
  refine .q rfl rfl (LD.ex rfl rfl) rfl rfl ?_
  refine .q rfl rfl (LD.ex rfl rfl) rfl rfl ?_
  refine .q rfl rfl (LD.assign rfl) rfl rfl ?_
  refine .q rfl rfl (LD.assign rfl) rfl rfl ?_
  refine .q rfl rfl (LD.assign rfl) rfl rfl ?_
  refine TD.nilT ?_
  refine TC.seq ?_
  refine TC.region ?_
  refine .q (LD.move rfl) rfl rfl ?_
  refine .q (LD.move rfl) rfl rfl ?_
  refine TL.clX (X := [_]) (pre := [_, _]) (CL.func rfl) (w_Look c hc hok core a ha p pa ba pf pb hpab (lineOrZ c x) hline) rfl (Wants.un rfl) rfl ?_
  rintro _ _ ⟨rfl, rfl⟩
  refine .q (LD.move rfl) rfl rfl ?_
  refine .q (LD.ex rfl rfl) rfl rfl ?_
  refine .q (LD.ex rfl rfl) rfl rfl ?_
  refine TL.nb NB.alloc (Wants.un rfl) rfl (fun b9 => ?_)
  refine .e (EF.stA (i := 0) rfl rfl rfl rfl rfl rfl (by repeat constructor)) rfl rfl ?_
  refine .q (LD.assign rfl) rfl rfl ?_
  refine TL.nilS ?_
  refine TC.seq ?_
  refine TC.drawX (R := [_, _, _]) [0, 0, 0, 0, 0, 0, 0, 2, 0, 0, 0, 0, 4, 2, 0, 0] [0, 1, 2, 3, 4, 5, 6, 7, 8, 9, 10, 11, 12, 13, 14, 15] TryzI.mixed (by decide +kernel) (lay1 12 (by decide) (fun o h => by injection h with h; subst h; exact Lays.alloc)) rfl ?_
  refine .q rfl rfl (LD.move rfl) rfl rfl ?_
  refine .q rfl rfl (LD.nilCheck rfl) rfl rfl ?_
  refine .q rfl rfl (LD.fieldAddr rfl) rfl rfl ?_
  refine .q rfl rfl (LD.ldA rfl m2 (by repeat constructor) rfl) rfl rfl ?_
  refine .q rfl rfl (LD.fieldAddr rfl) rfl rfl ?_
  refine .q rfl rfl (LD.ldA rfl m0 (by repeat constructor) rfl) rfl rfl ?_
  refine .q rfl rfl (LD.ldA rfl m1 (by repeat constructor) rfl) rfl rfl ?_
  refine TD.cpF rfl rfl (CL.func rfl) (w_Apply c hc (lookWay c a (lineOrZ c x)).words x hx) (Wants.un rfl) rfl ?_
  rintro _ rfl
  obtain ⟨ws, nn, ee, hap⟩ : ∃ ws nn ee, applyOp c (lookWay c a (lineOrZ c x)).words x = (ws, nn, ee) := ⟨_, _, _, rfl⟩
  rw [hap, applyV]
  simp only
  refine .q rfl rfl (LD.move rfl) rfl rfl ?_
  refine .q rfl rfl (LD.ex rfl rfl) rfl rfl ?_
  refine .q rfl rfl (LD.ex rfl rfl) rfl rfl ?_
  refine .q rfl rfl (LD.ex rfl rfl) rfl rfl ?_
  refine TD.nb rfl rfl NB.alloc (Wants.un rfl) rfl (fun b11 => ?_)
  refine TD.efT (j := 0) rfl rfl (EF.stA (i := 0) rfl rfl rfl rfl rfl rfl (by repeat constructor)) rfl (Wants.un rfl) rfl ?_
  refine .q rfl rfl (LD.assign rfl) rfl rfl ?_
  refine .q rfl rfl (LD.assign rfl) rfl rfl ?_
  refine TD.nilX ?_
  refine TC.seq ?_
  refine TC.seq ?_
  refine TC.perm (List.perm_middle (l₁ := [_, _, _])) ?_
  refine TC.region ?_
  refine .q (LD.move rfl) rfl rfl ?_
  refine .q (LD.neq rfl rfl) rfl rfl ?_
  refine TL.nilS ?_
  refine TC.cond rfl (fun g1 => ?_) (fun g1 => ?_)
  · have h1 := g1
    try simp at h1
    refine TC.seq ?_
    refine TC.region ?_
    refine .q (LD.move rfl) rfl rfl ?_
    refine .q (LD.assign rfl) rfl rfl ?_
    refine .q (LD.assign rfl) rfl rfl ?_
    refine TL.nilS ?_
    refine TC.ret ?_
    repeat first | refine Post.sr ?_ | refine Post.br ?_
    have hlz : (if inR x.addr c.size = true then c.lineOf x.addr else 0) = lineOrZ c x := rfl
    have hne : ¬ ee = 0 := by assumption
    have h1 := applyOp_err (c := c) (w := (lookWay c a (lineOrZ c x)).words) (x := x) (by rw [hap]; exact hne)
    rw [hap] at h1
    have h2 : ee = 1 := congrArg (fun q => q.2.2) h1
    have e : (⟨c, core, a, fl, bl⟩ : Cache).do x = ((⟨c, core, a, fl, bl⟩ : Cache), 0, ee) := (by unfold Cache.do; simp only [Cache.look, hlz, hap]; rw [if_pos hne])
    exact Out.intro (X := [_, _, _]) (L' := [_, _, _, _]) (Res.t rfl (Res.t rfl Res.z)) (by rw [e]; exact ⟨rfl, _, _, hF, hB, rfl⟩) (.refl _)
  · have h1 := g1
    try simp at h1
    refine TC.skipS ?_
    refine TC.seq ?_
    refine TC.region ?_
    refine .q (LD.assign rfl) rfl rfl ?_
    refine TL.nilS ?_
    refine TC.seq ?_
    refine TC.seq ?_
    refine TC.region ?_
    refine .q (LD.fieldAddr rfl) rfl rfl ?_
    refine .q (LD.ld1 rfl m2 rfl) rfl rfl ?_
    refine .q (LD.eql rfl rfl) rfl rfl ?_
    refine TL.nilS ?_
    refine TC.cond rfl (fun g2 => ?_) (fun g2 => ?_)
    · have h2 := g2
      try simp at h2
      refine TC.region ?_
      refine .q (LD.assign rfl) rfl rfl ?_
      refine TL.nilS ?_
      refine TC.seq ?_
      refine TC.block ?_
      refine TC.seq ?_
      refine TC.region ?_
      refine .q (LD.move rfl) rfl rfl ?_
      refine .q (LD.move rfl) rfl rfl ?_
      refine .q (LD.move rfl) rfl rfl ?_
      refine TL.clX (X := [_, _, _]) (pre := [_, _]) (CL.func rfl) (w_can c hc hok core a ha p pa ba pf pb hpab (lineOrZ c x) _ hline) rfl (Wants.un rfl) rfl ?_
      rintro _ _ ⟨rfl, rfl⟩
      refine .q (LD.not rfl) rfl rfl ?_
      refine .q (LD.assign rfl) rfl rfl ?_
      refine TL.nilS ?_
      refine TC.cond rfl (fun g3 => ?_) (fun g3 => ?_)
      · have h3 := g3
        try simp at h3
        refine TC.seq ?_
        refine TC.region ?_
        refine .q (LD.assign rfl) rfl rfl ?_
        refine .q (LD.assign rfl) rfl rfl ?_
        refine TL.nilS ?_
        refine TC.ret ?_
        repeat first | refine Post.sr ?_ | refine Post.br ?_
        have hlz : (if inR x.addr c.size = true then c.lineOf x.addr else 0) = lineOrZ c x := rfl
        have e : (⟨c, core, a, fl, bl⟩ : Cache).do x = ((⟨c, core, a, fl, bl⟩ : Cache), 0, 5) := (by unfold Cache.do; simp only [Cache.look, Cache.can, hlz, hap]; simp_all [opKind])
        exact Out.intro (X := [_, _, _]) (L' := [_, _, _, _]) (Res.t rfl (Res.t rfl Res.z)) (by rw [e]; exact ⟨rfl, _, _, hF, hB, rfl⟩) (.refl _)
      · have h3 := g3
        try simp at h3
        refine TC.seq ?_
        refine TC.region ?_
        refine .q (LD.move rfl) rfl rfl ?_
        refine .q (LD.eql rfl rfl) rfl rfl ?_
        refine .q (LD.assign rfl) rfl rfl ?_
        refine TL.nilS ?_
        refine TC.condF rfl rfl ?_
        refine TC.skip ?_
        refine TC.seq ?_
        refine TC.region ?_
        refine .q (LD.move rfl) rfl rfl ?_
        refine .q (LD.assign rfl) rfl rfl ?_
        refine .q (LD.assign rfl) rfl rfl ?_
        refine TL.nilS ?_
        refine TC.ret ?_
        repeat first | refine Post.sr ?_ | refine Post.br ?_
        have hlz : (if inR x.addr c.size = true then c.lineOf x.addr else 0) = lineOrZ c x := rfl
        have e : (⟨c, core, a, fl, bl⟩ : Cache).do x = ((⟨c, core, a, fl, bl⟩ : Cache), nn, 0) := (by unfold Cache.do; simp only [Cache.look, Cache.can, hlz, hap]; simp_all [opKind])
        exact Out.intro (X := [_, _, _]) (L' := [_, _, _, _]) (Res.t rfl (Res.t rfl Res.z)) (by rw [e]; exact ⟨rfl, _, _, hF, hB, rfl⟩) (.refl _)
    · have h2 := g2
      try simp at h2
      refine TC.skipS ?_
      refine TC.seq ?_
      refine TC.block ?_
      refine TC.seq ?_
      refine TC.region ?_
      refine .q (LD.move rfl) rfl rfl ?_
      refine .q (LD.move rfl) rfl rfl ?_
      refine .q (LD.move rfl) rfl rfl ?_
      refine TL.clX (X := [_, _, _]) (pre := [_, _]) (CL.func rfl) (w_can c hc hok core a ha p pa ba pf pb hpab (lineOrZ c x) _ hline) rfl (Wants.un rfl) rfl ?_
      rintro _ _ ⟨rfl, rfl⟩
      refine .q (LD.not rfl) rfl rfl ?_
      refine .q (LD.assign rfl) rfl rfl ?_
      refine TL.nilS ?_
      refine TC.cond rfl (fun g4 => ?_) (fun g4 => ?_)
      · have h4 := g4
        try simp at h4
        refine TC.seq ?_
        refine TC.region ?_
        refine .q (LD.assign rfl) rfl rfl ?_
        refine .q (LD.assign rfl) rfl rfl ?_
        refine TL.nilS ?_
        refine TC.ret ?_
        repeat first | refine Post.sr ?_ | refine Post.br ?_
        have hlz : (if inR x.addr c.size = true then c.lineOf x.addr else 0) = lineOrZ c x := rfl
        have e : (⟨c, core, a, fl, bl⟩ : Cache).do x = ((⟨c, core, a, fl, bl⟩ : Cache), 0, 5) := (by unfold Cache.do; simp only [Cache.look, Cache.can, hlz, hap]; simp_all [opKind])
        exact Out.intro (X := [_, _, _]) (L' := [_, _, _, _]) (Res.t rfl (Res.t rfl Res.z)) (by rw [e]; exact ⟨rfl, _, _, hF, hB, rfl⟩) (.refl _)
      · have h4 := g4
        try simp at h4
        refine TC.seq ?_
        refine TC.region ?_
        refine .q (LD.move rfl) rfl rfl ?_
        refine .q (LD.eql rfl rfl) rfl rfl ?_
        refine .q (LD.assign rfl) rfl rfl ?_
        refine TL.nilS ?_
        refine TC.condT rfl rfl ?_
        refine TC.drawX (R := [_, _, _, _]) [0, 0, 0, 0, 0, 0, 2] [0, 1, 2, 3, 4, 5, 6] TryzI.mixed (by decide +kernel) (no4 (by decide)) rfl ?_
        refine .q rfl rfl (LD.move rfl) rfl rfl ?_
        refine .q rfl rfl (LD.nilCheck rfl) rfl rfl ?_
        refine .q rfl rfl (LD.fieldAddr rfl) rfl rfl ?_
        refine .q rfl rfl (LD.ld1 rfl m3 rfl) rfl rfl ?_
        refine .q rfl rfl (LD.move rfl) rfl rfl ?_
        refine .q rfl rfl (LD.ldA rfl m0 (by repeat constructor) rfl) rfl rfl ?_
        refine TD.cwX rfl rfl (CL.func rfl) (w_Set c hc hok a ha pa ba hpab (lineOrZ c x) hline 4 ws) (j := 0) rfl (Wants.un rfl) rfl ?_
        rintro _ _ ⟨rfl, rfl⟩
        have hal : ((setWay c a (lineOrZ c x) 4 ws).length : Int) = c.sets * c.ways := by rw [setWay_len]; exact ha
        refine TD.nilX ?_
        refine TC.seq ?_
        refine TC.region ?_
        refine .q (LD.move rfl) rfl rfl ?_
        refine .q (LD.assign rfl) rfl rfl ?_
        refine .q (LD.assign rfl) rfl rfl ?_
        refine TL.nilS ?_
        refine TC.ret ?_
        repeat first | refine Post.sr ?_ | refine Post.br ?_
        have hlz : (if inR x.addr c.size = true then c.lineOf x.addr else 0) = lineOrZ c x := rfl
        have e : (⟨c, core, a, fl, bl⟩ : Cache).do x = (⟨c, core, setWay c a (lineOrZ c x) 4 ws, fl, bl⟩, nn, 0) := (by unfold Cache.do; simp only [Cache.look, Cache.can, hlz, hap]; simp_all [opKind])
        exact Out.intro (X := [_, _, _]) (L' := [_, _, _, _]) (Res.t rfl (Res.t rfl Res.z)) (by rw [e]; exact ⟨rfl, _, _, hF, hB, rfl⟩) (.refl _)

open Mes in
theorem take_6 {c : Cfg} {core : Int} {a : List Mes.Way} {fl : List Miss} {bl : List WB} {m : Msg} (h : ¬ (!m.may c || toHome m.kind || m.to != core) = true) (hk : m.kind = 4) : (⟨c, core, a, fl, bl⟩ : Cache).take m = ((⟨c, core, a, fl, bl⟩ : Cache).tell m 1 3 false) := by
  unfold Cache.take; rw [if_neg h]; rw [if_pos hk]

open Mes in
theorem take_8 {c : Cfg} {core : Int} {a : List Mes.Way} {fl : List Miss} {bl : List WB} {m : Msg} (h : ¬ (!m.may c || toHome m.kind || m.to != core) = true) (hk : m.kind = 5) : (⟨c, core, a, fl, bl⟩ : Cache).take m = ((⟨c, core, a, fl, bl⟩ : Cache).tell m 4 0 true) := by
  unfold Cache.take; rw [if_neg h]; rw [if_neg (by omega)]; rw [if_pos hk]

open Mes in
theorem take_10 {c : Cfg} {core : Int} {a : List Mes.Way} {fl : List Miss} {bl : List WB} {m : Msg} (h : ¬ (!m.may c || toHome m.kind || m.to != core) = true) (hk : m.kind = 6) : (⟨c, core, a, fl, bl⟩ : Cache).take m = ((⟨c, core, a, fl, bl⟩ : Cache).inv m) := by
  unfold Cache.take; rw [if_neg h]; rw [if_neg (by omega)]; rw [if_neg (by omega)]; rw [if_pos hk]

open Mes in
theorem take_12 {c : Cfg} {core : Int} {a : List Mes.Way} {fl : List Miss} {bl : List WB} {m : Msg} (h : ¬ (!m.may c || toHome m.kind || m.to != core) = true) (hk : m.kind = 7) : (⟨c, core, a, fl, bl⟩ : Cache).take m = ((⟨c, core, a, (missData fl m.line m.acks m.own m.words).1, bl⟩ : Cache).filled m.line (missData fl m.line m.acks m.own m.words).2) := by
  unfold Cache.take; rw [if_neg h]; rw [if_neg (by omega)]; rw [if_neg (by omega)]; rw [if_neg (by omega)]; rw [if_pos hk]

open Mes in
theorem take_14 {c : Cfg} {core : Int} {a : List Mes.Way} {fl : List Miss} {bl : List WB} {m : Msg} (h : ¬ (!m.may c || toHome m.kind || m.to != core) = true) (hk : m.kind = 8) : (⟨c, core, a, fl, bl⟩ : Cache).take m = (if (lookWay c a m.line).state ≠ 3 then ((⟨c, core, a, fl, bl⟩ : Cache), Msg.none, false, 7) else (⟨c, core, a, (missGrant fl m.line m.acks).1, bl⟩ : Cache).filled m.line (missGrant fl m.line m.acks).2) := by
  unfold Cache.take; rw [if_neg h]; rw [if_neg (by omega)]; rw [if_neg (by omega)]; rw [if_neg (by omega)]; rw [if_neg (by omega)]; rw [if_pos hk]
  rfl

open Mes in
theorem take_16 {c : Cfg} {core : Int} {a : List Mes.Way} {fl : List Miss} {bl : List WB} {m : Msg} (h : ¬ (!m.may c || toHome m.kind || m.to != core) = true) (hk : m.kind = 9) : (⟨c, core, a, fl, bl⟩ : Cache).take m = ((⟨c, core, a, (missAck fl m.line).1, bl⟩ : Cache).filled m.line (missAck fl m.line).2) := by
  unfold Cache.take; rw [if_neg h]; rw [if_neg (by omega)]; rw [if_neg (by omega)]; rw [if_neg (by omega)]; rw [if_neg (by omega)]; rw [if_neg (by omega)]; rw [if_pos hk]

open Mes in
theorem take_0 {c : Cfg} {core : Int} {a : List Mes.Way} {fl : List Miss} {bl : List WB} {m : Msg} (h : ¬ (!m.may c || toHome m.kind || m.to != core) = true) (hk : m.kind ≠ 4 ∧ m.kind ≠ 5 ∧ m.kind ≠ 6 ∧ m.kind ≠ 7 ∧ m.kind ≠ 8 ∧ m.kind ≠ 9) : (⟨c, core, a, fl, bl⟩ : Cache).take m = (paR (⟨c, core, a, fl, bl⟩ : Cache) m) := by
  unfold Cache.take; rw [if_neg h]; rw [if_neg (by omega)]; rw [if_neg (by omega)]; rw [if_neg (by omega)]; rw [if_neg (by omega)]; rw [if_neg (by omega)]; rw [if_neg (by omega)]
  rfl
open Mes in
theorem w_Take (c : Cfg) (hc : CfgR c) (hok : c.ok = true) (core : Int) (a : List Mes.Way) (ha : (a.length : Int) = c.sets * c.ways) (p pa ba pf pb : Nat) (hpab : pa ≠ ba) (fl : List Miss) (hfl : fl.length ≤ 100000) (bl : List WB) (hbl : bl.length ≤ 100000) (rf rb : Frag) (hF : IsFile c.mshrs fl pf rf) (hB : IsBuf c.writebacks bl pb rb) (m : Msg) (hline : R64 m.line) (hgot : ∀ x, missOf fl m.line = some x → -1000000000 ≤ x.got ∧ x.got ≤ 1000000000) : Fn Tryz.prog 24 [.pointer (some ⟨p, 0, none⟩), .agg (encMsg m).toArray] [CacP p c core pa pf pb, ArrF pa ba c a, rf, rb] (CacPost c core p pa ba pf pb (evictV ((⟨c, core, a, fl, bl⟩ : Cache).take m)) ((⟨c, core, a, fl, bl⟩ : Cache).take m).1) := by
  refine Fn.body Tryz.func24 rfl rfl rfl (Nat.le_of_ble_eq_true rfl) fun F => ?_
  refine TC.seq ?_
  refine TC.region ?_
  refine TL.nb (NB.boxA rfl) (Wants.un rfl) rfl (fun b3 => ?_)
  refine TL.nb NB.alloc (Wants.un rfl) rfl (fun b4 => ?_)
  refine .q (LD.assign rfl) rfl rfl ?_
  refine .q (LD.assign rfl) rfl rfl ?_
  refine TL.nilS ?_
  refine TC.seq ?_
  refine TC.seq ?_
  refine TC.draw0 [0, 0, 0, 0, 0, 2, 0, 0, 0, 0, 2, 0, 0, 0, 0, 0, 0, 0, 0, 0, 0] [0, 1, 2, 3, 4, 5, 6, 7, 8, 9, 10, 11, 12, 13, 14, 15, 16, 17, 18, 19, 20] TryzI.mixed (by decide +kernel) (by decide) ?_
  refine .q rfl rfl (LD.move rfl) rfl rfl ?_
  refine .q rfl rfl (LD.nilCheck rfl) rfl rfl ?_
  refine .q rfl rfl (LD.fieldAddr rfl) rfl rfl ?_
  refine .q rfl rfl (LD.ldA rfl m2 (by repeat constructor) rfl) rfl rfl ?_
  refine .q rfl rfl (LD.ldA rfl m1 (by repeat constructor) rfl) rfl rfl ?_
  refine TD.cp rfl rfl (CL.func rfl) (w_mMay c hc m) (Wants.un rfl) rfl ?_
  rintro _ rfl
  refine .q rfl rfl (LD.not rfl) rfl rfl ?_
  refine .q rfl rfl (LD.move rfl) rfl rfl ?_
  refine TD.split rfl rfl rfl rfl rfl (fun g1 => ?_) (fun g1 => ?_)
  · have h1 := g1
    try simp at h1
    refine .y rfl rfl (LD.fieldAddr rfl) g1 rfl rfl rfl rfl ?_
    refine .y rfl rfl (LD.ld1 rfl m1 rfl) g1 rfl rfl rfl rfl ?_
    refine TD.cp rfl rfl (CL.func rfl) (w_toHome m.kind) (Wants.yes rfl rfl rfl g1) rfl ?_
    rintro _ rfl
    refine .q rfl rfl (LD.pickF rfl g1 rfl) rfl rfl ?_
    refine .q rfl rfl (LD.move rfl) rfl rfl ?_
    refine TD.split rfl rfl rfl rfl rfl (fun g2 => ?_) (fun g2 => ?_)
    · have h2 := g2
      try simp at h2
      refine .y rfl rfl (LD.fieldAddr rfl) g2 rfl rfl rfl rfl ?_
      refine .y rfl rfl (LD.ld1 rfl m1 rfl) g2 rfl rfl rfl rfl ?_
      refine .y rfl rfl (LD.move rfl) g2 rfl rfl rfl rfl ?_
      refine .y rfl rfl (LD.nilCheck rfl) g2 rfl rfl rfl rfl ?_
      refine .y rfl rfl (LD.fieldAddr rfl) g2 rfl rfl rfl rfl ?_
      refine .y rfl rfl (LD.ld1 rfl m2 rfl) g2 rfl rfl rfl rfl ?_
      refine .y rfl rfl (LD.neq rfl rfl) g2 rfl rfl rfl rfl ?_
      refine .q rfl rfl (LD.pickF rfl g2 rfl) rfl rfl ?_
      refine TD.nilT ?_
      refine TC.cond rfl (fun g3 => ?_) (fun g3 => ?_)
      · have h3 := g3
        try simp at h3
        refine TC.seq ?_
        refine TC.region ?_
        refine .q (LD.bS rfl rfl (by repeat constructor)) rfl rfl ?_
        refine .e (EF.stA (i := 0) rfl rfl rfl rfl rfl rfl (by repeat constructor)) rfl rfl ?_
        refine .q (LD.assign rfl) rfl rfl ?_
        refine .q (LD.assign rfl) rfl rfl ?_
        refine TL.nilS ?_
        refine TC.ret ?_
        repeat first | refine Post.sr ?_ | refine Post.br ?_
        have e : (⟨c, core, a, fl, bl⟩ : Cache).take m = ((⟨c, core, a, fl, bl⟩ : Cache), Msg.none, false, 1) := (by unfold Cache.take; rw [if_pos (by simp_all [bne_int])])
        exact Out.intro (X := [_, _]) (L' := [_, _, _, _]) (Res.c rfl (LV.aggL m0 (by repeat constructor) rfl) (Res.t rfl (Res.t rfl Res.z))) (by rw [e]; exact ⟨rfl, _, _, hF, hB, rfl⟩) (.refl _)
      · have h3 := g3
        try simp at h3
        refine TC.skipS ?_
        refine TC.seq ?_
        refine TC.region ?_
        refine .q (LD.assign rfl) rfl rfl ?_
        refine TL.nilS ?_
        refine TC.seq ?_
        refine TC.seq ?_
        refine TC.region ?_
        refine .q (LD.fieldAddr rfl) rfl rfl ?_
        refine .q (LD.ld1 rfl m1 rfl) rfl rfl ?_
        refine TL.nilS ?_
        refine TC.block ?_
        refine TC.seq ?_
        refine TC.region ?_
        refine .q (LD.eql rfl rfl) rfl rfl ?_
        refine .q (LD.assign rfl) rfl rfl ?_
        refine TL.nilS ?_
        refine TC.cond rfl (fun g4 => ?_) (fun g4 => ?_)
        · have h4 := g4
          try simp at h4
          refine TC.region ?_
          refine .q (LD.assign rfl) rfl rfl ?_
          refine TL.nil ?_
          refine TC.seq ?_
          refine TC.region ?_
          refine .q (LD.move rfl) rfl rfl ?_
          refine .q (LD.move rfl) rfl rfl ?_
          refine .q (LD.ldA rfl m1 (by repeat constructor) rfl) rfl rfl ?_
          refine TL.clX (X := [_, _]) (pre := [_, _, _, _]) (CL.clos (first := []) (cap := []) rfl rfl) (w_fwdS c hc hok core a ha p pa ba pf pb hpab fl hfl bl hbl rf rb hF hB m hline) rfl (Wants.un rfl) rfl ?_
          intro u L2 hpost
          obtain ⟨R, hR⟩ : ∃ R, R = ((⟨c, core, a, fl, bl⟩ : Cache).tell m 1 3 false) := ⟨_, rfl⟩
          rw [← hR] at hpost
          obtain ⟨rfl, rf2, rb2, hF2, hB2, rfl⟩ := hpost
          rw [ansV]
          refine .q (LD.move rfl) rfl rfl ?_
          refine .q (LD.ex rfl rfl) rfl rfl ?_
          refine .q (LD.ex rfl rfl) rfl rfl ?_
          refine TL.nb NB.alloc (Wants.un rfl) rfl (fun b8 => ?_)
          refine .e (EF.stA (i := 0) rfl rfl rfl rfl rfl rfl (by repeat constructor)) rfl rfl ?_
          refine .q (LD.assign rfl) rfl rfl ?_
          refine TL.nilS ?_
          refine TC.seq ?_
          refine TC.drawX (R := [_]) [0, 0, 0, 0, 0, 2, 0, 0] [0, 1, 2, 3, 4, 5, 6, 7] TryzI.mixed (by decide +kernel) (no4 (by decide)) rfl ?_
          refine .q rfl rfl (LD.fieldAddr rfl) rfl rfl ?_
          refine .q rfl rfl (LD.ldA rfl m0 (by repeat constructor) rfl) rfl rfl ?_
          refine .q rfl rfl (LD.fieldAddr rfl) rfl rfl ?_
          refine .q rfl rfl (LD.ld1 rfl m0 rfl) rfl rfl ?_
          refine .q rfl rfl (LD.move rfl) rfl rfl ?_
          refine TD.efF (j := 0) rfl rfl (EF.stA (i := 0) rfl rfl rfl rfl rfl rfl (by repeat constructor)) rfl (Wants.un rfl) rfl ?_
          refine .q rfl rfl (LD.assign rfl) rfl rfl ?_
          refine .q rfl rfl (LD.assign rfl) rfl rfl ?_
          refine TD.nilX ?_
          refine TC.ret ?_
          repeat first | refine Post.sr ?_ | refine Post.br ?_
          have hcond : ¬ (!m.may c || toHome m.kind || m.to != core) = true := (by simp_all [bne_int])
          have e : (⟨c, core, a, fl, bl⟩ : Cache).take m = R := (by
            rw [hR]
            exact take_6 hcond (by omega))
          exact Out.intro (X := [_, _, _]) (L' := [_, _, _, _]) (Res.c rfl (LV.aggL m1 (by repeat constructor) rfl) (Res.t rfl (Res.t rfl Res.z))) (by rw [e]; exact ⟨rfl, _, _, hF2, hB2, rfl⟩) (.refl _)
        · have h4 := g4
          try simp at h4
          refine TC.seq ?_
          refine TC.region ?_
          refine .q (LD.eql rfl rfl) rfl rfl ?_
          refine .q (LD.assign rfl) rfl rfl ?_
          refine TL.nilS ?_
          refine TC.cond rfl (fun g5 => ?_) (fun g5 => ?_)
          · have h5 := g5
            try simp at h5
            refine TC.region ?_
            refine .q (LD.assign rfl) rfl rfl ?_
            refine TL.nil ?_
            refine TC.seq ?_
            refine TC.region ?_
            refine .q (LD.move rfl) rfl rfl ?_
            refine .q (LD.move rfl) rfl rfl ?_
            refine .q (LD.ldA rfl m1 (by repeat constructor) rfl) rfl rfl ?_
            refine TL.clX (X := [_, _]) (pre := [_, _, _, _]) (CL.clos (first := []) (cap := []) rfl rfl) (w_fwdM c hc hok core a ha p pa ba pf pb hpab fl hfl bl hbl rf rb hF hB m hline) rfl (Wants.un rfl) rfl ?_
            intro u L2 hpost
            obtain ⟨R, hR⟩ : ∃ R, R = ((⟨c, core, a, fl, bl⟩ : Cache).tell m 4 0 true) := ⟨_, rfl⟩
            rw [← hR] at hpost
            obtain ⟨rfl, rf2, rb2, hF2, hB2, rfl⟩ := hpost
            rw [ansV]
            refine .q (LD.move rfl) rfl rfl ?_
            refine .q (LD.ex rfl rfl) rfl rfl ?_
            refine .q (LD.ex rfl rfl) rfl rfl ?_
            refine TL.nb NB.alloc (Wants.un rfl) rfl (fun b8 => ?_)
            refine .e (EF.stA (i := 0) rfl rfl rfl rfl rfl rfl (by repeat constructor)) rfl rfl ?_
            refine .q (LD.assign rfl) rfl rfl ?_
            refine TL.nilS ?_
            refine TC.seq ?_
            refine TC.drawX (R := [_]) [0, 0, 0, 0, 0, 2, 0, 0] [0, 1, 2, 3, 4, 5, 6, 7] TryzI.mixed (by decide +kernel) (no4 (by decide)) rfl ?_
            refine .q rfl rfl (LD.fieldAddr rfl) rfl rfl ?_
            refine .q rfl rfl (LD.ldA rfl m0 (by repeat constructor) rfl) rfl rfl ?_
            refine .q rfl rfl (LD.fieldAddr rfl) rfl rfl ?_
            refine .q rfl rfl (LD.ld1 rfl m0 rfl) rfl rfl ?_
            refine .q rfl rfl (LD.move rfl) rfl rfl ?_
            refine TD.efF (j := 0) rfl rfl (EF.stA (i := 0) rfl rfl rfl rfl rfl rfl (by repeat constructor)) rfl (Wants.un rfl) rfl ?_
            refine .q rfl rfl (LD.assign rfl) rfl rfl ?_
            refine .q rfl rfl (LD.assign rfl) rfl rfl ?_
            refine TD.nilX ?_
            refine TC.ret ?_
            repeat first | refine Post.sr ?_ | refine Post.br ?_
            have hcond : ¬ (!m.may c || toHome m.kind || m.to != core) = true := (by simp_all [bne_int])
            have e : (⟨c, core, a, fl, bl⟩ : Cache).take m = R := (by
              rw [hR]
              exact take_8 hcond (by omega))
            exact Out.intro (X := [_, _, _]) (L' := [_, _, _, _]) (Res.c rfl (LV.aggL m1 (by repeat constructor) rfl) (Res.t rfl (Res.t rfl Res.z))) (by rw [e]; exact ⟨rfl, _, _, hF2, hB2, rfl⟩) (.refl _)
          · have h5 := g5
            try simp at h5
            refine TC.seq ?_
            refine TC.region ?_
            refine .q (LD.eql rfl rfl) rfl rfl ?_
            refine .q (LD.assign rfl) rfl rfl ?_
            refine TL.nilS ?_
            refine TC.cond rfl (fun g6 => ?_) (fun g6 => ?_)
            · have h6 := g6
              try simp at h6
              refine TC.region ?_
              refine .q (LD.assign rfl) rfl rfl ?_
              refine TL.nil ?_
              refine TC.seq ?_
              refine TC.region ?_
              refine .q (LD.move rfl) rfl rfl ?_
              refine .q (LD.move rfl) rfl rfl ?_
              refine .q (LD.ldA rfl m1 (by repeat constructor) rfl) rfl rfl ?_
              refine TL.clX (X := [_, _]) (pre := [_, _, _, _]) (CL.clos (first := []) (cap := []) rfl rfl) (w_inv c hc hok core a ha p pa ba pf pb hpab fl hfl bl hbl rf rb hF hB m hline) rfl (Wants.un rfl) rfl ?_
              intro u L2 hpost
              obtain ⟨R, hR⟩ : ∃ R, R = ((⟨c, core, a, fl, bl⟩ : Cache).inv m) := ⟨_, rfl⟩
              rw [← hR] at hpost
              obtain ⟨rfl, rf2, rb2, hF2, hB2, rfl⟩ := hpost
              rw [ansV]
              refine .q (LD.move rfl) rfl rfl ?_
              refine .q (LD.ex rfl rfl) rfl rfl ?_
              refine .q (LD.ex rfl rfl) rfl rfl ?_
              refine TL.nb NB.alloc (Wants.un rfl) rfl (fun b8 => ?_)
              refine .e (EF.stA (i := 0) rfl rfl rfl rfl rfl rfl (by repeat constructor)) rfl rfl ?_
              refine .q (LD.assign rfl) rfl rfl ?_
              refine TL.nilS ?_
              refine TC.seq ?_
              refine TC.drawX (R := [_]) [0, 0, 0, 0, 0, 2, 0, 0] [0, 1, 2, 3, 4, 5, 6, 7] TryzI.mixed (by decide +kernel) (no4 (by decide)) rfl ?_
              refine .q rfl rfl (LD.fieldAddr rfl) rfl rfl ?_
              refine .q rfl rfl (LD.ldA rfl m0 (by repeat constructor) rfl) rfl rfl ?_
              refine .q rfl rfl (LD.fieldAddr rfl) rfl rfl ?_
              refine .q rfl rfl (LD.ld1 rfl m0 rfl) rfl rfl ?_
              refine .q rfl rfl (LD.move rfl) rfl rfl ?_
              refine TD.efF (j := 0) rfl rfl (EF.stA (i := 0) rfl rfl rfl rfl rfl rfl (by repeat constructor)) rfl (Wants.un rfl) rfl ?_
              refine .q rfl rfl (LD.assign rfl) rfl rfl ?_
              refine .q rfl rfl (LD.assign rfl) rfl rfl ?_
              refine TD.nilX ?_
              refine TC.ret ?_
              repeat first | refine Post.sr ?_ | refine Post.br ?_
              have hcond : ¬ (!m.may c || toHome m.kind || m.to != core) = true := (by simp_all [bne_int])
              have e : (⟨c, core, a, fl, bl⟩ : Cache).take m = R := (by
                rw [hR]
                exact take_10 hcond (by omega))
              exact Out.intro (X := [_, _, _]) (L' := [_, _, _, _]) (Res.c rfl (LV.aggL m1 (by repeat constructor) rfl) (Res.t rfl (Res.t rfl Res.z))) (by rw [e]; exact ⟨rfl, _, _, hF2, hB2, rfl⟩) (.refl _)
            · have h6 := g6
              try simp at h6
              refine TC.seq ?_
              refine TC.region ?_
              refine .q (LD.eql rfl rfl) rfl rfl ?_
              refine .q (LD.assign rfl) rfl rfl ?_
              refine TL.nilS ?_
              refine TC.cond rfl (fun g7 => ?_) (fun g7 => ?_)
              · have h7 := g7
                try simp at h7
                refine TC.region ?_
                refine .q (LD.assign rfl) rfl rfl ?_
                refine TL.nil ?_
                refine TC.seq ?_
                refine TC.region ?_
                refine .q (LD.move rfl) rfl rfl ?_
                refine .q (LD.move rfl) rfl rfl ?_
                refine .q (LD.ldA rfl m1 (by repeat constructor) rfl) rfl rfl ?_
                refine TL.clX (X := [_, _]) (pre := [_, _, _, _]) (CL.clos (first := []) (cap := []) rfl rfl) (w_data c hc hok core a ha p pa ba pf pb hpab fl hfl bl hbl rf rb hF hB m hline) rfl (Wants.un rfl) rfl ?_
                intro u L2 hpost
                obtain ⟨R, hR⟩ : ∃ R, R = ((⟨c, core, a, (missData fl m.line m.acks m.own m.words).1, bl⟩ : Cache).filled m.line (missData fl m.line m.acks m.own m.words).2) := ⟨_, rfl⟩
                rw [← hR] at hpost
                obtain ⟨rfl, rf2, rb2, hF2, hB2, rfl⟩ := hpost
                rw [ansV]
                refine .q (LD.move rfl) rfl rfl ?_
                refine .q (LD.ex rfl rfl) rfl rfl ?_
                refine .q (LD.ex rfl rfl) rfl rfl ?_
                refine TL.nb NB.alloc (Wants.un rfl) rfl (fun b8 => ?_)
                refine .e (EF.stA (i := 0) rfl rfl rfl rfl rfl rfl (by repeat constructor)) rfl rfl ?_
                refine .q (LD.assign rfl) rfl rfl ?_
                refine TL.nilS ?_
                refine TC.seq ?_
                refine TC.drawX (R := [_]) [0, 0, 0, 0, 0, 2, 0, 0] [0, 1, 2, 3, 4, 5, 6, 7] TryzI.mixed (by decide +kernel) (no4 (by decide)) rfl ?_
                refine .q rfl rfl (LD.fieldAddr rfl) rfl rfl ?_
                refine .q rfl rfl (LD.ldA rfl m0 (by repeat constructor) rfl) rfl rfl ?_
                refine .q rfl rfl (LD.fieldAddr rfl) rfl rfl ?_
                refine .q rfl rfl (LD.ld1 rfl m0 rfl) rfl rfl ?_
                refine .q rfl rfl (LD.move rfl) rfl rfl ?_
                refine TD.efF (j := 0) rfl rfl (EF.stA (i := 0) rfl rfl rfl rfl rfl rfl (by repeat constructor)) rfl (Wants.un rfl) rfl ?_
                refine .q rfl rfl (LD.assign rfl) rfl rfl ?_
                refine .q rfl rfl (LD.assign rfl) rfl rfl ?_
                refine TD.nilX ?_
                refine TC.ret ?_
                repeat first | refine Post.sr ?_ | refine Post.br ?_
                have hcond : ¬ (!m.may c || toHome m.kind || m.to != core) = true := (by simp_all [bne_int])
                have e : (⟨c, core, a, fl, bl⟩ : Cache).take m = R := (by
                  rw [hR]
                  exact take_12 hcond (by omega))
                exact Out.intro (X := [_, _, _]) (L' := [_, _, _, _]) (Res.c rfl (LV.aggL m1 (by repeat constructor) rfl) (Res.t rfl (Res.t rfl Res.z))) (by rw [e]; exact ⟨rfl, _, _, hF2, hB2, rfl⟩) (.refl _)
              · have h7 := g7
                try simp at h7
                refine TC.seq ?_
                refine TC.region ?_
                refine .q (LD.eql rfl rfl) rfl rfl ?_
                refine .q (LD.assign rfl) rfl rfl ?_
                refine TL.nilS ?_
                refine TC.cond rfl (fun g8 => ?_) (fun g8 => ?_)
                · have h8 := g8
                  try simp at h8
                  refine TC.region ?_
                  refine .q (LD.assign rfl) rfl rfl ?_
                  refine TL.nil ?_
                  refine TC.seq ?_
                  refine TC.region ?_
                  refine .q (LD.move rfl) rfl rfl ?_
                  refine .q (LD.move rfl) rfl rfl ?_
                  refine .q (LD.ldA rfl m1 (by repeat constructor) rfl) rfl rfl ?_
                  refine TL.clX (X := [_, _]) (pre := [_, _, _, _]) (CL.clos (first := []) (cap := []) rfl rfl) (w_grant c hc hok core a ha p pa ba pf pb hpab fl hfl bl hbl rf rb hF hB m hline) rfl (Wants.un rfl) rfl ?_
                  intro u L2 hpost
                  obtain ⟨R, hR⟩ : ∃ R, R = (if (lookWay c a m.line).state ≠ 3 then ((⟨c, core, a, fl, bl⟩ : Cache), Msg.none, false, 7) else (⟨c, core, a, (missGrant fl m.line m.acks).1, bl⟩ : Cache).filled m.line (missGrant fl m.line m.acks).2) := ⟨_, rfl⟩
                  rw [← hR] at hpost
                  obtain ⟨rfl, rf2, rb2, hF2, hB2, rfl⟩ := hpost
                  rw [ansV]
                  refine .q (LD.move rfl) rfl rfl ?_
                  refine .q (LD.ex rfl rfl) rfl rfl ?_
                  refine .q (LD.ex rfl rfl) rfl rfl ?_
                  refine TL.nb NB.alloc (Wants.un rfl) rfl (fun b8 => ?_)
                  refine .e (EF.stA (i := 0) rfl rfl rfl rfl rfl rfl (by repeat constructor)) rfl rfl ?_
                  refine .q (LD.assign rfl) rfl rfl ?_
                  refine TL.nilS ?_
                  refine TC.seq ?_
                  refine TC.drawX (R := [_]) [0, 0, 0, 0, 0, 2, 0, 0] [0, 1, 2, 3, 4, 5, 6, 7] TryzI.mixed (by decide +kernel) (no4 (by decide)) rfl ?_
                  refine .q rfl rfl (LD.fieldAddr rfl) rfl rfl ?_
                  refine .q rfl rfl (LD.ldA rfl m0 (by repeat constructor) rfl) rfl rfl ?_
                  refine .q rfl rfl (LD.fieldAddr rfl) rfl rfl ?_
                  refine .q rfl rfl (LD.ld1 rfl m0 rfl) rfl rfl ?_
                  refine .q rfl rfl (LD.move rfl) rfl rfl ?_
                  refine TD.efF (j := 0) rfl rfl (EF.stA (i := 0) rfl rfl rfl rfl rfl rfl (by repeat constructor)) rfl (Wants.un rfl) rfl ?_
                  refine .q rfl rfl (LD.assign rfl) rfl rfl ?_
                  refine .q rfl rfl (LD.assign rfl) rfl rfl ?_
                  refine TD.nilX ?_
                  refine TC.ret ?_
                  repeat first | refine Post.sr ?_ | refine Post.br ?_
                  have hcond : ¬ (!m.may c || toHome m.kind || m.to != core) = true := (by simp_all [bne_int])
                  have e : (⟨c, core, a, fl, bl⟩ : Cache).take m = R := (by
                    rw [hR]
                    exact take_14 hcond (by omega))
                  exact Out.intro (X := [_, _, _]) (L' := [_, _, _, _]) (Res.c rfl (LV.aggL m1 (by repeat constructor) rfl) (Res.t rfl (Res.t rfl Res.z))) (by rw [e]; exact ⟨rfl, _, _, hF2, hB2, rfl⟩) (.refl _)
                · have h8 := g8
                  try simp at h8
                  refine TC.seq ?_
                  refine TC.region ?_
                  refine .q (LD.eql rfl rfl) rfl rfl ?_
                  refine .q (LD.assign rfl) rfl rfl ?_
                  refine TL.nilS ?_
                  refine TC.cond rfl (fun g9 => ?_) (fun g9 => ?_)
                  · have h9 := g9
                    try simp at h9
                    refine TC.region ?_
                    refine .q (LD.assign rfl) rfl rfl ?_
                    refine TL.nil ?_
                    refine TC.seq ?_
                    refine TC.region ?_
                    refine .q (LD.move rfl) rfl rfl ?_
                    refine .q (LD.move rfl) rfl rfl ?_
                    refine .q (LD.ldA rfl m1 (by repeat constructor) rfl) rfl rfl ?_
                    refine TL.clX (X := [_, _]) (pre := [_, _, _, _]) (CL.clos (first := []) (cap := []) rfl rfl) (w_ack c hc hok core a ha p pa ba pf pb hpab fl hfl bl hbl rf rb hF hB m hline hgot) rfl (Wants.un rfl) rfl ?_
                    intro u L2 hpost
                    obtain ⟨R, hR⟩ : ∃ R, R = ((⟨c, core, a, (missAck fl m.line).1, bl⟩ : Cache).filled m.line (missAck fl m.line).2) := ⟨_, rfl⟩
                    rw [← hR] at hpost
                    obtain ⟨rfl, rf2, rb2, hF2, hB2, rfl⟩ := hpost
                    rw [ansV]
                    refine .q (LD.move rfl) rfl rfl ?_
                    refine .q (LD.ex rfl rfl) rfl rfl ?_
                    refine .q (LD.ex rfl rfl) rfl rfl ?_
                    refine TL.nb NB.alloc (Wants.un rfl) rfl (fun b8 => ?_)
                    refine .e (EF.stA (i := 0) rfl rfl rfl rfl rfl rfl (by repeat constructor)) rfl rfl ?_
                    refine .q (LD.assign rfl) rfl rfl ?_
                    refine TL.nilS ?_
                    refine TC.seq ?_
                    refine TC.drawX (R := [_]) [0, 0, 0, 0, 0, 2, 0, 0] [0, 1, 2, 3, 4, 5, 6, 7] TryzI.mixed (by decide +kernel) (no4 (by decide)) rfl ?_
                    refine .q rfl rfl (LD.fieldAddr rfl) rfl rfl ?_
                    refine .q rfl rfl (LD.ldA rfl m0 (by repeat constructor) rfl) rfl rfl ?_
                    refine .q rfl rfl (LD.fieldAddr rfl) rfl rfl ?_
                    refine .q rfl rfl (LD.ld1 rfl m0 rfl) rfl rfl ?_
                    refine .q rfl rfl (LD.move rfl) rfl rfl ?_
                    refine TD.efF (j := 0) rfl rfl (EF.stA (i := 0) rfl rfl rfl rfl rfl rfl (by repeat constructor)) rfl (Wants.un rfl) rfl ?_
                    refine .q rfl rfl (LD.assign rfl) rfl rfl ?_
                    refine .q rfl rfl (LD.assign rfl) rfl rfl ?_
                    refine TD.nilX ?_
                    refine TC.ret ?_
                    repeat first | refine Post.sr ?_ | refine Post.br ?_
                    have hcond : ¬ (!m.may c || toHome m.kind || m.to != core) = true := (by simp_all [bne_int])
                    have e : (⟨c, core, a, fl, bl⟩ : Cache).take m = R := (by
                      rw [hR]
                      exact take_16 hcond (by omega))
                    exact Out.intro (X := [_, _, _]) (L' := [_, _, _, _]) (Res.c rfl (LV.aggL m1 (by repeat constructor) rfl) (Res.t rfl (Res.t rfl Res.z))) (by rw [e]; exact ⟨rfl, _, _, hF2, hB2, rfl⟩) (.refl _)
                  · have h9 := g9
                    try simp at h9
                    refine TC.skip ?_
                    refine TC.seq ?_
                    refine TC.region ?_
                    refine .q (LD.move rfl) rfl rfl ?_
                    refine .q (LD.move rfl) rfl rfl ?_
                    refine .q (LD.ldA rfl m1 (by repeat constructor) rfl) rfl rfl ?_
                    refine TL.clX (X := [_, _]) (pre := [_, _, _, _]) (CL.clos (first := []) (cap := []) rfl rfl) (w_putAck c hc hok core a ha p pa ba pf pb hpab fl hfl bl hbl rf rb hF hB m hline) rfl (Wants.un rfl) rfl ?_
                    intro u L2 hpost
                    obtain ⟨R, hR⟩ : ∃ R, R = (paR (⟨c, core, a, fl, bl⟩ : Cache) m) := ⟨_, rfl⟩
                    rw [← hR] at hpost
                    obtain ⟨rfl, rf2, rb2, hF2, hB2, rfl⟩ := hpost
                    rw [ansV]
                    refine .q (LD.move rfl) rfl rfl ?_
                    refine .q (LD.ex rfl rfl) rfl rfl ?_
                    refine .q (LD.ex rfl rfl) rfl rfl ?_
                    refine TL.nb NB.alloc (Wants.un rfl) rfl (fun b8 => ?_)
                    refine .e (EF.stA (i := 0) rfl rfl rfl rfl rfl rfl (by repeat constructor)) rfl rfl ?_
                    refine .q (LD.assign rfl) rfl rfl ?_
                    refine TL.nilS ?_
                    refine TC.seq ?_
                    refine TC.drawX (R := [_]) [0, 0, 0, 0, 0, 2, 0, 0] [0, 1, 2, 3, 4, 5, 6, 7] TryzI.mixed (by decide +kernel) (no4 (by decide)) rfl ?_
                    refine .q rfl rfl (LD.fieldAddr rfl) rfl rfl ?_
                    refine .q rfl rfl (LD.ldA rfl m0 (by repeat constructor) rfl) rfl rfl ?_
                    refine .q rfl rfl (LD.fieldAddr rfl) rfl rfl ?_
                    refine .q rfl rfl (LD.ld1 rfl m0 rfl) rfl rfl ?_
                    refine .q rfl rfl (LD.move rfl) rfl rfl ?_
                    refine TD.efF (j := 0) rfl rfl (EF.stA (i := 0) rfl rfl rfl rfl rfl rfl (by repeat constructor)) rfl (Wants.un rfl) rfl ?_
                    refine .q rfl rfl (LD.assign rfl) rfl rfl ?_
                    refine .q rfl rfl (LD.assign rfl) rfl rfl ?_
                    refine TD.nilX ?_
                    refine TC.ret ?_
                    repeat first | refine Post.sr ?_ | refine Post.br ?_
                    have hcond : ¬ (!m.may c || toHome m.kind || m.to != core) = true := (by simp_all [bne_int])
                    have e : (⟨c, core, a, fl, bl⟩ : Cache).take m = R := (by
                      rw [hR]
                      exact take_0 hcond (by omega))
                    exact Out.intro (X := [_, _, _]) (L' := [_, _, _, _]) (Res.c rfl (LV.aggL m1 (by repeat constructor) rfl) (Res.t rfl (Res.t rfl Res.z))) (by rw [e]; exact ⟨rfl, _, _, hF2, hB2, rfl⟩) (.refl _)
    · have h2 := g2
      try simp at h2
      refine .s rfl g2 rfl rfl rfl rfl ?_
      refine .s rfl g2 rfl rfl rfl rfl ?_
      refine .s rfl g2 rfl rfl rfl rfl ?_
      refine .s rfl g2 rfl rfl rfl rfl ?_
      refine .s rfl g2 rfl rfl rfl rfl ?_
      refine .s rfl g2 rfl rfl rfl rfl ?_
      refine .q rfl rfl (LD.pickT rfl g2 rfl) rfl rfl ?_
      refine TD.nilT ?_
      refine TC.condT rfl rfl ?_
      refine TC.seq ?_
      refine TC.region ?_
      refine .q (LD.bS rfl rfl (by repeat constructor)) rfl rfl ?_
      refine .e (EF.stA (i := 0) rfl rfl rfl rfl rfl rfl (by repeat constructor)) rfl rfl ?_
      refine .q (LD.assign rfl) rfl rfl ?_
      refine .q (LD.assign rfl) rfl rfl ?_
      refine TL.nilS ?_
      refine TC.ret ?_
      repeat first | refine Post.sr ?_ | refine Post.br ?_
      have e : (⟨c, core, a, fl, bl⟩ : Cache).take m = ((⟨c, core, a, fl, bl⟩ : Cache), Msg.none, false, 1) := (by unfold Cache.take; rw [if_pos (by simp_all [bne_int])])
      exact Out.intro (X := [_, _]) (L' := [_, _, _, _]) (Res.c rfl (LV.aggL m0 (by repeat constructor) rfl) (Res.t rfl (Res.t rfl Res.z))) (by rw [e]; exact ⟨rfl, _, _, hF, hB, rfl⟩) (.refl _)
  · have h1 := g1
    try simp at h1
    refine .s rfl g1 rfl rfl rfl rfl ?_
    refine .s rfl g1 rfl rfl rfl rfl ?_
    refine .q rfl rfl (LD.pickT rfl g1 rfl) rfl rfl ?_
    refine .q rfl rfl (LD.move rfl) rfl rfl ?_
    refine .s rfl rfl rfl rfl rfl rfl ?_
    refine .s rfl rfl rfl rfl rfl rfl ?_
    refine .s rfl rfl rfl rfl rfl rfl ?_
    refine .s rfl rfl rfl rfl rfl rfl ?_
    refine .s rfl rfl rfl rfl rfl rfl ?_
    refine .s rfl rfl rfl rfl rfl rfl ?_
    refine .s rfl rfl rfl rfl rfl rfl ?_
    refine .q rfl rfl (LD.pickT rfl rfl rfl) rfl rfl ?_
    refine TD.nilT ?_
    refine TC.condT rfl rfl ?_
    refine TC.seq ?_
    refine TC.region ?_
    refine .q (LD.bS rfl rfl (by repeat constructor)) rfl rfl ?_
    refine .e (EF.stA (i := 0) rfl rfl rfl rfl rfl rfl (by repeat constructor)) rfl rfl ?_
    refine .q (LD.assign rfl) rfl rfl ?_
    refine .q (LD.assign rfl) rfl rfl ?_
    refine TL.nilS ?_
    refine TC.ret ?_
    repeat first | refine Post.sr ?_ | refine Post.br ?_
    have e : (⟨c, core, a, fl, bl⟩ : Cache).take m = ((⟨c, core, a, fl, bl⟩ : Cache), Msg.none, false, 1) := (by unfold Cache.take; rw [if_pos (by simp_all [bne_int])])
    exact Out.intro (X := [_, _]) (L' := [_, _, _, _]) (Res.c rfl (LV.aggL m0 (by repeat constructor) rfl) (Res.t rfl (Res.t rfl Res.z))) (by rw [e]; exact ⟨rfl, _, _, hF, hB, rfl⟩) (.refl _)
open Mes in
theorem w_Misses (c : Cfg) (hc : CfgR c) (hok : c.ok = true) (core : Int) (a : List Mes.Way) (ha : (a.length : Int) = c.sets * c.ways) (p pa ba pf pb : Nat) (hpab : pa ≠ ba) (fl : List Miss) (hfl : fl.length ≤ 100000) (bl : List WB) (hbl : bl.length ≤ 100000) (rf rb : Frag) (hF : IsFile c.mshrs fl pf rf) (hB : IsBuf c.writebacks bl pb rb) : Fn Tryz.prog 46 [.pointer (some ⟨p, 0, none⟩)] [CacP p c core pa pf pb, ArrF pa ba c a, rf, rb] (fun u L' => ∃ r', IsSl 162 15 (fl.map encMiss) u r' ∧ L' = r' :: [CacP p c core pa pf pb, ArrF pa ba c a, rf, rb]) := by
  refine Fn.body Tryz.func46 rfl rfl rfl (Nat.le_of_ble_eq_true rfl) fun F => ?_
  refine TC.seq ?_
  refine TC.region ?_
  refine .q (LD.assign rfl) rfl rfl ?_
  refine TL.nilS ?_
  refine TC.seq ?_
  refine TC.region ?_
  refine .q (LD.move rfl) rfl rfl ?_
  refine .q (LD.nilCheck rfl) rfl rfl ?_
  refine .q (LD.fieldAddr rfl) rfl rfl ?_
  refine .q (LD.ld1 rfl m0 rfl) rfl rfl ?_
  refine TL.crn (CL.func rfl) (w_mList c.mshrs fl pf rf hF hfl) m2 (Wants.un rfl) rfl ?_
  intro v2 r2 hs2
  refine .q (LD.assign rfl) rfl rfl ?_
  refine TL.nilS ?_
  refine TC.ret ?_
  repeat first | refine Post.sr ?_ | refine Post.br ?_
  exact Out.intro (X := []) (L' := [_, _, _, _, _]) (Res.t rfl Res.z) ⟨_, hs2, rfl⟩ (.refl _)
open Mes in
theorem w_Written (c : Cfg) (hc : CfgR c) (hok : c.ok = true) (core : Int) (a : List Mes.Way) (ha : (a.length : Int) = c.sets * c.ways) (p pa ba pf pb : Nat) (hpab : pa ≠ ba) (fl : List Miss) (hfl : fl.length ≤ 100000) (bl : List WB) (hbl : bl.length ≤ 100000) (rf rb : Frag) (hF : IsFile c.mshrs fl pf rf) (hB : IsBuf c.writebacks bl pb rb) : Fn Tryz.prog 45 [.pointer (some ⟨p, 0, none⟩)] [CacP p c core pa pf pb, ArrF pa ba c a, rf, rb] (fun u L' => ∃ r', IsSl 142 10 (bl.map encWB) u r' ∧ L' = r' :: [CacP p c core pa pf pb, ArrF pa ba c a, rf, rb]) := by
  refine Fn.body Tryz.func45 rfl rfl rfl (Nat.le_of_ble_eq_true rfl) fun F => ?_
  refine TC.seq ?_
  refine TC.region ?_
  refine .q (LD.assign rfl) rfl rfl ?_
  refine TL.nilS ?_
  refine TC.seq ?_
  refine TC.region ?_
  refine .q (LD.move rfl) rfl rfl ?_
  refine .q (LD.nilCheck rfl) rfl rfl ?_
  refine .q (LD.fieldAddr rfl) rfl rfl ?_
  refine .q (LD.ld1 rfl m0 rfl) rfl rfl ?_
  refine TL.crn (CL.func rfl) (w_bList c.writebacks bl pb rb hB hbl) m3 (Wants.un rfl) rfl ?_
  intro v2 r2 hs2
  refine .q (LD.assign rfl) rfl rfl ?_
  refine TL.nilS ?_
  refine TC.ret ?_
  repeat first | refine Post.sr ?_ | refine Post.br ?_
  exact Out.intro (X := []) (L' := [_, _, _, _, _]) (Res.t rfl Res.z) ⟨_, hs2, rfl⟩ (.refl _)

open Mes in
/-- a cache -/
def IsCac (k : Cache) (p : Nat) (r : Frag) : Prop := ∃ pa ba pf pb rf rb, pa ≠ ba ∧ IsFile k.c.mshrs k.f pf rf ∧ IsBuf k.c.writebacks k.b pb rb ∧ [CacP p k.c k.core pa pf pb, ArrF pa ba k.c k.a, rf, rb].Pairwise Disj ∧ r = un [CacP p k.c k.core pa pf pb, ArrF pa ba k.c k.a, rf, rb]
open Mes in
def CacNew (c : Cfg) (core : Int) (v : Value) (r : Frag) : Prop := (c.ok = true ∧ inR core c.cores = true ∧ ∃ p, v = .tuple #[.pointer (some ⟨p, 0, none⟩), i 0] ∧ IsCac (Cache.new c core) p r) ∨ ((c.ok && inR core c.cores) = false ∧ v = .tuple #[.pointer none, i 1] ∧ r = nof)
theorem FileNew.ok {room : Int} (h : 1 ≤ room ∧ room ≤ 8) {v : Value} {r : Frag} (hn : FileNew room v r) : ∃ p, v = .tuple [.pointer (some ⟨p, 0, none⟩), i 0].toArray ∧ IsFile room [] p r := by
  rcases hn with ⟨_, _, p, h1, h2⟩ | ⟨h1, _⟩
  · exact ⟨p, h1, h2⟩
  · exact absurd h h1
theorem BufNew.ok {room : Int} (h : 1 ≤ room ∧ room ≤ 8) {v : Value} {r : Frag} (hn : BufNew room v r) : ∃ p, v = .tuple [.pointer (some ⟨p, 0, none⟩), i 0].toArray ∧ IsBuf room [] p r := by
  rcases hn with ⟨_, _, p, h1, h2⟩ | ⟨h1, _⟩
  · exact ⟨p, h1, h2⟩
  · exact absurd h h1

open Mes in
theorem w_CacNew (c : Cfg) (hc : CfgR c) (core : Int) : FnN Tryz.prog 11 [.agg (encC c), i core] (CacNew c core) := by
  refine Fn.body Tryz.func11 rfl rfl rfl (Nat.le_of_ble_eq_true rfl) fun F => ?_
  refine TC.seq ?_
  refine TC.region ?_
  refine TL.nb (NB.boxA rfl) (Wants.un rfl) rfl (fun b2 => ?_)
  refine .q (LD.assign rfl) rfl rfl ?_
  refine .q (LD.assign rfl) rfl rfl ?_
  refine TL.nilS ?_
  refine TC.seq ?_
  refine TC.region ?_
  refine .q (LD.ldA rfl m0 (by repeat constructor) rfl) rfl rfl ?_
  refine TL.cn (CL.func rfl) (w_ArrNew c hc) (Wants.un rfl) rfl ?_
  intro v0 r0 harr
  rcases harr with ⟨hok, pa, ba, hpab, rfl, rfl⟩ | ⟨hok, rfl, rfl⟩
  · have hrm := (okS hok).mshrs
    refine .q (LD.move rfl) rfl rfl ?_
    refine .q (LD.ex rfl rfl) rfl rfl ?_
    refine .q (LD.ex rfl rfl) rfl rfl ?_
    refine .q (LD.assign rfl) rfl rfl ?_
    refine .q (LD.assign rfl) rfl rfl ?_
    refine TL.nilS ?_
    refine TC.seq ?_
    refine TC.seq ?_
    refine TC.region ?_
    refine .q (LD.move rfl) rfl rfl ?_
    refine .q (LD.neq rfl rfl) rfl rfl ?_
    refine .q (LD.move rfl) rfl rfl ?_
    refine .y (LD.move rfl) rfl rfl rfl rfl rfl ?_
    refine .y (LD.lss rfl rfl) rfl rfl rfl rfl rfl ?_
    refine .q (LD.pickF rfl rfl rfl) rfl rfl ?_
    refine .q (LD.move rfl) rfl rfl ?_
    refine TL.split rfl rfl rfl rfl (fun g1 => ?_) (fun g1 => ?_)
    · have h1 := g1
      try simp at h1
      refine .y (LD.move rfl) g1 rfl rfl rfl rfl ?_
      refine .y (LD.fieldAddr rfl) g1 rfl rfl rfl rfl ?_
      refine .y (LD.ld1 rfl m1 rfl) g1 rfl rfl rfl rfl ?_
      refine .y (LD.geq rfl rfl) g1 rfl rfl rfl rfl ?_
      refine .q (LD.pickF rfl g1 rfl) rfl rfl ?_
      refine TL.nilS ?_
      refine TC.cond rfl (fun g2 => ?_) (fun g2 => ?_)
      · have h2 := g2
        try simp at h2
        refine TC.seq ?_
        refine TC.region ?_
        refine .q (LD.assign rfl) rfl rfl ?_
        refine .q (LD.assign rfl) rfl rfl ?_
        refine TL.nilS ?_
        refine TC.ret ?_
        repeat first | refine Post.sr ?_ | refine Post.br ?_
        exact Out.introE (X := [_, _]) (L0 := []) (L' := [_]) (Res.t rfl (Res.t rfl Res.z)) ⟨nof, .inr ⟨by simp_all [inR] <;> omega, rfl, rfl⟩, rfl⟩ (.refl _) Ent.nof
      · have h2 := g2
        try simp at h2
        refine TC.skipS ?_
        refine TC.seq ?_
        refine TC.region ?_
        refine .q (LD.fieldAddr rfl) rfl rfl ?_
        refine .q (LD.ld1 rfl m1 rfl) rfl rfl ?_
        refine TL.cn (CL.func rfl) (w_FileNew c.mshrs) (Wants.un rfl) rfl ?_
        intro v1 rf hf1
        obtain ⟨pf, rfl, hF⟩ := hf1.ok (okS hok).mshrs
        refine .q (LD.move rfl) rfl rfl ?_
        refine .q (LD.ex rfl rfl) rfl rfl ?_
        refine .q (LD.ex rfl rfl) rfl rfl ?_
        refine .q (LD.assign rfl) rfl rfl ?_
        refine .q (LD.assign rfl) rfl rfl ?_
        refine TL.nilS ?_
        refine TC.seq ?_
        refine TC.region ?_
        refine .q (LD.fieldAddr rfl) rfl rfl ?_
        refine .q (LD.ld1 rfl m2 rfl) rfl rfl ?_
        refine TL.cn (CL.func rfl) (w_BufNew c.writebacks) (Wants.un rfl) rfl ?_
        intro v2 rb hb1
        obtain ⟨pb, rfl, hB⟩ := hb1.ok (okS hok).writebacks
        refine .q (LD.move rfl) rfl rfl ?_
        refine .q (LD.ex rfl rfl) rfl rfl ?_
        refine .q (LD.ex rfl rfl) rfl rfl ?_
        refine .q (LD.assign rfl) rfl rfl ?_
        refine .q (LD.assign rfl) rfl rfl ?_
        refine TL.nilS ?_
        refine TC.seq ?_
        refine TC.region ?_
        refine .q (LD.ldA rfl m3 (by repeat constructor) rfl) rfl rfl ?_
        refine .q (LD.move rfl) rfl rfl ?_
        refine .q (LD.move rfl) rfl rfl ?_
        refine .q (LD.move rfl) rfl rfl ?_
        refine .q (LD.move rfl) rfl rfl ?_
        refine .q (LD.bS rfl rfl (by repeat constructor)) rfl rfl ?_
        refine TL.nb (NB.boxA rfl) (Wants.un rfl) rfl (fun b47 => ?_)
        refine .q (LD.assign rfl) rfl rfl ?_
        refine .q (LD.assign rfl) rfl rfl ?_
        refine TL.nilS ?_
        refine TC.perm permNew ?_
        refine TC.dis fun hd2 => ?_
        refine TC.ret ?_
        repeat first | refine Post.sr ?_ | refine Post.br ?_
        exact Out.introE (X := [_]) (L0 := [_, _, _, _]) (L' := [_]) (Res.t rfl (Res.t rfl Res.z)) ⟨_, .inl ⟨hok, by simp_all [inR], _, rfl, pa, ba, pf, pb, rf, rb, hpab, hF, hB, dis_mid [_] [_, _, _, _] F hd2, rfl⟩, rfl⟩ (.refl _) (Ent.fold _)
    · have h1 := g1
      try simp at h1
      refine .s g1 rfl rfl rfl rfl ?_
      refine .s g1 rfl rfl rfl rfl ?_
      refine .s g1 rfl rfl rfl rfl ?_
      refine .q (LD.pickT rfl g1 rfl) rfl rfl ?_
      refine TL.nilS ?_
      refine TC.condT rfl rfl ?_
      refine TC.seq ?_
      refine TC.region ?_
      refine .q (LD.assign rfl) rfl rfl ?_
      refine .q (LD.assign rfl) rfl rfl ?_
      refine TL.nilS ?_
      refine TC.ret ?_
      repeat first | refine Post.sr ?_ | refine Post.br ?_
      exact Out.introE (X := [_, _]) (L0 := []) (L' := [_]) (Res.t rfl (Res.t rfl Res.z)) ⟨nof, .inr ⟨by simp_all [inR] <;> omega, rfl, rfl⟩, rfl⟩ (.refl _) Ent.nof
  · skip
    refine .q (LD.move rfl) rfl rfl ?_
    refine .q (LD.ex rfl rfl) rfl rfl ?_
    refine .q (LD.ex rfl rfl) rfl rfl ?_
    refine .q (LD.assign rfl) rfl rfl ?_
    refine .q (LD.assign rfl) rfl rfl ?_
    refine TL.nilS ?_
    refine TC.seq ?_
    refine TC.seq ?_
    refine TC.region ?_
    refine .q (LD.move rfl) rfl rfl ?_
    refine .q (LD.neq rfl rfl) rfl rfl ?_
    refine .q (LD.move rfl) rfl rfl ?_
    refine .s rfl rfl rfl rfl rfl ?_
    refine .s rfl rfl rfl rfl rfl ?_
    refine .q (LD.pickT rfl rfl rfl) rfl rfl ?_
    refine .q (LD.move rfl) rfl rfl ?_
    refine .s rfl rfl rfl rfl rfl ?_
    refine .s rfl rfl rfl rfl rfl ?_
    refine .s rfl rfl rfl rfl rfl ?_
    refine .s rfl rfl rfl rfl rfl ?_
    refine .q (LD.pickT rfl rfl rfl) rfl rfl ?_
    refine TL.nilS ?_
    refine TC.condT rfl rfl ?_
    refine TC.seq ?_
    refine TC.region ?_
    refine .q (LD.assign rfl) rfl rfl ?_
    refine .q (LD.assign rfl) rfl rfl ?_
    refine TL.nilS ?_
    refine TC.ret ?_
    repeat first | refine Post.sr ?_ | refine Post.br ?_
    exact Out.introE (X := [_, _]) (L0 := []) (L' := [_]) (Res.t rfl (Res.t rfl Res.z)) ⟨nof, .inr ⟨by simp_all [inR] <;> omega, rfl, rfl⟩, rfl⟩ (.refl _) Ent.nof
end Go.SL.TryzI
