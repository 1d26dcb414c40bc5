/- A part of proofs about the given program. No condition. -/
import Derived.Test.YtcgfdjijodlopaaGreatWcac
set_option linter.all false
namespace Go.SL.TryzI
open Go Go.Proofs Go.SL
set_option maxRecDepth 100000


open Mes in
def evictV (r : Cache × Msg × Bool × Int) : Value := .tuple [.agg (encMsg r.2.1).toArray, .bool r.2.2.1, i r.2.2.2].toArray
open Mes in
/-- an answer's cells -/
def encAns (m : Msg) (b : Bool) : List Value := encMsg m ++ [.bool b]
open Mes in
def ansV (r : Cache × Msg × Bool × Int) : Value := .tuple [.agg (encAns r.2.1 r.2.2.1).toArray, i r.2.2.2].toArray
open Mes in
theorem wbPutR_eq (c : Cfg) (b : List WB) (line : Int) (w : Words) : wbPutR c.writebacks b line w = wbPut c b line w := by
  unfold wbPutR wbPut; rw [wbAt_isSome]
open Mes in
theorem wbPut_err {c : Cfg} {b : List WB} {line : Int} {w : Words} (h : ¬ (wbPut c b line w).2 = 0) : wbPut c b line w = (b, (wbPut c b line w).2) := by
  unfold wbPut at h ⊢
  split
  · rfl
  · split
    · rfl
    · simp_all
open Mes in
theorem wbPut_ok {c : Cfg} {b : List WB} {line : Int} {w : Words} (h : (wbPut c b line w).2 = 0) : wbPut c b line w = (b ++ [⟨line, w, true⟩], 0) := by
  unfold wbPut at h ⊢
  split
  · simp_all
  · split
    · simp_all
    · rfl
theorem set_ok {c : Mes.Cfg} {a : List Mes.Way} {line state : Int} {w : Mes.Words} : (Mes.setWay c a line state w).length = a.length := setWay_len ..

open Mes in
theorem w_Evict (c : Cfg) (hc : CfgR c) (hok : c.ok = true) (core : Int) (a : List Mes.Way) (ha : (a.length : Int) = c.sets * c.ways) (p pa ba pf pb : Nat) (hpab : pa ≠ ba) (fl : List Miss) (hfl : fl.length ≤ 100000) (bl : List WB) (hbl : bl.length ≤ 100000) (rf rb : Frag) (hF : IsFile c.mshrs fl pf rf) (hB : IsBuf c.writebacks bl pb rb) (set way : Int) (hw : ∀ w, wayAt c a set way = some w → w.state ≠ 0 → inR w.line c.lines = true ∧ R64 w.line) (hroom : 0 ≤ c.writebacks ∧ c.writebacks ≤ 1000000) : Fn Tryz.prog 23 [.pointer (some ⟨p, 0, none⟩), i set, i way] [CacP p c core pa pf pb, ArrF pa ba c a, rf, rb] (CacPost c core p pa ba pf pb (evictV ((⟨c, core, a, fl, bl⟩ : Cache).evict set way)) ((⟨c, core, a, fl, bl⟩ : Cache).evict set way).1) := by
  refine Fn.body Tryz.func23 rfl rfl rfl (Nat.le_of_ble_eq_true rfl) fun F => ?_
  refine TC.seq ?_
  refine TC.region ?_
  refine TL.nb NB.alloc (Wants.un rfl) rfl (fun b6 => ?_)
  refine .q (LD.assign rfl) rfl rfl ?_
  refine .q (LD.assign rfl) rfl rfl ?_
  refine TL.nilS ?_
  refine TC.seq ?_
  refine TC.region ?_
  refine .q (LD.move rfl) rfl rfl ?_
  refine .q (LD.nilCheck rfl) rfl rfl ?_
  refine .q (LD.fieldAddr rfl) rfl rfl ?_
  refine .q (LD.ld1 rfl m1 rfl) rfl rfl ?_
  refine .q (LD.move rfl) rfl rfl ?_
  refine .q (LD.move rfl) rfl rfl ?_
  refine TL.cr (CL.func rfl) (w_At c hok a ha pa ba hpab set way) m2 (Wants.un rfl) rfl ?_
  rintro _ rfl
  rw [atV_eq]
  refine .q (LD.move rfl) rfl rfl ?_
  refine .q (LD.ex rfl rfl) rfl rfl ?_
  refine .q (LD.ex rfl rfl) rfl rfl ?_
  refine TL.nb NB.alloc (Wants.un rfl) rfl (fun b9 => ?_)
  refine .e (EF.stA (i := 0) rfl rfl rfl rfl rfl rfl (by repeat constructor)) rfl rfl ?_
  refine .q (LD.assign rfl) rfl rfl ?_
  refine TL.nilS ?_
  refine TC.seq ?_
  refine TC.block ?_
  refine TC.seq ?_
  refine TC.region ?_
  refine .q (LD.move rfl) rfl rfl ?_
  refine .q (LD.not rfl) rfl rfl ?_
  refine .q (LD.move rfl) rfl rfl ?_
  refine TL.split rfl rfl rfl rfl (fun g1 => ?_) (fun g1 => ?_)
  · have h1 := g1
    try simp at h1
    refine .y (LD.fieldAddr rfl) g1 rfl rfl rfl rfl ?_
    refine .y (LD.ld1 rfl m0 rfl) g1 rfl rfl rfl rfl ?_
    refine .y (LD.eql rfl rfl) g1 rfl rfl rfl rfl ?_
    refine .q (LD.pickF rfl g1 rfl) rfl rfl ?_
    refine .q (LD.assign rfl) rfl rfl ?_
    refine TL.nilS ?_
    refine TC.cond rfl (fun g2 => ?_) (fun g2 => ?_)
    · have h2 := g2
      try simp at h2
      refine TC.seq ?_
      refine TC.region ?_
      refine .q (LD.bS rfl rfl (by repeat constructor)) rfl rfl ?_
      refine .e (EF.stA (i := 1) rfl rfl rfl rfl rfl rfl (by repeat constructor)) rfl rfl ?_
      refine .q (LD.assign rfl) rfl rfl ?_
      refine .q (LD.assign rfl) rfl rfl ?_
      refine TL.nilS ?_
      refine TC.ret ?_
      repeat first | refine Post.sr ?_ | refine Post.br ?_
      have e : (⟨c, core, a, fl, bl⟩ : Cache).evict set way = ((⟨c, core, a, fl, bl⟩ : Cache), Msg.none, false, 5) := (by unfold Cache.evict; cases hq : wayAt c a set way <;> simp_all)
      exact Out.intro (X := [_, _]) (L' := [_, _, _, _]) (Res.c rfl (LV.aggL m1 (by repeat constructor) rfl) (Res.t rfl (Res.t rfl Res.z))) (by rw [e]; exact ⟨rfl, _, _, hF, hB, rfl⟩) (.refl _)
    · have h2 := g2
      try simp at h2
      refine TC.seq ?_
      obtain ⟨w, hwa⟩ : ∃ w, wayAt c a set way = some w := by cases hq : wayAt c a set way <;> simp_all
      rw [hwa]
      simp only [Option.getD_some]
      have hw0 : w.state ≠ 0 := by simp_all
      obtain ⟨hin, hline⟩ := hw w hwa hw0
      refine TC.region ?_
      refine .q (LD.fieldAddr rfl) rfl rfl ?_
      refine .q (LD.ld1 rfl m0 rfl) rfl rfl ?_
      refine .q (LD.assign rfl) rfl rfl ?_
      refine TL.nilS ?_
      refine TC.cond rfl (fun g3 => ?_) (fun g3 => ?_)
      · have h3 := g3
        try simp at h3
        refine TC.seq ?_
        refine TC.region ?_
        refine .q (LD.bS rfl rfl (by repeat constructor)) rfl rfl ?_
        refine .e (EF.stA (i := 1) rfl rfl rfl rfl rfl rfl (by repeat constructor)) rfl rfl ?_
        refine .q (LD.assign rfl) rfl rfl ?_
        refine .q (LD.assign rfl) rfl rfl ?_
        refine TL.nilS ?_
        refine TC.ret ?_
        repeat first | refine Post.sr ?_ | refine Post.br ?_
        have e : (⟨c, core, a, fl, bl⟩ : Cache).evict set way = ((⟨c, core, a, fl, bl⟩ : Cache), Msg.none, false, 6) := (by unfold Cache.evict; simp_all)
        exact Out.intro (X := [_, _]) (L' := [_, _, _, _]) (Res.c rfl (LV.aggL m1 (by repeat constructor) rfl) (Res.t rfl (Res.t rfl Res.z))) (by rw [e]; exact ⟨rfl, _, _, hF, hB, rfl⟩) (.refl _)
      · have h3 := g3
        try simp at h3
        refine TC.seq ?_
        refine TC.drawX (R := [_, _, _, _, _]) [0, 0, 2, 0, 0, 0, 0, 0, 0, 0, 0, 0, 2, 0, 0, 0] [0, 1, 2, 3, 4, 5, 6, 7, 8, 9, 10, 11, 12, 13, 14, 15] TryzI.mixed (by decide +kernel) (no4 (by decide)) rfl ?_
        refine .q rfl rfl (LD.fieldAddr rfl) rfl rfl ?_
        refine .q rfl rfl (LD.ld1 rfl m0 rfl) rfl rfl ?_
        refine TD.cpF rfl rfl (CL.func rfl) (w_owns _) (Wants.un rfl) rfl ?_
        rintro _ rfl
        refine .q rfl rfl (LD.move rfl) rfl rfl ?_
        refine TD.split rfl rfl rfl rfl rfl (fun g4 => ?_) (fun g4 => ?_)
        · have h4 := g4
          try simp at h4
          refine .y rfl rfl (LD.move rfl) g4 rfl rfl rfl rfl ?_
          refine .y rfl rfl (LD.nilCheck rfl) g4 rfl rfl rfl rfl ?_
          refine .y rfl rfl (LD.fieldAddr rfl) g4 rfl rfl rfl rfl ?_
          refine .y rfl rfl (LD.ld1 rfl m2 rfl) g4 rfl rfl rfl rfl ?_
          refine .y rfl rfl (LD.fieldAddr rfl) g4 rfl rfl rfl rfl ?_
          refine .y rfl rfl (LD.ld1 rfl m0 rfl) g4 rfl rfl rfl rfl ?_
          refine .y rfl rfl (LD.fieldAddr rfl) g4 rfl rfl rfl rfl ?_
          refine .y rfl rfl (LD.ldA rfl m0 (by repeat constructor) rfl) g4 rfl rfl rfl rfl ?_
          refine TD.cwXT rfl rfl (CL.func rfl) (w_bPut c.writebacks bl pb rb hB hbl hroom w.line w.words) (j := 0) rfl (Wants.yes rfl rfl rfl g4) rfl ?_
          rintro _ rb2 ⟨rfl, hB2⟩
          refine .y rfl rfl (LD.neq rfl rfl) g4 rfl rfl rfl rfl ?_
          refine .q rfl rfl (LD.pickT rfl g4 rfl) rfl rfl ?_
          refine .q rfl rfl (LD.assign rfl) rfl rfl ?_
          refine TD.nilX ?_
          refine TC.cond rfl (fun g5 => ?_) (fun g5 => ?_)
          · have h5 := g5
            try simp at h5
            refine TC.seq ?_
            refine TC.region ?_
            refine .q (LD.bS rfl rfl (by repeat constructor)) rfl rfl ?_
            refine .e (EF.stA (i := 1) rfl rfl rfl rfl rfl rfl (by repeat constructor)) rfl rfl ?_
            refine .q (LD.assign rfl) rfl rfl ?_
            refine .q (LD.assign rfl) rfl rfl ?_
            refine TL.nilS ?_
            refine TC.ret ?_
            repeat first | refine Post.sr ?_ | refine Post.br ?_
            rw [wbPutR_eq] at hB2
            have hpe := wbPut_err (c := c) (b := bl) (line := w.line) (w := w.words) (by rw [← wbPutR_eq]; assumption)
            rw [hpe] at hB2
            have hne : ¬ (wbPut c bl w.line w.words).2 = 0 := by rw [← wbPutR_eq]; assumption
            obtain ⟨ee, hee⟩ : ∃ ee, ee = (wbPut c bl w.line w.words).2 := ⟨_, rfl⟩
            rw [← hee] at hpe hne
            clear hee
            have e : (⟨c, core, a, fl, bl⟩ : Cache).evict set way = ((⟨c, core, a, fl, bl⟩ : Cache), Msg.none, false, 4) := (by unfold Cache.evict; simp only [hwa]; rw [hpe]; rw [if_neg hw0, if_neg (by simp_all), if_pos (by omega), if_pos hne])
            exact Out.intro (X := [_, _]) (L' := [_, _, _, _]) (Res.c rfl (LV.aggL m1 (by repeat constructor) rfl) (Res.t rfl (Res.t rfl Res.z))) (by rw [e]; exact ⟨rfl, _, _, hF, hB2, rfl⟩) (.refl _)
          · have h5 := g5
            try simp at h5
            refine TC.skip ?_
            refine TC.seq ?_
            refine TC.drawW [0, 0, 0, 1, 0, 1, 0, 2] [0, 1, 2, 3, 4, 5, 6, 7] TryzI.mixed (by decide +kernel) (by decide) ?_
            refine .q rfl rfl (LD.move rfl) rfl rfl ?_
            refine .q rfl rfl (LD.nilCheck rfl) rfl rfl ?_
            refine .q rfl rfl (LD.fieldAddr rfl) rfl rfl ?_
            refine .r rfl rfl (LD.ld1 rfl m2 rfl) rfl rfl ?_
            refine .q rfl rfl (LD.fieldAddr rfl) rfl rfl ?_
            refine .r rfl rfl (LD.ld1 rfl m0 rfl) rfl rfl ?_
            refine .q rfl rfl (LD.bA rfl rfl (by repeat constructor)) rfl rfl ?_
            refine TD.cwX rfl rfl (CL.func rfl) (w_Set c hc hok a ha pa ba hpab w.line hline 0 Words.zero) (j := 3) rfl (Wants.un rfl) rfl ?_
            rintro _ _ ⟨rfl, rfl⟩
            have hal : ((setWay c a w.line 0 Words.zero).length : Int) = c.sets * c.ways := by rw [setWay_len]; exact ha
            refine TD.nilC ?_
            refine TC.seq ?_
            refine TC.seq ?_
            refine TC.region ?_
            refine .q (LD.fieldAddr rfl) rfl rfl ?_
            refine .q (LD.ld1 rfl m0 rfl) rfl rfl ?_
            refine TL.cp (CL.func rfl) (w_owns _) (Wants.un rfl) rfl ?_
            rintro _ rfl
            refine .q (LD.not rfl) rfl rfl ?_
            refine TL.nilS ?_
            refine TC.cond rfl (fun g6 => ?_) (fun g6 => ?_)
            · have h6 := g6
              try simp at h6
              refine TC.seq ?_
              refine TC.region ?_
              refine .q (LD.bS rfl rfl (by repeat constructor)) rfl rfl ?_
              refine .e (EF.stA (i := 1) rfl rfl rfl rfl rfl rfl (by repeat constructor)) rfl rfl ?_
              refine .q (LD.assign rfl) rfl rfl ?_
              refine .q (LD.assign rfl) rfl rfl ?_
              refine TL.nilS ?_
              refine TC.ret ?_
              repeat first | refine Post.sr ?_ | refine Post.br ?_
              first
              | omega
              | (have e : (⟨c, core, a, fl, bl⟩ : Cache).evict set way = (⟨c, core, setWay c a w.line 0 Words.zero, fl, bl⟩, Msg.none, false, 0) := (by unfold Cache.evict; simp_all; omega); exact Out.intro (X := [_, _]) (L' := [_, _, _, _]) (Res.c rfl (LV.aggL m1 (by repeat constructor) rfl) (Res.t rfl (Res.t rfl Res.z))) (by rw [e]; exact ⟨rfl, _, _, hF, hB, rfl⟩) (.refl _))
            · have h6 := g6
              try simp at h6
              refine TC.skipS ?_
              refine TC.seq ?_
              refine TC.region ?_
              refine .q (LD.move rfl) rfl rfl ?_
              refine .q (LD.fieldAddr rfl) rfl rfl ?_
              refine .q (LD.ld1 rfl m0 rfl) rfl rfl ?_
              refine TL.clX (X := [_, _]) (pre := [_]) (CL.func rfl) (w_home c hc hok core p pa pf pb 3 w.line hin hline) rfl (Wants.un rfl) rfl ?_
              rintro _ _ ⟨rfl, rfl⟩
              refine TL.nb NB.alloc (Wants.un rfl) rfl (fun b11 => ?_)
              refine .e (EF.stA (i := 0) rfl rfl rfl rfl rfl rfl (by repeat constructor)) rfl rfl ?_
              refine TL.nilS ?_
              refine TC.seq ?_
              refine TC.region ?_
              refine .q (LD.fieldAddr rfl) rfl rfl ?_
              refine .q (LD.ldA rfl m1 (by repeat constructor) rfl) rfl rfl ?_
              refine .q (LD.fieldAddr rfl) rfl rfl ?_
              refine .e (EF.stA (i := 0) rfl rfl rfl rfl rfl rfl (by repeat constructor)) rfl rfl ?_
              refine TL.nilS ?_
              refine TC.seq ?_
              refine TC.region ?_
              refine .q (LD.ldA rfl m0 (by repeat constructor) rfl) rfl rfl ?_
              refine .e (EF.stA (i := 2) rfl rfl rfl rfl rfl rfl (by repeat constructor)) rfl rfl ?_
              refine .q (LD.assign rfl) rfl rfl ?_
              refine .q (LD.assign rfl) rfl rfl ?_
              refine TL.nilS ?_
              refine TC.ret ?_
              repeat first | refine Post.sr ?_ | refine Post.br ?_
              first
              | omega
              | (rw [wbPutR_eq] at hB2; have hpe := wbPut_ok (c := c) (b := bl) (line := w.line) (w := w.words) (by rw [← wbPutR_eq]; assumption); rw [hpe] at hB2; have e : (⟨c, core, a, fl, bl⟩ : Cache).evict set way = (⟨c, core, setWay c a w.line 0 Words.zero, fl, bl ++ [⟨w.line, w.words, true⟩]⟩, { (⟨c, core, a, fl, bl⟩ : Cache).home 3 w.line with words := w.words }, true, 0) := (by unfold Cache.evict; simp only [hwa]; rw [hpe]; simp_all); exact Out.intro (X := [_, _, _]) (L' := [_, _, _, _]) (Res.c rfl (LV.aggL m2 (by repeat constructor) rfl) (Res.t rfl (Res.t rfl Res.z))) (by rw [e]; exact ⟨rfl, _, _, hF, hB2, rfl⟩) (.refl _))
        · have h4 := g4
          try simp at h4
          refine .s rfl g4 rfl rfl rfl rfl ?_
          refine .s rfl g4 rfl rfl rfl rfl ?_
          refine .s rfl g4 rfl rfl rfl rfl ?_
          refine .s rfl g4 rfl rfl rfl rfl ?_
          refine .s rfl g4 rfl rfl rfl rfl ?_
          refine .s rfl g4 rfl rfl rfl rfl ?_
          refine .s rfl g4 rfl rfl rfl rfl ?_
          refine .s rfl g4 rfl rfl rfl rfl ?_
          refine .s rfl g4 rfl rfl rfl rfl ?_
          refine .q rfl rfl (LD.pickF rfl g4 rfl) rfl rfl ?_
          refine .q rfl rfl (LD.assign rfl) rfl rfl ?_
          refine TD.nilX ?_
          refine TC.condF rfl rfl ?_
          refine TC.skip ?_
          refine TC.seq ?_
          refine TC.drawW [0, 0, 0, 1, 0, 1, 0, 2] [0, 1, 2, 3, 4, 5, 6, 7] TryzI.mixed (by decide +kernel) (by decide) ?_
          refine .q rfl rfl (LD.move rfl) rfl rfl ?_
          refine .q rfl rfl (LD.nilCheck rfl) rfl rfl ?_
          refine .q rfl rfl (LD.fieldAddr rfl) rfl rfl ?_
          refine .r rfl rfl (LD.ld1 rfl m2 rfl) rfl rfl ?_
          refine .q rfl rfl (LD.fieldAddr rfl) rfl rfl ?_
          refine .r rfl rfl (LD.ld1 rfl m0 rfl) rfl rfl ?_
          refine .q rfl rfl (LD.bA rfl rfl (by repeat constructor)) rfl rfl ?_
          refine TD.cwX rfl rfl (CL.func rfl) (w_Set c hc hok a ha pa ba hpab w.line hline 0 Words.zero) (j := 3) rfl (Wants.un rfl) rfl ?_
          rintro _ _ ⟨rfl, rfl⟩
          have hal : ((setWay c a w.line 0 Words.zero).length : Int) = c.sets * c.ways := by rw [setWay_len]; exact ha
          refine TD.nilC ?_
          refine TC.seq ?_
          refine TC.seq ?_
          refine TC.region ?_
          refine .q (LD.fieldAddr rfl) rfl rfl ?_
          refine .q (LD.ld1 rfl m0 rfl) rfl rfl ?_
          refine TL.cp (CL.func rfl) (w_owns _) (Wants.un rfl) rfl ?_
          rintro _ rfl
          refine .q (LD.not rfl) rfl rfl ?_
          refine TL.nilS ?_
          refine TC.cond rfl (fun g7 => ?_) (fun g7 => ?_)
          · have h7 := g7
            try simp at h7
            refine TC.seq ?_
            refine TC.region ?_
            refine .q (LD.bS rfl rfl (by repeat constructor)) rfl rfl ?_
            refine .e (EF.stA (i := 1) rfl rfl rfl rfl rfl rfl (by repeat constructor)) rfl rfl ?_
            refine .q (LD.assign rfl) rfl rfl ?_
            refine .q (LD.assign rfl) rfl rfl ?_
            refine TL.nilS ?_
            refine TC.ret ?_
            repeat first | refine Post.sr ?_ | refine Post.br ?_
            first
            | omega
            | (have e : (⟨c, core, a, fl, bl⟩ : Cache).evict set way = (⟨c, core, setWay c a w.line 0 Words.zero, fl, bl⟩, Msg.none, false, 0) := (by unfold Cache.evict; simp_all; omega); exact Out.intro (X := [_, _]) (L' := [_, _, _, _]) (Res.c rfl (LV.aggL m1 (by repeat constructor) rfl) (Res.t rfl (Res.t rfl Res.z))) (by rw [e]; exact ⟨rfl, _, _, hF, hB, rfl⟩) (.refl _))
          · have h7 := g7
            try simp at h7
            refine TC.skipS ?_
            refine TC.seq ?_
            refine TC.region ?_
            refine .q (LD.move rfl) rfl rfl ?_
            refine .q (LD.fieldAddr rfl) rfl rfl ?_
            refine .q (LD.ld1 rfl m0 rfl) rfl rfl ?_
            refine TL.clX (X := [_, _]) (pre := [_]) (CL.func rfl) (w_home c hc hok core p pa pf pb 3 w.line hin hline) rfl (Wants.un rfl) rfl ?_
            rintro _ _ ⟨rfl, rfl⟩
            refine TL.nb NB.alloc (Wants.un rfl) rfl (fun b11 => ?_)
            refine .e (EF.stA (i := 0) rfl rfl rfl rfl rfl rfl (by repeat constructor)) rfl rfl ?_
            refine TL.nilS ?_
            refine TC.seq ?_
            refine TC.region ?_
            refine .q (LD.fieldAddr rfl) rfl rfl ?_
            refine .q (LD.ldA rfl m1 (by repeat constructor) rfl) rfl rfl ?_
            refine .q (LD.fieldAddr rfl) rfl rfl ?_
            refine .e (EF.stA (i := 0) rfl rfl rfl rfl rfl rfl (by repeat constructor)) rfl rfl ?_
            refine TL.nilS ?_
            refine TC.seq ?_
            refine TC.region ?_
            refine .q (LD.ldA rfl m0 (by repeat constructor) rfl) rfl rfl ?_
            refine .e (EF.stA (i := 2) rfl rfl rfl rfl rfl rfl (by repeat constructor)) rfl rfl ?_
            refine .q (LD.assign rfl) rfl rfl ?_
            refine .q (LD.assign rfl) rfl rfl ?_
            refine TL.nilS ?_
            refine TC.ret ?_
            repeat first | refine Post.sr ?_ | refine Post.br ?_
            first
            | omega
            | (rw [wbPutR_eq] at hB2; have hpe := wbPut_ok (c := c) (b := bl) (line := w.line) (w := w.words) (by rw [← wbPutR_eq]; assumption); rw [hpe] at hB2; have e : (⟨c, core, a, fl, bl⟩ : Cache).evict set way = (⟨c, core, setWay c a w.line 0 Words.zero, fl, bl ++ [⟨w.line, w.words, true⟩]⟩, { (⟨c, core, a, fl, bl⟩ : Cache).home 3 w.line with words := w.words }, true, 0) := (by unfold Cache.evict; simp only [hwa]; rw [hpe]; simp_all); exact Out.intro (X := [_, _, _]) (L' := [_, _, _, _]) (Res.c rfl (LV.aggL m2 (by repeat constructor) rfl) (Res.t rfl (Res.t rfl Res.z))) (by rw [e]; exact ⟨rfl, _, _, hF, hB2, rfl⟩) (.refl _))
  · have h1 := g1
    try simp at h1
    refine .s g1 rfl rfl rfl rfl ?_
    refine .s g1 rfl rfl rfl rfl ?_
    refine .q (LD.pickT rfl g1 rfl) rfl rfl ?_
    refine .q (LD.assign rfl) rfl rfl ?_
    refine TL.nilS ?_
    refine TC.condT rfl rfl ?_
    refine TC.seq ?_
    refine TC.region ?_
    refine .q (LD.bS rfl rfl (by repeat constructor)) rfl rfl ?_
    refine .e (EF.stA (i := 1) rfl rfl rfl rfl rfl rfl (by repeat constructor)) rfl rfl ?_
    refine .q (LD.assign rfl) rfl rfl ?_
    refine .q (LD.assign rfl) rfl rfl ?_
    refine TL.nilS ?_
    refine TC.ret ?_
    repeat first | refine Post.sr ?_ | refine Post.br ?_
    have e : (⟨c, core, a, fl, bl⟩ : Cache).evict set way = ((⟨c, core, a, fl, bl⟩ : Cache), Msg.none, false, 5) := (by unfold Cache.evict; cases hq : wayAt c a set way <;> simp_all)
    exact Out.intro (X := [_, _]) (L' := [_, _, _, _]) (Res.c rfl (LV.aggL m1 (by repeat constructor) rfl) (Res.t rfl (Res.t rfl Res.z))) (by rw [e]; exact ⟨rfl, _, _, hF, hB, rfl⟩) (.refl _)

open Mes in
def doV (r : Cache × Int × Int) : Value := .tuple [i r.2.1, i r.2.2].toArray
open Mes in
def finV (r : Cache × Option Msg) : Value := .tuple [.agg (encMsg (r.2.getD Msg.none)).toArray, .bool r.2.isSome].toArray

open Mes in
theorem w_to (c : Cfg) (core : Int) (p pa pf pb : Nat) (m : Msg) (kind : Int) : Fn Tryz.prog 158 [.pointer (some ⟨p, 0, none⟩), .agg (encMsg m).toArray, i kind] [CacP p c core pa pf pb] (fun u L' => u = .agg (encMsg ⟨kind, m.line, core, m.who, 0, 0, 0, Words.zero⟩).toArray ∧ L' = [CacP p c core pa pf pb]) := by
  refine Fn.body Tryz.func158 rfl rfl rfl (Nat.le_of_ble_eq_true rfl) fun F => ?_
  refine TC.seq ?_
  refine TC.region ?_
  refine TL.nb (NB.boxA rfl) (Wants.un rfl) rfl (fun b4 => ?_)
  refine TL.nb NB.alloc (Wants.un rfl) rfl (fun b6 => ?_)
  refine TL.nilS ?_
  refine TC.seq ?_
  refine TC.drawW [0, 0, 1, 0, 0, 0, 1, 0, 1, 0, 2] [0, 1, 2, 3, 4, 5, 6, 7, 8, 9, 10] TryzI.mixed (by decide +kernel) (by decide) ?_
  refine .q rfl rfl (LD.move rfl) rfl rfl ?_
  refine .q rfl rfl (LD.fieldAddr rfl) rfl rfl ?_
  refine .r rfl rfl (LD.ld1 rfl m1 rfl) rfl rfl ?_
  refine .q rfl rfl (LD.move rfl) rfl rfl ?_
  refine .q rfl rfl (LD.nilCheck rfl) rfl rfl ?_
  refine .q rfl rfl (LD.fieldAddr rfl) rfl rfl ?_
  refine .r rfl rfl (LD.ld1 rfl m2 rfl) rfl rfl ?_
  refine .q rfl rfl (LD.fieldAddr rfl) rfl rfl ?_
  refine .r rfl rfl (LD.ld1 rfl m1 rfl) rfl rfl ?_
  refine .q rfl rfl (LD.bS rfl rfl (by repeat constructor)) rfl rfl ?_
  refine TD.efF (j := 0) rfl rfl (EF.stA (i := 0) rfl rfl rfl rfl rfl rfl (by repeat constructor)) rfl (Wants.un rfl) rfl ?_
  refine TD.nilC ?_
  refine TC.ret ?_
  repeat first | refine Post.sr ?_ | refine Post.br ?_
  exact Out.intro (X := [_, _]) (L' := [_]) (Res.c rfl (LV.aggL m0 (by repeat constructor) rfl) Res.z) ⟨rfl, rfl⟩ (.refl _)
open Mes in
theorem w_tell (c : Cfg) (hc : CfgR c) (hok : c.ok = true) (core : Int) (a : List Mes.Way) (ha : (a.length : Int) = c.sets * c.ways) (p pa ba pf pb : Nat) (hpab : pa ≠ ba) (fl : List Miss) (hfl : fl.length ≤ 100000) (bl : List WB) (hbl : bl.length ≤ 100000) (rf rb : Frag) (hF : IsFile c.mshrs fl pf rf) (hB : IsBuf c.writebacks bl pb rb) (m : Msg) (hline : R64 m.line) (own state : Int) (give : Bool) (bl2 : List WB) (hbl2 : bl2 = if give = true ∧ (wbShare bl m.line).2 = 0 then wbKill bl m.line else bl) (fn : Nat) [FnAt Tryz.prog fn] (hf : FnW Tryz.prog fn [.pointer (some ⟨pb, 0, none⟩), i m.line] rb (fun u r' => u = bShareV bl m.line ∧ IsBuf c.writebacks bl2 pb r')) : Fn Tryz.prog 155 [.pointer (some ⟨p, 0, none⟩), .agg (encMsg m).toArray, i own, i state, .func (.func fn) #[.pointer (some ⟨pb, 0, none⟩)] #[]] [CacP p c core pa pf pb, ArrF pa ba c a, rf, rb] (CacPost c core p pa ba pf pb (ansV ((⟨c, core, a, fl, bl⟩ : Cache).tell m own state give)) ((⟨c, core, a, fl, bl⟩ : Cache).tell m own state give).1) := by
  refine Fn.body Tryz.func155 rfl rfl rfl (Nat.le_of_ble_eq_true rfl) fun F => ?_
  refine TC.seq ?_
  refine TC.region ?_
  refine TL.nb (NB.boxA rfl) (Wants.un rfl) rfl (fun b6 => ?_)
  refine TL.nb NB.alloc (Wants.un rfl) rfl (fun b10 => ?_)
  refine .q (LD.assign rfl) rfl rfl ?_
  refine TL.nilS ?_
  refine TC.seq ?_
  refine TC.region ?_
  refine .q (LD.move rfl) rfl rfl ?_
  refine .q (LD.fieldAddr rfl) rfl rfl ?_
  refine .q (LD.ld1 rfl m1 rfl) rfl rfl ?_
  refine TL.clX (X := [_, _]) (pre := [_, _]) (CL.func rfl) (w_Look c hc hok core a ha p pa ba pf pb hpab m.line hline) rfl (Wants.un rfl) rfl ?_
  rintro _ _ ⟨rfl, rfl⟩
  refine .q (LD.move rfl) rfl rfl ?_
  refine .q (LD.ex rfl rfl) rfl rfl ?_
  refine .q (LD.ex rfl rfl) rfl rfl ?_
  refine TL.nb NB.alloc (Wants.un rfl) rfl (fun b12 => ?_)
  refine .e (EF.stA (i := 0) rfl rfl rfl rfl rfl rfl (by repeat constructor)) rfl rfl ?_
  refine .q (LD.assign rfl) rfl rfl ?_
  refine TL.nilS ?_
  refine TC.seq ?_
  refine TC.region ?_
  refine .q (LD.fieldAddr rfl) rfl rfl ?_
  refine .q (LD.ldA rfl m0 (by repeat constructor) rfl) rfl rfl ?_
  refine TL.nb NB.alloc (Wants.un rfl) rfl (fun b14 => ?_)
  refine .e (EF.stA (i := 0) rfl rfl rfl rfl rfl rfl (by repeat constructor)) rfl rfl ?_
  refine TL.nilS ?_
  refine TC.seq ?_
  refine TC.seq ?_
  refine TC.region ?_
  refine .q (LD.fieldAddr rfl) rfl rfl ?_
  refine .q (LD.ld1 rfl m1 rfl) rfl rfl ?_
  refine TL.cp (CL.func rfl) (w_owns _) (Wants.un rfl) rfl ?_
  rintro _ rfl
  refine TL.nilS ?_
  refine TC.cond rfl (fun g1 => ?_) (fun g1 => ?_)
  · have h1 := g1
    try simp at h1
    refine TC.drawX (R := [_, _, _, _, _]) [0, 0, 0, 0, 0, 0, 0, 0, 2] [0, 1, 2, 3, 4, 5, 6, 7, 8] TryzI.mixed (by decide +kernel) (no4 (by decide)) rfl ?_
    refine .q rfl rfl (LD.move rfl) rfl rfl ?_
    refine .q rfl rfl (LD.nilCheck rfl) rfl rfl ?_
    refine .q rfl rfl (LD.fieldAddr rfl) rfl rfl ?_
    refine .q rfl rfl (LD.ld1 rfl m4 rfl) rfl rfl ?_
    refine .q rfl rfl (LD.fieldAddr rfl) rfl rfl ?_
    refine .q rfl rfl (LD.ld1 rfl m3 rfl) rfl rfl ?_
    refine .q rfl rfl (LD.move rfl) rfl rfl ?_
    refine .q rfl rfl (LD.ldA rfl m0 (by repeat constructor) rfl) rfl rfl ?_
    refine TD.cwX rfl rfl (CL.func rfl) (w_Set c hc hok a ha pa ba hpab m.line hline state (lookWay c a m.line).words) (j := 0) rfl (Wants.un rfl) rfl ?_
    rintro _ _ ⟨rfl, rfl⟩
    have hal : ((setWay c a m.line state (lookWay c a m.line).words).length : Int) = c.sets * c.ways := by rw [setWay_len]; exact ha
    refine TD.nilX ?_
    refine TC.seq ?_
    refine TC.region ?_
    refine .q (LD.move rfl) rfl rfl ?_
    refine .q (LD.ldA rfl m3 (by repeat constructor) rfl) rfl rfl ?_
    refine TL.clX (X := [_, _, _, _]) (pre := [_]) (CL.func rfl) (w_to c core p pa pf pb m _) rfl (Wants.un rfl) rfl ?_
    rintro _ _ ⟨rfl, rfl⟩
    refine TL.nb NB.alloc (Wants.un rfl) rfl (fun b17 => ?_)
    refine .e (EF.stA (i := 0) rfl rfl rfl rfl rfl rfl (by repeat constructor)) rfl rfl ?_
    refine TL.nilS ?_
    refine TC.seq ?_
    refine TC.perm (List.perm_middle (l₁ := [_, _, _, _])).symm ?_
    refine TC.drawX (R := [_, _, _, _]) [0, 0, 0, 0, 0, 2, 0, 2, 0, 2, 0, 2] [0, 1, 2, 3, 4, 5, 6, 7, 8, 9, 10, 11] TryzI.mixed (by decide +kernel) (no4 (by decide)) rfl ?_
    refine .q rfl rfl (LD.move rfl) rfl rfl ?_
    refine .q rfl rfl (LD.fieldAddr rfl) rfl rfl ?_
    refine .q rfl rfl (LD.ld1 rfl m3 rfl) rfl rfl ?_
    refine .q rfl rfl (LD.ldA rfl m0 (by repeat constructor) rfl) rfl rfl ?_
    refine .q rfl rfl (LD.fieldAddr rfl) rfl rfl ?_
    refine TD.efF (j := 0) rfl rfl (EF.st1 (i := 0) rfl rfl rfl rfl rfl (by repeat constructor)) rfl (Wants.un rfl) rfl ?_
    refine .q rfl rfl (LD.fieldAddr rfl) rfl rfl ?_
    refine TD.efT (j := 0) rfl rfl (EF.st1 (i := 0) rfl rfl rfl rfl rfl (by repeat constructor)) rfl (Wants.un rfl) rfl ?_
    refine .q rfl rfl (LD.fieldAddr rfl) rfl rfl ?_
    refine TD.efT (j := 0) rfl rfl (EF.st1 (i := 0) rfl rfl rfl rfl rfl (by repeat constructor)) rfl (Wants.un rfl) rfl ?_
    refine .q rfl rfl (LD.fieldAddr rfl) rfl rfl ?_
    refine TD.efT (j := 0) rfl rfl (EF.stA (i := 0) rfl rfl rfl rfl rfl rfl (by repeat constructor)) rfl (Wants.un rfl) rfl ?_
    refine TD.nilX ?_
    refine TC.seq ?_
    refine TC.region ?_
    refine .q (LD.ldA rfl m4 (by repeat constructor) rfl) rfl rfl ?_
    refine .q (LD.bS rfl rfl (by repeat constructor)) rfl rfl ?_
    refine .e (EF.stA (i := 2) rfl rfl rfl rfl rfl rfl (by repeat constructor)) rfl rfl ?_
    refine .q (LD.assign rfl) rfl rfl ?_
    refine TL.nilS ?_
    refine TC.ret ?_
    repeat first | refine Post.sr ?_ | refine Post.br ?_
    have e : (⟨c, core, a, fl, bl⟩ : Cache).tell m own state give = (⟨c, core, setWay c a m.line state (lookWay c a m.line).words, fl, bl⟩, ⟨7, m.line, core, m.who, 1, m.acks, own, (lookWay c a m.line).words⟩, true, 0) := (by unfold Cache.tell; simp_all [Cache.look, Cache.answer])
    exact Out.intro (X := [_, _, _, _, _]) (L' := [_, _, _, _]) (Res.c rfl (LV.aggL m2 (by repeat constructor) rfl) (Res.t rfl Res.z)) (by rw [e]; exact ⟨rfl, _, _, hF, hB, rfl⟩) (.refl _)
  · have h1 := g1
    try simp at h1
    refine TC.seq ?_
    refine TC.region ?_
    refine .q (LD.move rfl) rfl rfl ?_
    refine .q (LD.fieldAddr rfl) rfl rfl ?_
    refine .q (LD.ld1 rfl m3 rfl) rfl rfl ?_
    refine TL.cw (CL.clos (cap := []) (first := [_]) rfl rfl) hf (i := 7) rfl (Wants.un rfl) rfl ?_
    rintro _ rb2 ⟨rfl, hB2⟩
    refine .q (LD.move rfl) rfl rfl ?_
    refine .q (LD.ex rfl rfl) rfl rfl ?_
    refine .q (LD.ex rfl rfl) rfl rfl ?_
    refine TL.nb NB.alloc (Wants.un rfl) rfl (fun b15 => ?_)
    refine .e (EF.stA (i := 0) rfl rfl rfl rfl rfl rfl (by repeat constructor)) rfl rfl ?_
    refine .q (LD.assign rfl) rfl rfl ?_
    refine TL.nilS ?_
    refine TC.seq ?_
    refine TC.seq ?_
    refine TC.region ?_
    refine .q (LD.move rfl) rfl rfl ?_
    refine .q (LD.neq rfl rfl) rfl rfl ?_
    refine TL.nilS ?_
    refine TC.cond rfl (fun g2 => ?_) (fun g2 => ?_)
    · have h2 := g2
      try simp at h2
      refine TC.seq ?_
      refine TC.region ?_
      refine .q (LD.bS rfl rfl (by repeat constructor)) rfl rfl ?_
      refine .e (EF.stA (i := 3) rfl rfl rfl rfl rfl rfl (by repeat constructor)) rfl rfl ?_
      refine .q (LD.assign rfl) rfl rfl ?_
      refine TL.nilS ?_
      refine TC.ret ?_
      repeat first | refine Post.sr ?_ | refine Post.br ?_
      have e : (⟨c, core, a, fl, bl⟩ : Cache).tell m own state give = ((⟨c, core, a, fl, bl⟩ : Cache), Msg.none, false, 7) := (by unfold Cache.tell; simp_all [Cache.look]; try omega)
      exact Out.intro (X := [_, _, _, _, _]) (L' := [_, _, _, _]) (Res.c rfl (LV.aggL m3 (by repeat constructor) rfl) (Res.t rfl Res.z)) (by rw [e]; exact ⟨rfl, _, _, hF, (by have := hB2; rw [hbl2] at this; simp_all), rfl⟩) (.refl _)
    · have h2 := g2
      try simp at h2
      refine TC.skipS ?_
      refine TC.region ?_
      refine .q (LD.ldA rfl m0 (by repeat constructor) rfl) rfl rfl ?_
      refine .e (EF.stA (i := 1) rfl rfl rfl rfl rfl rfl (by repeat constructor)) rfl rfl ?_
      refine TL.nilS ?_
      refine TC.seq ?_
      refine TC.region ?_
      refine .q (LD.move rfl) rfl rfl ?_
      refine .q (LD.ldA rfl m4 (by repeat constructor) rfl) rfl rfl ?_
      refine TL.clX (X := [_, _, _, _, _]) (pre := [_]) (CL.func rfl) (w_to c core p pa pf pb m _) rfl (Wants.un rfl) rfl ?_
      rintro _ _ ⟨rfl, rfl⟩
      refine TL.nb NB.alloc (Wants.un rfl) rfl (fun b17 => ?_)
      refine .e (EF.stA (i := 0) rfl rfl rfl rfl rfl rfl (by repeat constructor)) rfl rfl ?_
      refine TL.nilS ?_
      refine TC.seq ?_
      refine TC.perm (List.perm_middle (l₁ := [_, _, _, _, _])).symm ?_
      refine TC.drawX (R := [_, _, _, _, _]) [0, 0, 0, 0, 0, 2, 0, 2, 0, 2, 0, 2] [0, 1, 2, 3, 4, 5, 6, 7, 8, 9, 10, 11] TryzI.mixed (by decide +kernel) (no4 (by decide)) rfl ?_
      refine .q rfl rfl (LD.move rfl) rfl rfl ?_
      refine .q rfl rfl (LD.fieldAddr rfl) rfl rfl ?_
      refine .q rfl rfl (LD.ld1 rfl m4 rfl) rfl rfl ?_
      refine .q rfl rfl (LD.ldA rfl m1 (by repeat constructor) rfl) rfl rfl ?_
      refine .q rfl rfl (LD.fieldAddr rfl) rfl rfl ?_
      refine TD.efF (j := 0) rfl rfl (EF.st1 (i := 0) rfl rfl rfl rfl rfl (by repeat constructor)) rfl (Wants.un rfl) rfl ?_
      refine .q rfl rfl (LD.fieldAddr rfl) rfl rfl ?_
      refine TD.efT (j := 0) rfl rfl (EF.st1 (i := 0) rfl rfl rfl rfl rfl (by repeat constructor)) rfl (Wants.un rfl) rfl ?_
      refine .q rfl rfl (LD.fieldAddr rfl) rfl rfl ?_
      refine TD.efT (j := 0) rfl rfl (EF.st1 (i := 0) rfl rfl rfl rfl rfl (by repeat constructor)) rfl (Wants.un rfl) rfl ?_
      refine .q rfl rfl (LD.fieldAddr rfl) rfl rfl ?_
      refine TD.efT (j := 0) rfl rfl (EF.stA (i := 0) rfl rfl rfl rfl rfl rfl (by repeat constructor)) rfl (Wants.un rfl) rfl ?_
      refine TD.nilX ?_
      refine TC.seq ?_
      refine TC.region ?_
      refine .q (LD.ldA rfl m5 (by repeat constructor) rfl) rfl rfl ?_
      refine .q (LD.bS rfl rfl (by repeat constructor)) rfl rfl ?_
      refine .e (EF.stA (i := 3) rfl rfl rfl rfl rfl rfl (by repeat constructor)) rfl rfl ?_
      refine .q (LD.assign rfl) rfl rfl ?_
      refine TL.nilS ?_
      refine TC.ret ?_
      repeat first | refine Post.sr ?_ | refine Post.br ?_
      have e : (⟨c, core, a, fl, bl⟩ : Cache).tell m own state give = (⟨c, core, a, fl, bl2⟩, ⟨7, m.line, core, m.who, 1, m.acks, own, (wbShare bl m.line).1⟩, true, 0) := (by have h0 : (wbShare bl m.line).2 = 0 := (by assumption); have hst : ¬ 2 ≤ (lookWay c a m.line).state := (by omega); rw [hbl2]; unfold Cache.tell; rcases hq : wbShare bl m.line with ⟨ws, ee⟩; rw [hq] at h0; simp only at h0; subst h0; simp [Cache.look, Cache.answer, hst, hq])
      exact Out.intro (X := [_, _, _, _, _, _]) (L' := [_, _, _, _]) (Res.c rfl (LV.aggL m3 (by repeat constructor) rfl) (Res.t rfl Res.z)) (by rw [e]; exact ⟨rfl, _, _, hF, hB2, rfl⟩) (.refl _)
end Go.SL.TryzI
