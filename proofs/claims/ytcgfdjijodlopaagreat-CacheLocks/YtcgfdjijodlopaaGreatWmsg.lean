/- A part of proofs about the given program. No condition. -/
import Derived.Test.YtcgfdjijodlopaaGreatWwb
set_option linter.all false
namespace Go.SL.TryzI
open Go Go.Proofs Go.SL
set_option maxRecDepth 100000


open Mes in
def encMsg (m : Msg) : List Value := [i m.kind, i m.line, i m.frm, i m.to, i m.who, i m.acks, i m.own, i (m.words.get 0), i (m.words.get 1), i (m.words.get 2), i (m.words.get 3), i (m.words.get 4), i (m.words.get 5), i (m.words.get 6), i (m.words.get 7)]
open Mes in
theorem words_ext {w v : Words} (h : ∀ k, k < 8 → w.get k = v.get k) : w = v := by
  have e : w.l = v.l := by
    rw [words_list w, words_list v]
    simp only [h 0 (by omega), h 1 (by omega), h 2 (by omega), h 3 (by omega), h 4 (by omega), h 5 (by omega), h 6 (by omega), h 7 (by omega)]
  obtain ⟨a, ha⟩ := w; obtain ⟨b, hb⟩ := v; simp only at e; subst e; rfl
open Mes in
theorem encW_get (w : Words) {k : Nat} (h : k < 8) : (encW w)[k]? = some (i (w.get k)) := by
  rcases k with _ | _ | _ | _ | _ | _ | _ | _ | k <;> first | rfl | omega
open Mes in
theorem zero_get (k : Nat) : Words.zero.get k = 0 := by
  simp only [Words.get, Words.zero, List.getD_eq_getElem?_getD, List.getElem?_replicate]
  split <;> rfl
theorem i_inj (a b : Int) : veq (i a) (i b) = decide (a = b) := rfl
theorem shp_ints : ∀ l : List Int, Shp (List.replicate l.length true) (l.map i)
  | [] => rfl
  | x :: l => ⟨_, _, rfl, ⟨x, rfl⟩, shp_ints l⟩
open Mes in
theorem encW_shp (w : Words) : Shp (List.replicate 8 true) (encW w) := by
  have := shp_ints [w.get 0, w.get 1, w.get 2, w.get 3, w.get 4, w.get 5, w.get 6, w.get 7]
  exact this
open Mes in
theorem ceq_words (w v : Words) : ceq (encW w) (encW v) = decide (w = v) := by
  have h := ceq_iff (encW_shp w) (encW_shp v)
  have e : encW w = encW v ↔ w = v := by
    constructor
    · intro h0
      simp only [encW, List.cons.injEq, i, Value.int.injEq, true_and, and_true] at h0
      refine words_ext fun k hk => ?_
      rcases k with _ | _ | _ | _ | _ | _ | _ | _ | k
      all_goals first | omega | simp_all
    · intro h0; rw [h0]
  rw [e] at h
  cases hc : ceq (encW w) (encW v)
  · rw [hc] at h; simp at h; simp [h]
  · rw [hc] at h; simp at h; simp [h]
/-! ### message -/
instance eqIntX : Eq1 Tryz.prog 3 true := ⟨.inl ⟨rfl, _, Tryz.underlying3⟩⟩
instance eqW : EqA Tryz.prog 36 2 (List.replicate 8 true) := EqA.array Tryz.underlying36 Tryz.type3 rfl

instance m_up_fits : Meth Tryz.prog 294 (.agg #[]) "mesne/message.fits" 263 (.agg #[]) := .of (fun m w => by
  simp [method, Tryz.typeInfo294, Tryz.t294, follow, receiverAt, Place.get, Tryz.runUnderlying294]) (by decide +kernel)
instance m_put_fits : Meth Tryz.prog 296 (.agg #[]) "mesne/message.fits" 263 (.agg #[]) := .of (fun m w => by
  simp [method, Tryz.typeInfo296, Tryz.t296, follow, receiverAt, Place.get, Tryz.runUnderlying296, Tryz.runUnderlying294, part, Tryz.isAgg294, Tryz.sizeOf294]) (by decide +kernel)
instance m_forward_fits (b : Bool) : Meth Tryz.prog 298 (.agg #[.bool b]) "mesne/message.fits" 268 (.agg #[.bool b]) := .of (fun m w => by
  simp [method, Tryz.typeInfo298, Tryz.t298, follow, receiverAt, Place.get, Tryz.runUnderlying298]) (by decide +kernel)
instance m_data_fits : Meth Tryz.prog 299 (.agg #[]) "mesne/message.fits" 270 (.agg #[]) := .of (fun m w => by
  simp [method, Tryz.typeInfo299, Tryz.t299, follow, receiverAt, Place.get, Tryz.runUnderlying299]) (by decide +kernel)
instance m_down_fits (b : Bool) : Meth Tryz.prog 300 (.agg #[.bool b]) "mesne/message.fits" 269 (.agg #[.bool b]) := .of (fun m w => by
  simp [method, Tryz.typeInfo300, Tryz.t300, follow, receiverAt, Place.get, Tryz.runUnderlying300]) (by decide +kernel)
instance m_across_fits : Meth Tryz.prog 301 (.agg #[]) "mesne/message.fits" 272 (.agg #[]) := .of (fun m w => by
  simp [method, Tryz.typeInfo301, Tryz.t301, follow, receiverAt, Place.get, Tryz.runUnderlying301]) (by decide +kernel)
instance m_put_words : Meth Tryz.prog 296 (.agg #[]) "mesne/message.words" 266 (.agg #[]) := .of (fun m w => by
  simp [method, Tryz.typeInfo296, Tryz.t296, follow, receiverAt, Place.get, Tryz.runUnderlying296]) (by decide +kernel)
instance m_data_words : Meth Tryz.prog 299 (.agg #[]) "mesne/message.words" 271 (.agg #[]) := .of (fun m w => by
  simp [method, Tryz.typeInfo299, Tryz.t299, follow, receiverAt, Place.get, Tryz.runUnderlying299]) (by decide +kernel)
theorem as_up (w : World) : (Instr.typeAssert (.iface 294 (.agg #[])) 252 255 true).run Tryz.prog w = .ok (.tuple [.nilIface, .bool false].toArray) w := by
  obtain ⟨m, hm⟩ : ∃ m, Instr.missingMethod #[("mesne/message.fits", 181), ("mesne/message.words", 181)] Tryz.t294.methods = some m := missing_some (s := "mesne/message.words") (by simp [Tryz.t294])
  simp only [Instr.typeAssert, Sem.run_bind, Tryz.runUnderlying255, Result.andThen_ok, Tryz.typeInfo294, hm]
  simp [Tryz.zeroValue255]
theorem as_put (w : World) : (Instr.typeAssert (.iface 296 (.agg #[])) 252 255 true).run Tryz.prog w = .ok (.tuple [.iface 296 (.agg #[]), .bool true].toArray) w := by
  simp [Instr.typeAssert, Tryz.runUnderlying255, Tryz.typeInfo296, Tryz.t296, Instr.missingMethod, Instr.least]
theorem as_forward (b : Bool) (w : World) : (Instr.typeAssert (.iface 298 (.agg #[.bool b])) 252 255 true).run Tryz.prog w = .ok (.tuple [.nilIface, .bool false].toArray) w := by
  obtain ⟨m, hm⟩ : ∃ m, Instr.missingMethod #[("mesne/message.fits", 181), ("mesne/message.words", 181)] Tryz.t298.methods = some m := missing_some (s := "mesne/message.words") (by simp [Tryz.t298])
  simp only [Instr.typeAssert, Sem.run_bind, Tryz.runUnderlying255, Result.andThen_ok, Tryz.typeInfo298, hm]
  simp [Tryz.zeroValue255]
theorem as_data (w : World) : (Instr.typeAssert (.iface 299 (.agg #[])) 252 255 true).run Tryz.prog w = .ok (.tuple [.iface 299 (.agg #[]), .bool true].toArray) w := by
  simp [Instr.typeAssert, Tryz.runUnderlying255, Tryz.typeInfo299, Tryz.t299, Instr.missingMethod, Instr.least]
theorem as_down (b : Bool) (w : World) : (Instr.typeAssert (.iface 300 (.agg #[.bool b])) 252 255 true).run Tryz.prog w = .ok (.tuple [.nilIface, .bool false].toArray) w := by
  obtain ⟨m, hm⟩ : ∃ m, Instr.missingMethod #[("mesne/message.fits", 181), ("mesne/message.words", 181)] Tryz.t300.methods = some m := missing_some (s := "mesne/message.words") (by simp [Tryz.t300])
  simp only [Instr.typeAssert, Sem.run_bind, Tryz.runUnderlying255, Result.andThen_ok, Tryz.typeInfo300, hm]
  simp [Tryz.zeroValue255]
theorem as_across (w : World) : (Instr.typeAssert (.iface 301 (.agg #[])) 252 255 true).run Tryz.prog w = .ok (.tuple [.nilIface, .bool false].toArray) w := by
  obtain ⟨m, hm⟩ : ∃ m, Instr.missingMethod #[("mesne/message.fits", 181), ("mesne/message.words", 181)] Tryz.t301.methods = some m := missing_some (s := "mesne/message.words") (by simp [Tryz.t301])
  simp only [Instr.typeAssert, Sem.run_bind, Tryz.runUnderlying255, Result.andThen_ok, Tryz.typeInfo301, hm]
  simp [Tryz.zeroValue255]
instance ni_up : NotIface Tryz.prog 294 := ⟨fun v w => by simp [Instr.makeInterface, Tryz.runUnderlying294]⟩
instance ni_put : NotIface Tryz.prog 296 := ⟨fun v w => by simp [Instr.makeInterface, Tryz.runUnderlying296]⟩
instance ni_forward : NotIface Tryz.prog 298 := ⟨fun v w => by simp [Instr.makeInterface, Tryz.runUnderlying298]⟩
instance ni_data : NotIface Tryz.prog 299 := ⟨fun v w => by simp [Instr.makeInterface, Tryz.runUnderlying299]⟩
instance ni_down : NotIface Tryz.prog 300 := ⟨fun v w => by simp [Instr.makeInterface, Tryz.runUnderlying300]⟩
instance ni_across : NotIface Tryz.prog 301 := ⟨fun v w => by simp [Instr.makeInterface, Tryz.runUnderlying301]⟩
open Mes in
theorem w_Net (k : Int) : FnP Tryz.prog 151 [i k] (fun v => v = i (netOf k)) := by
  refine Fn.body Tryz.func151 rfl rfl rfl (Nat.le_of_ble_eq_true rfl) fun F => ?_
  refine TC.seq ?_
  refine TC.region ?_
  refine .q (LD.assign rfl) rfl rfl ?_
  refine TL.nilS ?_
  refine TC.seq ?_
  refine TC.block ?_
  refine TC.seq ?_
  refine TC.region ?_
  refine .q (LD.move rfl) rfl rfl ?_
  refine .q (LD.geq rfl rfl) rfl rfl ?_
  refine .q (LD.move rfl) rfl rfl ?_
  refine TL.split rfl rfl rfl rfl (fun g1 => ?_) (fun g1 => ?_)
  · have h1 := g1
    try simp at h1
    refine .y (LD.move rfl) g1 rfl rfl rfl rfl ?_
    refine .y (LD.leq rfl rfl) g1 rfl rfl rfl rfl ?_
    refine .q (LD.pickT rfl g1 rfl) rfl rfl ?_
    refine .q (LD.assign rfl) rfl rfl ?_
    refine TL.nilS ?_
    refine TC.cond rfl (fun g2 => ?_) (fun g2 => ?_)
    · have h2 := g2
      try simp at h2
      refine TC.seq ?_
      refine TC.region ?_
      refine .q (LD.assign rfl) rfl rfl ?_
      refine TL.nilS ?_
      refine TC.ret ?_
      repeat first | refine Post.sr ?_ | refine Post.br ?_
      exact Out.intro (X := []) (L' := []) (Res.t rfl Res.z) ⟨by simp only [pack, netOf]; congr 1; split <;> first | rfl | (split <;> first | rfl | (split <;> first | rfl | omega) | omega) | omega, rfl⟩ (.refl _)
    · have h2 := g2
      try simp at h2
      refine TC.seq ?_
      refine TC.region ?_
      refine .q (LD.move rfl) rfl rfl ?_
      refine .q (LD.geq rfl rfl) rfl rfl ?_
      refine .q (LD.move rfl) rfl rfl ?_
      refine TL.split rfl rfl rfl rfl (fun g3 => ?_) (fun g3 => ?_)
      · have h3 := g3
        try simp at h3
        refine .y (LD.move rfl) g3 rfl rfl rfl rfl ?_
        refine .y (LD.leq rfl rfl) g3 rfl rfl rfl rfl ?_
        refine .q (LD.pickT rfl g3 rfl) rfl rfl ?_
        refine .q (LD.assign rfl) rfl rfl ?_
        refine TL.nilS ?_
        refine TC.cond rfl (fun g4 => ?_) (fun g4 => ?_)
        · have h4 := g4
          try simp at h4
          refine TC.seq ?_
          refine TC.region ?_
          refine .q (LD.assign rfl) rfl rfl ?_
          refine TL.nilS ?_
          refine TC.ret ?_
          repeat first | refine Post.sr ?_ | refine Post.br ?_
          exact Out.intro (X := []) (L' := []) (Res.t rfl Res.z) ⟨by simp only [pack, netOf]; congr 1; split <;> first | rfl | (split <;> first | rfl | (split <;> first | rfl | omega) | omega) | omega, rfl⟩ (.refl _)
        · have h4 := g4
          try simp at h4
          refine TC.seq ?_
          refine TC.region ?_
          refine .q (LD.move rfl) rfl rfl ?_
          refine .q (LD.geq rfl rfl) rfl rfl ?_
          refine .q (LD.move rfl) rfl rfl ?_
          refine TL.split rfl rfl rfl rfl (fun g5 => ?_) (fun g5 => ?_)
          · have h5 := g5
            try simp at h5
            refine .y (LD.move rfl) g5 rfl rfl rfl rfl ?_
            refine .y (LD.leq rfl rfl) g5 rfl rfl rfl rfl ?_
            refine .q (LD.pickT rfl g5 rfl) rfl rfl ?_
            refine .q (LD.assign rfl) rfl rfl ?_
            refine TL.nilS ?_
            refine TC.cond rfl (fun g6 => ?_) (fun g6 => ?_)
            · have h6 := g6
              try simp at h6
              refine TC.seq ?_
              refine TC.region ?_
              refine .q (LD.assign rfl) rfl rfl ?_
              refine TL.nilS ?_
              refine TC.ret ?_
              repeat first | refine Post.sr ?_ | refine Post.br ?_
              exact Out.intro (X := []) (L' := []) (Res.t rfl Res.z) ⟨by simp only [pack, netOf]; congr 1; split <;> first | rfl | (split <;> first | rfl | (split <;> first | rfl | omega) | omega) | omega, rfl⟩ (.refl _)
            · have h6 := g6
              try simp at h6
              refine TC.skip ?_
              refine TC.seq ?_
              refine TC.region ?_
              refine .q (LD.assign rfl) rfl rfl ?_
              refine TL.nilS ?_
              refine TC.ret ?_
              repeat first | refine Post.sr ?_ | refine Post.br ?_
              exact Out.intro (X := []) (L' := []) (Res.t rfl Res.z) ⟨by simp only [pack, netOf]; congr 1; split <;> first | rfl | (split <;> first | rfl | (split <;> first | rfl | omega) | omega) | omega, rfl⟩ (.refl _)
          · have h5 := g5
            try simp at h5
            refine .s g5 rfl rfl rfl rfl ?_
            refine .q (LD.pickF rfl g5 rfl) rfl rfl ?_
            refine .q (LD.assign rfl) rfl rfl ?_
            refine TL.nilS ?_
            refine TC.condF rfl rfl ?_
            refine TC.skip ?_
            refine TC.seq ?_
            refine TC.region ?_
            refine .q (LD.assign rfl) rfl rfl ?_
            refine TL.nilS ?_
            refine TC.ret ?_
            repeat first | refine Post.sr ?_ | refine Post.br ?_
            exact Out.intro (X := []) (L' := []) (Res.t rfl Res.z) ⟨by simp only [pack, netOf]; congr 1; split <;> first | rfl | (split <;> first | rfl | (split <;> first | rfl | omega) | omega) | omega, rfl⟩ (.refl _)
      · have h3 := g3
        try simp at h3
        refine .s g3 rfl rfl rfl rfl ?_
        refine .q (LD.pickF rfl g3 rfl) rfl rfl ?_
        refine .q (LD.assign rfl) rfl rfl ?_
        refine TL.nilS ?_
        refine TC.condF rfl rfl ?_
        refine TC.seq ?_
        refine TC.region ?_
        refine .q (LD.move rfl) rfl rfl ?_
        refine .q (LD.geq rfl rfl) rfl rfl ?_
        refine .q (LD.move rfl) rfl rfl ?_
        refine TL.split rfl rfl rfl rfl (fun g7 => ?_) (fun g7 => ?_)
        · have h7 := g7
          try simp at h7
          refine .y (LD.move rfl) g7 rfl rfl rfl rfl ?_
          refine .y (LD.leq rfl rfl) g7 rfl rfl rfl rfl ?_
          refine .q (LD.pickT rfl g7 rfl) rfl rfl ?_
          refine .q (LD.assign rfl) rfl rfl ?_
          refine TL.nilS ?_
          refine TC.cond rfl (fun g8 => ?_) (fun g8 => ?_)
          · have h8 := g8
            try simp at h8
            refine TC.seq ?_
            refine TC.region ?_
            refine .q (LD.assign rfl) rfl rfl ?_
            refine TL.nilS ?_
            refine TC.ret ?_
            repeat first | refine Post.sr ?_ | refine Post.br ?_
            exact Out.intro (X := []) (L' := []) (Res.t rfl Res.z) ⟨by simp only [pack, netOf]; congr 1; split <;> first | rfl | (split <;> first | rfl | (split <;> first | rfl | omega) | omega) | omega, rfl⟩ (.refl _)
          · have h8 := g8
            try simp at h8
            refine TC.skip ?_
            refine TC.seq ?_
            refine TC.region ?_
            refine .q (LD.assign rfl) rfl rfl ?_
            refine TL.nilS ?_
            refine TC.ret ?_
            repeat first | refine Post.sr ?_ | refine Post.br ?_
            exact Out.intro (X := []) (L' := []) (Res.t rfl Res.z) ⟨by simp only [pack, netOf]; congr 1; split <;> first | rfl | (split <;> first | rfl | (split <;> first | rfl | omega) | omega) | omega, rfl⟩ (.refl _)
        · have h7 := g7
          try simp at h7
          refine .s g7 rfl rfl rfl rfl ?_
          refine .q (LD.pickF rfl g7 rfl) rfl rfl ?_
          refine .q (LD.assign rfl) rfl rfl ?_
          refine TL.nilS ?_
          refine TC.condF rfl rfl ?_
          refine TC.skip ?_
          refine TC.seq ?_
          refine TC.region ?_
          refine .q (LD.assign rfl) rfl rfl ?_
          refine TL.nilS ?_
          refine TC.ret ?_
          repeat first | refine Post.sr ?_ | refine Post.br ?_
          exact Out.intro (X := []) (L' := []) (Res.t rfl Res.z) ⟨by simp only [pack, netOf]; congr 1; split <;> first | rfl | (split <;> first | rfl | (split <;> first | rfl | omega) | omega) | omega, rfl⟩ (.refl _)
  · have h1 := g1
    try simp at h1
    refine .s g1 rfl rfl rfl rfl ?_
    refine .q (LD.pickF rfl g1 rfl) rfl rfl ?_
    refine .q (LD.assign rfl) rfl rfl ?_
    refine TL.nilS ?_
    refine TC.condF rfl rfl ?_
    refine TC.seq ?_
    refine TC.region ?_
    refine .q (LD.move rfl) rfl rfl ?_
    refine .q (LD.geq rfl rfl) rfl rfl ?_
    refine .q (LD.move rfl) rfl rfl ?_
    refine TL.split rfl rfl rfl rfl (fun g9 => ?_) (fun g9 => ?_)
    · have h9 := g9
      try simp at h9
      refine .y (LD.move rfl) g9 rfl rfl rfl rfl ?_
      refine .y (LD.leq rfl rfl) g9 rfl rfl rfl rfl ?_
      refine .q (LD.pickT rfl g9 rfl) rfl rfl ?_
      refine .q (LD.assign rfl) rfl rfl ?_
      refine TL.nilS ?_
      refine TC.cond rfl (fun g10 => ?_) (fun g10 => ?_)
      · have h10 := g10
        try simp at h10
        refine TC.seq ?_
        refine TC.region ?_
        refine .q (LD.assign rfl) rfl rfl ?_
        refine TL.nilS ?_
        refine TC.ret ?_
        repeat first | refine Post.sr ?_ | refine Post.br ?_
        exact Out.intro (X := []) (L' := []) (Res.t rfl Res.z) ⟨by simp only [pack, netOf]; congr 1; split <;> first | rfl | (split <;> first | rfl | (split <;> first | rfl | omega) | omega) | omega, rfl⟩ (.refl _)
      · have h10 := g10
        try simp at h10
        refine TC.seq ?_
        refine TC.region ?_
        refine .q (LD.move rfl) rfl rfl ?_
        refine .q (LD.geq rfl rfl) rfl rfl ?_
        refine .q (LD.move rfl) rfl rfl ?_
        refine TL.split rfl rfl rfl rfl (fun g11 => ?_) (fun g11 => ?_)
        · have h11 := g11
          try simp at h11
          refine .y (LD.move rfl) g11 rfl rfl rfl rfl ?_
          refine .y (LD.leq rfl rfl) g11 rfl rfl rfl rfl ?_
          refine .q (LD.pickT rfl g11 rfl) rfl rfl ?_
          refine .q (LD.assign rfl) rfl rfl ?_
          refine TL.nilS ?_
          refine TC.cond rfl (fun g12 => ?_) (fun g12 => ?_)
          · have h12 := g12
            try simp at h12
            refine TC.seq ?_
            refine TC.region ?_
            refine .q (LD.assign rfl) rfl rfl ?_
            refine TL.nilS ?_
            refine TC.ret ?_
            repeat first | refine Post.sr ?_ | refine Post.br ?_
            exact Out.intro (X := []) (L' := []) (Res.t rfl Res.z) ⟨by simp only [pack, netOf]; congr 1; split <;> first | rfl | (split <;> first | rfl | (split <;> first | rfl | omega) | omega) | omega, rfl⟩ (.refl _)
          · have h12 := g12
            try simp at h12
            refine TC.skip ?_
            refine TC.seq ?_
            refine TC.region ?_
            refine .q (LD.assign rfl) rfl rfl ?_
            refine TL.nilS ?_
            refine TC.ret ?_
            repeat first | refine Post.sr ?_ | refine Post.br ?_
            exact Out.intro (X := []) (L' := []) (Res.t rfl Res.z) ⟨by simp only [pack, netOf]; congr 1; split <;> first | rfl | (split <;> first | rfl | (split <;> first | rfl | omega) | omega) | omega, rfl⟩ (.refl _)
        · have h11 := g11
          try simp at h11
          refine .s g11 rfl rfl rfl rfl ?_
          refine .q (LD.pickF rfl g11 rfl) rfl rfl ?_
          refine .q (LD.assign rfl) rfl rfl ?_
          refine TL.nilS ?_
          refine TC.condF rfl rfl ?_
          refine TC.skip ?_
          refine TC.seq ?_
          refine TC.region ?_
          refine .q (LD.assign rfl) rfl rfl ?_
          refine TL.nilS ?_
          refine TC.ret ?_
          repeat first | refine Post.sr ?_ | refine Post.br ?_
          exact Out.intro (X := []) (L' := []) (Res.t rfl Res.z) ⟨by simp only [pack, netOf]; congr 1; split <;> first | rfl | (split <;> first | rfl | (split <;> first | rfl | omega) | omega) | omega, rfl⟩ (.refl _)
    · have h9 := g9
      try simp at h9
      refine .s g9 rfl rfl rfl rfl ?_
      refine .q (LD.pickF rfl g9 rfl) rfl rfl ?_
      refine .q (LD.assign rfl) rfl rfl ?_
      refine TL.nilS ?_
      refine TC.condF rfl rfl ?_
      refine TC.seq ?_
      refine TC.region ?_
      refine .q (LD.move rfl) rfl rfl ?_
      refine .q (LD.geq rfl rfl) rfl rfl ?_
      refine .q (LD.move rfl) rfl rfl ?_
      refine TL.split rfl rfl rfl rfl (fun g13 => ?_) (fun g13 => ?_)
      · have h13 := g13
        try simp at h13
        refine .y (LD.move rfl) g13 rfl rfl rfl rfl ?_
        refine .y (LD.leq rfl rfl) g13 rfl rfl rfl rfl ?_
        refine .q (LD.pickT rfl g13 rfl) rfl rfl ?_
        refine .q (LD.assign rfl) rfl rfl ?_
        refine TL.nilS ?_
        refine TC.cond rfl (fun g14 => ?_) (fun g14 => ?_)
        · have h14 := g14
          try simp at h14
          refine TC.seq ?_
          refine TC.region ?_
          refine .q (LD.assign rfl) rfl rfl ?_
          refine TL.nilS ?_
          refine TC.ret ?_
          repeat first | refine Post.sr ?_ | refine Post.br ?_
          exact Out.intro (X := []) (L' := []) (Res.t rfl Res.z) ⟨by simp only [pack, netOf]; congr 1; split <;> first | rfl | (split <;> first | rfl | (split <;> first | rfl | omega) | omega) | omega, rfl⟩ (.refl _)
        · have h14 := g14
          try simp at h14
          refine TC.skip ?_
          refine TC.seq ?_
          refine TC.region ?_
          refine .q (LD.assign rfl) rfl rfl ?_
          refine TL.nilS ?_
          refine TC.ret ?_
          repeat first | refine Post.sr ?_ | refine Post.br ?_
          exact Out.intro (X := []) (L' := []) (Res.t rfl Res.z) ⟨by simp only [pack, netOf]; congr 1; split <;> first | rfl | (split <;> first | rfl | (split <;> first | rfl | omega) | omega) | omega, rfl⟩ (.refl _)
      · have h13 := g13
        try simp at h13
        refine .s g13 rfl rfl rfl rfl ?_
        refine .q (LD.pickF rfl g13 rfl) rfl rfl ?_
        refine .q (LD.assign rfl) rfl rfl ?_
        refine TL.nilS ?_
        refine TC.condF rfl rfl ?_
        refine TC.skip ?_
        refine TC.seq ?_
        refine TC.region ?_
        refine .q (LD.assign rfl) rfl rfl ?_
        refine TL.nilS ?_
        refine TC.ret ?_
        repeat first | refine Post.sr ?_ | refine Post.br ?_
        exact Out.intro (X := []) (L' := []) (Res.t rfl Res.z) ⟨by simp only [pack, netOf]; congr 1; split <;> first | rfl | (split <;> first | rfl | (split <;> first | rfl | omega) | omega) | omega, rfl⟩ (.refl _)
open Mes in
theorem w_toHome (k : Int) : FnP Tryz.prog 74 [i k] (fun v => v = .bool (toHome k)) := by
  refine Fn.body Tryz.func74 rfl rfl rfl (Nat.le_of_ble_eq_true rfl) fun F => ?_
  refine TC.seq ?_
  refine TC.region ?_
  refine .q (LD.assign rfl) rfl rfl ?_
  refine TL.nilS ?_
  refine TC.seq ?_
  refine TC.region ?_
  refine .q (LD.move rfl) rfl rfl ?_
  refine TL.cp (CL.func rfl) (w_Net _) (Wants.un rfl) rfl ?_
  rintro _ rfl
  refine .q (LD.eql rfl rfl) rfl rfl ?_
  refine .q (LD.move rfl) rfl rfl ?_
  refine TL.split rfl rfl rfl rfl (fun g1 => ?_) (fun g1 => ?_)
  · have h1 := g1
    try simp at h1
    refine .y (LD.move rfl) g1 rfl rfl rfl rfl ?_
    refine .y (LD.eql rfl rfl) g1 rfl rfl rfl rfl ?_
    refine .q (LD.pickF rfl g1 rfl) rfl rfl ?_
    refine .q (LD.assign rfl) rfl rfl ?_
    refine TL.nilS ?_
    refine TC.ret ?_
    repeat first | refine Post.sr ?_ | refine Post.br ?_
    exact Out.intro (X := []) (L' := []) (Res.t rfl Res.z) ⟨by simp_all [pack, beq_int, toHome] <;> omega, rfl⟩ (.refl _)
  · have h1 := g1
    try simp at h1
    refine .s g1 rfl rfl rfl rfl ?_
    refine .q (LD.pickT rfl g1 rfl) rfl rfl ?_
    refine .q (LD.assign rfl) rfl rfl ?_
    refine TL.nilS ?_
    refine TC.ret ?_
    repeat first | refine Post.sr ?_ | refine Post.br ?_
    exact Out.intro (X := []) (L' := []) (Res.t rfl Res.z) ⟨by simp_all [pack, beq_int, toHome] <;> omega, rfl⟩ (.refl _)
open Mes in
theorem w_within (a b : Int) : FnP Tryz.prog 152 [i a, i b] (fun v => v = .bool (inR a b)) := by
  refine Fn.body Tryz.func152 rfl rfl rfl (Nat.le_of_ble_eq_true rfl) fun F => ?_
  refine TC.seq ?_
  refine TC.region ?_
  refine .q (LD.assign rfl) rfl rfl ?_
  refine TL.nilS ?_
  refine TC.seq ?_
  refine TC.region ?_
  refine .q (LD.move rfl) rfl rfl ?_
  refine .q (LD.geq rfl rfl) rfl rfl ?_
  refine .q (LD.move rfl) rfl rfl ?_
  refine TL.split rfl rfl rfl rfl (fun g1 => ?_) (fun g1 => ?_)
  · have h1 := g1
    try simp at h1
    refine .y (LD.move rfl) g1 rfl rfl rfl rfl ?_
    refine .y (LD.move rfl) g1 rfl rfl rfl rfl ?_
    refine .y (LD.lss rfl rfl) g1 rfl rfl rfl rfl ?_
    refine .q (LD.pickT rfl g1 rfl) rfl rfl ?_
    refine .q (LD.assign rfl) rfl rfl ?_
    refine TL.nilS ?_
    refine TC.ret ?_
    repeat first | refine Post.sr ?_ | refine Post.br ?_
    exact Out.intro (X := []) (L' := []) (Res.t rfl Res.z) ⟨by simp_all [pack, beq_int, inR] <;> omega, rfl⟩ (.refl _)
  · have h1 := g1
    try simp at h1
    refine .s g1 rfl rfl rfl rfl ?_
    refine .s g1 rfl rfl rfl rfl ?_
    refine .q (LD.pickF rfl g1 rfl) rfl rfl ?_
    refine .q (LD.assign rfl) rfl rfl ?_
    refine TL.nilS ?_
    refine TC.ret ?_
    repeat first | refine Post.sr ?_ | refine Post.br ?_
    exact Out.intro (X := []) (L' := []) (Res.t rfl Res.z) ⟨by simp_all [pack, beq_int, inR] <;> omega, rfl⟩ (.refl _)
open Mes in
theorem w_mhome (c : Cfg) (m : Msg) (hl : 0 ≤ m.line) (hh : 0 < c.homes) : FnP Tryz.prog 264 [.agg (encC c), .agg (encMsg m).toArray] (fun v => v = i (m.line % c.homes)) := by
  refine Fn.body Tryz.func264 rfl rfl rfl (Nat.le_of_ble_eq_true rfl) fun F => ?_
  refine TC.seq ?_
  refine TC.region ?_
  refine TL.nb (NB.boxA rfl) (Wants.un rfl) rfl (fun b2 => ?_)
  refine TL.nb (NB.boxA rfl) (Wants.un rfl) rfl (fun b3 => ?_)
  refine .q (LD.assign rfl) rfl rfl ?_
  refine TL.nilS ?_
  refine TC.seq ?_
  refine TC.region ?_
  refine .q (LD.fieldAddr rfl) rfl rfl ?_
  refine .q (LD.ld1 rfl m0 rfl) rfl rfl ?_
  refine .q (LD.fieldAddr rfl) rfl rfl ?_
  refine .q (LD.ld1 rfl m1 rfl) rfl rfl ?_
  refine .q (LD.rem rfl rfl (by omega) (by omega)) rfl rfl ?_
  refine .q (LD.assign rfl) rfl rfl ?_
  refine TL.nilS ?_
  refine TC.ret ?_
  repeat first | refine Post.sr ?_ | refine Post.br ?_
  exact Out.intro (X := [_, _]) (L' := []) (Res.t rfl Res.z) ⟨by simp_all [pack, beq_int] <;> omega, rfl⟩ (.refl _)
open Mes in
theorem w_plain (c : Cfg) (m : Msg) (b : Bool) : FnP Tryz.prog 265 [.agg (encC c), .agg (encMsg m).toArray, .bool b] (fun v => v = .bool (plainMsg m (if b then c.cores else 1))) := by
  refine Fn.body Tryz.func265 rfl rfl rfl (Nat.le_of_ble_eq_true rfl) fun F => ?_
  refine TC.seq ?_
  refine TC.region ?_
  refine TL.nb (NB.boxA rfl) (Wants.un rfl) rfl (fun b3 => ?_)
  refine TL.nb (NB.boxA rfl) (Wants.un rfl) rfl (fun b4 => ?_)
  refine .q (LD.assign rfl) rfl rfl ?_
  refine TL.nilS ?_
  refine TC.seq ?_
  refine TC.region ?_
  refine .q (LD.assign rfl) rfl rfl ?_
  refine TL.nilS ?_
  refine TC.seq ?_
  refine TC.seq ?_
  refine TC.region ?_
  refine .q (LD.move rfl) rfl rfl ?_
  refine TL.nilS ?_
  refine TC.cond rfl (fun g1 => ?_) (fun g1 => ?_)
  · have h1 := g1
    try simp at h1
    refine TC.region ?_
    refine .q (LD.fieldAddr rfl) rfl rfl ?_
    refine .q (LD.ld1 rfl m1 rfl) rfl rfl ?_
    refine .q (LD.assign rfl) rfl rfl ?_
    refine TL.nilS ?_
    refine TC.seq ?_
    refine TC.region ?_
    refine .q (LD.fieldAddr rfl) rfl rfl ?_
    refine .q (LD.ld1 rfl m0 rfl) rfl rfl ?_
    refine .q (LD.eql rfl rfl) rfl rfl ?_
    refine .q (LD.move rfl) rfl rfl ?_
    refine TL.split rfl rfl rfl rfl (fun g2 => ?_) (fun g2 => ?_)
    · have h2 := g2
      try simp at h2
      refine .y (LD.fieldAddr rfl) g2 rfl rfl rfl rfl ?_
      refine .y (LD.ld1 rfl m0 rfl) g2 rfl rfl rfl rfl ?_
      refine .y (LD.eql rfl rfl) g2 rfl rfl rfl rfl ?_
      refine .q (LD.pickT rfl g2 rfl) rfl rfl ?_
      refine .q (LD.move rfl) rfl rfl ?_
      refine TL.split rfl rfl rfl rfl (fun g3 => ?_) (fun g3 => ?_)
      · have h3 := g3
        try simp at h3
        refine .y (LD.fieldAddr rfl) g3 rfl rfl rfl rfl ?_
        refine .y (LD.ld1 rfl m0 rfl) g3 rfl rfl rfl rfl ?_
        refine .y (LD.move rfl) g3 rfl rfl rfl rfl ?_
        refine TL.cp (CL.func rfl) (w_within _ _) (Wants.yes rfl rfl rfl g3) rfl ?_
        rintro _ rfl
        refine .q (LD.pickT rfl g3 rfl) rfl rfl ?_
        refine .q (LD.assign rfl) rfl rfl ?_
        refine TL.nilS ?_
        refine TC.ret ?_
        repeat first | refine Post.sr ?_ | refine Post.br ?_
        exact Out.intro (X := [_, _]) (L' := []) (Res.t rfl Res.z) ⟨by simp_all [pack, beq_int, plainMsg, inR] <;> omega, rfl⟩ (.refl _)
      · have h3 := g3
        try simp at h3
        refine .s g3 rfl rfl rfl rfl ?_
        refine .s g3 rfl rfl rfl rfl ?_
        refine .s g3 rfl rfl rfl rfl ?_
        refine .q (LD.pickF rfl g3 rfl) rfl rfl ?_
        refine .q (LD.assign rfl) rfl rfl ?_
        refine TL.nilS ?_
        refine TC.ret ?_
        repeat first | refine Post.sr ?_ | refine Post.br ?_
        exact Out.intro (X := [_, _]) (L' := []) (Res.t rfl Res.z) ⟨by simp_all [pack, beq_int, plainMsg, inR] <;> omega, rfl⟩ (.refl _)
    · have h2 := g2
      try simp at h2
      refine .s g2 rfl rfl rfl rfl ?_
      refine .s g2 rfl rfl rfl rfl ?_
      refine .q (LD.pickF rfl g2 rfl) rfl rfl ?_
      refine .q (LD.move rfl) rfl rfl ?_
      refine .s rfl rfl rfl rfl rfl ?_
      refine .s rfl rfl rfl rfl rfl ?_
      refine .s rfl rfl rfl rfl rfl ?_
      refine .s rfl rfl rfl rfl rfl ?_
      refine .q (LD.pickF rfl rfl rfl) rfl rfl ?_
      refine .q (LD.assign rfl) rfl rfl ?_
      refine TL.nilS ?_
      refine TC.ret ?_
      repeat first | refine Post.sr ?_ | refine Post.br ?_
      exact Out.intro (X := [_, _]) (L' := []) (Res.t rfl Res.z) ⟨by simp_all [pack, beq_int, plainMsg, inR] <;> omega, rfl⟩ (.refl _)
  · have h1 := g1
    try simp at h1
    refine TC.skipS ?_
    refine TC.seq ?_
    refine TC.region ?_
    refine .q (LD.fieldAddr rfl) rfl rfl ?_
    refine .q (LD.ld1 rfl m0 rfl) rfl rfl ?_
    refine .q (LD.eql rfl rfl) rfl rfl ?_
    refine .q (LD.move rfl) rfl rfl ?_
    refine TL.split rfl rfl rfl rfl (fun g4 => ?_) (fun g4 => ?_)
    · have h4 := g4
      try simp at h4
      refine .y (LD.fieldAddr rfl) g4 rfl rfl rfl rfl ?_
      refine .y (LD.ld1 rfl m0 rfl) g4 rfl rfl rfl rfl ?_
      refine .y (LD.eql rfl rfl) g4 rfl rfl rfl rfl ?_
      refine .q (LD.pickT rfl g4 rfl) rfl rfl ?_
      refine .q (LD.move rfl) rfl rfl ?_
      refine TL.split rfl rfl rfl rfl (fun g5 => ?_) (fun g5 => ?_)
      · have h5 := g5
        try simp at h5
        refine .y (LD.fieldAddr rfl) g5 rfl rfl rfl rfl ?_
        refine .y (LD.ld1 rfl m0 rfl) g5 rfl rfl rfl rfl ?_
        refine .y (LD.move rfl) g5 rfl rfl rfl rfl ?_
        refine TL.cp (CL.func rfl) (w_within _ _) (Wants.yes rfl rfl rfl g5) rfl ?_
        rintro _ rfl
        refine .q (LD.pickT rfl g5 rfl) rfl rfl ?_
        refine .q (LD.assign rfl) rfl rfl ?_
        refine TL.nilS ?_
        refine TC.ret ?_
        repeat first | refine Post.sr ?_ | refine Post.br ?_
        exact Out.intro (X := [_, _]) (L' := []) (Res.t rfl Res.z) ⟨by simp_all [pack, beq_int, plainMsg, inR] <;> omega, rfl⟩ (.refl _)
      · have h5 := g5
        try simp at h5
        refine .s g5 rfl rfl rfl rfl ?_
        refine .s g5 rfl rfl rfl rfl ?_
        refine .s g5 rfl rfl rfl rfl ?_
        refine .q (LD.pickF rfl g5 rfl) rfl rfl ?_
        refine .q (LD.assign rfl) rfl rfl ?_
        refine TL.nilS ?_
        refine TC.ret ?_
        repeat first | refine Post.sr ?_ | refine Post.br ?_
        exact Out.intro (X := [_, _]) (L' := []) (Res.t rfl Res.z) ⟨by simp_all [pack, beq_int, plainMsg, inR] <;> omega, rfl⟩ (.refl _)
    · have h4 := g4
      try simp at h4
      refine .s g4 rfl rfl rfl rfl ?_
      refine .s g4 rfl rfl rfl rfl ?_
      refine .q (LD.pickF rfl g4 rfl) rfl rfl ?_
      refine .q (LD.move rfl) rfl rfl ?_
      refine .s rfl rfl rfl rfl rfl ?_
      refine .s rfl rfl rfl rfl rfl ?_
      refine .s rfl rfl rfl rfl rfl ?_
      refine .s rfl rfl rfl rfl rfl ?_
      refine .q (LD.pickF rfl rfl rfl) rfl rfl ?_
      refine .q (LD.assign rfl) rfl rfl ?_
      refine TL.nilS ?_
      refine TC.ret ?_
      repeat first | refine Post.sr ?_ | refine Post.br ?_
      exact Out.intro (X := [_, _]) (L' := []) (Res.t rfl Res.z) ⟨by simp_all [pack, beq_int, plainMsg, inR] <;> omega, rfl⟩ (.refl _)

open Mes in
def upOk (c : Cfg) (m : Msg) : Bool := inR m.frm c.cores && m.to == m.line % c.homes && plainMsg m 1
open Mes in
def downOk (c : Cfg) (m : Msg) (b : Bool) : Bool := m.frm == m.line % c.homes && inR m.to c.cores && plainMsg m (if b then c.cores else 1)
open Mes in
def acrossOk (c : Cfg) (m : Msg) : Bool := inR m.frm c.cores && inR m.to c.cores && m.frm != m.to && plainMsg m 1
open Mes in
def fwdOk (c : Cfg) (m : Msg) (b : Bool) : Bool := inR m.who c.cores && m.who != m.to && downOk c { m with who := 0 } b
open Mes in
def dataOk (c : Cfg) (m : Msg) : Bool := (m.own == 1 || m.own == 2 || m.own == 4) && plainMsg { m with who := 0, own := 0 } c.cores && inR m.to c.cores && (if m.who = 0 then m.frm == m.line % c.homes else m.who == 1 && inR m.frm c.cores && m.frm != m.to)
open Mes in
def formV (k : Int) : Value :=
  if k = 3 then .iface 296 (.agg #[]) else if k = 1 ∨ k = 2 ∨ k = 11 then .iface 294 (.agg #[]) else if k = 4 ∨ k = 6 then .iface 298 (.agg #[.bool false]) else if k = 5 then .iface 298 (.agg #[.bool true])
  else if k = 7 then .iface 299 (.agg #[]) else if k = 8 then .iface 300 (.agg #[.bool true]) else if k = 10 then .iface 300 (.agg #[.bool false]) else .iface 301 (.agg #[])

open Mes in
theorem w_upFits (c : Cfg) (m : Msg) (hl : 0 ≤ m.line) (hh : 0 < c.homes) : FnP Tryz.prog 263 [.agg #[], .agg (encC c), .agg (encMsg m).toArray] (fun v => v = .bool (upOk c m)) := by
  refine Fn.body Tryz.func263 rfl rfl rfl (Nat.le_of_ble_eq_true rfl) fun F => ?_
  refine TC.seq ?_
  refine TC.region ?_
  refine TL.nb (NB.boxA rfl) (Wants.un rfl) rfl (fun b3 => ?_)
  refine TL.nb (NB.boxA rfl) (Wants.un rfl) rfl (fun b4 => ?_)
  refine TL.nb (NB.boxA rfl) (Wants.un rfl) rfl (fun b5 => ?_)
  refine .q (LD.assign rfl) rfl rfl ?_
  refine TL.nilS ?_
  refine TC.seq ?_
  refine TC.draw0 [0, 0, 0, 0, 2, 0, 0, 0, 0, 0, 2, 0, 0, 0, 0, 0, 2, 0, 0] [0, 1, 2, 3, 4, 5, 6, 7, 8, 9, 10, 11, 12, 13, 14, 15, 16, 17, 18] TryzI.mixed (by decide +kernel) (by decide) ?_
  refine .q rfl rfl (LD.fieldAddr rfl) rfl rfl ?_
  refine .q rfl rfl (LD.ld1 rfl m0 rfl) rfl rfl ?_
  refine .q rfl rfl (LD.fieldAddr rfl) rfl rfl ?_
  refine .q rfl rfl (LD.ld1 rfl m1 rfl) rfl rfl ?_
  refine TD.cp rfl rfl (CL.func rfl) (w_within _ _) (Wants.un rfl) rfl ?_
  rintro _ rfl
  refine .q rfl rfl (LD.move rfl) rfl rfl ?_
  refine TD.split rfl rfl rfl rfl rfl (fun g1 => ?_) (fun g1 => ?_)
  · have h1 := g1
    try simp at h1
    refine .y rfl rfl (LD.fieldAddr rfl) g1 rfl rfl rfl rfl ?_
    refine .y rfl rfl (LD.ld1 rfl m0 rfl) g1 rfl rfl rfl rfl ?_
    refine .y rfl rfl (LD.ldA rfl m1 (by repeat constructor) rfl) g1 rfl rfl rfl rfl ?_
    refine .y rfl rfl (LD.ldA rfl m0 (by repeat constructor) rfl) g1 rfl rfl rfl rfl ?_
    refine TD.cp rfl rfl (CL.func rfl) (w_mhome c m hl hh) (Wants.yes rfl rfl rfl g1) rfl ?_
    rintro _ rfl
    refine .y rfl rfl (LD.eql rfl rfl) g1 rfl rfl rfl rfl ?_
    refine .q rfl rfl (LD.pickT rfl g1 rfl) rfl rfl ?_
    refine .q rfl rfl (LD.move rfl) rfl rfl ?_
    refine TD.split rfl rfl rfl rfl rfl (fun g2 => ?_) (fun g2 => ?_)
    · have h2 := g2
      try simp at h2
      refine .y rfl rfl (LD.ldA rfl m1 (by repeat constructor) rfl) g2 rfl rfl rfl rfl ?_
      refine .y rfl rfl (LD.ldA rfl m0 (by repeat constructor) rfl) g2 rfl rfl rfl rfl ?_
      refine TD.cp rfl rfl (CL.func rfl) (w_plain c m _) (Wants.yes rfl rfl rfl g2) rfl ?_
      rintro _ rfl
      refine .q rfl rfl (LD.pickT rfl g2 rfl) rfl rfl ?_
      refine .q rfl rfl (LD.assign rfl) rfl rfl ?_
      refine TD.nilT ?_
      refine TC.ret ?_
      repeat first | refine Post.sr ?_ | refine Post.br ?_
      exact Out.intro (X := [_, _, _]) (L' := []) (Res.t rfl Res.z) ⟨by simp_all [pack, beq_int, upOk] <;> omega, rfl⟩ (.refl _)
    · have h2 := g2
      try simp at h2
      refine .s rfl g2 rfl rfl rfl rfl ?_
      refine .s rfl g2 rfl rfl rfl rfl ?_
      refine .q rfl rfl (LD.pickF rfl g2 rfl) rfl rfl ?_
      refine .q rfl rfl (LD.assign rfl) rfl rfl ?_
      refine TD.nilT ?_
      refine TC.ret ?_
      repeat first | refine Post.sr ?_ | refine Post.br ?_
      exact Out.intro (X := [_, _, _]) (L' := []) (Res.t rfl Res.z) ⟨by simp_all [pack, beq_int, upOk] <;> omega, rfl⟩ (.refl _)
  · have h1 := g1
    try simp at h1
    refine .s rfl g1 rfl rfl rfl rfl ?_
    refine .s rfl g1 rfl rfl rfl rfl ?_
    refine .s rfl g1 rfl rfl rfl rfl ?_
    refine .s rfl g1 rfl rfl rfl rfl ?_
    refine .s rfl g1 rfl rfl rfl rfl ?_
    refine .q rfl rfl (LD.pickF rfl g1 rfl) rfl rfl ?_
    refine .q rfl rfl (LD.move rfl) rfl rfl ?_
    refine .s rfl rfl rfl rfl rfl rfl ?_
    refine .s rfl rfl rfl rfl rfl rfl ?_
    refine .s rfl rfl rfl rfl rfl rfl ?_
    refine .q rfl rfl (LD.pickF rfl rfl rfl) rfl rfl ?_
    refine .q rfl rfl (LD.assign rfl) rfl rfl ?_
    refine TD.nilT ?_
    refine TC.ret ?_
    repeat first | refine Post.sr ?_ | refine Post.br ?_
    exact Out.intro (X := [_, _, _]) (L' := []) (Res.t rfl Res.z) ⟨by simp_all [pack, beq_int, upOk] <;> omega, rfl⟩ (.refl _)
open Mes in
theorem w_downFits (c : Cfg) (m : Msg) (hl : 0 ≤ m.line) (hh : 0 < c.homes) (b : Bool) : FnP Tryz.prog 269 [.agg #[.bool b], .agg (encC c), .agg (encMsg m).toArray] (fun v => v = .bool (downOk c m b)) := by
  refine Fn.body Tryz.func269 rfl rfl rfl (Nat.le_of_ble_eq_true rfl) fun F => ?_
  refine TC.seq ?_
  refine TC.region ?_
  refine TL.nb (NB.boxA rfl) (Wants.un rfl) rfl (fun b3 => ?_)
  refine TL.nb (NB.boxA rfl) (Wants.un rfl) rfl (fun b4 => ?_)
  refine TL.nb (NB.boxA rfl) (Wants.un rfl) rfl (fun b5 => ?_)
  refine .q (LD.assign rfl) rfl rfl ?_
  refine TL.nilS ?_
  refine TC.seq ?_
  refine TC.draw0 [0, 0, 0, 0, 2, 0, 0, 0, 0, 0, 0, 2, 0, 0, 0, 0, 0, 0, 2, 0, 0] [0, 1, 2, 3, 4, 5, 6, 7, 8, 9, 10, 11, 12, 13, 14, 15, 16, 17, 18, 19, 20] TryzI.mixed (by decide +kernel) (by decide) ?_
  refine .q rfl rfl (LD.fieldAddr rfl) rfl rfl ?_
  refine .q rfl rfl (LD.ld1 rfl m0 rfl) rfl rfl ?_
  refine .q rfl rfl (LD.ldA rfl m1 (by repeat constructor) rfl) rfl rfl ?_
  refine .q rfl rfl (LD.ldA rfl m0 (by repeat constructor) rfl) rfl rfl ?_
  refine TD.cp rfl rfl (CL.func rfl) (w_mhome c m hl hh) (Wants.un rfl) rfl ?_
  rintro _ rfl
  refine .q rfl rfl (LD.eql rfl rfl) rfl rfl ?_
  refine .q rfl rfl (LD.move rfl) rfl rfl ?_
  refine TD.split rfl rfl rfl rfl rfl (fun g1 => ?_) (fun g1 => ?_)
  · have h1 := g1
    try simp at h1
    refine .y rfl rfl (LD.fieldAddr rfl) g1 rfl rfl rfl rfl ?_
    refine .y rfl rfl (LD.ld1 rfl m0 rfl) g1 rfl rfl rfl rfl ?_
    refine .y rfl rfl (LD.fieldAddr rfl) g1 rfl rfl rfl rfl ?_
    refine .y rfl rfl (LD.ld1 rfl m1 rfl) g1 rfl rfl rfl rfl ?_
    refine TD.cp rfl rfl (CL.func rfl) (w_within _ _) (Wants.yes rfl rfl rfl g1) rfl ?_
    rintro _ rfl
    refine .q rfl rfl (LD.pickT rfl g1 rfl) rfl rfl ?_
    refine .q rfl rfl (LD.move rfl) rfl rfl ?_
    refine TD.split rfl rfl rfl rfl rfl (fun g2 => ?_) (fun g2 => ?_)
    · have h2 := g2
      try simp at h2
      refine .y rfl rfl (LD.ldA rfl m1 (by repeat constructor) rfl) g2 rfl rfl rfl rfl ?_
      refine .y rfl rfl (LD.ldA rfl m0 (by repeat constructor) rfl) g2 rfl rfl rfl rfl ?_
      refine .y rfl rfl (LD.fieldAddr rfl) g2 rfl rfl rfl rfl ?_
      refine .y rfl rfl (LD.ld1 rfl m2 rfl) g2 rfl rfl rfl rfl ?_
      refine TD.cp rfl rfl (CL.func rfl) (w_plain c m _) (Wants.yes rfl rfl rfl g2) rfl ?_
      rintro _ rfl
      refine .q rfl rfl (LD.pickT rfl g2 rfl) rfl rfl ?_
      refine .q rfl rfl (LD.assign rfl) rfl rfl ?_
      refine TD.nilT ?_
      refine TC.ret ?_
      repeat first | refine Post.sr ?_ | refine Post.br ?_
      exact Out.intro (X := [_, _, _]) (L' := []) (Res.t rfl Res.z) ⟨by simp_all [pack, beq_int, downOk] <;> omega, rfl⟩ (.refl _)
    · have h2 := g2
      try simp at h2
      refine .s rfl g2 rfl rfl rfl rfl ?_
      refine .s rfl g2 rfl rfl rfl rfl ?_
      refine .s rfl g2 rfl rfl rfl rfl ?_
      refine .s rfl g2 rfl rfl rfl rfl ?_
      refine .q rfl rfl (LD.pickF rfl g2 rfl) rfl rfl ?_
      refine .q rfl rfl (LD.assign rfl) rfl rfl ?_
      refine TD.nilT ?_
      refine TC.ret ?_
      repeat first | refine Post.sr ?_ | refine Post.br ?_
      exact Out.intro (X := [_, _, _]) (L' := []) (Res.t rfl Res.z) ⟨by simp_all [pack, beq_int, downOk] <;> omega, rfl⟩ (.refl _)
  · have h1 := g1
    try simp at h1
    refine .s rfl g1 rfl rfl rfl rfl ?_
    refine .s rfl g1 rfl rfl rfl rfl ?_
    refine .s rfl g1 rfl rfl rfl rfl ?_
    refine .s rfl g1 rfl rfl rfl rfl ?_
    refine .q rfl rfl (LD.pickF rfl g1 rfl) rfl rfl ?_
    refine .q rfl rfl (LD.move rfl) rfl rfl ?_
    refine .s rfl rfl rfl rfl rfl rfl ?_
    refine .s rfl rfl rfl rfl rfl rfl ?_
    refine .s rfl rfl rfl rfl rfl rfl ?_
    refine .s rfl rfl rfl rfl rfl rfl ?_
    refine .s rfl rfl rfl rfl rfl rfl ?_
    refine .q rfl rfl (LD.pickF rfl rfl rfl) rfl rfl ?_
    refine .q rfl rfl (LD.assign rfl) rfl rfl ?_
    refine TD.nilT ?_
    refine TC.ret ?_
    repeat first | refine Post.sr ?_ | refine Post.br ?_
    exact Out.intro (X := [_, _, _]) (L' := []) (Res.t rfl Res.z) ⟨by simp_all [pack, beq_int, downOk] <;> omega, rfl⟩ (.refl _)
open Mes in
theorem w_acrossFits (c : Cfg) (m : Msg) : FnP Tryz.prog 272 [.agg #[], .agg (encC c), .agg (encMsg m).toArray] (fun v => v = .bool (acrossOk c m)) := by
  refine Fn.body Tryz.func272 rfl rfl rfl (Nat.le_of_ble_eq_true rfl) fun F => ?_
  refine TC.seq ?_
  refine TC.region ?_
  refine TL.nb (NB.boxA rfl) (Wants.un rfl) rfl (fun b3 => ?_)
  refine TL.nb (NB.boxA rfl) (Wants.un rfl) rfl (fun b4 => ?_)
  refine TL.nb (NB.boxA rfl) (Wants.un rfl) rfl (fun b5 => ?_)
  refine .q (LD.assign rfl) rfl rfl ?_
  refine TL.nilS ?_
  refine TC.seq ?_
  refine TC.region ?_
  refine .q (LD.fieldAddr rfl) rfl rfl ?_
  refine .q (LD.ld1 rfl m0 rfl) rfl rfl ?_
  refine .q (LD.fieldAddr rfl) rfl rfl ?_
  refine .q (LD.ld1 rfl m1 rfl) rfl rfl ?_
  refine TL.cp (CL.func rfl) (w_within _ _) (Wants.un rfl) rfl ?_
  rintro _ rfl
  refine .q (LD.move rfl) rfl rfl ?_
  refine TL.split rfl rfl rfl rfl (fun g1 => ?_) (fun g1 => ?_)
  · have h1 := g1
    try simp at h1
    refine .y (LD.fieldAddr rfl) g1 rfl rfl rfl rfl ?_
    refine .y (LD.ld1 rfl m0 rfl) g1 rfl rfl rfl rfl ?_
    refine .y (LD.fieldAddr rfl) g1 rfl rfl rfl rfl ?_
    refine .y (LD.ld1 rfl m1 rfl) g1 rfl rfl rfl rfl ?_
    refine TL.cp (CL.func rfl) (w_within _ _) (Wants.yes rfl rfl rfl g1) rfl ?_
    rintro _ rfl
    refine .q (LD.pickT rfl g1 rfl) rfl rfl ?_
    refine .q (LD.move rfl) rfl rfl ?_
    refine TL.split rfl rfl rfl rfl (fun g2 => ?_) (fun g2 => ?_)
    · have h2 := g2
      try simp at h2
      refine .y (LD.fieldAddr rfl) g2 rfl rfl rfl rfl ?_
      refine .y (LD.ld1 rfl m0 rfl) g2 rfl rfl rfl rfl ?_
      refine .y (LD.fieldAddr rfl) g2 rfl rfl rfl rfl ?_
      refine .y (LD.ld1 rfl m0 rfl) g2 rfl rfl rfl rfl ?_
      refine .y (LD.neq rfl rfl) g2 rfl rfl rfl rfl ?_
      refine .q (LD.pickT rfl g2 rfl) rfl rfl ?_
      refine .q (LD.move rfl) rfl rfl ?_
      refine TL.split rfl rfl rfl rfl (fun g3 => ?_) (fun g3 => ?_)
      · have h3 := g3
        try simp at h3
        refine .y (LD.ldA rfl m1 (by repeat constructor) rfl) g3 rfl rfl rfl rfl ?_
        refine .y (LD.ldA rfl m0 (by repeat constructor) rfl) g3 rfl rfl rfl rfl ?_
        refine TL.cp (CL.func rfl) (w_plain c m _) (Wants.yes rfl rfl rfl g3) rfl ?_
        rintro _ rfl
        refine .q (LD.pickT rfl g3 rfl) rfl rfl ?_
        refine .q (LD.assign rfl) rfl rfl ?_
        refine TL.nilS ?_
        refine TC.ret ?_
        repeat first | refine Post.sr ?_ | refine Post.br ?_
        exact Out.intro (X := [_, _, _]) (L' := []) (Res.t rfl Res.z) ⟨by simp_all [pack, beq_int, acrossOk] <;> omega, rfl⟩ (.refl _)
      · have h3 := g3
        try simp at h3
        refine .s g3 rfl rfl rfl rfl ?_
        refine .s g3 rfl rfl rfl rfl ?_
        refine .q (LD.pickF rfl g3 rfl) rfl rfl ?_
        refine .q (LD.assign rfl) rfl rfl ?_
        refine TL.nilS ?_
        refine TC.ret ?_
        repeat first | refine Post.sr ?_ | refine Post.br ?_
        exact Out.intro (X := [_, _, _]) (L' := []) (Res.t rfl Res.z) ⟨by simp_all [pack, beq_int, acrossOk] <;> omega, rfl⟩ (.refl _)
    · have h2 := g2
      try simp at h2
      refine .s g2 rfl rfl rfl rfl ?_
      refine .s g2 rfl rfl rfl rfl ?_
      refine .s g2 rfl rfl rfl rfl ?_
      refine .s g2 rfl rfl rfl rfl ?_
      refine .q (LD.pickF rfl g2 rfl) rfl rfl ?_
      refine .q (LD.move rfl) rfl rfl ?_
      refine .s rfl rfl rfl rfl rfl ?_
      refine .s rfl rfl rfl rfl rfl ?_
      refine .s rfl rfl rfl rfl rfl ?_
      refine .q (LD.pickF rfl rfl rfl) rfl rfl ?_
      refine .q (LD.assign rfl) rfl rfl ?_
      refine TL.nilS ?_
      refine TC.ret ?_
      repeat first | refine Post.sr ?_ | refine Post.br ?_
      exact Out.intro (X := [_, _, _]) (L' := []) (Res.t rfl Res.z) ⟨by simp_all [pack, beq_int, acrossOk] <;> omega, rfl⟩ (.refl _)
  · have h1 := g1
    try simp at h1
    refine .s g1 rfl rfl rfl rfl ?_
    refine .s g1 rfl rfl rfl rfl ?_
    refine .s g1 rfl rfl rfl rfl ?_
    refine .s g1 rfl rfl rfl rfl ?_
    refine .q (LD.pickF rfl g1 rfl) rfl rfl ?_
    refine .q (LD.move rfl) rfl rfl ?_
    refine .s rfl rfl rfl rfl rfl ?_
    refine .s rfl rfl rfl rfl rfl ?_
    refine .s rfl rfl rfl rfl rfl ?_
    refine .s rfl rfl rfl rfl rfl ?_
    refine .s rfl rfl rfl rfl rfl ?_
    refine .q (LD.pickF rfl rfl rfl) rfl rfl ?_
    refine .q (LD.move rfl) rfl rfl ?_
    refine .s rfl rfl rfl rfl rfl ?_
    refine .s rfl rfl rfl rfl rfl ?_
    refine .s rfl rfl rfl rfl rfl ?_
    refine .q (LD.pickF rfl rfl rfl) rfl rfl ?_
    refine .q (LD.assign rfl) rfl rfl ?_
    refine TL.nilS ?_
    refine TC.ret ?_
    repeat first | refine Post.sr ?_ | refine Post.br ?_
    exact Out.intro (X := [_, _, _]) (L' := []) (Res.t rfl Res.z) ⟨by simp_all [pack, beq_int, acrossOk] <;> omega, rfl⟩ (.refl _)
open Mes in
theorem w_fwdFits (c : Cfg) (m : Msg) (hl : 0 ≤ m.line) (hh : 0 < c.homes) (b : Bool) : FnP Tryz.prog 268 [.agg #[.bool b], .agg (encC c), .agg (encMsg m).toArray] (fun v => v = .bool (fwdOk c m b)) := by
  refine Fn.body Tryz.func268 rfl rfl rfl (Nat.le_of_ble_eq_true rfl) fun F => ?_
  refine TC.seq ?_
  refine TC.region ?_
  refine TL.nb (NB.boxA rfl) (Wants.un rfl) rfl (fun b3 => ?_)
  refine TL.nb (NB.boxA rfl) (Wants.un rfl) rfl (fun b4 => ?_)
  refine TL.nb (NB.boxA rfl) (Wants.un rfl) rfl (fun b5 => ?_)
  refine .q (LD.assign rfl) rfl rfl ?_
  refine TL.nilS ?_
  refine TC.seq ?_
  refine TC.region ?_
  refine .q (LD.fieldAddr rfl) rfl rfl ?_
  refine .q (LD.ld1 rfl m0 rfl) rfl rfl ?_
  refine .q (LD.assign rfl) rfl rfl ?_
  refine TL.nilS ?_
  refine TC.seq ?_
  refine TC.region ?_
  refine .q (LD.fieldAddr rfl) rfl rfl ?_
  refine .e (EF.st1 (i := 0) rfl rfl rfl rfl rfl (by repeat constructor)) rfl rfl ?_
  refine TL.nilS ?_
  refine TC.seq ?_
  refine TC.region ?_
  refine .q (LD.move rfl) rfl rfl ?_
  refine .q (LD.fieldAddr rfl) rfl rfl ?_
  refine .q (LD.ld1 rfl m1 rfl) rfl rfl ?_
  refine TL.cp (CL.func rfl) (w_within _ _) (Wants.un rfl) rfl ?_
  rintro _ rfl
  refine .q (LD.move rfl) rfl rfl ?_
  refine TL.split rfl rfl rfl rfl (fun g1 => ?_) (fun g1 => ?_)
  · have h1 := g1
    try simp at h1
    refine .y (LD.move rfl) g1 rfl rfl rfl rfl ?_
    refine .y (LD.fieldAddr rfl) g1 rfl rfl rfl rfl ?_
    refine .y (LD.ld1 rfl m0 rfl) g1 rfl rfl rfl rfl ?_
    refine .y (LD.neq rfl rfl) g1 rfl rfl rfl rfl ?_
    refine .q (LD.pickT rfl g1 rfl) rfl rfl ?_
    refine .q (LD.move rfl) rfl rfl ?_
    refine TL.split rfl rfl rfl rfl (fun g2 => ?_) (fun g2 => ?_)
    · have h2 := g2
      try simp at h2
      refine .y (LD.ldA rfl m2 (by repeat constructor) rfl) g2 rfl rfl rfl rfl ?_
      refine .y (LD.ldA rfl m1 (by repeat constructor) rfl) g2 rfl rfl rfl rfl ?_
      refine .y (LD.ldA rfl m0 (by repeat constructor) rfl) g2 rfl rfl rfl rfl ?_
      refine TL.cp (CL.func rfl) (w_downFits c { m with who := 0 } hl hh b) (Wants.yes rfl rfl rfl g2) rfl ?_
      rintro _ rfl
      refine .q (LD.pickT rfl g2 rfl) rfl rfl ?_
      refine .q (LD.assign rfl) rfl rfl ?_
      refine TL.nilS ?_
      refine TC.ret ?_
      repeat first | refine Post.sr ?_ | refine Post.br ?_
      exact Out.intro (X := [_, _, _]) (L' := []) (Res.t rfl Res.z) ⟨by simp_all [pack, beq_int, fwdOk] <;> omega, rfl⟩ (.refl _)
    · have h2 := g2
      try simp at h2
      refine .s g2 rfl rfl rfl rfl ?_
      refine .s g2 rfl rfl rfl rfl ?_
      refine .s g2 rfl rfl rfl rfl ?_
      refine .q (LD.pickF rfl g2 rfl) rfl rfl ?_
      refine .q (LD.assign rfl) rfl rfl ?_
      refine TL.nilS ?_
      refine TC.ret ?_
      repeat first | refine Post.sr ?_ | refine Post.br ?_
      exact Out.intro (X := [_, _, _]) (L' := []) (Res.t rfl Res.z) ⟨by simp_all [pack, beq_int, fwdOk] <;> omega, rfl⟩ (.refl _)
  · have h1 := g1
    try simp at h1
    refine .s g1 rfl rfl rfl rfl ?_
    refine .s g1 rfl rfl rfl rfl ?_
    refine .s g1 rfl rfl rfl rfl ?_
    refine .q (LD.pickF rfl g1 rfl) rfl rfl ?_
    refine .q (LD.move rfl) rfl rfl ?_
    refine .s rfl rfl rfl rfl rfl ?_
    refine .s rfl rfl rfl rfl rfl ?_
    refine .s rfl rfl rfl rfl rfl ?_
    refine .s rfl rfl rfl rfl rfl ?_
    refine .q (LD.pickF rfl rfl rfl) rfl rfl ?_
    refine .q (LD.assign rfl) rfl rfl ?_
    refine TL.nilS ?_
    refine TC.ret ?_
    repeat first | refine Post.sr ?_ | refine Post.br ?_
    exact Out.intro (X := [_, _, _]) (L' := []) (Res.t rfl Res.z) ⟨by simp_all [pack, beq_int, fwdOk] <;> omega, rfl⟩ (.refl _)
open Mes in
theorem w_dataFits (c : Cfg) (m : Msg) (hl : 0 ≤ m.line) (hh : 0 < c.homes) : FnP Tryz.prog 270 [.agg #[], .agg (encC c), .agg (encMsg m).toArray] (fun v => v = .bool (dataOk c m)) := by
  refine Fn.body Tryz.func270 rfl rfl rfl (Nat.le_of_ble_eq_true rfl) fun F => ?_
  refine TC.seq ?_
  refine TC.region ?_
  refine TL.nb (NB.boxA rfl) (Wants.un rfl) rfl (fun b3 => ?_)
  refine TL.nb (NB.boxA rfl) (Wants.un rfl) rfl (fun b4 => ?_)
  refine TL.nb (NB.boxA rfl) (Wants.un rfl) rfl (fun b5 => ?_)
  refine .q (LD.assign rfl) rfl rfl ?_
  refine TL.nilS ?_
  refine TC.seq ?_
  refine TC.draw0 [0, 0, 0, 0, 0, 0] [0, 1, 2, 3, 4, 5] TryzI.mixed (by decide +kernel) (by decide) ?_
  refine .q rfl rfl (LD.fieldAddr rfl) rfl rfl ?_
  refine .q rfl rfl (LD.ld1 rfl m0 rfl) rfl rfl ?_
  refine .q rfl rfl (LD.fieldAddr rfl) rfl rfl ?_
  refine .q rfl rfl (LD.ld1 rfl m0 rfl) rfl rfl ?_
  refine .q rfl rfl (LD.assign rfl) rfl rfl ?_
  refine .q rfl rfl (LD.assign rfl) rfl rfl ?_
  refine TD.nilT ?_
  refine TC.seq ?_
  refine TC.region ?_
  refine .q (LD.fieldAddr rfl) rfl rfl ?_
  refine .e (EF.st1 (i := 0) rfl rfl rfl rfl rfl (by repeat constructor)) rfl rfl ?_
  refine .q (LD.fieldAddr rfl) rfl rfl ?_
  refine .e (EF.st1 (i := 0) rfl rfl rfl rfl rfl (by repeat constructor)) rfl rfl ?_
  refine TL.nilS ?_
  refine TC.seq ?_
  refine TC.seq ?_
  refine TC.region ?_
  refine .q (LD.move rfl) rfl rfl ?_
  refine .q (LD.neq rfl rfl) rfl rfl ?_
  refine .q (LD.move rfl) rfl rfl ?_
  refine TL.split rfl rfl rfl rfl (fun g1 => ?_) (fun g1 => ?_)
  · have h1 := g1
    try simp at h1
    refine .y (LD.move rfl) g1 rfl rfl rfl rfl ?_
    refine .y (LD.neq rfl rfl) g1 rfl rfl rfl rfl ?_
    refine .q (LD.pickT rfl g1 rfl) rfl rfl ?_
    refine .q (LD.move rfl) rfl rfl ?_
    refine TL.split rfl rfl rfl rfl (fun g2 => ?_) (fun g2 => ?_)
    · have h2 := g2
      try simp at h2
      refine .y (LD.move rfl) g2 rfl rfl rfl rfl ?_
      refine .y (LD.neq rfl rfl) g2 rfl rfl rfl rfl ?_
      refine .q (LD.pickT rfl g2 rfl) rfl rfl ?_
      refine .q (LD.move rfl) rfl rfl ?_
      refine TL.split rfl rfl rfl rfl (fun g3 => ?_) (fun g3 => ?_)
      · have h3 := g3
        try simp at h3
        refine .y (LD.ldA rfl m1 (by repeat constructor) rfl) g3 rfl rfl rfl rfl ?_
        refine .y (LD.ldA rfl m0 (by repeat constructor) rfl) g3 rfl rfl rfl rfl ?_
        refine TL.cp (CL.func rfl) (w_plain c { m with who := 0, own := 0 } _) (Wants.yes rfl rfl rfl g3) rfl ?_
        rintro _ rfl
        refine .y (LD.not rfl) g3 rfl rfl rfl rfl ?_
        refine .q (LD.pickF rfl g3 rfl) rfl rfl ?_
        refine .q (LD.move rfl) rfl rfl ?_
        refine TL.split rfl rfl rfl rfl (fun g4 => ?_) (fun g4 => ?_)
        · have h4 := g4
          try simp at h4
          refine .y (LD.fieldAddr rfl) g4 rfl rfl rfl rfl ?_
          refine .y (LD.ld1 rfl m0 rfl) g4 rfl rfl rfl rfl ?_
          refine .y (LD.fieldAddr rfl) g4 rfl rfl rfl rfl ?_
          refine .y (LD.ld1 rfl m1 rfl) g4 rfl rfl rfl rfl ?_
          refine TL.cp (CL.func rfl) (w_within _ _) (Wants.yes rfl rfl rfl g4) rfl ?_
          rintro _ rfl
          refine .y (LD.not rfl) g4 rfl rfl rfl rfl ?_
          refine .q (LD.pickF rfl g4 rfl) rfl rfl ?_
          refine TL.nilS ?_
          refine TC.cond rfl (fun g5 => ?_) (fun g5 => ?_)
          · have h5 := g5
            try simp at h5
            refine TC.seq ?_
            refine TC.region ?_
            refine .q (LD.assign rfl) rfl rfl ?_
            refine TL.nilS ?_
            refine TC.ret ?_
            repeat first | refine Post.sr ?_ | refine Post.br ?_
            exact Out.intro (X := [_, _, _]) (L' := []) (Res.t rfl Res.z) ⟨by simp_all [pack, beq_int, dataOk] <;> first | omega | (by_cases hq : m.frm = m.to <;> simp [hq]), rfl⟩ (.refl _)
          · have h5 := g5
            try simp at h5
            refine TC.skipS ?_
            refine TC.seq ?_
            refine TC.seq ?_
            refine TC.region ?_
            refine .q (LD.move rfl) rfl rfl ?_
            refine .q (LD.eql rfl rfl) rfl rfl ?_
            refine TL.nilS ?_
            refine TC.cond rfl (fun g6 => ?_) (fun g6 => ?_)
            · have h6 := g6
              try simp at h6
              refine TC.seq ?_
              refine TC.draw0 [0, 0, 0, 0, 2, 0, 0] [0, 1, 2, 3, 4, 5, 6] TryzI.mixed (by decide +kernel) (by decide) ?_
              refine .q rfl rfl (LD.fieldAddr rfl) rfl rfl ?_
              refine .q rfl rfl (LD.ld1 rfl m0 rfl) rfl rfl ?_
              refine .q rfl rfl (LD.ldA rfl m1 (by repeat constructor) rfl) rfl rfl ?_
              refine .q rfl rfl (LD.ldA rfl m0 (by repeat constructor) rfl) rfl rfl ?_
              refine TD.cp rfl rfl (CL.func rfl) (w_mhome c { m with who := 0, own := 0 } hl hh) (Wants.un rfl) rfl ?_
              rintro _ rfl
              refine .q rfl rfl (LD.eql rfl rfl) rfl rfl ?_
              refine .q rfl rfl (LD.assign rfl) rfl rfl ?_
              refine TD.nilT ?_
              refine TC.ret ?_
              repeat first | refine Post.sr ?_ | refine Post.br ?_
              exact Out.intro (X := [_, _, _]) (L' := []) (Res.t rfl Res.z) ⟨by simp_all [pack, beq_int, dataOk] <;> first | omega | (by_cases hq : m.frm = m.to <;> simp [hq]), rfl⟩ (.refl _)
            · have h6 := g6
              try simp at h6
              refine TC.skipS ?_
              refine TC.seq ?_
              refine TC.region ?_
              refine .q (LD.move rfl) rfl rfl ?_
              refine .q (LD.eql rfl rfl) rfl rfl ?_
              refine .q (LD.move rfl) rfl rfl ?_
              refine TL.split rfl rfl rfl rfl (fun g7 => ?_) (fun g7 => ?_)
              · have h7 := g7
                try simp at h7
                refine .y (LD.fieldAddr rfl) g7 rfl rfl rfl rfl ?_
                refine .y (LD.ld1 rfl m0 rfl) g7 rfl rfl rfl rfl ?_
                refine .y (LD.fieldAddr rfl) g7 rfl rfl rfl rfl ?_
                refine .y (LD.ld1 rfl m1 rfl) g7 rfl rfl rfl rfl ?_
                refine TL.cp (CL.func rfl) (w_within _ _) (Wants.yes rfl rfl rfl g7) rfl ?_
                rintro _ rfl
                refine .q (LD.pickT rfl g7 rfl) rfl rfl ?_
                refine .q (LD.move rfl) rfl rfl ?_
                refine TL.split rfl rfl rfl rfl (fun g8 => ?_) (fun g8 => ?_)
                · have h8 := g8
                  try simp at h8
                  refine .y (LD.fieldAddr rfl) g8 rfl rfl rfl rfl ?_
                  refine .y (LD.ld1 rfl m0 rfl) g8 rfl rfl rfl rfl ?_
                  refine .y (LD.fieldAddr rfl) g8 rfl rfl rfl rfl ?_
                  refine .y (LD.ld1 rfl m0 rfl) g8 rfl rfl rfl rfl ?_
                  refine .y (LD.neq rfl rfl) g8 rfl rfl rfl rfl ?_
                  refine .q (LD.pickT rfl g8 rfl) rfl rfl ?_
                  refine .q (LD.assign rfl) rfl rfl ?_
                  refine TL.nilS ?_
                  refine TC.ret ?_
                  repeat first | refine Post.sr ?_ | refine Post.br ?_
                  exact Out.intro (X := [_, _, _]) (L' := []) (Res.t rfl Res.z) ⟨by simp_all [pack, beq_int, dataOk] <;> first | omega | (by_cases hq : m.frm = m.to <;> simp [hq]), rfl⟩ (.refl _)
                · have h8 := g8
                  try simp at h8
                  refine .s g8 rfl rfl rfl rfl ?_
                  refine .s g8 rfl rfl rfl rfl ?_
                  refine .s g8 rfl rfl rfl rfl ?_
                  refine .s g8 rfl rfl rfl rfl ?_
                  refine .q (LD.pickF rfl g8 rfl) rfl rfl ?_
                  refine .q (LD.assign rfl) rfl rfl ?_
                  refine TL.nilS ?_
                  refine TC.ret ?_
                  repeat first | refine Post.sr ?_ | refine Post.br ?_
                  exact Out.intro (X := [_, _, _]) (L' := []) (Res.t rfl Res.z) ⟨by simp_all [pack, beq_int, dataOk] <;> first | omega | (by_cases hq : m.frm = m.to <;> simp [hq]), rfl⟩ (.refl _)
              · have h7 := g7
                try simp at h7
                refine .s g7 rfl rfl rfl rfl ?_
                refine .s g7 rfl rfl rfl rfl ?_
                refine .s g7 rfl rfl rfl rfl ?_
                refine .s g7 rfl rfl rfl rfl ?_
                refine .q (LD.pickF rfl g7 rfl) rfl rfl ?_
                refine .q (LD.move rfl) rfl rfl ?_
                refine .s rfl rfl rfl rfl rfl ?_
                refine .s rfl rfl rfl rfl rfl ?_
                refine .s rfl rfl rfl rfl rfl ?_
                refine .s rfl rfl rfl rfl rfl ?_
                refine .s rfl rfl rfl rfl rfl ?_
                refine .q (LD.pickF rfl rfl rfl) rfl rfl ?_
                refine .q (LD.assign rfl) rfl rfl ?_
                refine TL.nilS ?_
                refine TC.ret ?_
                repeat first | refine Post.sr ?_ | refine Post.br ?_
                exact Out.intro (X := [_, _, _]) (L' := []) (Res.t rfl Res.z) ⟨by simp_all [pack, beq_int, dataOk] <;> first | omega | (by_cases hq : m.frm = m.to <;> simp [hq]), rfl⟩ (.refl _)
        · have h4 := g4
          try simp at h4
          refine .s g4 rfl rfl rfl rfl ?_
          refine .s g4 rfl rfl rfl rfl ?_
          refine .s g4 rfl rfl rfl rfl ?_
          refine .s g4 rfl rfl rfl rfl ?_
          refine .s g4 rfl rfl rfl rfl ?_
          refine .q (LD.pickT rfl g4 rfl) rfl rfl ?_
          refine TL.nilS ?_
          refine TC.condT rfl rfl ?_
          refine TC.seq ?_
          refine TC.region ?_
          refine .q (LD.assign rfl) rfl rfl ?_
          refine TL.nilS ?_
          refine TC.ret ?_
          repeat first | refine Post.sr ?_ | refine Post.br ?_
          exact Out.intro (X := [_, _, _]) (L' := []) (Res.t rfl Res.z) ⟨by simp_all [pack, beq_int, dataOk] <;> first | omega | (by_cases hq : m.frm = m.to <;> simp [hq]), rfl⟩ (.refl _)
      · have h3 := g3
        try simp at h3
        refine .s g3 rfl rfl rfl rfl ?_
        refine .s g3 rfl rfl rfl rfl ?_
        refine .s g3 rfl rfl rfl rfl ?_
        refine .q (LD.pickT rfl g3 rfl) rfl rfl ?_
        refine .q (LD.move rfl) rfl rfl ?_
        refine .s rfl rfl rfl rfl rfl ?_
        refine .s rfl rfl rfl rfl rfl ?_
        refine .s rfl rfl rfl rfl rfl ?_
        refine .s rfl rfl rfl rfl rfl ?_
        refine .s rfl rfl rfl rfl rfl ?_
        refine .s rfl rfl rfl rfl rfl ?_
        refine .q (LD.pickT rfl rfl rfl) rfl rfl ?_
        refine TL.nilS ?_
        refine TC.condT rfl rfl ?_
        refine TC.seq ?_
        refine TC.region ?_
        refine .q (LD.assign rfl) rfl rfl ?_
        refine TL.nilS ?_
        refine TC.ret ?_
        repeat first | refine Post.sr ?_ | refine Post.br ?_
        exact Out.intro (X := [_, _, _]) (L' := []) (Res.t rfl Res.z) ⟨by simp_all [pack, beq_int, dataOk] <;> first | omega | (by_cases hq : m.frm = m.to <;> simp [hq]), rfl⟩ (.refl _)
    · have h2 := g2
      try simp at h2
      refine .s g2 rfl rfl rfl rfl ?_
      refine .q (LD.pickF rfl g2 rfl) rfl rfl ?_
      refine .q (LD.move rfl) rfl rfl ?_
      refine .y (LD.ldA rfl m1 (by repeat constructor) rfl) rfl rfl rfl rfl rfl ?_
      refine .y (LD.ldA rfl m0 (by repeat constructor) rfl) rfl rfl rfl rfl rfl ?_
      refine TL.cp (CL.func rfl) (w_plain c { m with who := 0, own := 0 } _) (Wants.yes rfl rfl rfl rfl) rfl ?_
      rintro _ rfl
      refine .y (LD.not rfl) rfl rfl rfl rfl rfl ?_
      refine .q (LD.pickF rfl rfl rfl) rfl rfl ?_
      refine .q (LD.move rfl) rfl rfl ?_
      refine TL.split rfl rfl rfl rfl (fun g9 => ?_) (fun g9 => ?_)
      · have h9 := g9
        try simp at h9
        refine .y (LD.fieldAddr rfl) g9 rfl rfl rfl rfl ?_
        refine .y (LD.ld1 rfl m0 rfl) g9 rfl rfl rfl rfl ?_
        refine .y (LD.fieldAddr rfl) g9 rfl rfl rfl rfl ?_
        refine .y (LD.ld1 rfl m1 rfl) g9 rfl rfl rfl rfl ?_
        refine TL.cp (CL.func rfl) (w_within _ _) (Wants.yes rfl rfl rfl g9) rfl ?_
        rintro _ rfl
        refine .y (LD.not rfl) g9 rfl rfl rfl rfl ?_
        refine .q (LD.pickF rfl g9 rfl) rfl rfl ?_
        refine TL.nilS ?_
        refine TC.cond rfl (fun g10 => ?_) (fun g10 => ?_)
        · have h10 := g10
          try simp at h10
          refine TC.seq ?_
          refine TC.region ?_
          refine .q (LD.assign rfl) rfl rfl ?_
          refine TL.nilS ?_
          refine TC.ret ?_
          repeat first | refine Post.sr ?_ | refine Post.br ?_
          exact Out.intro (X := [_, _, _]) (L' := []) (Res.t rfl Res.z) ⟨by simp_all [pack, beq_int, dataOk] <;> first | omega | (by_cases hq : m.frm = m.to <;> simp [hq]), rfl⟩ (.refl _)
        · have h10 := g10
          try simp at h10
          refine TC.skipS ?_
          refine TC.seq ?_
          refine TC.seq ?_
          refine TC.region ?_
          refine .q (LD.move rfl) rfl rfl ?_
          refine .q (LD.eql rfl rfl) rfl rfl ?_
          refine TL.nilS ?_
          refine TC.cond rfl (fun g11 => ?_) (fun g11 => ?_)
          · have h11 := g11
            try simp at h11
            refine TC.seq ?_
            refine TC.draw0 [0, 0, 0, 0, 2, 0, 0] [0, 1, 2, 3, 4, 5, 6] TryzI.mixed (by decide +kernel) (by decide) ?_
            refine .q rfl rfl (LD.fieldAddr rfl) rfl rfl ?_
            refine .q rfl rfl (LD.ld1 rfl m0 rfl) rfl rfl ?_
            refine .q rfl rfl (LD.ldA rfl m1 (by repeat constructor) rfl) rfl rfl ?_
            refine .q rfl rfl (LD.ldA rfl m0 (by repeat constructor) rfl) rfl rfl ?_
            refine TD.cp rfl rfl (CL.func rfl) (w_mhome c { m with who := 0, own := 0 } hl hh) (Wants.un rfl) rfl ?_
            rintro _ rfl
            refine .q rfl rfl (LD.eql rfl rfl) rfl rfl ?_
            refine .q rfl rfl (LD.assign rfl) rfl rfl ?_
            refine TD.nilT ?_
            refine TC.ret ?_
            repeat first | refine Post.sr ?_ | refine Post.br ?_
            exact Out.intro (X := [_, _, _]) (L' := []) (Res.t rfl Res.z) ⟨by simp_all [pack, beq_int, dataOk] <;> first | omega | (by_cases hq : m.frm = m.to <;> simp [hq]), rfl⟩ (.refl _)
          · have h11 := g11
            try simp at h11
            refine TC.skipS ?_
            refine TC.seq ?_
            refine TC.region ?_
            refine .q (LD.move rfl) rfl rfl ?_
            refine .q (LD.eql rfl rfl) rfl rfl ?_
            refine .q (LD.move rfl) rfl rfl ?_
            refine TL.split rfl rfl rfl rfl (fun g12 => ?_) (fun g12 => ?_)
            · have h12 := g12
              try simp at h12
              refine .y (LD.fieldAddr rfl) g12 rfl rfl rfl rfl ?_
              refine .y (LD.ld1 rfl m0 rfl) g12 rfl rfl rfl rfl ?_
              refine .y (LD.fieldAddr rfl) g12 rfl rfl rfl rfl ?_
              refine .y (LD.ld1 rfl m1 rfl) g12 rfl rfl rfl rfl ?_
              refine TL.cp (CL.func rfl) (w_within _ _) (Wants.yes rfl rfl rfl g12) rfl ?_
              rintro _ rfl
              refine .q (LD.pickT rfl g12 rfl) rfl rfl ?_
              refine .q (LD.move rfl) rfl rfl ?_
              refine TL.split rfl rfl rfl rfl (fun g13 => ?_) (fun g13 => ?_)
              · have h13 := g13
                try simp at h13
                refine .y (LD.fieldAddr rfl) g13 rfl rfl rfl rfl ?_
                refine .y (LD.ld1 rfl m0 rfl) g13 rfl rfl rfl rfl ?_
                refine .y (LD.fieldAddr rfl) g13 rfl rfl rfl rfl ?_
                refine .y (LD.ld1 rfl m0 rfl) g13 rfl rfl rfl rfl ?_
                refine .y (LD.neq rfl rfl) g13 rfl rfl rfl rfl ?_
                refine .q (LD.pickT rfl g13 rfl) rfl rfl ?_
                refine .q (LD.assign rfl) rfl rfl ?_
                refine TL.nilS ?_
                refine TC.ret ?_
                repeat first | refine Post.sr ?_ | refine Post.br ?_
                exact Out.intro (X := [_, _, _]) (L' := []) (Res.t rfl Res.z) ⟨by simp_all [pack, beq_int, dataOk] <;> first | omega | (by_cases hq : m.frm = m.to <;> simp [hq]), rfl⟩ (.refl _)
              · have h13 := g13
                try simp at h13
                refine .s g13 rfl rfl rfl rfl ?_
                refine .s g13 rfl rfl rfl rfl ?_
                refine .s g13 rfl rfl rfl rfl ?_
                refine .s g13 rfl rfl rfl rfl ?_
                refine .q (LD.pickF rfl g13 rfl) rfl rfl ?_
                refine .q (LD.assign rfl) rfl rfl ?_
                refine TL.nilS ?_
                refine TC.ret ?_
                repeat first | refine Post.sr ?_ | refine Post.br ?_
                exact Out.intro (X := [_, _, _]) (L' := []) (Res.t rfl Res.z) ⟨by simp_all [pack, beq_int, dataOk] <;> first | omega | (by_cases hq : m.frm = m.to <;> simp [hq]), rfl⟩ (.refl _)
            · have h12 := g12
              try simp at h12
              refine .s g12 rfl rfl rfl rfl ?_
              refine .s g12 rfl rfl rfl rfl ?_
              refine .s g12 rfl rfl rfl rfl ?_
              refine .s g12 rfl rfl rfl rfl ?_
              refine .q (LD.pickF rfl g12 rfl) rfl rfl ?_
              refine .q (LD.move rfl) rfl rfl ?_
              refine .s rfl rfl rfl rfl rfl ?_
              refine .s rfl rfl rfl rfl rfl ?_
              refine .s rfl rfl rfl rfl rfl ?_
              refine .s rfl rfl rfl rfl rfl ?_
              refine .s rfl rfl rfl rfl rfl ?_
              refine .q (LD.pickF rfl rfl rfl) rfl rfl ?_
              refine .q (LD.assign rfl) rfl rfl ?_
              refine TL.nilS ?_
              refine TC.ret ?_
              repeat first | refine Post.sr ?_ | refine Post.br ?_
              exact Out.intro (X := [_, _, _]) (L' := []) (Res.t rfl Res.z) ⟨by simp_all [pack, beq_int, dataOk] <;> first | omega | (by_cases hq : m.frm = m.to <;> simp [hq]), rfl⟩ (.refl _)
      · have h9 := g9
        try simp at h9
        refine .s g9 rfl rfl rfl rfl ?_
        refine .s g9 rfl rfl rfl rfl ?_
        refine .s g9 rfl rfl rfl rfl ?_
        refine .s g9 rfl rfl rfl rfl ?_
        refine .s g9 rfl rfl rfl rfl ?_
        refine .q (LD.pickT rfl g9 rfl) rfl rfl ?_
        refine TL.nilS ?_
        refine TC.condT rfl rfl ?_
        refine TC.seq ?_
        refine TC.region ?_
        refine .q (LD.assign rfl) rfl rfl ?_
        refine TL.nilS ?_
        refine TC.ret ?_
        repeat first | refine Post.sr ?_ | refine Post.br ?_
        exact Out.intro (X := [_, _, _]) (L' := []) (Res.t rfl Res.z) ⟨by simp_all [pack, beq_int, dataOk] <;> first | omega | (by_cases hq : m.frm = m.to <;> simp [hq]), rfl⟩ (.refl _)
  · have h1 := g1
    try simp at h1
    refine .s g1 rfl rfl rfl rfl ?_
    refine .q (LD.pickF rfl g1 rfl) rfl rfl ?_
    refine .q (LD.move rfl) rfl rfl ?_
    refine .s rfl rfl rfl rfl rfl ?_
    refine .s rfl rfl rfl rfl rfl ?_
    refine .q (LD.pickF rfl rfl rfl) rfl rfl ?_
    refine .q (LD.move rfl) rfl rfl ?_
    refine .y (LD.ldA rfl m1 (by repeat constructor) rfl) rfl rfl rfl rfl rfl ?_
    refine .y (LD.ldA rfl m0 (by repeat constructor) rfl) rfl rfl rfl rfl rfl ?_
    refine TL.cp (CL.func rfl) (w_plain c { m with who := 0, own := 0 } _) (Wants.yes rfl rfl rfl rfl) rfl ?_
    rintro _ rfl
    refine .y (LD.not rfl) rfl rfl rfl rfl rfl ?_
    refine .q (LD.pickF rfl rfl rfl) rfl rfl ?_
    refine .q (LD.move rfl) rfl rfl ?_
    refine TL.split rfl rfl rfl rfl (fun g14 => ?_) (fun g14 => ?_)
    · have h14 := g14
      try simp at h14
      refine .y (LD.fieldAddr rfl) g14 rfl rfl rfl rfl ?_
      refine .y (LD.ld1 rfl m0 rfl) g14 rfl rfl rfl rfl ?_
      refine .y (LD.fieldAddr rfl) g14 rfl rfl rfl rfl ?_
      refine .y (LD.ld1 rfl m1 rfl) g14 rfl rfl rfl rfl ?_
      refine TL.cp (CL.func rfl) (w_within _ _) (Wants.yes rfl rfl rfl g14) rfl ?_
      rintro _ rfl
      refine .y (LD.not rfl) g14 rfl rfl rfl rfl ?_
      refine .q (LD.pickF rfl g14 rfl) rfl rfl ?_
      refine TL.nilS ?_
      refine TC.cond rfl (fun g15 => ?_) (fun g15 => ?_)
      · have h15 := g15
        try simp at h15
        refine TC.seq ?_
        refine TC.region ?_
        refine .q (LD.assign rfl) rfl rfl ?_
        refine TL.nilS ?_
        refine TC.ret ?_
        repeat first | refine Post.sr ?_ | refine Post.br ?_
        exact Out.intro (X := [_, _, _]) (L' := []) (Res.t rfl Res.z) ⟨by simp_all [pack, beq_int, dataOk] <;> first | omega | (by_cases hq : m.frm = m.to <;> simp [hq]), rfl⟩ (.refl _)
      · have h15 := g15
        try simp at h15
        refine TC.skipS ?_
        refine TC.seq ?_
        refine TC.seq ?_
        refine TC.region ?_
        refine .q (LD.move rfl) rfl rfl ?_
        refine .q (LD.eql rfl rfl) rfl rfl ?_
        refine TL.nilS ?_
        refine TC.cond rfl (fun g16 => ?_) (fun g16 => ?_)
        · have h16 := g16
          try simp at h16
          refine TC.seq ?_
          refine TC.draw0 [0, 0, 0, 0, 2, 0, 0] [0, 1, 2, 3, 4, 5, 6] TryzI.mixed (by decide +kernel) (by decide) ?_
          refine .q rfl rfl (LD.fieldAddr rfl) rfl rfl ?_
          refine .q rfl rfl (LD.ld1 rfl m0 rfl) rfl rfl ?_
          refine .q rfl rfl (LD.ldA rfl m1 (by repeat constructor) rfl) rfl rfl ?_
          refine .q rfl rfl (LD.ldA rfl m0 (by repeat constructor) rfl) rfl rfl ?_
          refine TD.cp rfl rfl (CL.func rfl) (w_mhome c { m with who := 0, own := 0 } hl hh) (Wants.un rfl) rfl ?_
          rintro _ rfl
          refine .q rfl rfl (LD.eql rfl rfl) rfl rfl ?_
          refine .q rfl rfl (LD.assign rfl) rfl rfl ?_
          refine TD.nilT ?_
          refine TC.ret ?_
          repeat first | refine Post.sr ?_ | refine Post.br ?_
          exact Out.intro (X := [_, _, _]) (L' := []) (Res.t rfl Res.z) ⟨by simp_all [pack, beq_int, dataOk] <;> first | omega | (by_cases hq : m.frm = m.to <;> simp [hq]), rfl⟩ (.refl _)
        · have h16 := g16
          try simp at h16
          refine TC.skipS ?_
          refine TC.seq ?_
          refine TC.region ?_
          refine .q (LD.move rfl) rfl rfl ?_
          refine .q (LD.eql rfl rfl) rfl rfl ?_
          refine .q (LD.move rfl) rfl rfl ?_
          refine TL.split rfl rfl rfl rfl (fun g17 => ?_) (fun g17 => ?_)
          · have h17 := g17
            try simp at h17
            refine .y (LD.fieldAddr rfl) g17 rfl rfl rfl rfl ?_
            refine .y (LD.ld1 rfl m0 rfl) g17 rfl rfl rfl rfl ?_
            refine .y (LD.fieldAddr rfl) g17 rfl rfl rfl rfl ?_
            refine .y (LD.ld1 rfl m1 rfl) g17 rfl rfl rfl rfl ?_
            refine TL.cp (CL.func rfl) (w_within _ _) (Wants.yes rfl rfl rfl g17) rfl ?_
            rintro _ rfl
            refine .q (LD.pickT rfl g17 rfl) rfl rfl ?_
            refine .q (LD.move rfl) rfl rfl ?_
            refine TL.split rfl rfl rfl rfl (fun g18 => ?_) (fun g18 => ?_)
            · have h18 := g18
              try simp at h18
              refine .y (LD.fieldAddr rfl) g18 rfl rfl rfl rfl ?_
              refine .y (LD.ld1 rfl m0 rfl) g18 rfl rfl rfl rfl ?_
              refine .y (LD.fieldAddr rfl) g18 rfl rfl rfl rfl ?_
              refine .y (LD.ld1 rfl m0 rfl) g18 rfl rfl rfl rfl ?_
              refine .y (LD.neq rfl rfl) g18 rfl rfl rfl rfl ?_
              refine .q (LD.pickT rfl g18 rfl) rfl rfl ?_
              refine .q (LD.assign rfl) rfl rfl ?_
              refine TL.nilS ?_
              refine TC.ret ?_
              repeat first | refine Post.sr ?_ | refine Post.br ?_
              exact Out.intro (X := [_, _, _]) (L' := []) (Res.t rfl Res.z) ⟨by simp_all [pack, beq_int, dataOk] <;> first | omega | (by_cases hq : m.frm = m.to <;> simp [hq]), rfl⟩ (.refl _)
            · have h18 := g18
              try simp at h18
              refine .s g18 rfl rfl rfl rfl ?_
              refine .s g18 rfl rfl rfl rfl ?_
              refine .s g18 rfl rfl rfl rfl ?_
              refine .s g18 rfl rfl rfl rfl ?_
              refine .q (LD.pickF rfl g18 rfl) rfl rfl ?_
              refine .q (LD.assign rfl) rfl rfl ?_
              refine TL.nilS ?_
              refine TC.ret ?_
              repeat first | refine Post.sr ?_ | refine Post.br ?_
              exact Out.intro (X := [_, _, _]) (L' := []) (Res.t rfl Res.z) ⟨by simp_all [pack, beq_int, dataOk] <;> first | omega | (by_cases hq : m.frm = m.to <;> simp [hq]), rfl⟩ (.refl _)
          · have h17 := g17
            try simp at h17
            refine .s g17 rfl rfl rfl rfl ?_
            refine .s g17 rfl rfl rfl rfl ?_
            refine .s g17 rfl rfl rfl rfl ?_
            refine .s g17 rfl rfl rfl rfl ?_
            refine .q (LD.pickF rfl g17 rfl) rfl rfl ?_
            refine .q (LD.move rfl) rfl rfl ?_
            refine .s rfl rfl rfl rfl rfl ?_
            refine .s rfl rfl rfl rfl rfl ?_
            refine .s rfl rfl rfl rfl rfl ?_
            refine .s rfl rfl rfl rfl rfl ?_
            refine .s rfl rfl rfl rfl rfl ?_
            refine .q (LD.pickF rfl rfl rfl) rfl rfl ?_
            refine .q (LD.assign rfl) rfl rfl ?_
            refine TL.nilS ?_
            refine TC.ret ?_
            repeat first | refine Post.sr ?_ | refine Post.br ?_
            exact Out.intro (X := [_, _, _]) (L' := []) (Res.t rfl Res.z) ⟨by simp_all [pack, beq_int, dataOk] <;> first | omega | (by_cases hq : m.frm = m.to <;> simp [hq]), rfl⟩ (.refl _)
    · have h14 := g14
      try simp at h14
      refine .s g14 rfl rfl rfl rfl ?_
      refine .s g14 rfl rfl rfl rfl ?_
      refine .s g14 rfl rfl rfl rfl ?_
      refine .s g14 rfl rfl rfl rfl ?_
      refine .s g14 rfl rfl rfl rfl ?_
      refine .q (LD.pickT rfl g14 rfl) rfl rfl ?_
      refine TL.nilS ?_
      refine TC.condT rfl rfl ?_
      refine TC.seq ?_
      refine TC.region ?_
      refine .q (LD.assign rfl) rfl rfl ?_
      refine TL.nilS ?_
      refine TC.ret ?_
      repeat first | refine Post.sr ?_ | refine Post.br ?_
      exact Out.intro (X := [_, _, _]) (L' := []) (Res.t rfl Res.z) ⟨by simp_all [pack, beq_int, dataOk] <;> first | omega | (by_cases hq : m.frm = m.to <;> simp [hq]), rfl⟩ (.refl _)
open Mes in
theorem w_formed (k : Int) : FnP Tryz.prog 153 [i k] (fun v => v = formV k) := by
  refine Fn.body Tryz.func153 rfl rfl rfl (Nat.le_of_ble_eq_true rfl) fun F => ?_
  refine TC.seq ?_
  refine TC.region ?_
  refine .q (LD.assign rfl) rfl rfl ?_
  refine TL.nilS ?_
  refine TC.seq ?_
  refine TC.seq ?_
  refine TC.region ?_
  refine .q (LD.move rfl) rfl rfl ?_
  refine TL.nilS ?_
  refine TC.block ?_
  refine TC.seq ?_
  refine TC.region ?_
  refine .q (LD.eql rfl rfl) rfl rfl ?_
  refine .q (LD.assign rfl) rfl rfl ?_
  refine TL.nilS ?_
  refine TC.cond rfl (fun g1 => ?_) (fun g1 => ?_)
  · have h1 := g1
    try simp at h1
    refine TC.seq ?_
    refine TC.region ?_
    refine .q (LD.bS rfl rfl (by repeat constructor)) rfl rfl ?_
    refine .q (LD.mkI rfl) rfl rfl ?_
    refine .q (LD.assign rfl) rfl rfl ?_
    refine TL.nilS ?_
    refine TC.ret ?_
    repeat first | refine Post.sr ?_ | refine Post.br ?_
    exact Out.intro (X := []) (L' := []) (Res.t rfl Res.z) ⟨by simp_all [pack, beq_int, formV] <;> omega, rfl⟩ (.refl _)
  · have h1 := g1
    try simp at h1
    refine TC.seq ?_
    refine TC.seq ?_
    refine TC.region ?_
    refine .q (LD.eql rfl rfl) rfl rfl ?_
    refine .q (LD.assign rfl) rfl rfl ?_
    refine TL.nilS ?_
    refine TC.cond rfl (fun g2 => ?_) (fun g2 => ?_)
    · have h2 := g2
      try simp at h2
      refine TC.skipS ?_
      refine TC.condT rfl g2 ?_
      refine TC.seq ?_
      refine TC.region ?_
      refine .q (LD.bS rfl rfl (by repeat constructor)) rfl rfl ?_
      refine .q (LD.mkI rfl) rfl rfl ?_
      refine .q (LD.assign rfl) rfl rfl ?_
      refine TL.nilS ?_
      refine TC.ret ?_
      repeat first | refine Post.sr ?_ | refine Post.br ?_
      exact Out.intro (X := []) (L' := []) (Res.t rfl Res.z) ⟨by simp_all [pack, beq_int, formV] <;> omega, rfl⟩ (.refl _)
    · have h2 := g2
      try simp at h2
      refine TC.seq ?_
      refine TC.region ?_
      refine .q (LD.eql rfl rfl) rfl rfl ?_
      refine .q (LD.assign rfl) rfl rfl ?_
      refine TL.nilS ?_
      refine TC.cond rfl (fun g3 => ?_) (fun g3 => ?_)
      · have h3 := g3
        try simp at h3
        refine TC.skipS ?_
        refine TC.condT rfl g3 ?_
        refine TC.seq ?_
        refine TC.region ?_
        refine .q (LD.bS rfl rfl (by repeat constructor)) rfl rfl ?_
        refine .q (LD.mkI rfl) rfl rfl ?_
        refine .q (LD.assign rfl) rfl rfl ?_
        refine TL.nilS ?_
        refine TC.ret ?_
        repeat first | refine Post.sr ?_ | refine Post.br ?_
        exact Out.intro (X := []) (L' := []) (Res.t rfl Res.z) ⟨by simp_all [pack, beq_int, formV] <;> omega, rfl⟩ (.refl _)
      · have h3 := g3
        try simp at h3
        refine TC.region ?_
        refine .q (LD.eql rfl rfl) rfl rfl ?_
        refine .q (LD.assign rfl) rfl rfl ?_
        refine TL.nilS ?_
        refine TC.cond rfl (fun g4 => ?_) (fun g4 => ?_)
        · have h4 := g4
          try simp at h4
          refine TC.seq ?_
          refine TC.region ?_
          refine .q (LD.bS rfl rfl (by repeat constructor)) rfl rfl ?_
          refine .q (LD.mkI rfl) rfl rfl ?_
          refine .q (LD.assign rfl) rfl rfl ?_
          refine TL.nilS ?_
          refine TC.ret ?_
          repeat first | refine Post.sr ?_ | refine Post.br ?_
          exact Out.intro (X := []) (L' := []) (Res.t rfl Res.z) ⟨by simp_all [pack, beq_int, formV] <;> omega, rfl⟩ (.refl _)
        · have h4 := g4
          try simp at h4
          refine TC.seq ?_
          refine TC.seq ?_
          refine TC.region ?_
          refine .q (LD.eql rfl rfl) rfl rfl ?_
          refine .q (LD.assign rfl) rfl rfl ?_
          refine TL.nilS ?_
          refine TC.cond rfl (fun g5 => ?_) (fun g5 => ?_)
          · have h5 := g5
            try simp at h5
            refine TC.skipS ?_
            refine TC.condT rfl g5 ?_
            refine TC.seq ?_
            refine TC.region ?_
            refine .q (LD.bS rfl rfl (by repeat constructor)) rfl rfl ?_
            refine .q (LD.mkI rfl) rfl rfl ?_
            refine .q (LD.assign rfl) rfl rfl ?_
            refine TL.nilS ?_
            refine TC.ret ?_
            repeat first | refine Post.sr ?_ | refine Post.br ?_
            exact Out.intro (X := []) (L' := []) (Res.t rfl Res.z) ⟨by simp_all [pack, beq_int, formV] <;> omega, rfl⟩ (.refl _)
          · have h5 := g5
            try simp at h5
            refine TC.region ?_
            refine .q (LD.eql rfl rfl) rfl rfl ?_
            refine .q (LD.assign rfl) rfl rfl ?_
            refine TL.nilS ?_
            refine TC.cond rfl (fun g6 => ?_) (fun g6 => ?_)
            · have h6 := g6
              try simp at h6
              refine TC.seq ?_
              refine TC.region ?_
              refine .q (LD.bS rfl rfl (by repeat constructor)) rfl rfl ?_
              refine .q (LD.mkI rfl) rfl rfl ?_
              refine .q (LD.assign rfl) rfl rfl ?_
              refine TL.nilS ?_
              refine TC.ret ?_
              repeat first | refine Post.sr ?_ | refine Post.br ?_
              exact Out.intro (X := []) (L' := []) (Res.t rfl Res.z) ⟨by simp_all [pack, beq_int, formV] <;> omega, rfl⟩ (.refl _)
            · have h6 := g6
              try simp at h6
              refine TC.seq ?_
              refine TC.region ?_
              refine .q (LD.eql rfl rfl) rfl rfl ?_
              refine .q (LD.assign rfl) rfl rfl ?_
              refine TL.nilS ?_
              refine TC.cond rfl (fun g7 => ?_) (fun g7 => ?_)
              · have h7 := g7
                try simp at h7
                refine TC.seq ?_
                refine TC.region ?_
                refine .q (LD.bS rfl rfl (by repeat constructor)) rfl rfl ?_
                refine .q (LD.mkI rfl) rfl rfl ?_
                refine .q (LD.assign rfl) rfl rfl ?_
                refine TL.nilS ?_
                refine TC.ret ?_
                repeat first | refine Post.sr ?_ | refine Post.br ?_
                exact Out.intro (X := []) (L' := []) (Res.t rfl Res.z) ⟨by simp_all [pack, beq_int, formV] <;> omega, rfl⟩ (.refl _)
              · have h7 := g7
                try simp at h7
                refine TC.seq ?_
                refine TC.region ?_
                refine .q (LD.eql rfl rfl) rfl rfl ?_
                refine .q (LD.assign rfl) rfl rfl ?_
                refine TL.nilS ?_
                refine TC.cond rfl (fun g8 => ?_) (fun g8 => ?_)
                · have h8 := g8
                  try simp at h8
                  refine TC.seq ?_
                  refine TC.region ?_
                  refine .q (LD.bS rfl rfl (by repeat constructor)) rfl rfl ?_
                  refine .q (LD.mkI rfl) rfl rfl ?_
                  refine .q (LD.assign rfl) rfl rfl ?_
                  refine TL.nilS ?_
                  refine TC.ret ?_
                  repeat first | refine Post.sr ?_ | refine Post.br ?_
                  exact Out.intro (X := []) (L' := []) (Res.t rfl Res.z) ⟨by simp_all [pack, beq_int, formV] <;> omega, rfl⟩ (.refl _)
                · have h8 := g8
                  try simp at h8
                  refine TC.seq ?_
                  refine TC.region ?_
                  refine .q (LD.eql rfl rfl) rfl rfl ?_
                  refine .q (LD.assign rfl) rfl rfl ?_
                  refine TL.nilS ?_
                  refine TC.cond rfl (fun g9 => ?_) (fun g9 => ?_)
                  · have h9 := g9
                    try simp at h9
                    refine TC.seq ?_
                    refine TC.region ?_
                    refine .q (LD.bS rfl rfl (by repeat constructor)) rfl rfl ?_
                    refine .q (LD.mkI rfl) rfl rfl ?_
                    refine .q (LD.assign rfl) rfl rfl ?_
                    refine TL.nilS ?_
                    refine TC.ret ?_
                    repeat first | refine Post.sr ?_ | refine Post.br ?_
                    exact Out.intro (X := []) (L' := []) (Res.t rfl Res.z) ⟨by simp_all [pack, beq_int, formV] <;> omega, rfl⟩ (.refl _)
                  · have h9 := g9
                    try simp at h9
                    refine TC.seq ?_
                    refine TC.region ?_
                    refine .q (LD.eql rfl rfl) rfl rfl ?_
                    refine .q (LD.assign rfl) rfl rfl ?_
                    refine TL.nilS ?_
                    refine TC.cond rfl (fun g10 => ?_) (fun g10 => ?_)
                    · have h10 := g10
                      try simp at h10
                      refine TC.seq ?_
                      refine TC.region ?_
                      refine .q (LD.bS rfl rfl (by repeat constructor)) rfl rfl ?_
                      refine .q (LD.mkI rfl) rfl rfl ?_
                      refine .q (LD.assign rfl) rfl rfl ?_
                      refine TL.nilS ?_
                      refine TC.ret ?_
                      repeat first | refine Post.sr ?_ | refine Post.br ?_
                      exact Out.intro (X := []) (L' := []) (Res.t rfl Res.z) ⟨by simp_all [pack, beq_int, formV] <;> omega, rfl⟩ (.refl _)
                    · have h10 := g10
                      try simp at h10
                      refine TC.skip ?_
                      refine TC.seq ?_
                      refine TC.region ?_
                      refine .q (LD.bS rfl rfl (by repeat constructor)) rfl rfl ?_
                      refine .q (LD.mkI rfl) rfl rfl ?_
                      refine .q (LD.assign rfl) rfl rfl ?_
                      refine TL.nilS ?_
                      refine TC.ret ?_
                      repeat first | refine Post.sr ?_ | refine Post.br ?_
                      exact Out.intro (X := []) (L' := []) (Res.t rfl Res.z) ⟨by simp_all [pack, beq_int, formV] <;> omega, rfl⟩ (.refl _)

open Mes in
theorem valuesOk_all {c : Cfg} {w : Words} (h : ∀ k, k < 8 → wordOk c k (w.get k) = true) : valuesOk c w = true := by
  simp only [valuesOk, List.all_eq_true, List.mem_range]; exact h
open Mes in
theorem valuesOk_not {c : Cfg} {w : Words} {k : Nat} (hk : k < 8) (h : wordOk c k (w.get k) = false) : valuesOk c w = false := by
  cases hv : valuesOk c w with
  | false => rfl
  | true =>
    simp only [valuesOk, List.all_eq_true, List.mem_range] at hv
    rw [hv k hk] at h; cases h

open Mes in
theorem w_values (c : Cfg) (m : Msg) : FnP Tryz.prog 267 [.agg (encC c), .agg (encMsg m).toArray] (fun v => v = .bool (valuesOk c m.words)) := by
  refine Fn.body Tryz.func267 rfl rfl rfl (Nat.le_of_ble_eq_true rfl) fun F => ?_
  refine TC.seq ?_
  refine TC.region ?_
  refine TL.nb (NB.boxA rfl) (Wants.un rfl) rfl (fun b2 => ?_)
  refine TL.nb (NB.boxA rfl) (Wants.un rfl) rfl (fun b3 => ?_)
  refine .q (LD.assign rfl) rfl rfl ?_
  refine TL.nilS ?_
  refine TC.seq ?_
  refine TC.seq ?_
  refine TC.region ?_
  refine .q (LD.fieldAddr rfl) rfl rfl ?_
  refine .q (LD.ldA rfl m0 (by repeat constructor) rfl) rfl rfl ?_
  refine .q (LD.move rfl) rfl rfl ?_
  refine TL.nilS ?_
  refine TC.block ?_
  refine TC.loopd (α := Nat) (fun k => [(2, .pointer (some ⟨b2, 0, none⟩)), (8, .agg (encW m.words).toArray), (9, i (k : Int))]) (fun _ => _) (fun k => k ≤ 8 ∧ ∀ j, j < k → wordOk c j (m.words.get j) = true) (fun k => 8 - k) 0 ⟨by omega, fun _ h => absurd h (Nat.not_lt_zero _)⟩ ⟨rfl, rfl, rfl, trivial⟩ ⟨[], .refl _⟩ (fun k hk => ?_)
  refine TC.seq ?_
  refine TC.region ?_
  refine .q (LD.lss rfl rfl) rfl rfl ?_
  refine TL.nilS ?_
  refine TC.seq ?_
  refine TC.cond rfl (fun g1 => ?_) (fun g1 => ?_)
  · have h1 := g1
    try simp at h1
    refine TC.skipS ?_
    refine TC.seq ?_
    refine TC.block ?_
    refine TC.seq ?_
    refine TC.region ?_
    refine .q (LD.move rfl) rfl rfl ?_
    refine .q (LD.idx1 rfl rfl (by omega) (encW_get _ (by omega))) rfl rfl ?_
    refine .q (LD.assign rfl) rfl rfl ?_
    refine .q (LD.assign rfl) rfl rfl ?_
    refine TL.nilS ?_
    refine TC.seq ?_
    refine TC.region ?_
    refine .q (LD.move rfl) rfl rfl ?_
    refine .q (LD.lss rfl rfl) rfl rfl ?_
    refine .q (LD.move rfl) rfl rfl ?_
    refine TL.split rfl rfl rfl rfl (fun g2 => ?_) (fun g2 => ?_)
    · have h2 := g2
      try simp at h2
      refine .y (LD.move rfl) g2 rfl rfl rfl rfl ?_
      refine .y (LD.gtr rfl rfl) g2 rfl rfl rfl rfl ?_
      refine .q (LD.pickF rfl g2 rfl) rfl rfl ?_
      refine .q (LD.move rfl) rfl rfl ?_
      refine TL.split rfl rfl rfl rfl (fun g3 => ?_) (fun g3 => ?_)
      · have h3 := g3
        try simp at h3
        refine .y (LD.move rfl) g3 rfl rfl rfl rfl ?_
        refine .y (LD.fieldAddr rfl) g3 rfl rfl rfl rfl ?_
        refine .y (LD.ld1 rfl m1 rfl) g3 rfl rfl rfl rfl ?_
        refine .y (LD.geq rfl rfl) g3 rfl rfl rfl rfl ?_
        refine .y (LD.move rfl) g3 rfl rfl rfl rfl ?_
        refine TL.split rfl rfl rfl rfl (fun g4 => ?_) (fun g4 => ?_)
        · have h4 := g4
          try simp at h4
          refine .y (LD.move rfl) g4 rfl rfl rfl rfl ?_
          refine .y (LD.neq rfl rfl) g4 rfl rfl rfl rfl ?_
          refine .y (LD.pickT rfl g4 rfl) g3 rfl rfl rfl rfl ?_
          refine .q (LD.pickF rfl g3 rfl) rfl rfl ?_
          refine TL.nilS ?_
          refine TC.cond rfl (fun g5 => ?_) (fun g5 => ?_)
          · have h5 := g5
            try simp at h5
            refine TC.seq ?_
            refine TC.region ?_
            refine .q (LD.assign rfl) rfl rfl ?_
            refine TL.nilS ?_
            refine TC.ret ?_
            repeat first | refine Post.sr ?_ | refine Post.br ?_
            first
            | exact Out.intro (X := [_, _]) (L' := []) (Res.t rfl Res.z) ⟨by rw [valuesOk_not (k := k) (by omega) (by simp [wordOk, inC] <;> omega)]; rfl, rfl⟩ (.refl _)
            | exact Out.intro (X := [_, _]) (L' := []) (Res.t rfl Res.z) ⟨by rw [valuesOk_all (fun j hj => hk.2 j (by omega))]; rfl, rfl⟩ (.refl _)
          · have h5 := g5
            try simp at h5
            refine TC.skip ?_
            have hok : ∀ j, j < k + 1 → wordOk c j (m.words.get j) = true := fun j hj => by
              rcases Nat.lt_or_ge j k with h | h
              · exact hk.2 j h
              · have : j = k := by omega
                subst this; simp [wordOk, inC] <;> omega
            refine TC.region ?_
            refine .q (LD.add rfl rfl (by omega)) rfl rfl ?_
            refine .q (LD.move rfl) rfl rfl ?_
            refine TL.nil ?_
            exact ⟨k + 1, ⟨by omega, hok⟩, by omega, ⟨rfl, rfl, rfl, trivial⟩, [], .refl _⟩
        · have h4 := g4
          try simp at h4
          refine .s g4 rfl rfl rfl rfl ?_
          refine .y (LD.pickF rfl g4 rfl) g3 rfl rfl rfl rfl ?_
          refine .q (LD.pickF rfl g3 rfl) rfl rfl ?_
          refine TL.nilS ?_
          refine TC.condF rfl rfl ?_
          refine TC.skip ?_
          have hok : ∀ j, j < k + 1 → wordOk c j (m.words.get j) = true := fun j hj => by
            rcases Nat.lt_or_ge j k with h | h
            · exact hk.2 j h
            · have : j = k := by omega
              subst this; simp [wordOk, inC] <;> omega
          refine TC.region ?_
          refine .q (LD.add rfl rfl (by omega)) rfl rfl ?_
          refine .q (LD.move rfl) rfl rfl ?_
          refine TL.nil ?_
          exact ⟨k + 1, ⟨by omega, hok⟩, by omega, ⟨rfl, rfl, rfl, trivial⟩, [], .refl _⟩
      · have h3 := g3
        try simp at h3
        refine .s g3 rfl rfl rfl rfl ?_
        refine .s g3 rfl rfl rfl rfl ?_
        refine .s g3 rfl rfl rfl rfl ?_
        refine .s g3 rfl rfl rfl rfl ?_
        refine .un rfl rfl rfl rfl ?_
        refine .un rfl rfl rfl rfl ?_
        refine .s g3 rfl rfl rfl rfl ?_
        refine .q (LD.pickT rfl g3 rfl) rfl rfl ?_
        refine TL.nilS ?_
        refine TC.condT rfl rfl ?_
        refine TC.seq ?_
        refine TC.region ?_
        refine .q (LD.assign rfl) rfl rfl ?_
        refine TL.nilS ?_
        refine TC.ret ?_
        repeat first | refine Post.sr ?_ | refine Post.br ?_
        first
        | exact Out.intro (X := [_, _]) (L' := []) (Res.t rfl Res.z) ⟨by rw [valuesOk_not (k := k) (by omega) (by simp [wordOk, inC] <;> omega)]; rfl, rfl⟩ (.refl _)
        | exact Out.intro (X := [_, _]) (L' := []) (Res.t rfl Res.z) ⟨by rw [valuesOk_all (fun j hj => hk.2 j (by omega))]; rfl, rfl⟩ (.refl _)
    · have h2 := g2
      try simp at h2
      refine .s g2 rfl rfl rfl rfl ?_
      refine .q (LD.pickT rfl g2 rfl) rfl rfl ?_
      refine .q (LD.move rfl) rfl rfl ?_
      refine .s rfl rfl rfl rfl rfl ?_
      refine .s rfl rfl rfl rfl rfl ?_
      refine .s rfl rfl rfl rfl rfl ?_
      refine .s rfl rfl rfl rfl rfl ?_
      refine .s rfl rfl rfl rfl rfl ?_
      refine .un rfl rfl rfl rfl ?_
      refine .un rfl rfl rfl rfl ?_
      refine .s rfl rfl rfl rfl rfl ?_
      refine .q (LD.pickT rfl rfl rfl) rfl rfl ?_
      refine TL.nilS ?_
      refine TC.condT rfl rfl ?_
      refine TC.seq ?_
      refine TC.region ?_
      refine .q (LD.assign rfl) rfl rfl ?_
      refine TL.nilS ?_
      refine TC.ret ?_
      repeat first | refine Post.sr ?_ | refine Post.br ?_
      first
      | exact Out.intro (X := [_, _]) (L' := []) (Res.t rfl Res.z) ⟨by rw [valuesOk_not (k := k) (by omega) (by simp [wordOk, inC] <;> omega)]; rfl, rfl⟩ (.refl _)
      | exact Out.intro (X := [_, _]) (L' := []) (Res.t rfl Res.z) ⟨by rw [valuesOk_all (fun j hj => hk.2 j (by omega))]; rfl, rfl⟩ (.refl _)
  · have h1 := g1
    try simp at h1
    refine TC.exit ?_
    refine TC.seq ?_
    refine TC.region ?_
    refine .q (LD.assign rfl) rfl rfl ?_
    refine TL.nilS ?_
    refine TC.ret ?_
    repeat first | refine Post.sr ?_ | refine Post.br ?_
    first
    | exact Out.intro (X := [_, _]) (L' := []) (Res.t rfl Res.z) ⟨by rw [valuesOk_not (k := k) (by omega) (by simp [wordOk, inC] <;> omega)]; rfl, rfl⟩ (.refl _)
    | exact Out.intro (X := [_, _]) (L' := []) (Res.t rfl Res.z) ⟨by rw [valuesOk_all (fun j hj => hk.2 j (by omega))]; rfl, rfl⟩ (.refl _)
open Mes in
theorem w_putWords (c : Cfg) (m : Msg) : FnP Tryz.prog 266 [.agg #[], .agg (encC c), .agg (encMsg m).toArray] (fun v => v = .bool (valuesOk c m.words)) := by
  refine Fn.body Tryz.func266 rfl rfl rfl (Nat.le_of_ble_eq_true rfl) fun F => ?_
  refine TC.seq ?_
  refine TC.region ?_
  refine TL.nb (NB.boxA rfl) (Wants.un rfl) rfl (fun b3 => ?_)
  refine TL.nb (NB.boxA rfl) (Wants.un rfl) rfl (fun b4 => ?_)
  refine TL.nb (NB.boxA rfl) (Wants.un rfl) rfl (fun b5 => ?_)
  refine .q (LD.assign rfl) rfl rfl ?_
  refine TL.nilS ?_
  refine TC.seq ?_
  refine TC.region ?_
  refine .q (LD.ldA rfl m1 (by repeat constructor) rfl) rfl rfl ?_
  refine .q (LD.ldA rfl m0 (by repeat constructor) rfl) rfl rfl ?_
  refine TL.cp (CL.func rfl) (w_values c m) (Wants.un rfl) rfl ?_
  rintro _ rfl
  refine .q (LD.assign rfl) rfl rfl ?_
  refine TL.nilS ?_
  refine TC.ret ?_
  repeat first | refine Post.sr ?_ | refine Post.br ?_
  exact Out.intro (X := [_, _, _]) (L' := []) (Res.t rfl Res.z) ⟨by simp_all [pack, beq_int] <;> omega, rfl⟩ (.refl _)
open Mes in
theorem w_dataWords (c : Cfg) (m : Msg) : FnP Tryz.prog 271 [.agg #[], .agg (encC c), .agg (encMsg m).toArray] (fun v => v = .bool (valuesOk c m.words)) := by
  refine Fn.body Tryz.func271 rfl rfl rfl (Nat.le_of_ble_eq_true rfl) fun F => ?_
  refine TC.seq ?_
  refine TC.region ?_
  refine TL.nb (NB.boxA rfl) (Wants.un rfl) rfl (fun b3 => ?_)
  refine TL.nb (NB.boxA rfl) (Wants.un rfl) rfl (fun b4 => ?_)
  refine TL.nb (NB.boxA rfl) (Wants.un rfl) rfl (fun b5 => ?_)
  refine .q (LD.assign rfl) rfl rfl ?_
  refine TL.nilS ?_
  refine TC.seq ?_
  refine TC.region ?_
  refine .q (LD.ldA rfl m1 (by repeat constructor) rfl) rfl rfl ?_
  refine .q (LD.ldA rfl m0 (by repeat constructor) rfl) rfl rfl ?_
  refine TL.cp (CL.func rfl) (w_values c m) (Wants.un rfl) rfl ?_
  rintro _ rfl
  refine .q (LD.assign rfl) rfl rfl ?_
  refine TL.nilS ?_
  refine TC.ret ?_
  repeat first | refine Post.sr ?_ | refine Post.br ?_
  exact Out.intro (X := [_, _, _]) (L' := []) (Res.t rfl Res.z) ⟨by simp_all [pack, beq_int] <;> omega, rfl⟩ (.refl _)
theorem form_cases (k : Int) : (k = 3 ∧ formV k = .iface 296 (.agg #[])) ∨ ((k = 1 ∨ k = 2 ∨ k = 11) ∧ formV k = .iface 294 (.agg #[])) ∨ ((k = 4 ∨ k = 6) ∧ formV k = .iface 298 (.agg #[.bool false])) ∨ (k = 5 ∧ formV k = .iface 298 (.agg #[.bool true])) ∨ (k = 7 ∧ formV k = .iface 299 (.agg #[])) ∨ (k = 8 ∧ formV k = .iface 300 (.agg #[.bool true])) ∨ (k = 10 ∧ formV k = .iface 300 (.agg #[.bool false])) ∨ ((k ≠ 3 ∧ k ≠ 1 ∧ k ≠ 2 ∧ k ≠ 11 ∧ k ≠ 4 ∧ k ≠ 6 ∧ k ≠ 5 ∧ k ≠ 7 ∧ k ≠ 8 ∧ k ≠ 10) ∧ formV k = .iface 301 (.agg #[])) := by
  by_cases h3 : k = 3
  · subst h3; simp [formV]
  by_cases h1 : k = 1 ∨ k = 2 ∨ k = 11
  · exact .inr (.inl ⟨h1, by unfold formV; rw [if_neg h3, if_pos h1]⟩)
  by_cases h4 : k = 4 ∨ k = 6
  · exact .inr (.inr (.inl ⟨h4, by unfold formV; rw [if_neg h3, if_neg h1, if_pos h4]⟩))
  by_cases h5 : k = 5
  · subst h5; simp [formV]
  by_cases h7 : k = 7
  · subst h7; simp [formV]
  by_cases h8 : k = 8
  · subst h8; simp [formV]
  by_cases h10 : k = 10
  · subst h10; simp [formV]
  · exact .inr (.inr (.inr (.inr (.inr (.inr (.inr ⟨by omega, by unfold formV; rw [if_neg h3, if_neg h1, if_neg h4, if_neg h5, if_neg h7, if_neg h8, if_neg h10]⟩))))))
open Mes in
theorem LD.eqWd {P : Program} [EqA P 36 2 (List.replicate 8 true)] {ρ : Regs} {L : List Frag} {d : Option Tmp} {t : TypeId} {p : String} {af : Array Edge} {g : Option (Nat × Bool)} {x y : Operand} {ty : TypeId} (w v : Words) (hx : rev ρ x = some (.agg (encW w).toArray)) (hy : rev ρ y = some (.agg (encW v).toArray)) (hg : P.eqGuardType P.depth 36 = false) :
    LD P ρ L ⟨d, .binOp .eql 36 x y ty, t, p, af, g⟩ (.bool (decide (w = v))) := by
  have := LD.eqS (P := P) (L := L) (d := d) (t := t) (p := p) (af := af) (g := g) (ty := ty) (tx := 36) hx hy hg rfl (encW_shp w) (encW_shp v)
  rw [ceq_words] at this; exact this

section
open Mes
variable {c : Cfg} {m : Msg} (hok : c.ok = true) (hll : inR m.line c.lines = true) (hn : ¬ netOf m.kind = -1)
include hok hll hn
theorem may_form : m.may c = m.form c := by
  have h : (netOf m.kind != -1) = true := by simpa using hn
  simp only [Msg.may, hok, h, hll, Bool.true_and]
theorem may_put (hk : m.kind = 3) : m.may c = (upOk c m && valuesOk c m.words) := by
  rw [may_form hok hll hn]; unfold Msg.form; rw [if_pos hk]; rfl
theorem may_up (hk : m.kind = 1 ∨ m.kind = 2 ∨ m.kind = 11) : m.may c = (upOk c m && decide (m.words = Words.zero)) := by
  rw [may_form hok hll hn]; unfold Msg.form; rw [if_neg (by omega), if_pos hk]; rfl
theorem may_fwd (hk : m.kind = 4 ∨ m.kind = 6) : m.may c = (fwdOk c m false && decide (m.words = Words.zero)) := by
  rw [may_form hok hll hn]; unfold Msg.form; rw [if_neg (by omega), if_neg (by omega), if_pos hk]
  simp only [fwdOk, downOk, plainMsg, beq_self_eq_true, Bool.true_and, Bool.false_eq_true, if_false, Bool.and_assoc]; rfl
theorem may_fwdM (hk : m.kind = 5) : m.may c = (fwdOk c m true && decide (m.words = Words.zero)) := by
  rw [may_form hok hll hn]; unfold Msg.form; rw [if_neg (by omega), if_neg (by omega), if_neg (by omega), if_pos hk]
  simp only [fwdOk, downOk, plainMsg, beq_self_eq_true, Bool.true_and, if_true, Bool.and_assoc]; rfl
theorem may_data (hk : m.kind = 7) : m.may c = (dataOk c m && valuesOk c m.words) := by
  rw [may_form hok hll hn]; unfold Msg.form; rw [if_neg (by omega), if_neg (by omega), if_neg (by omega), if_neg (by omega), if_pos hk]
  simp only [dataOk, plainMsg, beq_self_eq_true, Bool.true_and, Bool.and_assoc]
theorem may_grant (hk : m.kind = 8) : m.may c = (downOk c m true && decide (m.words = Words.zero)) := by
  rw [may_form hok hll hn]; unfold Msg.form; rw [if_neg (by omega), if_neg (by omega), if_neg (by omega), if_neg (by omega), if_neg (by omega), if_pos hk]
  simp only [downOk, if_true]; rfl
theorem may_putAck (hk : m.kind = 10) : m.may c = (downOk c m false && decide (m.words = Words.zero)) := by
  rw [may_form hok hll hn]; unfold Msg.form; rw [if_neg (by omega), if_neg (by omega), if_neg (by omega), if_neg (by omega), if_neg (by omega), if_neg (by omega), if_pos hk]
  simp only [downOk, Bool.false_eq_true, if_false]; rfl
theorem may_ack (hk : m.kind ≠ 3 ∧ m.kind ≠ 1 ∧ m.kind ≠ 2 ∧ m.kind ≠ 11 ∧ m.kind ≠ 4 ∧ m.kind ≠ 6 ∧ m.kind ≠ 5 ∧ m.kind ≠ 7 ∧ m.kind ≠ 8 ∧ m.kind ≠ 10) : m.may c = (acrossOk c m && decide (m.words = Words.zero)) := by
  rw [may_form hok hll hn]; unfold Msg.form; rw [if_neg (by omega), if_neg (by omega), if_neg (by omega), if_neg (by omega), if_neg (by omega), if_neg (by omega), if_neg (by omega)]; rfl
end

open Mes in
theorem w_mMay (c : Cfg) (hc : CfgR c) (m : Msg) : FnP Tryz.prog 73 [.agg (encC c), .agg (encMsg m).toArray] (fun v => v = .bool (m.may c)) := by
  refine Fn.body Tryz.func73 rfl rfl rfl (Nat.le_of_ble_eq_true rfl) fun F => ?_
  refine TC.seq ?_
  refine TC.region ?_
  refine TL.nb (NB.boxA rfl) (Wants.un rfl) rfl (fun b2 => ?_)
  refine TL.nb (NB.boxA rfl) (Wants.un rfl) rfl (fun b3 => ?_)
  refine .q (LD.assign rfl) rfl rfl ?_
  refine TL.nilS ?_
  refine TC.seq ?_
  refine TC.seq ?_
  refine TC.region ?_
  refine .q (LD.ldA rfl m1 (by repeat constructor) rfl) rfl rfl ?_
  refine TL.cp (CL.func rfl) (w_Check c hc) (Wants.un rfl) rfl ?_
  rintro _ rfl
  refine .q (LD.neq rfl rfl) rfl rfl ?_
  refine .q (LD.move rfl) rfl rfl ?_
  refine TL.split rfl rfl rfl rfl (fun g1 => ?_) (fun g1 => ?_)
  · have h1 := g1
    try simp at h1
    refine .y (LD.fieldAddr rfl) g1 rfl rfl rfl rfl ?_
    refine .y (LD.ld1 rfl m0 rfl) g1 rfl rfl rfl rfl ?_
    refine TL.cp (CL.func rfl) (w_Net _) (Wants.yes rfl rfl rfl g1) rfl ?_
    rintro _ rfl
    refine .y (LD.eql rfl rfl) g1 rfl rfl rfl rfl ?_
    refine .q (LD.pickF rfl g1 rfl) rfl rfl ?_
    refine .q (LD.move rfl) rfl rfl ?_
    refine TL.split rfl rfl rfl rfl (fun g2 => ?_) (fun g2 => ?_)
    · have h2 := g2
      try simp at h2
      refine .y (LD.fieldAddr rfl) g2 rfl rfl rfl rfl ?_
      refine .y (LD.ld1 rfl m0 rfl) g2 rfl rfl rfl rfl ?_
      refine .y (LD.fieldAddr rfl) g2 rfl rfl rfl rfl ?_
      refine .y (LD.ld1 rfl m1 rfl) g2 rfl rfl rfl rfl ?_
      refine TL.cp (CL.func rfl) (w_within _ _) (Wants.yes rfl rfl rfl g2) rfl ?_
      rintro _ rfl
      refine .y (LD.not rfl) g2 rfl rfl rfl rfl ?_
      refine .q (LD.pickF rfl g2 rfl) rfl rfl ?_
      refine TL.nilS ?_
      refine TC.cond rfl (fun g3 => ?_) (fun g3 => ?_)
      · have h3 := g3
        try simp at h3
        refine TC.seq ?_
        refine TC.region ?_
        refine .q (LD.assign rfl) rfl rfl ?_
        refine TL.nilS ?_
        refine TC.ret ?_
        repeat first | refine Post.sr ?_ | refine Post.br ?_
        exact Out.intro (X := [_, _]) (L' := []) (Res.t rfl Res.z) ⟨by simp_all [pack, Msg.may, errOf], rfl⟩ (.refl _)
      · have h3 := g3
        try simp at h3
        refine TC.skipS ?_
        refine TC.seq ?_
        have hok : c.ok = true := by cases hq : c.ok <;> simp_all [errOf]
        have hll : inR m.line c.lines = true := by simp_all
        have hl : 0 ≤ m.line := by simp only [inR, Bool.and_eq_true, decide_eq_true_eq] at hll; exact hll.1
        have hh : 0 < c.homes := by obtain ⟨k, hk, e, _⟩ := (okS hok).homes; have := pow_pos k; omega
        refine TC.region ?_
        refine .q (LD.fieldAddr rfl) rfl rfl ?_
        refine .q (LD.ld1 rfl m0 rfl) rfl rfl ?_
        refine TL.cp (CL.func rfl) (w_formed _) (Wants.un rfl) rfl ?_
        rintro _ rfl
        refine .q (LD.assign rfl) rfl rfl ?_
        refine TL.nilS ?_
        refine TC.seq ?_
        refine TC.seq ?_
        rcases form_cases m.kind with ⟨hkd, hfv⟩ | ⟨hkd, hfv⟩ | ⟨hkd, hfv⟩ | ⟨hkd, hfv⟩ | ⟨hkd, hfv⟩ | ⟨hkd, hfv⟩ | ⟨hkd, hfv⟩ | ⟨hkd, hfv⟩ <;> rw [hfv]
        · skip
          refine TC.region ?_
          refine .q (LD.move rfl) rfl rfl ?_
          refine .q (LD.tassert rfl (as_put)) rfl rfl ?_
          refine .q (LD.move rfl) rfl rfl ?_
          refine .q (LD.ex rfl rfl) rfl rfl ?_
          refine .q (LD.ex rfl rfl) rfl rfl ?_
          refine .q (LD.assign rfl) rfl rfl ?_
          refine .q (LD.assign rfl) rfl rfl ?_
          refine TL.nilS ?_
          refine TC.seq ?_
          refine TC.region ?_
          refine .q (LD.move rfl) rfl rfl ?_
          refine TL.nilS ?_
          refine TC.condT rfl rfl ?_
          refine TC.seq ?_
          refine TC.region ?_
          refine .q (LD.move rfl) rfl rfl ?_
          refine .q (LD.ldA rfl m1 (by repeat constructor) rfl) rfl rfl ?_
          refine .q (LD.ldA rfl m0 (by repeat constructor) rfl) rfl rfl ?_
          refine TL.cp (CL.inv rfl rfl) (w_upFits c m hl hh) (Wants.un rfl) rfl ?_
          rintro _ rfl
          refine .q (LD.move rfl) rfl rfl ?_
          refine TL.split rfl rfl rfl rfl (fun g4 => ?_) (fun g4 => ?_)
          · have h4 := g4
            try simp at h4
            refine .y (LD.move rfl) g4 rfl rfl rfl rfl ?_
            refine .y (LD.ldA rfl m1 (by repeat constructor) rfl) g4 rfl rfl rfl rfl ?_
            refine .y (LD.ldA rfl m0 (by repeat constructor) rfl) g4 rfl rfl rfl rfl ?_
            refine TL.cp (CL.inv rfl rfl) (w_putWords c m) (Wants.yes rfl rfl rfl g4) rfl ?_
            rintro _ rfl
            refine .q (LD.pickT rfl g4 rfl) rfl rfl ?_
            refine .q (LD.assign rfl) rfl rfl ?_
            refine TL.nilS ?_
            refine TC.ret ?_
            repeat first | refine Post.sr ?_ | refine Post.br ?_
            exact Out.intro (X := [_, _]) (L' := []) (Res.t rfl Res.z) ⟨by rw [may_put hok hll (by simp_all) hkd]; simp_all [pack], rfl⟩ (.refl _)
          · have h4 := g4
            try simp at h4
            refine .s g4 rfl rfl rfl rfl ?_
            refine .s g4 rfl rfl rfl rfl ?_
            refine .s g4 rfl rfl rfl rfl ?_
            refine .q (LD.pickF rfl g4 rfl) rfl rfl ?_
            refine .q (LD.assign rfl) rfl rfl ?_
            refine TL.nilS ?_
            refine TC.ret ?_
            repeat first | refine Post.sr ?_ | refine Post.br ?_
            exact Out.intro (X := [_, _]) (L' := []) (Res.t rfl Res.z) ⟨by rw [may_put hok hll (by simp_all) hkd]; simp_all [pack], rfl⟩ (.refl _)
        · skip
          refine TC.region ?_
          refine .q (LD.move rfl) rfl rfl ?_
          refine .q (LD.tassert rfl (as_up)) rfl rfl ?_
          refine .q (LD.move rfl) rfl rfl ?_
          refine .q (LD.ex rfl rfl) rfl rfl ?_
          refine .q (LD.ex rfl rfl) rfl rfl ?_
          refine .q (LD.assign rfl) rfl rfl ?_
          refine .q (LD.assign rfl) rfl rfl ?_
          refine TL.nilS ?_
          refine TC.seq ?_
          refine TC.region ?_
          refine .q (LD.move rfl) rfl rfl ?_
          refine TL.nilS ?_
          refine TC.condF rfl rfl ?_
          refine TC.skipS ?_
          refine TC.seq ?_
          refine TC.region ?_
          refine .q (LD.move rfl) rfl rfl ?_
          refine .q (LD.ldA rfl m1 (by repeat constructor) rfl) rfl rfl ?_
          refine .q (LD.ldA rfl m0 (by repeat constructor) rfl) rfl rfl ?_
          refine TL.cp (CL.inv rfl rfl) (w_upFits c m hl hh) (Wants.un rfl) rfl ?_
          rintro _ rfl
          refine .q (LD.move rfl) rfl rfl ?_
          refine TL.split rfl rfl rfl rfl (fun g5 => ?_) (fun g5 => ?_)
          · have h5 := g5
            try simp at h5
            refine .y (LD.fieldAddr rfl) g5 rfl rfl rfl rfl ?_
            refine .y (LD.ldA rfl m0 (by repeat constructor) rfl) g5 rfl rfl rfl rfl ?_
            refine .y (LD.bA rfl rfl (by repeat constructor)) g5 rfl rfl rfl rfl ?_
            refine .y (LD.eqWd m.words Mes.Words.zero rfl rfl Tryz.eqGuardType36) g5 rfl rfl rfl rfl ?_
            refine .q (LD.pickT rfl g5 rfl) rfl rfl ?_
            refine .q (LD.assign rfl) rfl rfl ?_
            refine TL.nilS ?_
            refine TC.ret ?_
            repeat first | refine Post.sr ?_ | refine Post.br ?_
            exact Out.intro (X := [_, _]) (L' := []) (Res.t rfl Res.z) ⟨by rw [may_up hok hll (by simp_all) hkd]; simp_all [pack], rfl⟩ (.refl _)
          · have h5 := g5
            try simp at h5
            refine .s g5 rfl rfl rfl rfl ?_
            refine .s g5 rfl rfl rfl rfl ?_
            refine .s g5 rfl rfl rfl rfl ?_
            refine .q (LD.pickF rfl g5 rfl) rfl rfl ?_
            refine .q (LD.assign rfl) rfl rfl ?_
            refine TL.nilS ?_
            refine TC.ret ?_
            repeat first | refine Post.sr ?_ | refine Post.br ?_
            exact Out.intro (X := [_, _]) (L' := []) (Res.t rfl Res.z) ⟨by rw [may_up hok hll (by simp_all) hkd]; simp_all [pack], rfl⟩ (.refl _)
        · skip
          refine TC.region ?_
          refine .q (LD.move rfl) rfl rfl ?_
          refine .q (LD.tassert rfl (as_forward _)) rfl rfl ?_
          refine .q (LD.move rfl) rfl rfl ?_
          refine .q (LD.ex rfl rfl) rfl rfl ?_
          refine .q (LD.ex rfl rfl) rfl rfl ?_
          refine .q (LD.assign rfl) rfl rfl ?_
          refine .q (LD.assign rfl) rfl rfl ?_
          refine TL.nilS ?_
          refine TC.seq ?_
          refine TC.region ?_
          refine .q (LD.move rfl) rfl rfl ?_
          refine TL.nilS ?_
          refine TC.condF rfl rfl ?_
          refine TC.skipS ?_
          refine TC.seq ?_
          refine TC.region ?_
          refine .q (LD.move rfl) rfl rfl ?_
          refine .q (LD.ldA rfl m1 (by repeat constructor) rfl) rfl rfl ?_
          refine .q (LD.ldA rfl m0 (by repeat constructor) rfl) rfl rfl ?_
          refine TL.cp (CL.inv rfl rfl) (w_fwdFits c m hl hh _) (Wants.un rfl) rfl ?_
          rintro _ rfl
          refine .q (LD.move rfl) rfl rfl ?_
          refine TL.split rfl rfl rfl rfl (fun g6 => ?_) (fun g6 => ?_)
          · have h6 := g6
            try simp at h6
            refine .y (LD.fieldAddr rfl) g6 rfl rfl rfl rfl ?_
            refine .y (LD.ldA rfl m0 (by repeat constructor) rfl) g6 rfl rfl rfl rfl ?_
            refine .y (LD.bA rfl rfl (by repeat constructor)) g6 rfl rfl rfl rfl ?_
            refine .y (LD.eqWd m.words Mes.Words.zero rfl rfl Tryz.eqGuardType36) g6 rfl rfl rfl rfl ?_
            refine .q (LD.pickT rfl g6 rfl) rfl rfl ?_
            refine .q (LD.assign rfl) rfl rfl ?_
            refine TL.nilS ?_
            refine TC.ret ?_
            repeat first | refine Post.sr ?_ | refine Post.br ?_
            exact Out.intro (X := [_, _]) (L' := []) (Res.t rfl Res.z) ⟨by rw [may_fwd hok hll (by simp_all) hkd]; simp_all [pack], rfl⟩ (.refl _)
          · have h6 := g6
            try simp at h6
            refine .s g6 rfl rfl rfl rfl ?_
            refine .s g6 rfl rfl rfl rfl ?_
            refine .s g6 rfl rfl rfl rfl ?_
            refine .q (LD.pickF rfl g6 rfl) rfl rfl ?_
            refine .q (LD.assign rfl) rfl rfl ?_
            refine TL.nilS ?_
            refine TC.ret ?_
            repeat first | refine Post.sr ?_ | refine Post.br ?_
            exact Out.intro (X := [_, _]) (L' := []) (Res.t rfl Res.z) ⟨by rw [may_fwd hok hll (by simp_all) hkd]; simp_all [pack], rfl⟩ (.refl _)
        · skip
          refine TC.region ?_
          refine .q (LD.move rfl) rfl rfl ?_
          refine .q (LD.tassert rfl (as_forward _)) rfl rfl ?_
          refine .q (LD.move rfl) rfl rfl ?_
          refine .q (LD.ex rfl rfl) rfl rfl ?_
          refine .q (LD.ex rfl rfl) rfl rfl ?_
          refine .q (LD.assign rfl) rfl rfl ?_
          refine .q (LD.assign rfl) rfl rfl ?_
          refine TL.nilS ?_
          refine TC.seq ?_
          refine TC.region ?_
          refine .q (LD.move rfl) rfl rfl ?_
          refine TL.nilS ?_
          refine TC.condF rfl rfl ?_
          refine TC.skipS ?_
          refine TC.seq ?_
          refine TC.region ?_
          refine .q (LD.move rfl) rfl rfl ?_
          refine .q (LD.ldA rfl m1 (by repeat constructor) rfl) rfl rfl ?_
          refine .q (LD.ldA rfl m0 (by repeat constructor) rfl) rfl rfl ?_
          refine TL.cp (CL.inv rfl rfl) (w_fwdFits c m hl hh _) (Wants.un rfl) rfl ?_
          rintro _ rfl
          refine .q (LD.move rfl) rfl rfl ?_
          refine TL.split rfl rfl rfl rfl (fun g7 => ?_) (fun g7 => ?_)
          · have h7 := g7
            try simp at h7
            refine .y (LD.fieldAddr rfl) g7 rfl rfl rfl rfl ?_
            refine .y (LD.ldA rfl m0 (by repeat constructor) rfl) g7 rfl rfl rfl rfl ?_
            refine .y (LD.bA rfl rfl (by repeat constructor)) g7 rfl rfl rfl rfl ?_
            refine .y (LD.eqWd m.words Mes.Words.zero rfl rfl Tryz.eqGuardType36) g7 rfl rfl rfl rfl ?_
            refine .q (LD.pickT rfl g7 rfl) rfl rfl ?_
            refine .q (LD.assign rfl) rfl rfl ?_
            refine TL.nilS ?_
            refine TC.ret ?_
            repeat first | refine Post.sr ?_ | refine Post.br ?_
            exact Out.intro (X := [_, _]) (L' := []) (Res.t rfl Res.z) ⟨by rw [may_fwdM hok hll (by simp_all) hkd]; simp_all [pack], rfl⟩ (.refl _)
          · have h7 := g7
            try simp at h7
            refine .s g7 rfl rfl rfl rfl ?_
            refine .s g7 rfl rfl rfl rfl ?_
            refine .s g7 rfl rfl rfl rfl ?_
            refine .q (LD.pickF rfl g7 rfl) rfl rfl ?_
            refine .q (LD.assign rfl) rfl rfl ?_
            refine TL.nilS ?_
            refine TC.ret ?_
            repeat first | refine Post.sr ?_ | refine Post.br ?_
            exact Out.intro (X := [_, _]) (L' := []) (Res.t rfl Res.z) ⟨by rw [may_fwdM hok hll (by simp_all) hkd]; simp_all [pack], rfl⟩ (.refl _)
        · skip
          refine TC.region ?_
          refine .q (LD.move rfl) rfl rfl ?_
          refine .q (LD.tassert rfl (as_data)) rfl rfl ?_
          refine .q (LD.move rfl) rfl rfl ?_
          refine .q (LD.ex rfl rfl) rfl rfl ?_
          refine .q (LD.ex rfl rfl) rfl rfl ?_
          refine .q (LD.assign rfl) rfl rfl ?_
          refine .q (LD.assign rfl) rfl rfl ?_
          refine TL.nilS ?_
          refine TC.seq ?_
          refine TC.region ?_
          refine .q (LD.move rfl) rfl rfl ?_
          refine TL.nilS ?_
          refine TC.condT rfl rfl ?_
          refine TC.seq ?_
          refine TC.region ?_
          refine .q (LD.move rfl) rfl rfl ?_
          refine .q (LD.ldA rfl m1 (by repeat constructor) rfl) rfl rfl ?_
          refine .q (LD.ldA rfl m0 (by repeat constructor) rfl) rfl rfl ?_
          refine TL.cp (CL.inv rfl rfl) (w_dataFits c m hl hh) (Wants.un rfl) rfl ?_
          rintro _ rfl
          refine .q (LD.move rfl) rfl rfl ?_
          refine TL.split rfl rfl rfl rfl (fun g8 => ?_) (fun g8 => ?_)
          · have h8 := g8
            try simp at h8
            refine .y (LD.move rfl) g8 rfl rfl rfl rfl ?_
            refine .y (LD.ldA rfl m1 (by repeat constructor) rfl) g8 rfl rfl rfl rfl ?_
            refine .y (LD.ldA rfl m0 (by repeat constructor) rfl) g8 rfl rfl rfl rfl ?_
            refine TL.cp (CL.inv rfl rfl) (w_dataWords c m) (Wants.yes rfl rfl rfl g8) rfl ?_
            rintro _ rfl
            refine .q (LD.pickT rfl g8 rfl) rfl rfl ?_
            refine .q (LD.assign rfl) rfl rfl ?_
            refine TL.nilS ?_
            refine TC.ret ?_
            repeat first | refine Post.sr ?_ | refine Post.br ?_
            exact Out.intro (X := [_, _]) (L' := []) (Res.t rfl Res.z) ⟨by rw [may_data hok hll (by simp_all) hkd]; simp_all [pack], rfl⟩ (.refl _)
          · have h8 := g8
            try simp at h8
            refine .s g8 rfl rfl rfl rfl ?_
            refine .s g8 rfl rfl rfl rfl ?_
            refine .s g8 rfl rfl rfl rfl ?_
            refine .q (LD.pickF rfl g8 rfl) rfl rfl ?_
            refine .q (LD.assign rfl) rfl rfl ?_
            refine TL.nilS ?_
            refine TC.ret ?_
            repeat first | refine Post.sr ?_ | refine Post.br ?_
            exact Out.intro (X := [_, _]) (L' := []) (Res.t rfl Res.z) ⟨by rw [may_data hok hll (by simp_all) hkd]; simp_all [pack], rfl⟩ (.refl _)
        · skip
          refine TC.region ?_
          refine .q (LD.move rfl) rfl rfl ?_
          refine .q (LD.tassert rfl (as_down _)) rfl rfl ?_
          refine .q (LD.move rfl) rfl rfl ?_
          refine .q (LD.ex rfl rfl) rfl rfl ?_
          refine .q (LD.ex rfl rfl) rfl rfl ?_
          refine .q (LD.assign rfl) rfl rfl ?_
          refine .q (LD.assign rfl) rfl rfl ?_
          refine TL.nilS ?_
          refine TC.seq ?_
          refine TC.region ?_
          refine .q (LD.move rfl) rfl rfl ?_
          refine TL.nilS ?_
          refine TC.condF rfl rfl ?_
          refine TC.skipS ?_
          refine TC.seq ?_
          refine TC.region ?_
          refine .q (LD.move rfl) rfl rfl ?_
          refine .q (LD.ldA rfl m1 (by repeat constructor) rfl) rfl rfl ?_
          refine .q (LD.ldA rfl m0 (by repeat constructor) rfl) rfl rfl ?_
          refine TL.cp (CL.inv rfl rfl) (w_downFits c m hl hh _) (Wants.un rfl) rfl ?_
          rintro _ rfl
          refine .q (LD.move rfl) rfl rfl ?_
          refine TL.split rfl rfl rfl rfl (fun g9 => ?_) (fun g9 => ?_)
          · have h9 := g9
            try simp at h9
            refine .y (LD.fieldAddr rfl) g9 rfl rfl rfl rfl ?_
            refine .y (LD.ldA rfl m0 (by repeat constructor) rfl) g9 rfl rfl rfl rfl ?_
            refine .y (LD.bA rfl rfl (by repeat constructor)) g9 rfl rfl rfl rfl ?_
            refine .y (LD.eqWd m.words Mes.Words.zero rfl rfl Tryz.eqGuardType36) g9 rfl rfl rfl rfl ?_
            refine .q (LD.pickT rfl g9 rfl) rfl rfl ?_
            refine .q (LD.assign rfl) rfl rfl ?_
            refine TL.nilS ?_
            refine TC.ret ?_
            repeat first | refine Post.sr ?_ | refine Post.br ?_
            exact Out.intro (X := [_, _]) (L' := []) (Res.t rfl Res.z) ⟨by rw [may_grant hok hll (by simp_all) hkd]; simp_all [pack], rfl⟩ (.refl _)
          · have h9 := g9
            try simp at h9
            refine .s g9 rfl rfl rfl rfl ?_
            refine .s g9 rfl rfl rfl rfl ?_
            refine .s g9 rfl rfl rfl rfl ?_
            refine .q (LD.pickF rfl g9 rfl) rfl rfl ?_
            refine .q (LD.assign rfl) rfl rfl ?_
            refine TL.nilS ?_
            refine TC.ret ?_
            repeat first | refine Post.sr ?_ | refine Post.br ?_
            exact Out.intro (X := [_, _]) (L' := []) (Res.t rfl Res.z) ⟨by rw [may_grant hok hll (by simp_all) hkd]; simp_all [pack], rfl⟩ (.refl _)
        · skip
          refine TC.region ?_
          refine .q (LD.move rfl) rfl rfl ?_
          refine .q (LD.tassert rfl (as_down _)) rfl rfl ?_
          refine .q (LD.move rfl) rfl rfl ?_
          refine .q (LD.ex rfl rfl) rfl rfl ?_
          refine .q (LD.ex rfl rfl) rfl rfl ?_
          refine .q (LD.assign rfl) rfl rfl ?_
          refine .q (LD.assign rfl) rfl rfl ?_
          refine TL.nilS ?_
          refine TC.seq ?_
          refine TC.region ?_
          refine .q (LD.move rfl) rfl rfl ?_
          refine TL.nilS ?_
          refine TC.condF rfl rfl ?_
          refine TC.skipS ?_
          refine TC.seq ?_
          refine TC.region ?_
          refine .q (LD.move rfl) rfl rfl ?_
          refine .q (LD.ldA rfl m1 (by repeat constructor) rfl) rfl rfl ?_
          refine .q (LD.ldA rfl m0 (by repeat constructor) rfl) rfl rfl ?_
          refine TL.cp (CL.inv rfl rfl) (w_downFits c m hl hh _) (Wants.un rfl) rfl ?_
          rintro _ rfl
          refine .q (LD.move rfl) rfl rfl ?_
          refine TL.split rfl rfl rfl rfl (fun g10 => ?_) (fun g10 => ?_)
          · have h10 := g10
            try simp at h10
            refine .y (LD.fieldAddr rfl) g10 rfl rfl rfl rfl ?_
            refine .y (LD.ldA rfl m0 (by repeat constructor) rfl) g10 rfl rfl rfl rfl ?_
            refine .y (LD.bA rfl rfl (by repeat constructor)) g10 rfl rfl rfl rfl ?_
            refine .y (LD.eqWd m.words Mes.Words.zero rfl rfl Tryz.eqGuardType36) g10 rfl rfl rfl rfl ?_
            refine .q (LD.pickT rfl g10 rfl) rfl rfl ?_
            refine .q (LD.assign rfl) rfl rfl ?_
            refine TL.nilS ?_
            refine TC.ret ?_
            repeat first | refine Post.sr ?_ | refine Post.br ?_
            exact Out.intro (X := [_, _]) (L' := []) (Res.t rfl Res.z) ⟨by rw [may_putAck hok hll (by simp_all) hkd]; simp_all [pack], rfl⟩ (.refl _)
          · have h10 := g10
            try simp at h10
            refine .s g10 rfl rfl rfl rfl ?_
            refine .s g10 rfl rfl rfl rfl ?_
            refine .s g10 rfl rfl rfl rfl ?_
            refine .q (LD.pickF rfl g10 rfl) rfl rfl ?_
            refine .q (LD.assign rfl) rfl rfl ?_
            refine TL.nilS ?_
            refine TC.ret ?_
            repeat first | refine Post.sr ?_ | refine Post.br ?_
            exact Out.intro (X := [_, _]) (L' := []) (Res.t rfl Res.z) ⟨by rw [may_putAck hok hll (by simp_all) hkd]; simp_all [pack], rfl⟩ (.refl _)
        · skip
          refine TC.region ?_
          refine .q (LD.move rfl) rfl rfl ?_
          refine .q (LD.tassert rfl (as_across)) rfl rfl ?_
          refine .q (LD.move rfl) rfl rfl ?_
          refine .q (LD.ex rfl rfl) rfl rfl ?_
          refine .q (LD.ex rfl rfl) rfl rfl ?_
          refine .q (LD.assign rfl) rfl rfl ?_
          refine .q (LD.assign rfl) rfl rfl ?_
          refine TL.nilS ?_
          refine TC.seq ?_
          refine TC.region ?_
          refine .q (LD.move rfl) rfl rfl ?_
          refine TL.nilS ?_
          refine TC.condF rfl rfl ?_
          refine TC.skipS ?_
          refine TC.seq ?_
          refine TC.region ?_
          refine .q (LD.move rfl) rfl rfl ?_
          refine .q (LD.ldA rfl m1 (by repeat constructor) rfl) rfl rfl ?_
          refine .q (LD.ldA rfl m0 (by repeat constructor) rfl) rfl rfl ?_
          refine TL.cp (CL.inv rfl rfl) (w_acrossFits c m) (Wants.un rfl) rfl ?_
          rintro _ rfl
          refine .q (LD.move rfl) rfl rfl ?_
          refine TL.split rfl rfl rfl rfl (fun g11 => ?_) (fun g11 => ?_)
          · have h11 := g11
            try simp at h11
            refine .y (LD.fieldAddr rfl) g11 rfl rfl rfl rfl ?_
            refine .y (LD.ldA rfl m0 (by repeat constructor) rfl) g11 rfl rfl rfl rfl ?_
            refine .y (LD.bA rfl rfl (by repeat constructor)) g11 rfl rfl rfl rfl ?_
            refine .y (LD.eqWd m.words Mes.Words.zero rfl rfl Tryz.eqGuardType36) g11 rfl rfl rfl rfl ?_
            refine .q (LD.pickT rfl g11 rfl) rfl rfl ?_
            refine .q (LD.assign rfl) rfl rfl ?_
            refine TL.nilS ?_
            refine TC.ret ?_
            repeat first | refine Post.sr ?_ | refine Post.br ?_
            exact Out.intro (X := [_, _]) (L' := []) (Res.t rfl Res.z) ⟨by rw [may_ack hok hll (by simp_all) hkd]; simp_all [pack], rfl⟩ (.refl _)
          · have h11 := g11
            try simp at h11
            refine .s g11 rfl rfl rfl rfl ?_
            refine .s g11 rfl rfl rfl rfl ?_
            refine .s g11 rfl rfl rfl rfl ?_
            refine .q (LD.pickF rfl g11 rfl) rfl rfl ?_
            refine .q (LD.assign rfl) rfl rfl ?_
            refine TL.nilS ?_
            refine TC.ret ?_
            repeat first | refine Post.sr ?_ | refine Post.br ?_
            exact Out.intro (X := [_, _]) (L' := []) (Res.t rfl Res.z) ⟨by rw [may_ack hok hll (by simp_all) hkd]; simp_all [pack], rfl⟩ (.refl _)
    · have h2 := g2
      try simp at h2
      refine .s g2 rfl rfl rfl rfl ?_
      refine .s g2 rfl rfl rfl rfl ?_
      refine .s g2 rfl rfl rfl rfl ?_
      refine .s g2 rfl rfl rfl rfl ?_
      refine .s g2 rfl rfl rfl rfl ?_
      refine .q (LD.pickT rfl g2 rfl) rfl rfl ?_
      refine TL.nilS ?_
      refine TC.condT rfl rfl ?_
      refine TC.seq ?_
      refine TC.region ?_
      refine .q (LD.assign rfl) rfl rfl ?_
      refine TL.nilS ?_
      refine TC.ret ?_
      repeat first | refine Post.sr ?_ | refine Post.br ?_
      exact Out.intro (X := [_, _]) (L' := []) (Res.t rfl Res.z) ⟨by simp_all [pack, Msg.may, errOf], rfl⟩ (.refl _)
  · have h1 := g1
    try simp at h1
    refine .s g1 rfl rfl rfl rfl ?_
    refine .s g1 rfl rfl rfl rfl ?_
    refine .s g1 rfl rfl rfl rfl ?_
    refine .q (LD.pickT rfl g1 rfl) rfl rfl ?_
    refine .q (LD.move rfl) rfl rfl ?_
    refine .s rfl rfl rfl rfl rfl ?_
    refine .s rfl rfl rfl rfl rfl ?_
    refine .s rfl rfl rfl rfl rfl ?_
    refine .s rfl rfl rfl rfl rfl ?_
    refine .s rfl rfl rfl rfl rfl ?_
    refine .s rfl rfl rfl rfl rfl ?_
    refine .q (LD.pickT rfl rfl rfl) rfl rfl ?_
    refine TL.nilS ?_
    refine TC.condT rfl rfl ?_
    refine TC.seq ?_
    refine TC.region ?_
    refine .q (LD.assign rfl) rfl rfl ?_
    refine TL.nilS ?_
    refine TC.ret ?_
    repeat first | refine Post.sr ?_ | refine Post.br ?_
    exact Out.intro (X := [_, _]) (L' := []) (Res.t rfl Res.z) ⟨by simp_all [pack, Msg.may, errOf], rfl⟩ (.refl _)
end Go.SL.TryzI
