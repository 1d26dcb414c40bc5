/- A part of proofs about the given program. No condition. -/
import Derived.Test.YtcgfdjijodlopaaGreatWsplit
set_option linter.all false
namespace Go.SL.TryzI
open Go Go.Proofs Go.SL
set_option maxRecDepth 100000


open Mes in
def encO (x : Mes.Op) : List Value := [i x.kind, i x.addr, i x.value]
theorem beq_int (a b : Int) : (a == b) = decide (a = b) := rfl

open Mes in
theorem w_May (x : Mes.Op) : FnP Tryz.prog 145 [.agg (encO x).toArray] (fun v => v = .bool x.may) := by
  refine Fn.body Tryz.func145 rfl rfl rfl (Nat.le_of_ble_eq_true rfl) fun F => ?_
  refine TC.seq ?_
  refine TC.region ?_
  refine TL.nb (NB.boxA rfl) (Wants.un rfl) rfl (fun b1 => ?_)
  refine .q (LD.assign rfl) rfl rfl ?_
  refine TL.nilS ?_
  refine TC.seq ?_
  refine TC.seq ?_
  refine TC.region ?_
  refine .q (LD.fieldAddr rfl) rfl rfl ?_
  refine .q (LD.ld1 rfl m0 rfl) rfl rfl ?_
  refine TL.nilS ?_
  refine TC.block ?_
  refine TC.seq ?_
  refine TC.region ?_
  refine .q (LD.eql rfl rfl) rfl rfl ?_
  refine .q (LD.assign rfl) rfl rfl ?_
  refine TL.nilS ?_
  refine TC.cond rfl (fun g1 => ?_) (fun g1 => ?_)
  · have h1 := g1
    try simp at h1
    refine TC.seq ?_
    refine TC.region ?_
    refine .q (LD.fieldAddr rfl) rfl rfl ?_
    refine .q (LD.ld1 rfl m0 rfl) rfl rfl ?_
    refine .q (LD.eql rfl rfl) rfl rfl ?_
    refine .q (LD.move rfl) rfl rfl ?_
    refine TL.split rfl rfl rfl rfl (fun g2 => ?_) (fun g2 => ?_)
    · have h2 := g2
      try simp at h2
      refine .y (LD.fieldAddr rfl) g2 rfl rfl rfl rfl ?_
      refine .y (LD.ld1 rfl m0 rfl) g2 rfl rfl rfl rfl ?_
      refine .y (LD.eql rfl rfl) g2 rfl rfl rfl rfl ?_
      refine .q (LD.pickT rfl g2 rfl) rfl rfl ?_
      refine .q (LD.assign rfl) rfl rfl ?_
      refine TL.nilS ?_
      refine TC.ret ?_
      repeat first | refine Post.sr ?_ | refine Post.br ?_
      exact Out.intro (X := [_]) (L' := []) (Res.t rfl Res.z) ⟨by simp_all [Mes.Op.may, inC, pack, beq_int, -Bool.decide_and] <;> omega, rfl⟩ (.refl _)
    · have h2 := g2
      try simp at h2
      refine .s g2 rfl rfl rfl rfl ?_
      refine .s g2 rfl rfl rfl rfl ?_
      refine .q (LD.pickF rfl g2 rfl) rfl rfl ?_
      refine .q (LD.assign rfl) rfl rfl ?_
      refine TL.nilS ?_
      refine TC.ret ?_
      repeat first | refine Post.sr ?_ | refine Post.br ?_
      exact Out.intro (X := [_]) (L' := []) (Res.t rfl Res.z) ⟨by simp_all [Mes.Op.may, inC, pack, beq_int, -Bool.decide_and] <;> omega, rfl⟩ (.refl _)
  · have h1 := g1
    try simp at h1
    refine TC.seq ?_
    refine TC.region ?_
    refine .q (LD.eql rfl rfl) rfl rfl ?_
    refine .q (LD.assign rfl) rfl rfl ?_
    refine TL.nilS ?_
    refine TC.cond rfl (fun g3 => ?_) (fun g3 => ?_)
    · have h3 := g3
      try simp at h3
      refine TC.seq ?_
      refine TC.region ?_
      refine .q (LD.fieldAddr rfl) rfl rfl ?_
      refine .q (LD.ld1 rfl m0 rfl) rfl rfl ?_
      refine .q (LD.geq rfl rfl) rfl rfl ?_
      refine .q (LD.move rfl) rfl rfl ?_
      refine TL.split rfl rfl rfl rfl (fun g4 => ?_) (fun g4 => ?_)
      · have h4 := g4
        try simp at h4
        refine .y (LD.fieldAddr rfl) g4 rfl rfl rfl rfl ?_
        refine .y (LD.ld1 rfl m0 rfl) g4 rfl rfl rfl rfl ?_
        refine .y (LD.leq rfl rfl) g4 rfl rfl rfl rfl ?_
        refine .q (LD.pickT rfl g4 rfl) rfl rfl ?_
        refine .q (LD.move rfl) rfl rfl ?_
        refine TL.split rfl rfl rfl rfl (fun g5 => ?_) (fun g5 => ?_)
        · have h5 := g5
          try simp at h5
          refine .y (LD.fieldAddr rfl) g5 rfl rfl rfl rfl ?_
          refine .y (LD.ld1 rfl m0 rfl) g5 rfl rfl rfl rfl ?_
          refine .y (LD.eql rfl rfl) g5 rfl rfl rfl rfl ?_
          refine .q (LD.pickT rfl g5 rfl) rfl rfl ?_
          refine .q (LD.assign rfl) rfl rfl ?_
          refine TL.nilS ?_
          refine TC.ret ?_
          repeat first | refine Post.sr ?_ | refine Post.br ?_
          exact Out.intro (X := [_]) (L' := []) (Res.t rfl Res.z) ⟨by simp_all [Mes.Op.may, inC, pack, beq_int, -Bool.decide_and] <;> omega, rfl⟩ (.refl _)
        · have h5 := g5
          try simp at h5
          refine .s g5 rfl rfl rfl rfl ?_
          refine .s g5 rfl rfl rfl rfl ?_
          refine .q (LD.pickF rfl g5 rfl) rfl rfl ?_
          refine .q (LD.assign rfl) rfl rfl ?_
          refine TL.nilS ?_
          refine TC.ret ?_
          repeat first | refine Post.sr ?_ | refine Post.br ?_
          exact Out.intro (X := [_]) (L' := []) (Res.t rfl Res.z) ⟨by simp_all [Mes.Op.may, inC, pack, beq_int, -Bool.decide_and] <;> omega, rfl⟩ (.refl _)
      · have h4 := g4
        try simp at h4
        refine .s g4 rfl rfl rfl rfl ?_
        refine .s g4 rfl rfl rfl rfl ?_
        refine .q (LD.pickF rfl g4 rfl) rfl rfl ?_
        refine .q (LD.move rfl) rfl rfl ?_
        refine .s rfl rfl rfl rfl rfl ?_
        refine .s rfl rfl rfl rfl rfl ?_
        refine .s rfl rfl rfl rfl rfl ?_
        refine .q (LD.pickF rfl rfl rfl) rfl rfl ?_
        refine .q (LD.assign rfl) rfl rfl ?_
        refine TL.nilS ?_
        refine TC.ret ?_
        repeat first | refine Post.sr ?_ | refine Post.br ?_
        exact Out.intro (X := [_]) (L' := []) (Res.t rfl Res.z) ⟨by simp_all [Mes.Op.may, inC, pack, beq_int, -Bool.decide_and] <;> omega, rfl⟩ (.refl _)
    · have h3 := g3
      try simp at h3
      refine TC.seq ?_
      refine TC.seq ?_
      refine TC.region ?_
      refine .q (LD.eql rfl rfl) rfl rfl ?_
      refine .q (LD.assign rfl) rfl rfl ?_
      refine TL.nilS ?_
      refine TC.cond rfl (fun g6 => ?_) (fun g6 => ?_)
      · have h6 := g6
        try simp at h6
        refine TC.skipS ?_
        refine TC.condT rfl g6 ?_
        refine TC.seq ?_
        refine TC.region ?_
        refine .q (LD.fieldAddr rfl) rfl rfl ?_
        refine .q (LD.ld1 rfl m0 rfl) rfl rfl ?_
        refine .q (LD.geq rfl rfl) rfl rfl ?_
        refine .q (LD.move rfl) rfl rfl ?_
        refine TL.split rfl rfl rfl rfl (fun g7 => ?_) (fun g7 => ?_)
        · have h7 := g7
          try simp at h7
          refine .y (LD.fieldAddr rfl) g7 rfl rfl rfl rfl ?_
          refine .y (LD.ld1 rfl m0 rfl) g7 rfl rfl rfl rfl ?_
          refine .y (LD.leq rfl rfl) g7 rfl rfl rfl rfl ?_
          refine .q (LD.pickT rfl g7 rfl) rfl rfl ?_
          refine .q (LD.move rfl) rfl rfl ?_
          refine TL.split rfl rfl rfl rfl (fun g8 => ?_) (fun g8 => ?_)
          · have h8 := g8
            try simp at h8
            refine .y (LD.fieldAddr rfl) g8 rfl rfl rfl rfl ?_
            refine .y (LD.ld1 rfl m0 rfl) g8 rfl rfl rfl rfl ?_
            refine .y (LD.geq rfl rfl) g8 rfl rfl rfl rfl ?_
            refine .q (LD.pickT rfl g8 rfl) rfl rfl ?_
            refine .q (LD.move rfl) rfl rfl ?_
            refine TL.split rfl rfl rfl rfl (fun g9 => ?_) (fun g9 => ?_)
            · have h9 := g9
              try simp at h9
              refine .y (LD.fieldAddr rfl) g9 rfl rfl rfl rfl ?_
              refine .y (LD.ld1 rfl m0 rfl) g9 rfl rfl rfl rfl ?_
              refine .y (LD.leq rfl rfl) g9 rfl rfl rfl rfl ?_
              refine .q (LD.pickT rfl g9 rfl) rfl rfl ?_
              refine .q (LD.assign rfl) rfl rfl ?_
              refine TL.nilS ?_
              refine TC.ret ?_
              repeat first | refine Post.sr ?_ | refine Post.br ?_
              exact Out.intro (X := [_]) (L' := []) (Res.t rfl Res.z) ⟨by simp_all [Mes.Op.may, inC, pack, beq_int, -Bool.decide_and] <;> omega, rfl⟩ (.refl _)
            · have h9 := g9
              try simp at h9
              refine .s g9 rfl rfl rfl rfl ?_
              refine .s g9 rfl rfl rfl rfl ?_
              refine .q (LD.pickF rfl g9 rfl) rfl rfl ?_
              refine .q (LD.assign rfl) rfl rfl ?_
              refine TL.nilS ?_
              refine TC.ret ?_
              repeat first | refine Post.sr ?_ | refine Post.br ?_
              exact Out.intro (X := [_]) (L' := []) (Res.t rfl Res.z) ⟨by simp_all [Mes.Op.may, inC, pack, beq_int, -Bool.decide_and] <;> omega, rfl⟩ (.refl _)
          · have h8 := g8
            try simp at h8
            refine .s g8 rfl rfl rfl rfl ?_
            refine .s g8 rfl rfl rfl rfl ?_
            refine .q (LD.pickF rfl g8 rfl) rfl rfl ?_
            refine .q (LD.move rfl) rfl rfl ?_
            refine .s rfl rfl rfl rfl rfl ?_
            refine .s rfl rfl rfl rfl rfl ?_
            refine .s rfl rfl rfl rfl rfl ?_
            refine .q (LD.pickF rfl rfl rfl) rfl rfl ?_
            refine .q (LD.assign rfl) rfl rfl ?_
            refine TL.nilS ?_
            refine TC.ret ?_
            repeat first | refine Post.sr ?_ | refine Post.br ?_
            exact Out.intro (X := [_]) (L' := []) (Res.t rfl Res.z) ⟨by simp_all [Mes.Op.may, inC, pack, beq_int, -Bool.decide_and] <;> omega, rfl⟩ (.refl _)
        · have h7 := g7
          try simp at h7
          refine .s g7 rfl rfl rfl rfl ?_
          refine .s g7 rfl rfl rfl rfl ?_
          refine .q (LD.pickF rfl g7 rfl) rfl rfl ?_
          refine .q (LD.move rfl) rfl rfl ?_
          refine .s rfl rfl rfl rfl rfl ?_
          refine .s rfl rfl rfl rfl rfl ?_
          refine .s rfl rfl rfl rfl rfl ?_
          refine .q (LD.pickF rfl rfl rfl) rfl rfl ?_
          refine .q (LD.move rfl) rfl rfl ?_
          refine .s rfl rfl rfl rfl rfl ?_
          refine .s rfl rfl rfl rfl rfl ?_
          refine .s rfl rfl rfl rfl rfl ?_
          refine .q (LD.pickF rfl rfl rfl) rfl rfl ?_
          refine .q (LD.assign rfl) rfl rfl ?_
          refine TL.nilS ?_
          refine TC.ret ?_
          repeat first | refine Post.sr ?_ | refine Post.br ?_
          exact Out.intro (X := [_]) (L' := []) (Res.t rfl Res.z) ⟨by simp_all [Mes.Op.may, inC, pack, beq_int, -Bool.decide_and] <;> omega, rfl⟩ (.refl _)
      · have h6 := g6
        try simp at h6
        refine TC.region ?_
        refine .q (LD.eql rfl rfl) rfl rfl ?_
        refine .q (LD.assign rfl) rfl rfl ?_
        refine TL.nilS ?_
        refine TC.cond rfl (fun g10 => ?_) (fun g10 => ?_)
        · have h10 := g10
          try simp at h10
          refine TC.seq ?_
          refine TC.region ?_
          refine .q (LD.fieldAddr rfl) rfl rfl ?_
          refine .q (LD.ld1 rfl m0 rfl) rfl rfl ?_
          refine .q (LD.geq rfl rfl) rfl rfl ?_
          refine .q (LD.move rfl) rfl rfl ?_
          refine TL.split rfl rfl rfl rfl (fun g11 => ?_) (fun g11 => ?_)
          · have h11 := g11
            try simp at h11
            refine .y (LD.fieldAddr rfl) g11 rfl rfl rfl rfl ?_
            refine .y (LD.ld1 rfl m0 rfl) g11 rfl rfl rfl rfl ?_
            refine .y (LD.leq rfl rfl) g11 rfl rfl rfl rfl ?_
            refine .q (LD.pickT rfl g11 rfl) rfl rfl ?_
            refine .q (LD.move rfl) rfl rfl ?_
            refine TL.split rfl rfl rfl rfl (fun g12 => ?_) (fun g12 => ?_)
            · have h12 := g12
              try simp at h12
              refine .y (LD.fieldAddr rfl) g12 rfl rfl rfl rfl ?_
              refine .y (LD.ld1 rfl m0 rfl) g12 rfl rfl rfl rfl ?_
              refine .y (LD.geq rfl rfl) g12 rfl rfl rfl rfl ?_
              refine .q (LD.pickT rfl g12 rfl) rfl rfl ?_
              refine .q (LD.move rfl) rfl rfl ?_
              refine TL.split rfl rfl rfl rfl (fun g13 => ?_) (fun g13 => ?_)
              · have h13 := g13
                try simp at h13
                refine .y (LD.fieldAddr rfl) g13 rfl rfl rfl rfl ?_
                refine .y (LD.ld1 rfl m0 rfl) g13 rfl rfl rfl rfl ?_
                refine .y (LD.leq rfl rfl) g13 rfl rfl rfl rfl ?_
                refine .q (LD.pickT rfl g13 rfl) rfl rfl ?_
                refine .q (LD.assign rfl) rfl rfl ?_
                refine TL.nilS ?_
                refine TC.ret ?_
                repeat first | refine Post.sr ?_ | refine Post.br ?_
                exact Out.intro (X := [_]) (L' := []) (Res.t rfl Res.z) ⟨by simp_all [Mes.Op.may, inC, pack, beq_int, -Bool.decide_and] <;> omega, rfl⟩ (.refl _)
              · have h13 := g13
                try simp at h13
                refine .s g13 rfl rfl rfl rfl ?_
                refine .s g13 rfl rfl rfl rfl ?_
                refine .q (LD.pickF rfl g13 rfl) rfl rfl ?_
                refine .q (LD.assign rfl) rfl rfl ?_
                refine TL.nilS ?_
                refine TC.ret ?_
                repeat first | refine Post.sr ?_ | refine Post.br ?_
                exact Out.intro (X := [_]) (L' := []) (Res.t rfl Res.z) ⟨by simp_all [Mes.Op.may, inC, pack, beq_int, -Bool.decide_and] <;> omega, rfl⟩ (.refl _)
            · have h12 := g12
              try simp at h12
              refine .s g12 rfl rfl rfl rfl ?_
              refine .s g12 rfl rfl rfl rfl ?_
              refine .q (LD.pickF rfl g12 rfl) rfl rfl ?_
              refine .q (LD.move rfl) rfl rfl ?_
              refine .s rfl rfl rfl rfl rfl ?_
              refine .s rfl rfl rfl rfl rfl ?_
              refine .s rfl rfl rfl rfl rfl ?_
              refine .q (LD.pickF rfl rfl rfl) rfl rfl ?_
              refine .q (LD.assign rfl) rfl rfl ?_
              refine TL.nilS ?_
              refine TC.ret ?_
              repeat first | refine Post.sr ?_ | refine Post.br ?_
              exact Out.intro (X := [_]) (L' := []) (Res.t rfl Res.z) ⟨by simp_all [Mes.Op.may, inC, pack, beq_int, -Bool.decide_and] <;> omega, rfl⟩ (.refl _)
          · have h11 := g11
            try simp at h11
            refine .s g11 rfl rfl rfl rfl ?_
            refine .s g11 rfl rfl rfl rfl ?_
            refine .q (LD.pickF rfl g11 rfl) rfl rfl ?_
            refine .q (LD.move rfl) rfl rfl ?_
            refine .s rfl rfl rfl rfl rfl ?_
            refine .s rfl rfl rfl rfl rfl ?_
            refine .s rfl rfl rfl rfl rfl ?_
            refine .q (LD.pickF rfl rfl rfl) rfl rfl ?_
            refine .q (LD.move rfl) rfl rfl ?_
            refine .s rfl rfl rfl rfl rfl ?_
            refine .s rfl rfl rfl rfl rfl ?_
            refine .s rfl rfl rfl rfl rfl ?_
            refine .q (LD.pickF rfl rfl rfl) rfl rfl ?_
            refine .q (LD.assign rfl) rfl rfl ?_
            refine TL.nilS ?_
            refine TC.ret ?_
            repeat first | refine Post.sr ?_ | refine Post.br ?_
            exact Out.intro (X := [_]) (L' := []) (Res.t rfl Res.z) ⟨by simp_all [Mes.Op.may, inC, pack, beq_int, -Bool.decide_and] <;> omega, rfl⟩ (.refl _)
        · have h10 := g10
          try simp at h10
          refine TC.skip ?_
          refine TC.seq ?_
          refine TC.region ?_
          refine .q (LD.assign rfl) rfl rfl ?_
          refine TL.nilS ?_
          refine TC.ret ?_
          repeat first | refine Post.sr ?_ | refine Post.br ?_
          exact Out.intro (X := [_]) (L' := []) (Res.t rfl Res.z) ⟨by simp_all [Mes.Op.may, inC, pack, beq_int, -Bool.decide_and] <;> omega, rfl⟩ (.refl _)

theorem encO_len (l : List Mes.Op) : ∀ e ∈ l.map encO, e.length = 3 := fun e he => by
  obtain ⟨x, _, rfl⟩ := List.mem_map.1 he; rfl
theorem all_take_succ {p : Mes.Op → Bool} {l : List Mes.Op} {k : Nat} {x : Mes.Op} (h : (l.take k).all p = true) (hx : l[k]? = some x) (hp : p x = true) : (l.take (k + 1)).all p = true := by
  rw [List.take_add_one, hx]; simp only [List.all_append, h, Option.toList_some, List.all_cons, hp, List.all_nil]; rfl
theorem all_no {p : Mes.Op → Bool} {l : List Mes.Op} {k : Nat} {x : Mes.Op} (hx : l[k]? = some x) (hp : p x = false) : l.all p = false := by
  rw [List.all_eq_false]; exact ⟨x, List.mem_of_getElem? hx, by simp [hp]⟩
open Mes in
def fitO (c : Cfg) (x : Mes.Op) : Bool := x.may && decide (x.addr < c.size)

end Go.SL.TryzI
