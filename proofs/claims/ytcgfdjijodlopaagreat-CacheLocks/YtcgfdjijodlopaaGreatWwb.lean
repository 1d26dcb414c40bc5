/- A part of proofs about the given program. No condition. -/
import Derived.Test.YtcgfdjijodlopaaGreatWmshr
set_option linter.all false
namespace Go.SL.TryzI
open Go Go.Proofs Go.SL
set_option maxRecDepth 100000


open Mes in
def encWB (e : WB) : List Value := [i e.line, i (e.words.get 0), i (e.words.get 1), i (e.words.get 2), i (e.words.get 3), i (e.words.get 4), i (e.words.get 5), i (e.words.get 6), i (e.words.get 7), .bool e.live]


theorem encWB_len (a : List Mes.WB) : ∀ e ∈ a.map encWB, e.length = 10 := fun e he => by
  obtain ⟨x, _, rfl⟩ := List.mem_map.1 he; rfl
theorem encWB_one (a : List Mes.WB) : ∀ e ∈ a.map encWB, ∀ v ∈ e, v.oneCell' = true := fun e he => by
  obtain ⟨x, _, rfl⟩ := List.mem_map.1 he
  exact ones_spec rfl
/-- its own cells -/
def BufP (p : Nat) (room : Int) (v : Value) : Frag := blk p 238 [i room, v].toArray
def IsBuf (room : Int) (f : List Mes.WB) (p : Nat) (r : Frag) : Prop := ∃ v rs, IsSl 142 10 (f.map encWB) v rs ∧ Disj (BufP p room v) rs ∧ r = un [BufP p room v, rs]
theorem Buf_some {f : List Mes.WB} {v : Value} {s : Frag} (hs : IsSl 142 10 (f.map encWB) v s) {P : Mes.WB → Bool} {j : Nat} (hj : f.findIdx? P = some j) : ∃ x b c rest, f[j]? = some x ∧ P x = true ∧ f.find? P = some x ∧
    v = .slice (some ⟨b, 0, none⟩) (f.map encWB).length c ∧ s = Foc b 142 (f.map encWB) j (encWB x) rest ∧ j < (f.map encWB).length ∧ (f.map encWB).length ≤ c ∧ rest.length = (c - (f.map encWB).length) * 10 := by
  obtain ⟨x, hx, hxl, hf⟩ := findIdx_map hj
  obtain ⟨b, c, rest, h1, h2, h3, _, h4, h5⟩ := hs.at_ (show (f.map encWB)[j]? = some (encWB x) by rw [List.getElem?_map, hx]; rfl)
  exact ⟨x, b, c, rest, hx, hxl, hf, h1, h2, h3, h4, h5⟩
theorem Buf_at {f : List Mes.WB} {v : Value} {s : Frag} (hs : IsSl 142 10 (f.map encWB) v s) {x : Mes.WB} {j : Nat} (hx : f[j]? = some x) : ∃ b c rest, 
    v = .slice (some ⟨b, 0, none⟩) (f.map encWB).length c ∧ s = Foc b 142 (f.map encWB) j (encWB x) rest ∧ j < (f.map encWB).length ∧ (f.map encWB).length ≤ c ∧ rest.length = (c - (f.map encWB).length) * 10 := by
  obtain ⟨b, c, rest, h1, h2, h3, _, h4, h5⟩ := hs.at_ (show (f.map encWB)[j]? = some (encWB x) by rw [List.getElem?_map, hx]; rfl)
  exact ⟨b, c, rest, h1, h2, h3, h4, h5⟩
/-- one of them was changed -/
theorem IsBuf.upd {room : Int} {f f' : List Mes.WB} {p b c j : Nat} {e rest : List Value} (hl : ∀ e ∈ f.map encWB, e.length = 10) (h1 : (f.map encWB).length ≤ c) (h2 : rest.length = (c - (f.map encWB).length) * 10) (he : Nat.beq (llen e) 10 = true) (ho : ones e = true) (hf : f'.map encWB = (f.map encWB).set j e)
    (hd : Disj (BufP p room (.slice (some ⟨b, 0, none⟩) (f.map encWB).length c)) (Foc b 142 (f.map encWB) j e rest)) : IsBuf room f' p (un [BufP p room (.slice (some ⟨b, 0, none⟩) (f.map encWB).length c), Foc b 142 (f.map encWB) j e rest]) :=
  ⟨_, _, by rw [hf]; exact IsSl.foc hl (encWB_one f) h1 h2 (by rw [← llen_eq]; exact Nat.eq_of_beq_eq_true he) ho, hd, rfl⟩

theorem w_Deletewriteback_Entry (es : List (List Value)) (b c j : Nat) (rest : List Value) (hl : ∀ e ∈ es, e.length = 10) (hones : ∀ e ∈ es, ∀ v ∈ e, v.oneCell' = true) (hj : j < es.length) (hlen : es.length ≤ 100000) (hc1 : es.length ≤ c) (hc2 : rest.length = (c - es.length) * 10) :
    Fn Tryz.prog 202 [.slice (some ⟨b, 0, none⟩) es.length c, i (j : Int), i ((j : Int) + 1)] [blk b 142 (es.flatten ++ rest).toArray] (fun u L' => ∃ s', IsSl 142 10 (es.eraseIdx j) u s' ∧ L' = [s']) := by
  refine Fn.body Tryz.func202 rfl rfl rfl (Nat.le_of_ble_eq_true rfl) fun F => ?_
  refine TC.seq ?_
  refine TC.region ?_
  refine .q (LD.assign rfl) rfl rfl ?_
  refine TL.nilS ?_
  refine TC.seq ?_
  refine TC.region ?_
  refine .q (LD.move rfl) rfl rfl ?_
  refine .q (LD.move rfl) rfl rfl ?_
  refine .q (LD.move rfl) rfl rfl ?_
  refine .q (LD.move rfl) rfl rfl ?_
  refine .q (LD.lenS rfl rfl Tryz.underlying140) rfl rfl ?_
  refine .q (LD.sliceM rfl rfl rfl rfl (by omega) (by omega)) rfl rfl ?_
  skip
  refine TL.nilS ?_
  refine TC.seq ?_
  refine TC.seq ?_
  refine TC.region ?_
  refine .q (LD.move rfl) rfl rfl ?_
  refine .q (LD.move rfl) rfl rfl ?_
  refine .q (LD.eql rfl rfl) rfl rfl ?_
  refine TL.nilS ?_
  refine TC.cond rfl (fun g1 => ?_) (fun g1 => ?_)
  · have h1 := g1
    try simp at h1
    refine TC.seq ?_
    refine TC.region ?_
    refine .q (LD.move rfl) rfl rfl ?_
    refine .q (LD.assign rfl) rfl rfl ?_
    refine TL.nilS ?_
    refine TC.ret ?_
    repeat first | refine Post.sr ?_ | refine Post.br ?_
    exfalso; omega
  · have h1 := g1
    try simp at h1
    refine TC.skipS ?_
    refine TC.seq ?_
    refine TC.region ?_
    refine .q (LD.move rfl) rfl rfl ?_
    refine .q (LD.lenS rfl rfl Tryz.underlying140) rfl rfl ?_
    refine .q (LD.assign rfl) rfl rfl ?_
    refine TL.nilS ?_
    refine TC.seq ?_
    refine TC.drawX (R := []) [0, 0, 0, 0, 0, 0, 2, 0] [0, 1, 2, 3, 4, 5, 6, 7] TryzI.mixed (by decide +kernel) (no4 (by decide)) rfl ?_
    have hsp : es.flatten ++ rest = (es.take j).flatten ++ ((es.drop j).flatten ++ rest) := by rw [← List.append_assoc, ← List.flatten_append, List.take_append_drop]
    refine .q rfl rfl (LD.move rfl) rfl rfl ?_
    refine .q rfl rfl (LD.move rfl) rfl rfl ?_
    refine .q rfl rfl (LD.sliceS rfl rfl rfl (by omega) (by intro h; cases h)) rfl rfl ?_
    rw [if_neg (by omega)]
    simp only [Option.map_some, Addr.add_none, Nat.zero_add, Int.toNat_zero, Nat.zero_mul, Nat.sub_zero, Int.toNat_natCast]
    refine .q rfl rfl (LD.move rfl) rfl rfl ?_
    refine .q rfl rfl (LD.move rfl) rfl rfl ?_
    refine .q rfl rfl (LD.sliceS rfl rfl rfl (by omega) (by intro h; omega)) rfl rfl ?_
    have hn2 : ((es.length : Nat) : Int).toNat - ((j : Int) + 1).toNat = (es.drop (j + 1)).length := by rw [List.length_drop]; omega
    rw [hn2]
    generalize hq2 : (if ((c : Int) = (j : Int) + 1) then (some (⟨b, 0, none⟩ : Addr)) else (some (⟨b, 0, none⟩ : Addr)).map (·.add (((j : Int) + 1).toNat * 10))) = q2
    have hrd2 := Rd.drop_ (r := blk b 142 (es.flatten ++ rest).toArray) (blk_same ..) hl hones (j + 1) q2 (by intro h; rw [← hq2, if_neg (by omega)]; simp only [Option.map_some, Addr.add_none, Nat.zero_add]; rfl)
    rw [hsp]
    refine TD.efF (j := 0) rfl rfl (EF.appendIn (i := 0) (es := es.take j) (es2 := es.drop (j + 1)) (c := c) rfl (by rw [List.length_take]; omega) rfl rfl rfl (fun x hx => hl x (List.mem_of_mem_take hx)) (hsp ▸ hrd2) m0 (by simp only [List.length_take, List.length_drop]; omega) (by rw [List.length_append, flatten_len (fun x hx => hl x (List.mem_of_mem_drop hx)), hc2, List.length_take, List.length_drop, ← Nat.add_mul]; congr 1; omega)) rfl (Wants.un rfl) rfl ?_
    refine .q rfl rfl (LD.assign rfl) rfl rfl ?_
    refine TD.nilX ?_
    refine TC.seq ?_
    rw [← List.eraseIdx_eq_take_drop_succ, show (es.take j).length + (es.drop (j + 1)).length = es.length - 1 by simp only [List.length_take, List.length_drop]; omega]
    have hel : (es.eraseIdx j).length = es.length - 1 := List.length_eraseIdx_of_lt hj
    have hfe := flatten_len (erase_lens hl j)
    obtain ⟨tl, htl⟩ : ∃ tl, tl = ((es.drop j).flatten ++ rest).drop (es.drop (j + 1)).flatten.length := ⟨_, rfl⟩
    have htl2 : tl.length = (c - (es.eraseIdx j).length) * 10 := by rw [htl, List.length_drop, List.length_append, flatten_len (fun x hx => hl x (List.mem_of_mem_drop hx)), flatten_len (fun x hx => hl x (List.mem_of_mem_drop hx)), List.length_drop, List.length_drop, hc2, hel]; omega
    rw [← htl]
    refine TC.region ?_
    refine .q (LD.move rfl) rfl rfl ?_
    refine .q (LD.move rfl) rfl rfl ?_
    refine .q (LD.lenS rfl rfl Tryz.underlying140) rfl rfl ?_
    refine .q (LD.move rfl) rfl rfl ?_
    refine .q (LD.sliceS rfl rfl rfl (by omega) (by intro h; cases h)) rfl rfl ?_
    rw [if_neg (by omega)]
    simp only [Option.map_some, Addr.add_none, Nat.zero_add, Int.toNat_natCast]
    rw [show es.length - (es.length - 1) = 0 + 1 by omega]
    refine .e (EF.clear (i := 0) (m := 0) rfl rfl rfl rfl (by rw [List.length_append, hfe, hel, htl2, hel]; simp only [List.length_cons, List.length_nil]; omega)) rfl rfl ?_
    refine TL.nilS ?_
    refine TC.seq ?_
    refine TC.region ?_
    refine .q (LD.move rfl) rfl rfl ?_
    refine .q (LD.assign rfl) rfl rfl ?_
    refine TL.nilS ?_
    refine TC.ret ?_
    repeat first | refine Post.sr ?_ | refine Post.br ?_
    rw [← hel]
    exact Out.intro (X := []) (L' := [_]) (Res.t rfl Res.z) ⟨_, IsSl.cleared (erase_lens hl j) (erase_ones hones j) (by omega) rfl (by simp only [Array.length_toList, zeroCells_size]; rfl) (by rw [Array.length_toList, zeroCells_size, htl2, hel]; simp only [List.size_toArray, List.length_cons, List.length_nil]; omega) htl2, rfl⟩ (.refl _)
theorem w_Deletequeue_Entry (es : List (List Value)) (b c j : Nat) (rest : List Value) (hl : ∀ e ∈ es, e.length = 17) (hones : ∀ e ∈ es, ∀ v ∈ e, v.oneCell' = true) (hj : j < es.length) (hlen : es.length ≤ 100000) (hc1 : es.length ≤ c) (hc2 : rest.length = (c - es.length) * 17) :
    Fn Tryz.prog 216 [.slice (some ⟨b, 0, none⟩) es.length c, i (j : Int), i ((j : Int) + 1)] [blk b 225 (es.flatten ++ rest).toArray] (fun u L' => ∃ s', IsSl 225 17 (es.eraseIdx j) u s' ∧ L' = [s']) := by
  refine Fn.body Tryz.func216 rfl rfl rfl (Nat.le_of_ble_eq_true rfl) fun F => ?_
  refine TC.seq ?_
  refine TC.region ?_
  refine .q (LD.assign rfl) rfl rfl ?_
  refine TL.nilS ?_
  refine TC.seq ?_
  refine TC.region ?_
  refine .q (LD.move rfl) rfl rfl ?_
  refine .q (LD.move rfl) rfl rfl ?_
  refine .q (LD.move rfl) rfl rfl ?_
  refine .q (LD.move rfl) rfl rfl ?_
  refine .q (LD.lenS rfl rfl Tryz.underlying117) rfl rfl ?_
  refine .q (LD.sliceM rfl rfl rfl rfl (by omega) (by omega)) rfl rfl ?_
  skip
  refine TL.nilS ?_
  refine TC.seq ?_
  refine TC.seq ?_
  refine TC.region ?_
  refine .q (LD.move rfl) rfl rfl ?_
  refine .q (LD.move rfl) rfl rfl ?_
  refine .q (LD.eql rfl rfl) rfl rfl ?_
  refine TL.nilS ?_
  refine TC.cond rfl (fun g1 => ?_) (fun g1 => ?_)
  · have h1 := g1
    try simp at h1
    refine TC.seq ?_
    refine TC.region ?_
    refine .q (LD.move rfl) rfl rfl ?_
    refine .q (LD.assign rfl) rfl rfl ?_
    refine TL.nilS ?_
    refine TC.ret ?_
    repeat first | refine Post.sr ?_ | refine Post.br ?_
    exfalso; omega
  · have h1 := g1
    try simp at h1
    refine TC.skipS ?_
    refine TC.seq ?_
    refine TC.region ?_
    refine .q (LD.move rfl) rfl rfl ?_
    refine .q (LD.lenS rfl rfl Tryz.underlying117) rfl rfl ?_
    refine .q (LD.assign rfl) rfl rfl ?_
    refine TL.nilS ?_
    refine TC.seq ?_
    refine TC.drawX (R := []) [0, 0, 0, 0, 0, 0, 2, 0] [0, 1, 2, 3, 4, 5, 6, 7] TryzI.mixed (by decide +kernel) (no4 (by decide)) rfl ?_
    have hsp : es.flatten ++ rest = (es.take j).flatten ++ ((es.drop j).flatten ++ rest) := by rw [← List.append_assoc, ← List.flatten_append, List.take_append_drop]
    refine .q rfl rfl (LD.move rfl) rfl rfl ?_
    refine .q rfl rfl (LD.move rfl) rfl rfl ?_
    refine .q rfl rfl (LD.sliceS rfl rfl rfl (by omega) (by intro h; cases h)) rfl rfl ?_
    rw [if_neg (by omega)]
    simp only [Option.map_some, Addr.add_none, Nat.zero_add, Int.toNat_zero, Nat.zero_mul, Nat.sub_zero, Int.toNat_natCast]
    refine .q rfl rfl (LD.move rfl) rfl rfl ?_
    refine .q rfl rfl (LD.move rfl) rfl rfl ?_
    refine .q rfl rfl (LD.sliceS rfl rfl rfl (by omega) (by intro h; omega)) rfl rfl ?_
    have hn2 : ((es.length : Nat) : Int).toNat - ((j : Int) + 1).toNat = (es.drop (j + 1)).length := by rw [List.length_drop]; omega
    rw [hn2]
    generalize hq2 : (if ((c : Int) = (j : Int) + 1) then (some (⟨b, 0, none⟩ : Addr)) else (some (⟨b, 0, none⟩ : Addr)).map (·.add (((j : Int) + 1).toNat * 17))) = q2
    have hrd2 := Rd.drop_ (r := blk b 225 (es.flatten ++ rest).toArray) (blk_same ..) hl hones (j + 1) q2 (by intro h; rw [← hq2, if_neg (by omega)]; simp only [Option.map_some, Addr.add_none, Nat.zero_add]; rfl)
    rw [hsp]
    refine TD.efF (j := 0) rfl rfl (EF.appendIn (i := 0) (es := es.take j) (es2 := es.drop (j + 1)) (c := c) rfl (by rw [List.length_take]; omega) rfl rfl rfl (fun x hx => hl x (List.mem_of_mem_take hx)) (hsp ▸ hrd2) m0 (by simp only [List.length_take, List.length_drop]; omega) (by rw [List.length_append, flatten_len (fun x hx => hl x (List.mem_of_mem_drop hx)), hc2, List.length_take, List.length_drop, ← Nat.add_mul]; congr 1; omega)) rfl (Wants.un rfl) rfl ?_
    refine .q rfl rfl (LD.assign rfl) rfl rfl ?_
    refine TD.nilX ?_
    refine TC.seq ?_
    rw [← List.eraseIdx_eq_take_drop_succ, show (es.take j).length + (es.drop (j + 1)).length = es.length - 1 by simp only [List.length_take, List.length_drop]; omega]
    have hel : (es.eraseIdx j).length = es.length - 1 := List.length_eraseIdx_of_lt hj
    have hfe := flatten_len (erase_lens hl j)
    obtain ⟨tl, htl⟩ : ∃ tl, tl = ((es.drop j).flatten ++ rest).drop (es.drop (j + 1)).flatten.length := ⟨_, rfl⟩
    have htl2 : tl.length = (c - (es.eraseIdx j).length) * 17 := by rw [htl, List.length_drop, List.length_append, flatten_len (fun x hx => hl x (List.mem_of_mem_drop hx)), flatten_len (fun x hx => hl x (List.mem_of_mem_drop hx)), List.length_drop, List.length_drop, hc2, hel]; omega
    rw [← htl]
    refine TC.region ?_
    refine .q (LD.move rfl) rfl rfl ?_
    refine .q (LD.move rfl) rfl rfl ?_
    refine .q (LD.lenS rfl rfl Tryz.underlying117) rfl rfl ?_
    refine .q (LD.move rfl) rfl rfl ?_
    refine .q (LD.sliceS rfl rfl rfl (by omega) (by intro h; cases h)) rfl rfl ?_
    rw [if_neg (by omega)]
    simp only [Option.map_some, Addr.add_none, Nat.zero_add, Int.toNat_natCast]
    rw [show es.length - (es.length - 1) = 0 + 1 by omega]
    refine .e (EF.clear (i := 0) (m := 0) rfl rfl rfl rfl (by rw [List.length_append, hfe, hel, htl2, hel]; simp only [List.length_cons, List.length_nil]; omega)) rfl rfl ?_
    refine TL.nilS ?_
    refine TC.seq ?_
    refine TC.region ?_
    refine .q (LD.move rfl) rfl rfl ?_
    refine .q (LD.assign rfl) rfl rfl ?_
    refine TL.nilS ?_
    refine TC.ret ?_
    repeat first | refine Post.sr ?_ | refine Post.br ?_
    rw [← hel]
    exact Out.intro (X := []) (L' := [_]) (Res.t rfl Res.z) ⟨_, IsSl.cleared (erase_lens hl j) (erase_ones hones j) (by omega) rfl (by simp only [Array.length_toList, zeroCells_size]; rfl) (by rw [Array.length_toList, zeroCells_size, htl2, hel]; simp only [List.size_toArray, List.length_cons, List.length_nil]; omega) htl2, rfl⟩ (.refl _)

def BufNew (room : Int) (v : Value) (r : Frag) : Prop := (1 ≤ room ∧ room ≤ 8 ∧ ∃ p, v = .tuple #[.pointer (some ⟨p, 0, none⟩), i 0] ∧ IsBuf room [] p r) ∨ (¬ (1 ≤ room ∧ room ≤ 8) ∧ v = .tuple #[.pointer none, i 1] ∧ r = nof)

open Mes in
theorem w_BufNew (room : Int) : FnN Tryz.prog 49 [i room] (BufNew room) := by
  refine Fn.body Tryz.func49 rfl rfl rfl (Nat.le_of_ble_eq_true rfl) fun F => ?_
  refine TC.seq ?_
  refine TC.region ?_
  refine .q (LD.assign rfl) rfl rfl ?_
  refine .q (LD.assign rfl) rfl rfl ?_
  refine TL.nilS ?_
  refine TC.seq ?_
  refine TC.seq ?_
  refine TC.region ?_
  refine .q (LD.move rfl) rfl rfl ?_
  refine .q (LD.lss rfl rfl) rfl rfl ?_
  refine .q (LD.move rfl) rfl rfl ?_
  refine TL.split rfl rfl rfl rfl (fun g1 => ?_) (fun g1 => ?_)
  · have h1 := g1
    try simp at h1
    refine .y (LD.move rfl) g1 rfl rfl rfl rfl ?_
    refine .y (LD.gtr rfl rfl) g1 rfl rfl rfl rfl ?_
    refine .q (LD.pickF rfl g1 rfl) rfl rfl ?_
    refine TL.nilS ?_
    refine TC.cond rfl (fun g2 => ?_) (fun g2 => ?_)
    · have h2 := g2
      try simp at h2
      refine TC.seq ?_
      refine TC.region ?_
      refine .q (LD.assign rfl) rfl rfl ?_
      refine .q (LD.assign rfl) rfl rfl ?_
      refine TL.nilS ?_
      refine TC.ret ?_
      repeat first | refine Post.sr ?_ | refine Post.br ?_
      exact Out.introE (X := []) (L0 := []) (L' := [_]) (Res.t rfl (Res.t rfl Res.z)) ⟨nof, .inr ⟨by omega, rfl, rfl⟩, rfl⟩ (.refl _) Ent.nof
    · have h2 := g2
      try simp at h2
      refine TC.skipS ?_
      refine TC.seq ?_
      refine TC.region ?_
      refine .q (LD.move rfl) rfl rfl ?_
      refine .q (LD.bS rfl rfl (by repeat constructor)) rfl rfl ?_
      refine TL.nb (NB.boxA rfl) (Wants.un rfl) rfl (fun b12 => ?_)
      refine .q (LD.assign rfl) rfl rfl ?_
      refine .q (LD.assign rfl) rfl rfl ?_
      refine TL.nilS ?_
      refine TC.ret ?_
      repeat first | refine Post.sr ?_ | refine Post.br ?_
      exact Out.introE (X := []) (L0 := [_]) (L' := [_]) (Res.t rfl (Res.t rfl Res.z)) ⟨_, .inl ⟨by omega, by omega, _, rfl, _, nof, IsSl.nil _ _, fun _ => .inr rfl, rfl⟩, rfl⟩ (.refl _) (fun w F h => Sat.fold (l := [_, nof]) ((h.nof).perm (.swap ..)))
  · have h1 := g1
    try simp at h1
    refine .s g1 rfl rfl rfl rfl ?_
    refine .q (LD.pickT rfl g1 rfl) rfl rfl ?_
    refine TL.nilS ?_
    refine TC.condT rfl rfl ?_
    refine TC.seq ?_
    refine TC.region ?_
    refine .q (LD.assign rfl) rfl rfl ?_
    refine .q (LD.assign rfl) rfl rfl ?_
    refine TL.nilS ?_
    refine TC.ret ?_
    repeat first | refine Post.sr ?_ | refine Post.br ?_
    exact Out.introE (X := []) (L0 := []) (L' := [_]) (Res.t rfl (Res.t rfl Res.z)) ⟨nof, .inr ⟨by omega, rfl, rfl⟩, rfl⟩ (.refl _) Ent.nof
open Mes in
theorem w_bAt1 (m : Mes.WB) (line : Int) (b : Nat) : FnR Tryz.prog 201 [.agg (encWB m).toArray, .pointer (some ⟨b, 0, none⟩)] (blk b 3 [i line].toArray) (fun v => v = .bool (m.line == line)) := by
  refine Fn.body Tryz.func201 rfl rfl rfl (Nat.le_of_ble_eq_true rfl) fun F => ?_
  refine TC.seq ?_
  refine TC.region ?_
  refine TL.nb (NB.boxA rfl) (Wants.un rfl) rfl (fun b2 => ?_)
  refine .q (LD.assign rfl) rfl rfl ?_
  refine TL.nilS ?_
  refine TC.seq ?_
  refine TC.region ?_
  refine .q (LD.fieldAddr rfl) rfl rfl ?_
  refine .q (LD.ld1 rfl m0 rfl) rfl rfl ?_
  refine .q (LD.ld1 rfl m1 rfl) rfl rfl ?_
  refine .q (LD.eql rfl rfl) rfl rfl ?_
  refine .q (LD.assign rfl) rfl rfl ?_
  refine TL.nilS ?_
  refine TC.ret ?_
  repeat first | refine Post.sr ?_ | refine Post.br ?_
  exact Out.intro (X := [_]) (L' := [_]) (Res.t rfl Res.z) ⟨by simp only [pack, beq_int], rfl⟩ (.refl _)
open Mes in
theorem w_bAt (room : Int) (f : List Mes.WB) (p : Nat) (v : Value) (s : Frag) (hs : IsSl 142 10 (f.map encWB) v s) (hlen : f.length ≤ 100000) (line : Int) : Fn Tryz.prog 149 [.pointer (some ⟨p, 0, none⟩), i line] [BufP p room v, s] (fun u L' => u = i (idxOf (wbAt f line)) ∧ L' = [BufP p room v, s]) := by
  refine Fn.body Tryz.func149 rfl rfl rfl (Nat.le_of_ble_eq_true rfl) fun F => ?_
  refine TC.seq ?_
  refine TC.region ?_
  refine TL.nb (NB.box1 rfl rfl) (Wants.un rfl) rfl (fun b3 => ?_)
  refine .q (LD.assign rfl) rfl rfl ?_
  refine TL.nilS ?_
  refine TC.seq ?_
  refine TC.region ?_
  refine .q (LD.move rfl) rfl rfl ?_
  refine .q (LD.nilCheck rfl) rfl rfl ?_
  refine .q (LD.fieldAddr rfl) rfl rfl ?_
  refine .q (LD.ld1 rfl m1 rfl) rfl rfl ?_
  obtain ⟨q, cap, rfl, hrd⟩ := hs.rd
  refine .q (LD.makeFunc rfl rfl) rfl rfl ?_
  have e : (f.map encWB).length = f.length := List.length_map ..
  rw [e]
  refine TL.cl (pre := [_, _]) (F := BufP p room (.slice q f.length cap) :: F) (CL.func rfl) (w_IndexWB f encWB q cap s hrd 201 [] [.pointer (some ⟨b3, 0, none⟩)] [_] (fun m => m.line == line) (by omega) (fun x _ => w_bAt1 x line b3)) perm5 (Wants.un rfl) rfl ?_
  rintro _ L2 ⟨rfl, rfl⟩
  refine TL.perm perm5' ?_
  refine .q (LD.assign rfl) rfl rfl ?_
  refine TL.nilS ?_
  refine TC.ret ?_
  repeat first | refine Post.sr ?_ | refine Post.br ?_
  exact Out.intro (X := [_]) (L' := [_, _]) (Res.t rfl Res.z) ⟨rfl, rfl⟩ (.refl _)
open Mes in
theorem w_bLeft (room : Int) (f : List Mes.WB) (p : Nat) (v : Value) (s : Frag) (hs : IsSl 142 10 (f.map encWB) v s) (hlen : f.length ≤ 100000) (hroom : 0 ≤ room ∧ room ≤ 1000000) : Fn Tryz.prog 150 [.pointer (some ⟨p, 0, none⟩)] [BufP p room v, s] (fun u L' => u = i (room - f.length) ∧ L' = [BufP p room v, s]) := by
  refine Fn.body Tryz.func150 rfl rfl rfl (Nat.le_of_ble_eq_true rfl) fun F => ?_
  obtain ⟨q, cap, rfl, hrd⟩ := hs.rd
  refine TC.seq ?_
  refine TC.region ?_
  refine .q (LD.assign rfl) rfl rfl ?_
  refine TL.nilS ?_
  refine TC.seq ?_
  refine TC.draw0 [0, 0, 0, 0, 0, 0, 0, 0, 0, 0, 0] [0, 1, 2, 3, 4, 5, 6, 7, 8, 9, 10] TryzI.mixed (by decide +kernel) (by decide) ?_
  refine .q rfl rfl (LD.move rfl) rfl rfl ?_
  refine .q rfl rfl (LD.nilCheck rfl) rfl rfl ?_
  refine .q rfl rfl (LD.fieldAddr rfl) rfl rfl ?_
  refine .q rfl rfl (LD.ld1 rfl m0 rfl) rfl rfl ?_
  refine .q rfl rfl (LD.move rfl) rfl rfl ?_
  refine .q rfl rfl (LD.nilCheck rfl) rfl rfl ?_
  refine .q rfl rfl (LD.fieldAddr rfl) rfl rfl ?_
  refine .q rfl rfl (LD.ld1 rfl m0 rfl) rfl rfl ?_
  refine .q rfl rfl (LD.lenS rfl rfl Tryz.underlying140) rfl rfl ?_
  refine .q rfl rfl (LD.sub rfl rfl (by simp only [List.length_map]; omega)) rfl rfl ?_
  refine .q rfl rfl (LD.assign rfl) rfl rfl ?_
  refine TD.nilT ?_
  refine TC.ret ?_
  repeat first | refine Post.sr ?_ | refine Post.br ?_
  exact Out.intro (X := []) (L' := [_, _]) (Res.t rfl Res.z) ⟨by simp only [pack, List.length_map], rfl⟩ (.refl _)

open Mes in
def wbPutR (room : Int) (b : List WB) (line : Int) (words : Words) : List WB × Int := if (wbAt b line).isSome then (b, 6) else if (b.length : Int) = room then (b, 4) else (b ++ [⟨line, words, true⟩], 0)
open Mes in
/-- words are told, and the entry changes -/
def wbTell (b : List WB) (line : Int) (g : WB → WB) : List WB × Words × Int :=
  match wbAt b line with
  | none => (b, Words.zero, 5)
  | some j => match b[j]? with
    | none => (b, Words.zero, 5)
    | some e => if e.live then (b.modify j g, (g e).words, 0) else (b, Words.zero, 7)
open Mes in
def tellV (r : List WB × Words × Int) : Value := .tuple #[.agg (encW r.2.1).toArray, i r.2.2]

open Mes in
theorem w_bPut (room : Int) (f : List Mes.WB) (p : Nat) (r : Frag) (hr : IsBuf room f p r) (hlen : f.length ≤ 100000) (hroom : 0 ≤ room ∧ room ≤ 1000000) (line : Int) (words : Mes.Words) : FnW Tryz.prog 71 [.pointer (some ⟨p, 0, none⟩), i line, .agg (encW words).toArray] r (fun u r' => u = i (wbPutR room f line words).2 ∧ IsBuf room (wbPutR room f line words).1 p r') := by
  refine Fn.body Tryz.func71 rfl rfl rfl (Nat.le_of_ble_eq_true rfl) fun F => ?_
  obtain ⟨v, s, hs, hd, rfl⟩ := hr
  refine TC.unfold (pair_disj hd) ?_
  refine TC.seq ?_
  refine TC.region ?_
  refine TL.nb (NB.boxA rfl) (Wants.un rfl) rfl (fun b5 => ?_)
  refine .q (LD.assign rfl) rfl rfl ?_
  refine TL.nilS ?_
  refine TC.seq ?_
  refine TC.block ?_
  refine TC.seq ?_
  refine TC.region ?_
  refine .q (LD.move rfl) rfl rfl ?_
  refine .q (LD.move rfl) rfl rfl ?_
  refine TL.clX (X := [_]) (pre := [_, _]) (CL.func rfl) (w_bAt room f p v s hs hlen line) rfl (Wants.un rfl) rfl ?_
  rintro _ _ ⟨rfl, rfl⟩
  refine .q (LD.geq rfl rfl) rfl rfl ?_
  refine .q (LD.assign rfl) rfl rfl ?_
  refine TL.nilS ?_
  refine TC.cond rfl (fun g1 => ?_) (fun g1 => ?_)
  · have h1 := g1
    try simp at h1
    refine TC.seq ?_
    refine TC.region ?_
    refine .q (LD.assign rfl) rfl rfl ?_
    refine TL.nilS ?_
    refine TC.ret ?_
    repeat first | refine Post.sr ?_ | refine Post.br ?_
    have e : wbPutR room f line words = (f, 6) := by unfold wbPutR; obtain ⟨j, hj⟩ := idx_some (o := wbAt f line) (by assumption); rw [hj]; rfl
    exact Out.introE (X := [_]) (L0 := [_, _]) (L' := [_]) (Res.t rfl Res.z) ⟨_, ⟨by rw [e]; rfl, _, _, by rw [e]; exact hs, hd, rfl⟩, rfl⟩ (.refl _) (Ent.fold _)
  · have h1 := g1
    try simp at h1
    refine TC.seq ?_
    refine TC.region ?_
    refine .q (LD.move rfl) rfl rfl ?_
    refine TL.clX (X := [_]) (pre := [_, _]) (CL.func rfl) (w_bLeft room f p v s hs hlen hroom) rfl (Wants.un rfl) rfl ?_
    rintro _ _ ⟨rfl, rfl⟩
    refine .q (LD.eql rfl rfl) rfl rfl ?_
    refine .q (LD.assign rfl) rfl rfl ?_
    refine TL.nilS ?_
    refine TC.cond rfl (fun g2 => ?_) (fun g2 => ?_)
    · have h2 := g2
      try simp at h2
      refine TC.seq ?_
      refine TC.region ?_
      refine .q (LD.assign rfl) rfl rfl ?_
      refine TL.nilS ?_
      refine TC.ret ?_
      repeat first | refine Post.sr ?_ | refine Post.br ?_
      have e : wbPutR room f line words = (f, 4) := by unfold wbPutR; rw [idx_none (o := wbAt f line) (by omega), if_neg (by simp), if_pos (by omega)]
      exact Out.introE (X := [_]) (L0 := [_, _]) (L' := [_]) (Res.t rfl Res.z) ⟨_, ⟨by rw [e]; rfl, _, _, by rw [e]; exact hs, hd, rfl⟩, rfl⟩ (.refl _) (Ent.fold _)
    · have h2 := g2
      try simp at h2
      refine TC.skip ?_
      refine TC.seq ?_
      obtain ⟨q, cap, rfl, hrd⟩ := hs.rd
      refine TC.drawW [0, 0, 0, 0, 1, 0, 1, 0, 3, 2, 0, 0, 2] [0, 1, 2, 3, 4, 5, 6, 7, 8, 9, 10, 11, 12] TryzI.mixed (by decide +kernel) (by decide) ?_
      refine .q rfl rfl (LD.move rfl) rfl rfl ?_
      refine .q rfl rfl (LD.move rfl) rfl rfl ?_
      refine .q rfl rfl (LD.nilCheck rfl) rfl rfl ?_
      refine .q rfl rfl (LD.fieldAddr rfl) rfl rfl ?_
      refine .r rfl rfl (LD.ld1 rfl m1 rfl) rfl rfl ?_
      refine .q rfl rfl (LD.move rfl) rfl rfl ?_
      refine .r rfl rfl (LD.ldA rfl m0 (by repeat constructor) rfl) rfl rfl ?_
      refine .q rfl rfl (LD.bS rfl rfl (by repeat constructor)) rfl rfl ?_
      refine TD.nb rfl rfl (NB.bSl rfl rfl rfl (by repeat constructor)) (Wants.un rfl) rfl (fun b24 => ?_)
      refine TD.appF rfl rfl rfl rfl hs (Rd.lit rfl rfl) perm4 (by simp only [List.length_map, List.length_singleton]; omega) (by simp only [List.length_map, List.length_singleton]; omega) (Wants.un rfl) rfl ?_
      intro v2 s2 hs2
      obtain ⟨q2, cap2, rfl, _⟩ := hs2.rd
      refine .q rfl rfl (LD.nilCheck rfl) rfl rfl ?_
      refine .q rfl rfl (LD.fieldAddr rfl) rfl rfl ?_
      refine TD.efT (j := 3) rfl rfl (EF.st1 (i := 0) rfl rfl rfl rfl rfl (by repeat constructor)) rfl (Wants.un rfl) rfl ?_
      refine TD.nilC ?_
      refine TC.seq ?_
      refine TC.region ?_
      refine .q (LD.assign rfl) rfl rfl ?_
      refine TL.nilS ?_
      refine TC.dis fun hd2 => ?_
      refine TC.ret ?_
      repeat first | refine Post.sr ?_ | refine Post.br ?_
      have e : wbPutR room f line words = (f ++ [⟨line, words, true⟩], 0) := by unfold wbPutR; rw [idx_none (o := wbAt f line) (by omega), if_neg (by simp), if_neg (by omega)]
      refine Out.introE (X := [_, _]) (L0 := [_, _]) (L' := [_]) (Res.t rfl Res.z) ⟨_, ⟨by rw [e]; rfl, _, _, by rw [e, List.map_append]; exact hs2, dis_ij hd2 0 3 rfl rfl rfl |>.symm, rfl⟩, rfl⟩ perm6 (Ent.fold _)

open Mes in
theorem wbTell_none {b : List WB} {line : Int} {g : WB → WB} (h : wbAt b line = none) : wbTell b line g = (b, Words.zero, 5) := by simp [wbTell, h]
open Mes in
theorem wbTell_some {b : List WB} {line : Int} {g : WB → WB} {j : Nat} {x : WB} (h : wbAt b line = some j) (hx : b[j]? = some x) : wbTell b line g = if x.live then (b.modify j g, (g x).words, 0) else (b, Words.zero, 7) := by simp [wbTell, h, hx]

open Mes in
theorem w_bTell (room : Int) (f : List Mes.WB) (p : Nat) (r : Frag) (hr : IsBuf room f p r) (hlen : f.length ≤ 100000) (line : Int) (fn : Nat) [FnAt Tryz.prog fn] (g : Mes.WB → Mes.WB) (hf : ∀ (b j c : Nat) (es : List (List Value)) (rest : List Value) (x : Mes.WB), j < es.length → (∀ e ∈ es, e.length = 10) → Fn Tryz.prog fn [.pointer (some ⟨b, 0 + j * 10, none⟩)] [Foc b 142 es j (encWB x) rest] (fun v L' => v = .tuple #[] ∧ L' = [Foc b 142 es j (encWB (g x)) rest])) : FnW Tryz.prog 203 [.pointer (some ⟨p, 0, none⟩), i line, .func (.func fn) #[] #[]] r (fun u r' => u = tellV (wbTell f line g) ∧ IsBuf room (wbTell f line g).1 p r') := by
  refine Fn.body Tryz.func203 rfl rfl rfl (Nat.le_of_ble_eq_true rfl) fun F => ?_
  obtain ⟨v, s, hs, hd, rfl⟩ := hr
  refine TC.unfold (pair_disj hd) ?_
  refine TC.seq ?_
  refine TC.region ?_
  refine TL.nb NB.alloc (Wants.un rfl) rfl (fun b6 => ?_)
  refine .q (LD.assign rfl) rfl rfl ?_
  refine TL.nilS ?_
  refine TC.seq ?_
  refine TC.region ?_
  refine .q (LD.move rfl) rfl rfl ?_
  refine .q (LD.move rfl) rfl rfl ?_
  refine TL.clX (X := [_]) (pre := [_, _]) (CL.func rfl) (w_bAt room f p v s hs hlen line) rfl (Wants.un rfl) rfl ?_
  rintro _ _ ⟨rfl, rfl⟩
  refine .q (LD.assign rfl) rfl rfl ?_
  refine TL.nilS ?_
  refine TC.seq ?_
  refine TC.block ?_
  refine TC.seq ?_
  refine TC.region ?_
  refine .q (LD.move rfl) rfl rfl ?_
  refine .q (LD.lss rfl rfl) rfl rfl ?_
  refine .q (LD.assign rfl) rfl rfl ?_
  refine TL.nilS ?_
  refine TC.cond rfl (fun g1 => ?_) (fun g1 => ?_)
  · have h1 := g1
    try simp at h1
    refine TC.seq ?_
    refine TC.region ?_
    refine .q (LD.bA rfl rfl (by repeat constructor)) rfl rfl ?_
    refine .e (EF.stA (i := 0) rfl rfl rfl rfl rfl rfl (by repeat constructor)) rfl rfl ?_
    refine .q (LD.assign rfl) rfl rfl ?_
    refine TL.nilS ?_
    refine TC.ret ?_
    repeat first | refine Post.sr ?_ | refine Post.br ?_
    have e : wbTell f line g = (f, Mes.Words.zero, 5) := wbTell_none (idx_none (by omega))
    exact Out.introE (X := [_]) (L0 := [_, _]) (L' := [_]) (Res.c rfl (LV.aggL m0 (by repeat constructor) rfl) (Res.t rfl Res.z)) ⟨_, ⟨by rw [tellV, e]; rfl, _, _, by rw [e]; exact hs, hd, rfl⟩, rfl⟩ (.refl _) (Ent.fold _)
  · have h1 := g1
    try simp at h1
    refine TC.seq ?_
    refine TC.region ?_
    obtain ⟨j, hj⟩ := idx_some (o := wbAt f line) (by omega)
    obtain ⟨x, b, c, rest, hx, hxl, _, rfl, rfl, hJ, hc1, hc2⟩ := Buf_some hs hj
    have hl := encWB_len f
    have hnn : (f.map encWB).length = f.length := List.length_map ..
    rw [hj]
    simp only [idxOf]
    refine .q (LD.move rfl) rfl rfl ?_
    refine .q (LD.nilCheck rfl) rfl rfl ?_
    refine .q (LD.fieldAddr rfl) rfl rfl ?_
    refine .q (LD.ld1 rfl m1 rfl) rfl rfl ?_
    refine .q (LD.move rfl) rfl rfl ?_
    refine .q (LD.indexAddr rfl rfl rfl (by omega)) rfl rfl ?_
    refine .q (LD.fieldAddr rfl) rfl rfl ?_
    refine .q (LD.f1 (J := j) (f := 9) rfl m2 (foc_same ..) rfl hJ hl rfl (by omega) rfl) rfl rfl ?_
    refine .q (LD.not rfl) rfl rfl ?_
    refine .q (LD.assign rfl) rfl rfl ?_
    refine TL.nilS ?_
    refine TC.cond rfl (fun g2 => ?_) (fun g2 => ?_)
    · have h2 := g2
      try simp at h2
      refine TC.seq ?_
      refine TC.region ?_
      refine .q (LD.bA rfl rfl (by repeat constructor)) rfl rfl ?_
      refine .e (EF.stA (i := 0) rfl rfl rfl rfl rfl rfl (by repeat constructor)) rfl rfl ?_
      refine .q (LD.assign rfl) rfl rfl ?_
      refine TL.nilS ?_
      refine TC.ret ?_
      repeat first | refine Post.sr ?_ | refine Post.br ?_
      have e : wbTell f line g = (f, Mes.Words.zero, 7) := by rw [wbTell_some hj hx]; simp_all
      exact Out.introE (X := [_]) (L0 := [_, _]) (L' := [_]) (Res.c rfl (LV.aggL m0 (by repeat constructor) rfl) (Res.t rfl Res.z)) ⟨_, ⟨by rw [tellV, e]; rfl, _, _, by rw [e]; exact hs, hd, rfl⟩, rfl⟩ (.refl _) (Ent.fold _)
    · have h2 := g2
      try simp at h2
      refine TC.skip ?_
      refine TC.seq ?_
      refine TC.region ?_
      refine .q (LD.move rfl) rfl rfl ?_
      refine .q (LD.move rfl) rfl rfl ?_
      refine .q (LD.nilCheck rfl) rfl rfl ?_
      refine .q (LD.fieldAddr rfl) rfl rfl ?_
      refine .q (LD.ld1 rfl m1 rfl) rfl rfl ?_
      refine .q (LD.move rfl) rfl rfl ?_
      refine .q (LD.indexAddr rfl rfl rfl (by omega)) rfl rfl ?_
      rw [Int.toNat_natCast]
      refine TL.cl (pre := [_]) (F := [_, _] ++ F) (CL.clos rfl rfl) (hf b j c _ rest x hJ hl) perm7 (Wants.un rfl) rfl ?_
      rintro _ _ ⟨rfl, rfl⟩
      refine TL.perm perm7' ?_
      refine TL.nilS ?_
      refine TC.seq ?_
      refine TC.region ?_
      refine .q (LD.move rfl) rfl rfl ?_
      refine .q (LD.nilCheck rfl) rfl rfl ?_
      refine .q (LD.fieldAddr rfl) rfl rfl ?_
      refine .q (LD.ld1 rfl m1 rfl) rfl rfl ?_
      refine .q (LD.move rfl) rfl rfl ?_
      refine .q (LD.indexAddr rfl rfl rfl (by omega)) rfl rfl ?_
      refine .q (LD.fieldAddr rfl) rfl rfl ?_
      refine .q (LD.fA (J := j) (f := 1) rfl m2 (foc_same ..) rfl hJ hl rfl (by omega) (by repeat constructor) rfl) rfl rfl ?_
      refine .e (EF.stA (i := 0) rfl rfl rfl rfl rfl rfl (by repeat constructor)) rfl rfl ?_
      refine .q (LD.assign rfl) rfl rfl ?_
      refine TL.nilS ?_
      refine TC.dis fun hd2 => ?_
      refine TC.ret ?_
      repeat first | refine Post.sr ?_ | refine Post.br ?_
      have e : wbTell f line g = (f.modify j g, (g x).words, 0) := by rw [wbTell_some hj hx]; simp_all
      exact Out.introE (X := [_]) (L0 := [_, _]) (L' := [_]) (Res.c rfl (LV.aggL m0 (by repeat constructor) rfl) (Res.t rfl Res.z)) ⟨_, ⟨by rw [tellV, e]; rfl, by rw [e]; exact IsBuf.upd hl hc1 hc2 rfl rfl (mod_set hx g encWB) (dis_ij hd2 1 2 rfl rfl rfl)⟩, rfl⟩ (.refl _) (Ent.fold _)
theorem w_bGive1 (b j c : Nat) (es : List (List Value)) (rest : List Value) (x : Mes.WB) (hJ : j < es.length) (hl : ∀ e ∈ es, e.length = 10) : Fn Tryz.prog 205 [.pointer (some ⟨b, 0 + j * 10, none⟩)] [Foc b 142 es j (encWB x) rest] (fun v L' => v = .tuple #[] ∧ L' = [Foc b 142 es j (encWB { x with live := false }) rest]) := by
  refine Fn.body Tryz.func205 rfl rfl rfl (Nat.le_of_ble_eq_true rfl) fun F => ?_
  refine TC.region ?_
  refine .q (LD.move rfl) rfl rfl ?_
  refine .q (LD.nilCheck rfl) rfl rfl ?_
  refine .q (LD.fieldAddr rfl) rfl rfl ?_
  refine .e (EF.f1 (J := j) (f := 9) (i := 0) rfl rfl rfl (by omega) hJ hl rfl rfl (by repeat constructor) rfl) rfl rfl ?_
  refine TL.nil ?_
  exact Out.introN (X := []) (L' := [_]) Res.z ⟨rfl, rfl⟩ (.refl _)
theorem w_bShare1 (b j c : Nat) (es : List (List Value)) (rest : List Value) (x : Mes.WB) (hJ : j < es.length) (hl : ∀ e ∈ es, e.length = 10) : Fn Tryz.prog 204 [.pointer (some ⟨b, 0 + j * 10, none⟩)] [Foc b 142 es j (encWB x) rest] (fun v L' => v = .tuple #[] ∧ L' = [Foc b 142 es j (encWB x) rest]) := by
  refine Fn.body Tryz.func204 rfl rfl rfl (Nat.le_of_ble_eq_true rfl) fun F => ?_
  refine TC.skip ?_
  exact Out.introN (X := []) (L' := [_]) Res.z ⟨rfl, rfl⟩ (.refl _)

open Mes in
def bShareV (b : List WB) (line : Int) : Value := .tuple #[.agg (encW (wbShare b line).1).toArray, i (wbShare b line).2]
open Mes in
theorem wbTell_share (b : List WB) (line : Int) : wbTell b line (fun x => x) = (b, wbShare b line) := by
  unfold wbTell wbShare wbOf
  cases h : wbAt b line with
  | none => rw [find_none_idx h]
  | some j =>
    obtain ⟨x, hx, _, hf⟩ := findIdx_map h
    rw [hf]
    simp only [hx]
    split
    · congr 1
      apply List.ext_getElem?
      intro k
      rw [List.getElem?_modify]
      cases b[k]? <;> simp
    · rfl
open Mes in
theorem wbTell_give (b : List WB) (line : Int) : wbTell b line (fun x => { x with live := false }) = (if (wbShare b line).2 = 0 then wbKill b line else b, wbShare b line) := by
  unfold wbTell wbShare wbOf wbKill
  cases h : wbAt b line with
  | none => rw [find_none_idx h]; rfl
  | some j =>
    obtain ⟨x, hx, _, hf⟩ := findIdx_map h
    rw [hf]
    simp only [hx]
    split <;> rfl
theorem tellV_eq (x : List Mes.WB × Mes.Words × Int) : tellV x = .tuple [.agg (encW x.2.1).toArray, i x.2.2].toArray := rfl

open Mes in
theorem w_bShare (room : Int) (f : List Mes.WB) (p : Nat) (r : Frag) (hr : IsBuf room f p r) (hlen : f.length ≤ 100000) (line : Int) : FnW Tryz.prog 156 [.pointer (some ⟨p, 0, none⟩), i line] r (fun u r' => u = bShareV f line ∧ IsBuf room f p r') := by
  refine Fn.body Tryz.func156 rfl rfl rfl (Nat.le_of_ble_eq_true rfl) fun F => ?_
  skip
  refine TC.seq ?_
  refine TC.region ?_
  refine TL.nb NB.alloc (Wants.un rfl) rfl (fun b4 => ?_)
  refine .q (LD.assign rfl) rfl rfl ?_
  refine TL.nilS ?_
  refine TC.seq ?_
  refine TC.region ?_
  refine .q (LD.move rfl) rfl rfl ?_
  refine .q (LD.move rfl) rfl rfl ?_
  refine TL.cw (CL.func rfl) (w_bTell room f p r hr hlen line 204 (fun x => x) (fun b j c es rest x hJ hl => w_bShare1 b j c es rest x hJ hl)) (i := 1) rfl (Wants.un rfl) rfl ?_
  rintro _ r2 ⟨rfl, hr2⟩
  rw [wbTell_share] at hr2 ⊢
  rw [tellV_eq]
  refine .q (LD.ex rfl rfl) rfl rfl ?_
  refine .q (LD.ex rfl rfl) rfl rfl ?_
  refine .e (EF.stA (i := 0) rfl rfl rfl rfl rfl rfl (by repeat constructor)) rfl rfl ?_
  refine .q (LD.assign rfl) rfl rfl ?_
  refine TL.nilS ?_
  refine TC.ret ?_
  repeat first | refine Post.sr ?_ | refine Post.br ?_
  exact Out.intro (X := [_]) (L' := [_]) (Res.c rfl (LV.aggL m0 (by repeat constructor) rfl) (Res.t rfl Res.z)) ⟨_, ⟨rfl, hr2⟩, rfl⟩ (.refl _)
open Mes in
theorem w_bGive (room : Int) (f : List Mes.WB) (p : Nat) (r : Frag) (hr : IsBuf room f p r) (hlen : f.length ≤ 100000) (line : Int) : FnW Tryz.prog 157 [.pointer (some ⟨p, 0, none⟩), i line] r (fun u r' => u = bShareV f line ∧ IsBuf room (if (Mes.wbShare f line).2 = 0 then Mes.wbKill f line else f) p r') := by
  refine Fn.body Tryz.func157 rfl rfl rfl (Nat.le_of_ble_eq_true rfl) fun F => ?_
  skip
  refine TC.seq ?_
  refine TC.region ?_
  refine TL.nb NB.alloc (Wants.un rfl) rfl (fun b4 => ?_)
  refine .q (LD.assign rfl) rfl rfl ?_
  refine TL.nilS ?_
  refine TC.seq ?_
  refine TC.region ?_
  refine .q (LD.move rfl) rfl rfl ?_
  refine .q (LD.move rfl) rfl rfl ?_
  refine TL.cw (CL.func rfl) (w_bTell room f p r hr hlen line 205 (fun x => { x with live := false }) (fun b j c es rest x hJ hl => w_bGive1 b j c es rest x hJ hl)) (i := 1) rfl (Wants.un rfl) rfl ?_
  rintro _ r2 ⟨rfl, hr2⟩
  rw [wbTell_give] at hr2 ⊢
  rw [tellV_eq]
  refine .q (LD.ex rfl rfl) rfl rfl ?_
  refine .q (LD.ex rfl rfl) rfl rfl ?_
  refine .e (EF.stA (i := 0) rfl rfl rfl rfl rfl rfl (by repeat constructor)) rfl rfl ?_
  refine .q (LD.assign rfl) rfl rfl ?_
  refine TL.nilS ?_
  refine TC.ret ?_
  repeat first | refine Post.sr ?_ | refine Post.br ?_
  exact Out.intro (X := [_]) (L' := [_]) (Res.c rfl (LV.aggL m0 (by repeat constructor) rfl) (Res.t rfl Res.z)) ⟨_, ⟨rfl, hr2⟩, rfl⟩ (.refl _)
open Mes in
theorem w_bDrop (room : Int) (f : List Mes.WB) (p : Nat) (r : Frag) (hr : IsBuf room f p r) (hlen : f.length ≤ 100000) (line : Int) : FnW Tryz.prog 154 [.pointer (some ⟨p, 0, none⟩), i line] r (fun u r' => u = i (wbDrop f line).2 ∧ IsBuf room (wbDrop f line).1 p r') := by
  refine Fn.body Tryz.func154 rfl rfl rfl (Nat.le_of_ble_eq_true rfl) fun F => ?_
  obtain ⟨v, s, hs, hd, rfl⟩ := hr
  refine TC.unfold (pair_disj hd) ?_
  refine TC.seq ?_
  refine TC.region ?_
  refine .q (LD.assign rfl) rfl rfl ?_
  refine TL.nilS ?_
  refine TC.seq ?_
  refine TC.region ?_
  refine .q (LD.move rfl) rfl rfl ?_
  refine .q (LD.move rfl) rfl rfl ?_
  refine TL.clX (X := []) (pre := [_, _]) (CL.func rfl) (w_bAt room f p v s hs hlen line) rfl (Wants.un rfl) rfl ?_
  rintro _ _ ⟨rfl, rfl⟩
  refine .q (LD.assign rfl) rfl rfl ?_
  refine TL.nilS ?_
  refine TC.seq ?_
  refine TC.seq ?_
  refine TC.region ?_
  refine .q (LD.move rfl) rfl rfl ?_
  refine .q (LD.lss rfl rfl) rfl rfl ?_
  refine TL.nilS ?_
  refine TC.cond rfl (fun g1 => ?_) (fun g1 => ?_)
  · have h1 := g1
    try simp at h1
    refine TC.seq ?_
    refine TC.region ?_
    refine .q (LD.assign rfl) rfl rfl ?_
    refine TL.nilS ?_
    refine TC.ret ?_
    repeat first | refine Post.sr ?_ | refine Post.br ?_
    have e : wbDrop f line = (f, 5) := by unfold wbDrop; rw [idx_none (o := wbAt f line) (by omega)]
    exact Out.introE (X := []) (L0 := [_, _]) (L' := [_]) (Res.t rfl Res.z) ⟨_, ⟨by rw [e]; rfl, _, _, by rw [e]; exact hs, hd, rfl⟩, rfl⟩ (.refl _) (Ent.fold _)
  · have h1 := g1
    try simp at h1
    refine TC.skipS ?_
    refine TC.seq ?_
    refine TC.region ?_
    obtain ⟨j, hj⟩ := idx_some (o := wbAt f line) (by omega)
    obtain ⟨x, b, c, rest, hx, hxl, _, rfl, rfl, hJ, hc1, hc2⟩ := Buf_some hs hj
    have hl := encWB_len f
    have hnn : (f.map encWB).length = f.length := List.length_map ..
    have he : (f.map encWB)[j]? = some (encWB x) := by rw [List.getElem?_map, hx]; rfl
    rw [← foc_of he, hj]
    simp only [idxOf]
    refine .q (LD.move rfl) rfl rfl ?_
    refine .q (LD.move rfl) rfl rfl ?_
    refine .q (LD.nilCheck rfl) rfl rfl ?_
    refine .q (LD.fieldAddr rfl) rfl rfl ?_
    refine .q (LD.ld1 rfl m0 rfl) rfl rfl ?_
    refine .q (LD.move rfl) rfl rfl ?_
    refine .q (LD.move rfl) rfl rfl ?_
    refine .q (LD.add rfl rfl (by omega)) rfl rfl ?_
    refine TL.cl (pre := [_]) (F := [_] ++ F) (CL.func rfl) (w_Deletewriteback_Entry (f.map encWB) b c j rest hl (encWB_one f) hJ (by omega) hc1 hc2) perm2 (Wants.un rfl) rfl ?_
    rintro v2 _ ⟨s2, hs2, rfl⟩
    refine TL.perm perm2' ?_
    obtain ⟨q2, cap2, rfl, _⟩ := hs2.rd
    refine .q (LD.nilCheck rfl) rfl rfl ?_
    refine .q (LD.fieldAddr rfl) rfl rfl ?_
    refine .e (EF.st1 (i := 0) rfl rfl rfl rfl rfl (by repeat constructor)) rfl rfl ?_
    refine TL.nilS ?_
    refine TC.seq ?_
    refine TC.region ?_
    refine .q (LD.assign rfl) rfl rfl ?_
    refine TL.nilS ?_
    refine TC.dis fun hd2 => ?_
    refine TC.ret ?_
    repeat first | refine Post.sr ?_ | refine Post.br ?_
    have e : wbDrop f line = (f.eraseIdx j, 0) := by unfold wbDrop; rw [hj]
    exact Out.introE (X := []) (L0 := [_, _]) (L' := [_]) (Res.t rfl Res.z) ⟨_, ⟨by rw [e]; rfl, _, _, by rw [e]; simp only [er_map]; exact hs2, dis_ij hd2 0 1 rfl rfl rfl, rfl⟩, rfl⟩ (.refl _) (Ent.fold _)

open Mes in
def bgetV (b : List WB) (line : Int) : Value := .tuple #[.agg (encWB ((wbOf b line).getD ⟨0, Words.zero, false⟩)).toArray, .bool (wbOf b line).isSome]

open Mes in
theorem w_bGet (room : Int) (f : List Mes.WB) (p : Nat) (r : Frag) (hr : IsBuf room f p r) (hlen : f.length ≤ 100000) (line : Int) : FnR Tryz.prog 84 [.pointer (some ⟨p, 0, none⟩), i line] r (fun u => u = bgetV f line) := by
  refine Fn.body Tryz.func84 rfl rfl rfl (Nat.le_of_ble_eq_true rfl) fun F => ?_
  obtain ⟨v, s, hs, hd, rfl⟩ := hr
  refine TC.unfold (pair_disj hd) ?_
  refine TC.seq ?_
  refine TC.region ?_
  refine TL.nb NB.alloc (Wants.un rfl) rfl (fun b4 => ?_)
  refine .q (LD.assign rfl) rfl rfl ?_
  refine TL.nilS ?_
  refine TC.seq ?_
  refine TC.region ?_
  refine .q (LD.move rfl) rfl rfl ?_
  refine .q (LD.move rfl) rfl rfl ?_
  refine TL.clX (X := [_]) (pre := [_, _]) (CL.func rfl) (w_bAt room f p v s hs hlen line) rfl (Wants.un rfl) rfl ?_
  rintro _ _ ⟨rfl, rfl⟩
  refine .q (LD.assign rfl) rfl rfl ?_
  refine TL.nilS ?_
  refine TC.seq ?_
  refine TC.seq ?_
  refine TC.region ?_
  refine .q (LD.move rfl) rfl rfl ?_
  refine .q (LD.lss rfl rfl) rfl rfl ?_
  refine TL.nilS ?_
  refine TC.cond rfl (fun g1 => ?_) (fun g1 => ?_)
  · have h1 := g1
    try simp at h1
    refine TC.seq ?_
    refine TC.region ?_
    refine .q (LD.bS rfl rfl (by repeat constructor)) rfl rfl ?_
    refine .e (EF.stA (i := 0) rfl rfl rfl rfl rfl rfl (by repeat constructor)) rfl rfl ?_
    refine .q (LD.assign rfl) rfl rfl ?_
    refine TL.nilS ?_
    refine TC.ret ?_
    repeat first | refine Post.sr ?_ | refine Post.br ?_
    exact Out.introE (X := [_]) (L0 := [_, _]) (L' := [_]) (Res.c rfl (LV.aggL m0 (by repeat constructor) rfl) (Res.t rfl Res.z)) ⟨by rw [bgetV, show wbOf f line = none from find_none_idx (idx_none (o := wbAt f line) (by omega))]; rfl, rfl⟩ (.refl _) (Ent.fold _)
  · have h1 := g1
    try simp at h1
    refine TC.skipS ?_
    refine TC.seq ?_
    refine TC.region ?_
    obtain ⟨j, hj⟩ := idx_some (o := wbAt f line) (by omega)
    obtain ⟨x, b, c, rest, hx, hxl, hf, rfl, rfl, hJ, hc1, hc2⟩ := Buf_some hs hj
    have hl := encWB_len f
    have hnn : (f.map encWB).length = f.length := List.length_map ..
    rw [hj]
    simp only [idxOf]
    refine .q (LD.move rfl) rfl rfl ?_
    refine .q (LD.nilCheck rfl) rfl rfl ?_
    refine .q (LD.fieldAddr rfl) rfl rfl ?_
    refine .q (LD.ld1 rfl m1 rfl) rfl rfl ?_
    refine .q (LD.move rfl) rfl rfl ?_
    refine .q (LD.indexAddr rfl rfl rfl (by omega)) rfl rfl ?_
    refine .q (LD.fA (J := j) (f := 0) rfl m2 (foc_same ..) rfl hJ hl rfl (by omega) (by repeat constructor) rfl) rfl rfl ?_
    refine .e (EF.stA (i := 0) rfl rfl rfl rfl rfl rfl (by repeat constructor)) rfl rfl ?_
    refine .q (LD.assign rfl) rfl rfl ?_
    refine TL.nilS ?_
    refine TC.ret ?_
    repeat first | refine Post.sr ?_ | refine Post.br ?_
    exact Out.introE (X := [_]) (L0 := [_, _]) (L' := [_]) (Res.c rfl (LV.aggL m0 (by repeat constructor) rfl) (Res.t rfl Res.z)) ⟨by rw [bgetV, show wbOf f line = some x from hf]; rfl, rfl⟩ (.refl _) (Ent.fold _)
open Mes in
theorem w_bList (room : Int) (f : List Mes.WB) (p : Nat) (r : Frag) (hr : IsBuf room f p r) (hlen : f.length ≤ 100000)  : FnRN Tryz.prog 119 [.pointer (some ⟨p, 0, none⟩)] r (fun u r' => IsSl 142 10 (f.map encWB) u r') := by
  refine Fn.body Tryz.func119 rfl rfl rfl (Nat.le_of_ble_eq_true rfl) fun F => ?_
  obtain ⟨v, s, hs, hd, rfl⟩ := hr
  refine TC.unfold (pair_disj hd) ?_
  refine TC.seq ?_
  refine TC.region ?_
  refine .q (LD.assign rfl) rfl rfl ?_
  refine TL.nilS ?_
  refine TC.seq ?_
  refine TC.region ?_
  refine .q (LD.move rfl) rfl rfl ?_
  refine .q (LD.nilCheck rfl) rfl rfl ?_
  refine .q (LD.fieldAddr rfl) rfl rfl ?_
  refine .q (LD.ld1 rfl m0 rfl) rfl rfl ?_
  obtain ⟨q, cap, rfl, hrd⟩ := hs.rd
  refine TL.crn (CL.func rfl) (w_Clonewriteback_Entry _ q cap s hrd (by simpa using by omega)) m1 (Wants.un rfl) rfl ?_
  intro v2 r2 hs2
  refine .q (LD.assign rfl) rfl rfl ?_
  refine TL.nilS ?_
  refine TC.ret ?_
  repeat first | refine Post.sr ?_ | refine Post.br ?_
  refine Out.introE (X := []) (L0 := [_, _, _]) (L' := [_, _]) (Res.t rfl Res.z) ⟨_, hs2, rfl⟩ (.refl _) (Ent.foldc _ [_, _])
end Go.SL.TryzI
