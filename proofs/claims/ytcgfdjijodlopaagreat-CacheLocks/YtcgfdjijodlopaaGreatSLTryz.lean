/- A part of proofs about the given program. No condition. -/
import Derived.Test.YtcgfdjijodlopaaGreatEa
import Derived.Test.YtcgfdjijodlopaaGreatProg
set_option linter.all false
/- What the walks need to know of the types, and of the functions: printed. -/
namespace Go.SL.TryzI
open Go Go.Proofs Go.SL
set_option maxRecDepth 100000
instance one1 : One Tryz.prog 1 := ⟨Tryz.isAgg1, Tryz.sizeOf1⟩
instance zero1 : ZeroV Tryz.prog 1 #[Go.Value.nilFunc] := ⟨fun w => ⟨_, Tryz.zeroValue1 w, rfl⟩⟩
instance elem1 : ElemT Tryz.prog 1 1 8 Go.Value.nilFunc := ⟨⟨_, Tryz.type1, rfl, rfl, rfl⟩, rfl⟩
instance one2 : One Tryz.prog 2 := ⟨Tryz.isAgg2, Tryz.sizeOf2⟩
instance zero2 : ZeroV Tryz.prog 2 #[(Go.Value.int Go.IntKind.i64 0)] := ⟨fun w => ⟨_, Tryz.zeroValue2 w, rfl⟩⟩
instance elem2 : ElemT Tryz.prog 2 1 8 (Go.Value.int Go.IntKind.i64 0) := ⟨⟨_, Tryz.type2, rfl, rfl, rfl⟩, rfl⟩
instance one3 : One Tryz.prog 3 := ⟨Tryz.isAgg3, Tryz.sizeOf3⟩
instance zero3 : ZeroV Tryz.prog 3 #[(Go.Value.int Go.IntKind.i64 0)] := ⟨fun w => ⟨_, Tryz.zeroValue3 w, rfl⟩⟩
instance elem3 : ElemT Tryz.prog 3 1 8 (Go.Value.int Go.IntKind.i64 0) := ⟨⟨_, Tryz.type3, rfl, rfl, rfl⟩, rfl⟩
instance one4 : One Tryz.prog 4 := ⟨Tryz.isAgg4, Tryz.sizeOf4⟩
instance zero4 : ZeroV Tryz.prog 4 #[(Go.Value.bool false)] := ⟨fun w => ⟨_, Tryz.zeroValue4 w, rfl⟩⟩
instance elem4 : ElemT Tryz.prog 4 1 1 (Go.Value.bool false) := ⟨⟨_, Tryz.type4, rfl, rfl, rfl⟩, rfl⟩
instance one5 : One Tryz.prog 5 := ⟨Tryz.isAgg5, Tryz.sizeOf5⟩
instance zero5 : ZeroV Tryz.prog 5 #[(Go.Value.int Go.IntKind.u8 0)] := ⟨fun w => ⟨_, Tryz.zeroValue5 w, rfl⟩⟩
instance elem5 : ElemT Tryz.prog 5 1 1 (Go.Value.int Go.IntKind.u8 0) := ⟨⟨_, Tryz.type5, rfl, rfl, rfl⟩, rfl⟩
instance one6 : One Tryz.prog 6 := ⟨Tryz.isAgg6, Tryz.sizeOf6⟩
instance zero6 : ZeroV Tryz.prog 6 #[(Go.Value.int Go.IntKind.u8 0)] := ⟨fun w => ⟨_, Tryz.zeroValue6 w, rfl⟩⟩
instance elem6 : ElemT Tryz.prog 6 1 1 (Go.Value.int Go.IntKind.u8 0) := ⟨⟨_, Tryz.type6, rfl, rfl, rfl⟩, rfl⟩
instance agg7 : Agg Tryz.prog 7 4 := ⟨Tryz.isAgg7, Tryz.sizeOf7⟩
instance zero7 : ZeroV Tryz.prog 7 #[Go.Value.int Go.IntKind.i64 0, Go.Value.int Go.IntKind.i64 0, Go.Value.bool false, Go.Value.int Go.IntKind.u8 0] := ⟨fun w => ⟨_, Tryz.zeroValue7 w, rfl⟩⟩
instance fieldx7x0 : FieldAt Tryz.prog 7 0 0 := .of' Tryz.underlying7 rfl rfl Tryz.sizeOf2
instance fieldx7x1 : FieldAt Tryz.prog 7 1 1 := .of' Tryz.underlying7 rfl rfl Tryz.sizeOf3
instance fieldx7x2 : FieldAt Tryz.prog 7 2 2 := .of' Tryz.underlying7 rfl rfl Tryz.sizeOf4
instance fieldx7x3 : FieldAt Tryz.prog 7 3 3 := .of' Tryz.underlying7 rfl rfl Tryz.sizeOf6
instance struct7 : StructT Tryz.prog 7 #[(0, 1), (1, 1), (2, 1), (3, 1)] := ⟨fun w => ⟨_, Tryz.runUnderlying7 w, by simp [Tryz.sizeOf2, Tryz.sizeOf3, Tryz.sizeOf4, Tryz.sizeOf6]⟩⟩
instance elem7 : ElemT Tryz.prog 7 4 24 (Go.Value.agg #[Go.Value.int Go.IntKind.i64 0, Go.Value.int Go.IntKind.i64 0, Go.Value.bool false, Go.Value.int Go.IntKind.u8 0]) := ⟨⟨_, Tryz.type7, rfl, rfl, rfl⟩, rfl⟩
instance agg8 : Agg Tryz.prog 8 4 := ⟨Tryz.isAgg8, Tryz.sizeOf8⟩
instance zero8 : ZeroV Tryz.prog 8 #[Go.Value.int Go.IntKind.i64 0, Go.Value.int Go.IntKind.i64 0, Go.Value.bool false, Go.Value.int Go.IntKind.u8 0] := ⟨fun w => ⟨_, Tryz.zeroValue8 w, rfl⟩⟩
instance fieldx8x0 : FieldAt Tryz.prog 8 0 0 := .of' Tryz.underlying8 rfl rfl Tryz.sizeOf2
instance fieldx8x1 : FieldAt Tryz.prog 8 1 1 := .of' Tryz.underlying8 rfl rfl Tryz.sizeOf3
instance fieldx8x2 : FieldAt Tryz.prog 8 2 2 := .of' Tryz.underlying8 rfl rfl Tryz.sizeOf4
instance fieldx8x3 : FieldAt Tryz.prog 8 3 3 := .of' Tryz.underlying8 rfl rfl Tryz.sizeOf6
instance struct8 : StructT Tryz.prog 8 #[(0, 1), (1, 1), (2, 1), (3, 1)] := ⟨fun w => ⟨_, Tryz.runUnderlying8 w, by simp [Tryz.sizeOf2, Tryz.sizeOf3, Tryz.sizeOf4, Tryz.sizeOf6]⟩⟩
instance elem8 : ElemT Tryz.prog 8 4 24 (Go.Value.agg #[Go.Value.int Go.IntKind.i64 0, Go.Value.int Go.IntKind.i64 0, Go.Value.bool false, Go.Value.int Go.IntKind.u8 0]) := ⟨⟨_, Tryz.type8, rfl, rfl, rfl⟩, rfl⟩
instance one9 : One Tryz.prog 9 := ⟨Tryz.isAgg9, Tryz.sizeOf9⟩
instance zero9 : ZeroV Tryz.prog 9 #[(Go.Value.string { data := #[] })] := ⟨fun w => ⟨_, Tryz.zeroValue9 w, rfl⟩⟩
instance elem9 : ElemT Tryz.prog 9 1 16 (Go.Value.string { data := #[] }) := ⟨⟨_, Tryz.type9, rfl, rfl, rfl⟩, rfl⟩
instance one10 : One Tryz.prog 10 := ⟨Tryz.isAgg10, Tryz.sizeOf10⟩
instance zero10 : ZeroV Tryz.prog 10 #[(Go.Value.string { data := #[] })] := ⟨fun w => ⟨_, Tryz.zeroValue10 w, rfl⟩⟩
instance elem10 : ElemT Tryz.prog 10 1 16 (Go.Value.string { data := #[] }) := ⟨⟨_, Tryz.type10, rfl, rfl, rfl⟩, rfl⟩
instance one11 : One Tryz.prog 11 := ⟨Tryz.isAgg11, Tryz.sizeOf11⟩
instance zero11 : ZeroV Tryz.prog 11 #[(Go.Value.string { data := #[] })] := ⟨fun w => ⟨_, Tryz.zeroValue11 w, rfl⟩⟩
instance elem11 : ElemT Tryz.prog 11 1 16 (Go.Value.string { data := #[] }) := ⟨⟨_, Tryz.type11, rfl, rfl, rfl⟩, rfl⟩
instance one12 : One Tryz.prog 12 := ⟨Tryz.isAgg12, Tryz.sizeOf12⟩
instance zero12 : ZeroV Tryz.prog 12 #[(Go.Value.int Go.IntKind.u64 0)] := ⟨fun w => ⟨_, Tryz.zeroValue12 w, rfl⟩⟩
instance elem12 : ElemT Tryz.prog 12 1 8 (Go.Value.int Go.IntKind.u64 0) := ⟨⟨_, Tryz.type12, rfl, rfl, rfl⟩, rfl⟩
instance agg13 : Agg Tryz.prog 13 2 := ⟨Tryz.isAgg13, Tryz.sizeOf13⟩
instance zero13 : ZeroV Tryz.prog 13 #[Go.Value.string { data := #[] }, Go.Value.int Go.IntKind.u64 0] := ⟨fun w => ⟨_, Tryz.zeroValue13 w, rfl⟩⟩
instance fieldx13x0 : FieldAt Tryz.prog 13 0 0 := .of' Tryz.underlying13 rfl rfl Tryz.sizeOf9
instance fieldx13x1 : FieldAt Tryz.prog 13 1 1 := .of' Tryz.underlying13 rfl rfl Tryz.sizeOf12
instance struct13 : StructT Tryz.prog 13 #[(0, 1), (1, 1)] := ⟨fun w => ⟨_, Tryz.runUnderlying13 w, by simp [Tryz.sizeOf9, Tryz.sizeOf12]⟩⟩
instance elem13 : ElemT Tryz.prog 13 2 24 (Go.Value.agg #[Go.Value.string { data := #[] }, Go.Value.int Go.IntKind.u64 0]) := ⟨⟨_, Tryz.type13, rfl, rfl, rfl⟩, rfl⟩
instance agg14 : Agg Tryz.prog 14 2 := ⟨Tryz.isAgg14, Tryz.sizeOf14⟩
instance zero14 : ZeroV Tryz.prog 14 #[Go.Value.string { data := #[] }, Go.Value.int Go.IntKind.u64 0] := ⟨fun w => ⟨_, Tryz.zeroValue14 w, rfl⟩⟩
instance fieldx14x0 : FieldAt Tryz.prog 14 0 0 := .of' Tryz.underlying14 rfl rfl Tryz.sizeOf9
instance fieldx14x1 : FieldAt Tryz.prog 14 1 1 := .of' Tryz.underlying14 rfl rfl Tryz.sizeOf12
instance struct14 : StructT Tryz.prog 14 #[(0, 1), (1, 1)] := ⟨fun w => ⟨_, Tryz.runUnderlying14 w, by simp [Tryz.sizeOf9, Tryz.sizeOf12]⟩⟩
instance elem14 : ElemT Tryz.prog 14 2 24 (Go.Value.agg #[Go.Value.string { data := #[] }, Go.Value.int Go.IntKind.u64 0]) := ⟨⟨_, Tryz.type14, rfl, rfl, rfl⟩, rfl⟩
instance one15 : One Tryz.prog 15 := ⟨Tryz.isAgg15, Tryz.sizeOf15⟩
instance zero15 : ZeroV Tryz.prog 15 #[(Go.Value.pointer none)] := ⟨fun w => ⟨_, Tryz.zeroValue15 w, rfl⟩⟩
instance elem15 : ElemT Tryz.prog 15 1 8 (Go.Value.pointer none) := ⟨⟨_, Tryz.type15, rfl, rfl, rfl⟩, rfl⟩
instance one16 : One Tryz.prog 16 := ⟨Tryz.isAgg16, Tryz.sizeOf16⟩
instance zero16 : ZeroV Tryz.prog 16 #[(Go.Value.pointer none)] := ⟨fun w => ⟨_, Tryz.zeroValue16 w, rfl⟩⟩
instance elem16 : ElemT Tryz.prog 16 1 8 (Go.Value.pointer none) := ⟨⟨_, Tryz.type16, rfl, rfl, rfl⟩, rfl⟩
instance one17 : One Tryz.prog 17 := ⟨Tryz.isAgg17, Tryz.sizeOf17⟩
instance zero17 : ZeroV Tryz.prog 17 #[(Go.Value.pointer none)] := ⟨fun w => ⟨_, Tryz.zeroValue17 w, rfl⟩⟩
instance elem17 : ElemT Tryz.prog 17 1 8 (Go.Value.pointer none) := ⟨⟨_, Tryz.type17, rfl, rfl, rfl⟩, rfl⟩
instance agg18 : Agg Tryz.prog 18 1 := ⟨Tryz.isAgg18, Tryz.sizeOf18⟩
instance zero18 : ZeroV Tryz.prog 18 #[Go.Value.pointer none] := ⟨fun w => ⟨_, Tryz.zeroValue18 w, rfl⟩⟩
instance fieldx18x0 : FieldAt Tryz.prog 18 0 0 := .of' Tryz.underlying18 rfl rfl Tryz.sizeOf17
instance struct18 : StructT Tryz.prog 18 #[(0, 1)] := ⟨fun w => ⟨_, Tryz.runUnderlying18 w, by simp [Tryz.sizeOf17]⟩⟩
instance elem18 : ElemT Tryz.prog 18 1 8 (Go.Value.agg #[Go.Value.pointer none]) := ⟨⟨_, Tryz.type18, rfl, rfl, rfl⟩, rfl⟩
instance agg19 : Agg Tryz.prog 19 1 := ⟨Tryz.isAgg19, Tryz.sizeOf19⟩
instance zero19 : ZeroV Tryz.prog 19 #[Go.Value.pointer none] := ⟨fun w => ⟨_, Tryz.zeroValue19 w, rfl⟩⟩
instance fieldx19x0 : FieldAt Tryz.prog 19 0 0 := .of' Tryz.underlying19 rfl rfl Tryz.sizeOf17
instance struct19 : StructT Tryz.prog 19 #[(0, 1)] := ⟨fun w => ⟨_, Tryz.runUnderlying19 w, by simp [Tryz.sizeOf17]⟩⟩
instance elem19 : ElemT Tryz.prog 19 1 8 (Go.Value.agg #[Go.Value.pointer none]) := ⟨⟨_, Tryz.type19, rfl, rfl, rfl⟩, rfl⟩
instance one20 : One Tryz.prog 20 := ⟨Tryz.isAgg20, Tryz.sizeOf20⟩
instance zero20 : ZeroV Tryz.prog 20 #[Go.Value.nilIface] := ⟨fun w => ⟨_, Tryz.zeroValue20 w, rfl⟩⟩
instance elem20 : ElemT Tryz.prog 20 1 16 Go.Value.nilIface := ⟨⟨_, Tryz.type20, rfl, rfl, rfl⟩, rfl⟩
instance one21 : One Tryz.prog 21 := ⟨Tryz.isAgg21, Tryz.sizeOf21⟩
instance zero21 : ZeroV Tryz.prog 21 #[(Go.Value.int Go.IntKind.i32 0)] := ⟨fun w => ⟨_, Tryz.zeroValue21 w, rfl⟩⟩
instance elem21 : ElemT Tryz.prog 21 1 4 (Go.Value.int Go.IntKind.i32 0) := ⟨⟨_, Tryz.type21, rfl, rfl, rfl⟩, rfl⟩
instance agg22 : Agg Tryz.prog 22 3 := ⟨Tryz.isAgg22, Tryz.sizeOf22⟩
instance zero22 : ZeroV Tryz.prog 22 #[Go.Value.int Go.IntKind.i64 0, Go.Value.int Go.IntKind.i64 0, Go.Value.int Go.IntKind.i64 0] := ⟨fun w => ⟨_, Tryz.zeroValue22 w, rfl⟩⟩
instance arr22 : ArrT Tryz.prog 22 3 3 1 := ⟨Tryz.underlying22, Tryz.sizeOf3⟩
instance elem22 : ElemT Tryz.prog 22 3 24 (Go.Value.agg #[Go.Value.int Go.IntKind.i64 0, Go.Value.int Go.IntKind.i64 0, Go.Value.int Go.IntKind.i64 0]) := ⟨⟨_, Tryz.type22, rfl, rfl, rfl⟩, rfl⟩
instance agg23 : Agg Tryz.prog 23 13 := ⟨Tryz.isAgg23, Tryz.sizeOf23⟩
instance zero23 : ZeroV Tryz.prog 23 #[Go.Value.int Go.IntKind.i64 0, Go.Value.int Go.IntKind.i64 0, Go.Value.int Go.IntKind.i64 0,       Go.Value.int Go.IntKind.i64 0, Go.Value.int Go.IntKind.i64 0, Go.Value.int Go.IntKind.i64 0,       Go.Value.int Go.IntKind.i64 0, Go.Value.int Go.IntKind.i64 0, Go.Value.int Go.IntKind.i64 0,       Go.Value.int Go.IntKind.i64 0, Go.Value.int Go.IntKind.i64 0, Go.Value.int Go.IntKind.i64 0,       Go.Value.int Go.IntKind.i64 0] := ⟨fun w => ⟨_, Tryz.zeroValue23 w, rfl⟩⟩
instance fieldx23x0 : FieldAt Tryz.prog 23 0 0 := .of' Tryz.underlying23 rfl rfl Tryz.sizeOf3
instance fieldx23x1 : FieldAt Tryz.prog 23 1 1 := .of' Tryz.underlying23 rfl rfl Tryz.sizeOf3
instance fieldx23x2 : FieldAt Tryz.prog 23 2 2 := .of' Tryz.underlying23 rfl rfl Tryz.sizeOf3
instance fieldx23x3 : FieldAt Tryz.prog 23 3 3 := .of' Tryz.underlying23 rfl rfl Tryz.sizeOf3
instance fieldx23x4 : FieldAt Tryz.prog 23 4 4 := .of' Tryz.underlying23 rfl rfl Tryz.sizeOf3
instance fieldx23x5 : FieldAt Tryz.prog 23 5 5 := .of' Tryz.underlying23 rfl rfl Tryz.sizeOf3
instance fieldx23x6 : FieldAt Tryz.prog 23 6 6 := .of' Tryz.underlying23 rfl rfl Tryz.sizeOf3
instance fieldx23x7 : FieldAt Tryz.prog 23 7 7 := .of' Tryz.underlying23 rfl rfl Tryz.sizeOf3
instance fieldx23x8 : FieldAt Tryz.prog 23 8 8 := .of' Tryz.underlying23 rfl rfl Tryz.sizeOf3
instance fieldx23x9 : FieldAt Tryz.prog 23 9 9 := .of' Tryz.underlying23 rfl rfl Tryz.sizeOf3
instance fieldx23x10 : FieldAt Tryz.prog 23 10 10 := .of' Tryz.underlying23 rfl rfl Tryz.sizeOf22
instance struct23 : StructT Tryz.prog 23 #[(0, 1), (1, 1), (2, 1), (3, 1), (4, 1), (5, 1), (6, 1), (7, 1), (8, 1), (9, 1), (10, 3)] := ⟨fun w => ⟨_, Tryz.runUnderlying23 w, by simp [Tryz.sizeOf3, Tryz.sizeOf22]⟩⟩
instance elem23 : ElemT Tryz.prog 23 13 104 (Go.Value.agg #[Go.Value.int Go.IntKind.i64 0, Go.Value.int Go.IntKind.i64 0, Go.Value.int Go.IntKind.i64 0, Go.Value.int Go.IntKind.i64 0, Go.Value.int Go.IntKind.i64 0, Go.Value.int Go.IntKind.i64 0, Go.Value.int Go.IntKind.i64 0, Go.Value.int Go.IntKind.i64 0, Go.Value.int Go.IntKind.i64 0, Go.Value.int Go.IntKind.i64 0, Go.Value.int Go.IntKind.i64 0, Go.Value.int Go.IntKind.i64 0, Go.Value.int Go.IntKind.i64 0]) := ⟨⟨_, Tryz.type23, rfl, rfl, rfl⟩, rfl⟩
instance agg24 : Agg Tryz.prog 24 13 := ⟨Tryz.isAgg24, Tryz.sizeOf24⟩
instance zero24 : ZeroV Tryz.prog 24 #[Go.Value.int Go.IntKind.i64 0, Go.Value.int Go.IntKind.i64 0, Go.Value.int Go.IntKind.i64 0,       Go.Value.int Go.IntKind.i64 0, Go.Value.int Go.IntKind.i64 0, Go.Value.int Go.IntKind.i64 0,       Go.Value.int Go.IntKind.i64 0, Go.Value.int Go.IntKind.i64 0, Go.Value.int Go.IntKind.i64 0,       Go.Value.int Go.IntKind.i64 0, Go.Value.int Go.IntKind.i64 0, Go.Value.int Go.IntKind.i64 0,       Go.Value.int Go.IntKind.i64 0] := ⟨fun w => ⟨_, Tryz.zeroValue24 w, rfl⟩⟩
instance fieldx24x0 : FieldAt Tryz.prog 24 0 0 := .of' Tryz.underlying24 rfl rfl Tryz.sizeOf3
instance fieldx24x1 : FieldAt Tryz.prog 24 1 1 := .of' Tryz.underlying24 rfl rfl Tryz.sizeOf3
instance fieldx24x2 : FieldAt Tryz.prog 24 2 2 := .of' Tryz.underlying24 rfl rfl Tryz.sizeOf3
instance fieldx24x3 : FieldAt Tryz.prog 24 3 3 := .of' Tryz.underlying24 rfl rfl Tryz.sizeOf3
instance fieldx24x4 : FieldAt Tryz.prog 24 4 4 := .of' Tryz.underlying24 rfl rfl Tryz.sizeOf3
instance fieldx24x5 : FieldAt Tryz.prog 24 5 5 := .of' Tryz.underlying24 rfl rfl Tryz.sizeOf3
instance fieldx24x6 : FieldAt Tryz.prog 24 6 6 := .of' Tryz.underlying24 rfl rfl Tryz.sizeOf3
instance fieldx24x7 : FieldAt Tryz.prog 24 7 7 := .of' Tryz.underlying24 rfl rfl Tryz.sizeOf3
instance fieldx24x8 : FieldAt Tryz.prog 24 8 8 := .of' Tryz.underlying24 rfl rfl Tryz.sizeOf3
instance fieldx24x9 : FieldAt Tryz.prog 24 9 9 := .of' Tryz.underlying24 rfl rfl Tryz.sizeOf3
instance fieldx24x10 : FieldAt Tryz.prog 24 10 10 := .of' Tryz.underlying24 rfl rfl Tryz.sizeOf22
instance struct24 : StructT Tryz.prog 24 #[(0, 1), (1, 1), (2, 1), (3, 1), (4, 1), (5, 1), (6, 1), (7, 1), (8, 1), (9, 1), (10, 3)] := ⟨fun w => ⟨_, Tryz.runUnderlying24 w, by simp [Tryz.sizeOf3, Tryz.sizeOf22]⟩⟩
instance elem24 : ElemT Tryz.prog 24 13 104 (Go.Value.agg #[Go.Value.int Go.IntKind.i64 0, Go.Value.int Go.IntKind.i64 0, Go.Value.int Go.IntKind.i64 0, Go.Value.int Go.IntKind.i64 0, Go.Value.int Go.IntKind.i64 0, Go.Value.int Go.IntKind.i64 0, Go.Value.int Go.IntKind.i64 0, Go.Value.int Go.IntKind.i64 0, Go.Value.int Go.IntKind.i64 0, Go.Value.int Go.IntKind.i64 0, Go.Value.int Go.IntKind.i64 0, Go.Value.int Go.IntKind.i64 0, Go.Value.int Go.IntKind.i64 0]) := ⟨⟨_, Tryz.type24, rfl, rfl, rfl⟩, rfl⟩
instance one25 : One Tryz.prog 25 := ⟨Tryz.isAgg25, Tryz.sizeOf25⟩
instance zero25 : ZeroV Tryz.prog 25 #[(Go.Value.slice none 0 0)] := ⟨fun w => ⟨_, Tryz.zeroValue25 w, rfl⟩⟩
instance slice25 : SliceT Tryz.prog 25 45 21 := ⟨Tryz.underlying25, Tryz.sizeOf45⟩
instance elem25 : ElemT Tryz.prog 25 1 24 (Go.Value.slice none 0 0) := ⟨⟨_, Tryz.type25, rfl, rfl, rfl⟩, rfl⟩
instance one26 : One Tryz.prog 26 := ⟨Tryz.isAgg26, Tryz.sizeOf26⟩
instance zero26 : ZeroV Tryz.prog 26 #[Go.Value.nilFunc] := ⟨fun w => ⟨_, Tryz.zeroValue26 w, rfl⟩⟩
instance elem26 : ElemT Tryz.prog 26 1 8 Go.Value.nilFunc := ⟨⟨_, Tryz.type26, rfl, rfl, rfl⟩, rfl⟩
instance one27 : One Tryz.prog 27 := ⟨Tryz.isAgg27, Tryz.sizeOf27⟩
instance zero27 : ZeroV Tryz.prog 27 #[Go.Value.nilFunc] := ⟨fun w => ⟨_, Tryz.zeroValue27 w, rfl⟩⟩
instance elem27 : ElemT Tryz.prog 27 1 8 Go.Value.nilFunc := ⟨⟨_, Tryz.type27, rfl, rfl, rfl⟩, rfl⟩
instance one28 : One Tryz.prog 28 := ⟨Tryz.isAgg28, Tryz.sizeOf28⟩
instance zero28 : ZeroV Tryz.prog 28 #[(Go.Value.pointer none)] := ⟨fun w => ⟨_, Tryz.zeroValue28 w, rfl⟩⟩
instance elem28 : ElemT Tryz.prog 28 1 8 (Go.Value.pointer none) := ⟨⟨_, Tryz.type28, rfl, rfl, rfl⟩, rfl⟩
instance one29 : One Tryz.prog 29 := ⟨Tryz.isAgg29, Tryz.sizeOf29⟩
instance zero29 : ZeroV Tryz.prog 29 #[(Go.Value.int Go.IntKind.i64 0)] := ⟨fun w => ⟨_, Tryz.zeroValue29 w, rfl⟩⟩
instance elem29 : ElemT Tryz.prog 29 1 8 (Go.Value.int Go.IntKind.i64 0) := ⟨⟨_, Tryz.type29, rfl, rfl, rfl⟩, rfl⟩
instance one31 : One Tryz.prog 31 := ⟨Tryz.isAgg31, Tryz.sizeOf31⟩
instance zero31 : ZeroV Tryz.prog 31 #[Go.Value.nilFunc] := ⟨fun w => ⟨_, Tryz.zeroValue31 w, rfl⟩⟩
instance elem31 : ElemT Tryz.prog 31 1 8 Go.Value.nilFunc := ⟨⟨_, Tryz.type31, rfl, rfl, rfl⟩, rfl⟩
instance one32 : One Tryz.prog 32 := ⟨Tryz.isAgg32, Tryz.sizeOf32⟩
instance zero32 : ZeroV Tryz.prog 32 #[(Go.Value.pointer none)] := ⟨fun w => ⟨_, Tryz.zeroValue32 w, rfl⟩⟩
instance elem32 : ElemT Tryz.prog 32 1 8 (Go.Value.pointer none) := ⟨⟨_, Tryz.type32, rfl, rfl, rfl⟩, rfl⟩
instance one34 : One Tryz.prog 34 := ⟨Tryz.isAgg34, Tryz.sizeOf34⟩
instance zero34 : ZeroV Tryz.prog 34 #[Go.Value.nilFunc] := ⟨fun w => ⟨_, Tryz.zeroValue34 w, rfl⟩⟩
instance elem34 : ElemT Tryz.prog 34 1 8 Go.Value.nilFunc := ⟨⟨_, Tryz.type34, rfl, rfl, rfl⟩, rfl⟩
instance agg35 : Agg Tryz.prog 35 8 := ⟨Tryz.isAgg35, Tryz.sizeOf35⟩
instance zero35 : ZeroV Tryz.prog 35 #[Go.Value.int Go.IntKind.i64 0, Go.Value.int Go.IntKind.i64 0, Go.Value.int Go.IntKind.i64 0,       Go.Value.int Go.IntKind.i64 0, Go.Value.int Go.IntKind.i64 0, Go.Value.int Go.IntKind.i64 0,       Go.Value.int Go.IntKind.i64 0, Go.Value.int Go.IntKind.i64 0] := ⟨fun w => ⟨_, Tryz.zeroValue35 w, rfl⟩⟩
instance arr35 : ArrT Tryz.prog 35 8 3 1 := ⟨Tryz.underlying35, Tryz.sizeOf3⟩
instance elem35 : ElemT Tryz.prog 35 8 64 (Go.Value.agg #[Go.Value.int Go.IntKind.i64 0, Go.Value.int Go.IntKind.i64 0, Go.Value.int Go.IntKind.i64 0, Go.Value.int Go.IntKind.i64 0, Go.Value.int Go.IntKind.i64 0, Go.Value.int Go.IntKind.i64 0, Go.Value.int Go.IntKind.i64 0, Go.Value.int Go.IntKind.i64 0]) := ⟨⟨_, Tryz.type35, rfl, rfl, rfl⟩, rfl⟩
instance agg36 : Agg Tryz.prog 36 8 := ⟨Tryz.isAgg36, Tryz.sizeOf36⟩
instance zero36 : ZeroV Tryz.prog 36 #[Go.Value.int Go.IntKind.i64 0, Go.Value.int Go.IntKind.i64 0, Go.Value.int Go.IntKind.i64 0,       Go.Value.int Go.IntKind.i64 0, Go.Value.int Go.IntKind.i64 0, Go.Value.int Go.IntKind.i64 0,       Go.Value.int Go.IntKind.i64 0, Go.Value.int Go.IntKind.i64 0] := ⟨fun w => ⟨_, Tryz.zeroValue36 w, rfl⟩⟩
instance arr36 : ArrT Tryz.prog 36 8 3 1 := ⟨Tryz.underlying36, Tryz.sizeOf3⟩
instance elem36 : ElemT Tryz.prog 36 8 64 (Go.Value.agg #[Go.Value.int Go.IntKind.i64 0, Go.Value.int Go.IntKind.i64 0, Go.Value.int Go.IntKind.i64 0, Go.Value.int Go.IntKind.i64 0, Go.Value.int Go.IntKind.i64 0, Go.Value.int Go.IntKind.i64 0, Go.Value.int Go.IntKind.i64 0, Go.Value.int Go.IntKind.i64 0]) := ⟨⟨_, Tryz.type36, rfl, rfl, rfl⟩, rfl⟩
instance agg37 : Agg Tryz.prog 37 15 := ⟨Tryz.isAgg37, Tryz.sizeOf37⟩
instance zero37 : ZeroV Tryz.prog 37 #[Go.Value.int Go.IntKind.i64 0, Go.Value.int Go.IntKind.i64 0, Go.Value.int Go.IntKind.i64 0,       Go.Value.int Go.IntKind.i64 0, Go.Value.int Go.IntKind.i64 0, Go.Value.int Go.IntKind.i64 0,       Go.Value.int Go.IntKind.i64 0, Go.Value.int Go.IntKind.i64 0, Go.Value.int Go.IntKind.i64 0,       Go.Value.int Go.IntKind.i64 0, Go.Value.int Go.IntKind.i64 0, Go.Value.int Go.IntKind.i64 0,       Go.Value.int Go.IntKind.i64 0, Go.Value.int Go.IntKind.i64 0, Go.Value.int Go.IntKind.i64 0] := ⟨fun w => ⟨_, Tryz.zeroValue37 w, rfl⟩⟩
instance fieldx37x0 : FieldAt Tryz.prog 37 0 0 := .of' Tryz.underlying37 rfl rfl Tryz.sizeOf3
instance fieldx37x1 : FieldAt Tryz.prog 37 1 1 := .of' Tryz.underlying37 rfl rfl Tryz.sizeOf3
instance fieldx37x2 : FieldAt Tryz.prog 37 2 2 := .of' Tryz.underlying37 rfl rfl Tryz.sizeOf3
instance fieldx37x3 : FieldAt Tryz.prog 37 3 3 := .of' Tryz.underlying37 rfl rfl Tryz.sizeOf3
instance fieldx37x4 : FieldAt Tryz.prog 37 4 4 := .of' Tryz.underlying37 rfl rfl Tryz.sizeOf3
instance fieldx37x5 : FieldAt Tryz.prog 37 5 5 := .of' Tryz.underlying37 rfl rfl Tryz.sizeOf3
instance fieldx37x6 : FieldAt Tryz.prog 37 6 6 := .of' Tryz.underlying37 rfl rfl Tryz.sizeOf3
instance fieldx37x7 : FieldAt Tryz.prog 37 7 7 := .of' Tryz.underlying37 rfl rfl Tryz.sizeOf36
instance struct37 : StructT Tryz.prog 37 #[(0, 1), (1, 1), (2, 1), (3, 1), (4, 1), (5, 1), (6, 1), (7, 8)] := ⟨fun w => ⟨_, Tryz.runUnderlying37 w, by simp [Tryz.sizeOf3, Tryz.sizeOf36]⟩⟩
instance elem37 : ElemT Tryz.prog 37 15 120 (Go.Value.agg #[Go.Value.int Go.IntKind.i64 0, Go.Value.int Go.IntKind.i64 0, Go.Value.int Go.IntKind.i64 0, Go.Value.int Go.IntKind.i64 0, Go.Value.int Go.IntKind.i64 0, Go.Value.int Go.IntKind.i64 0, Go.Value.int Go.IntKind.i64 0, Go.Value.int Go.IntKind.i64 0, Go.Value.int Go.IntKind.i64 0, Go.Value.int Go.IntKind.i64 0, Go.Value.int Go.IntKind.i64 0, Go.Value.int Go.IntKind.i64 0, Go.Value.int Go.IntKind.i64 0, Go.Value.int Go.IntKind.i64 0, Go.Value.int Go.IntKind.i64 0]) := ⟨⟨_, Tryz.type37, rfl, rfl, rfl⟩, rfl⟩
instance agg38 : Agg Tryz.prog 38 15 := ⟨Tryz.isAgg38, Tryz.sizeOf38⟩
instance zero38 : ZeroV Tryz.prog 38 #[Go.Value.int Go.IntKind.i64 0, Go.Value.int Go.IntKind.i64 0, Go.Value.int Go.IntKind.i64 0,       Go.Value.int Go.IntKind.i64 0, Go.Value.int Go.IntKind.i64 0, Go.Value.int Go.IntKind.i64 0,       Go.Value.int Go.IntKind.i64 0, Go.Value.int Go.IntKind.i64 0, Go.Value.int Go.IntKind.i64 0,       Go.Value.int Go.IntKind.i64 0, Go.Value.int Go.IntKind.i64 0, Go.Value.int Go.IntKind.i64 0,       Go.Value.int Go.IntKind.i64 0, Go.Value.int Go.IntKind.i64 0, Go.Value.int Go.IntKind.i64 0] := ⟨fun w => ⟨_, Tryz.zeroValue38 w, rfl⟩⟩
instance fieldx38x0 : FieldAt Tryz.prog 38 0 0 := .of' Tryz.underlying38 rfl rfl Tryz.sizeOf3
instance fieldx38x1 : FieldAt Tryz.prog 38 1 1 := .of' Tryz.underlying38 rfl rfl Tryz.sizeOf3
instance fieldx38x2 : FieldAt Tryz.prog 38 2 2 := .of' Tryz.underlying38 rfl rfl Tryz.sizeOf3
instance fieldx38x3 : FieldAt Tryz.prog 38 3 3 := .of' Tryz.underlying38 rfl rfl Tryz.sizeOf3
instance fieldx38x4 : FieldAt Tryz.prog 38 4 4 := .of' Tryz.underlying38 rfl rfl Tryz.sizeOf3
instance fieldx38x5 : FieldAt Tryz.prog 38 5 5 := .of' Tryz.underlying38 rfl rfl Tryz.sizeOf3
instance fieldx38x6 : FieldAt Tryz.prog 38 6 6 := .of' Tryz.underlying38 rfl rfl Tryz.sizeOf3
instance fieldx38x7 : FieldAt Tryz.prog 38 7 7 := .of' Tryz.underlying38 rfl rfl Tryz.sizeOf36
instance struct38 : StructT Tryz.prog 38 #[(0, 1), (1, 1), (2, 1), (3, 1), (4, 1), (5, 1), (6, 1), (7, 8)] := ⟨fun w => ⟨_, Tryz.runUnderlying38 w, by simp [Tryz.sizeOf3, Tryz.sizeOf36]⟩⟩
instance elem38 : ElemT Tryz.prog 38 15 120 (Go.Value.agg #[Go.Value.int Go.IntKind.i64 0, Go.Value.int Go.IntKind.i64 0, Go.Value.int Go.IntKind.i64 0, Go.Value.int Go.IntKind.i64 0, Go.Value.int Go.IntKind.i64 0, Go.Value.int Go.IntKind.i64 0, Go.Value.int Go.IntKind.i64 0, Go.Value.int Go.IntKind.i64 0, Go.Value.int Go.IntKind.i64 0, Go.Value.int Go.IntKind.i64 0, Go.Value.int Go.IntKind.i64 0, Go.Value.int Go.IntKind.i64 0, Go.Value.int Go.IntKind.i64 0, Go.Value.int Go.IntKind.i64 0, Go.Value.int Go.IntKind.i64 0]) := ⟨⟨_, Tryz.type38, rfl, rfl, rfl⟩, rfl⟩
instance agg39 : Agg Tryz.prog 39 18 := ⟨Tryz.isAgg39, Tryz.sizeOf39⟩
instance zero39 : ZeroV Tryz.prog 39 #[Go.Value.int Go.IntKind.i64 0, Go.Value.int Go.IntKind.i64 0, Go.Value.int Go.IntKind.i64 0,       Go.Value.int Go.IntKind.i64 0, Go.Value.int Go.IntKind.i64 0, Go.Value.int Go.IntKind.i64 0,       Go.Value.int Go.IntKind.i64 0, Go.Value.int Go.IntKind.i64 0, Go.Value.int Go.IntKind.i64 0,       Go.Value.int Go.IntKind.i64 0, Go.Value.int Go.IntKind.i64 0, Go.Value.int Go.IntKind.i64 0,       Go.Value.int Go.IntKind.i64 0, Go.Value.int Go.IntKind.i64 0, Go.Value.int Go.IntKind.i64 0, Go.Value.bool false,       Go.Value.int Go.IntKind.i64 0, Go.Value.int Go.IntKind.i64 0] := ⟨fun w => ⟨_, Tryz.zeroValue39 w, rfl⟩⟩
instance fieldx39x0 : FieldAt Tryz.prog 39 0 0 := .of' Tryz.underlying39 rfl rfl Tryz.sizeOf38
instance fieldx39x1 : FieldAt Tryz.prog 39 1 15 := .of' Tryz.underlying39 rfl rfl Tryz.sizeOf4
instance fieldx39x2 : FieldAt Tryz.prog 39 2 16 := .of' Tryz.underlying39 rfl rfl Tryz.sizeOf3
instance fieldx39x3 : FieldAt Tryz.prog 39 3 17 := .of' Tryz.underlying39 rfl rfl Tryz.sizeOf29
instance struct39 : StructT Tryz.prog 39 #[(0, 15), (15, 1), (16, 1), (17, 1)] := ⟨fun w => ⟨_, Tryz.runUnderlying39 w, by simp [Tryz.sizeOf3, Tryz.sizeOf4, Tryz.sizeOf29, Tryz.sizeOf38]⟩⟩
instance elem39 : ElemT Tryz.prog 39 18 144 (Go.Value.agg #[Go.Value.int Go.IntKind.i64 0, Go.Value.int Go.IntKind.i64 0, Go.Value.int Go.IntKind.i64 0, Go.Value.int Go.IntKind.i64 0, Go.Value.int Go.IntKind.i64 0, Go.Value.int Go.IntKind.i64 0, Go.Value.int Go.IntKind.i64 0, Go.Value.int Go.IntKind.i64 0, Go.Value.int Go.IntKind.i64 0, Go.Value.int Go.IntKind.i64 0, Go.Value.int Go.IntKind.i64 0, Go.Value.int Go.IntKind.i64 0, Go.Value.int Go.IntKind.i64 0, Go.Value.int Go.IntKind.i64 0, Go.Value.int Go.IntKind.i64 0, Go.Value.bool false, Go.Value.int Go.IntKind.i64 0, Go.Value.int Go.IntKind.i64 0]) := ⟨⟨_, Tryz.type39, rfl, rfl, rfl⟩, rfl⟩
instance agg40 : Agg Tryz.prog 40 18 := ⟨Tryz.isAgg40, Tryz.sizeOf40⟩
instance zero40 : ZeroV Tryz.prog 40 #[Go.Value.int Go.IntKind.i64 0, Go.Value.int Go.IntKind.i64 0, Go.Value.int Go.IntKind.i64 0,       Go.Value.int Go.IntKind.i64 0, Go.Value.int Go.IntKind.i64 0, Go.Value.int Go.IntKind.i64 0,       Go.Value.int Go.IntKind.i64 0, Go.Value.int Go.IntKind.i64 0, Go.Value.int Go.IntKind.i64 0,       Go.Value.int Go.IntKind.i64 0, Go.Value.int Go.IntKind.i64 0, Go.Value.int Go.IntKind.i64 0,       Go.Value.int Go.IntKind.i64 0, Go.Value.int Go.IntKind.i64 0, Go.Value.int Go.IntKind.i64 0, Go.Value.bool false,       Go.Value.int Go.IntKind.i64 0, Go.Value.int Go.IntKind.i64 0] := ⟨fun w => ⟨_, Tryz.zeroValue40 w, rfl⟩⟩
instance fieldx40x0 : FieldAt Tryz.prog 40 0 0 := .of' Tryz.underlying40 rfl rfl Tryz.sizeOf38
instance fieldx40x1 : FieldAt Tryz.prog 40 1 15 := .of' Tryz.underlying40 rfl rfl Tryz.sizeOf4
instance fieldx40x2 : FieldAt Tryz.prog 40 2 16 := .of' Tryz.underlying40 rfl rfl Tryz.sizeOf3
instance fieldx40x3 : FieldAt Tryz.prog 40 3 17 := .of' Tryz.underlying40 rfl rfl Tryz.sizeOf29
instance struct40 : StructT Tryz.prog 40 #[(0, 15), (15, 1), (16, 1), (17, 1)] := ⟨fun w => ⟨_, Tryz.runUnderlying40 w, by simp [Tryz.sizeOf3, Tryz.sizeOf4, Tryz.sizeOf29, Tryz.sizeOf38]⟩⟩
instance elem40 : ElemT Tryz.prog 40 18 144 (Go.Value.agg #[Go.Value.int Go.IntKind.i64 0, Go.Value.int Go.IntKind.i64 0, Go.Value.int Go.IntKind.i64 0, Go.Value.int Go.IntKind.i64 0, Go.Value.int Go.IntKind.i64 0, Go.Value.int Go.IntKind.i64 0, Go.Value.int Go.IntKind.i64 0, Go.Value.int Go.IntKind.i64 0, Go.Value.int Go.IntKind.i64 0, Go.Value.int Go.IntKind.i64 0, Go.Value.int Go.IntKind.i64 0, Go.Value.int Go.IntKind.i64 0, Go.Value.int Go.IntKind.i64 0, Go.Value.int Go.IntKind.i64 0, Go.Value.int Go.IntKind.i64 0, Go.Value.bool false, Go.Value.int Go.IntKind.i64 0, Go.Value.int Go.IntKind.i64 0]) := ⟨⟨_, Tryz.type40, rfl, rfl, rfl⟩, rfl⟩
instance one41 : One Tryz.prog 41 := ⟨Tryz.isAgg41, Tryz.sizeOf41⟩
instance zero41 : ZeroV Tryz.prog 41 #[Go.Value.nilFunc] := ⟨fun w => ⟨_, Tryz.zeroValue41 w, rfl⟩⟩
instance elem41 : ElemT Tryz.prog 41 1 8 Go.Value.nilFunc := ⟨⟨_, Tryz.type41, rfl, rfl, rfl⟩, rfl⟩
instance agg42 : Agg Tryz.prog 42 3 := ⟨Tryz.isAgg42, Tryz.sizeOf42⟩
instance zero42 : ZeroV Tryz.prog 42 #[Go.Value.int Go.IntKind.i64 0, Go.Value.int Go.IntKind.i64 0, Go.Value.int Go.IntKind.i64 0] := ⟨fun w => ⟨_, Tryz.zeroValue42 w, rfl⟩⟩
instance fieldx42x0 : FieldAt Tryz.prog 42 0 0 := .of' Tryz.underlying42 rfl rfl Tryz.sizeOf3
instance fieldx42x1 : FieldAt Tryz.prog 42 1 1 := .of' Tryz.underlying42 rfl rfl Tryz.sizeOf3
instance fieldx42x2 : FieldAt Tryz.prog 42 2 2 := .of' Tryz.underlying42 rfl rfl Tryz.sizeOf3
instance struct42 : StructT Tryz.prog 42 #[(0, 1), (1, 1), (2, 1)] := ⟨fun w => ⟨_, Tryz.runUnderlying42 w, by simp [Tryz.sizeOf3]⟩⟩
instance elem42 : ElemT Tryz.prog 42 3 24 (Go.Value.agg #[Go.Value.int Go.IntKind.i64 0, Go.Value.int Go.IntKind.i64 0, Go.Value.int Go.IntKind.i64 0]) := ⟨⟨_, Tryz.type42, rfl, rfl, rfl⟩, rfl⟩
instance agg43 : Agg Tryz.prog 43 3 := ⟨Tryz.isAgg43, Tryz.sizeOf43⟩
instance zero43 : ZeroV Tryz.prog 43 #[Go.Value.int Go.IntKind.i64 0, Go.Value.int Go.IntKind.i64 0, Go.Value.int Go.IntKind.i64 0] := ⟨fun w => ⟨_, Tryz.zeroValue43 w, rfl⟩⟩
instance fieldx43x0 : FieldAt Tryz.prog 43 0 0 := .of' Tryz.underlying43 rfl rfl Tryz.sizeOf3
instance fieldx43x1 : FieldAt Tryz.prog 43 1 1 := .of' Tryz.underlying43 rfl rfl Tryz.sizeOf3
instance fieldx43x2 : FieldAt Tryz.prog 43 2 2 := .of' Tryz.underlying43 rfl rfl Tryz.sizeOf3
instance struct43 : StructT Tryz.prog 43 #[(0, 1), (1, 1), (2, 1)] := ⟨fun w => ⟨_, Tryz.runUnderlying43 w, by simp [Tryz.sizeOf3]⟩⟩
instance elem43 : ElemT Tryz.prog 43 3 24 (Go.Value.agg #[Go.Value.int Go.IntKind.i64 0, Go.Value.int Go.IntKind.i64 0, Go.Value.int Go.IntKind.i64 0]) := ⟨⟨_, Tryz.type43, rfl, rfl, rfl⟩, rfl⟩
instance agg44 : Agg Tryz.prog 44 21 := ⟨Tryz.isAgg44, Tryz.sizeOf44⟩
instance zero44 : ZeroV Tryz.prog 44 #[Go.Value.int Go.IntKind.i64 0, Go.Value.int Go.IntKind.i64 0, Go.Value.int Go.IntKind.i64 0,       Go.Value.int Go.IntKind.i64 0, Go.Value.int Go.IntKind.i64 0, Go.Value.int Go.IntKind.i64 0,       Go.Value.int Go.IntKind.i64 0, Go.Value.int Go.IntKind.i64 0, Go.Value.int Go.IntKind.i64 0,       Go.Value.int Go.IntKind.i64 0, Go.Value.int Go.IntKind.i64 0, Go.Value.int Go.IntKind.i64 0,       Go.Value.int Go.IntKind.i64 0, Go.Value.int Go.IntKind.i64 0, Go.Value.int Go.IntKind.i64 0,       Go.Value.int Go.IntKind.i64 0, Go.Value.int Go.IntKind.i64 0, Go.Value.int Go.IntKind.i64 0,       Go.Value.int Go.IntKind.i64 0, Go.Value.int Go.IntKind.i64 0, Go.Value.int Go.IntKind.i64 0] := ⟨fun w => ⟨_, Tryz.zeroValue44 w, rfl⟩⟩
instance fieldx44x0 : FieldAt Tryz.prog 44 0 0 := .of' Tryz.underlying44 rfl rfl Tryz.sizeOf3
instance fieldx44x1 : FieldAt Tryz.prog 44 1 1 := .of' Tryz.underlying44 rfl rfl Tryz.sizeOf3
instance fieldx44x2 : FieldAt Tryz.prog 44 2 2 := .of' Tryz.underlying44 rfl rfl Tryz.sizeOf3
instance fieldx44x3 : FieldAt Tryz.prog 44 3 3 := .of' Tryz.underlying44 rfl rfl Tryz.sizeOf38
instance fieldx44x4 : FieldAt Tryz.prog 44 4 18 := .of' Tryz.underlying44 rfl rfl Tryz.sizeOf43
instance struct44 : StructT Tryz.prog 44 #[(0, 1), (1, 1), (2, 1), (3, 15), (18, 3)] := ⟨fun w => ⟨_, Tryz.runUnderlying44 w, by simp [Tryz.sizeOf3, Tryz.sizeOf38, Tryz.sizeOf43]⟩⟩
instance elem44 : ElemT Tryz.prog 44 21 168 (Go.Value.agg #[Go.Value.int Go.IntKind.i64 0, Go.Value.int Go.IntKind.i64 0, Go.Value.int Go.IntKind.i64 0, Go.Value.int Go.IntKind.i64 0, Go.Value.int Go.IntKind.i64 0, Go.Value.int Go.IntKind.i64 0, Go.Value.int Go.IntKind.i64 0, Go.Value.int Go.IntKind.i64 0, Go.Value.int Go.IntKind.i64 0, Go.Value.int Go.IntKind.i64 0, Go.Value.int Go.IntKind.i64 0, Go.Value.int Go.IntKind.i64 0, Go.Value.int Go.IntKind.i64 0, Go.Value.int Go.IntKind.i64 0, Go.Value.int Go.IntKind.i64 0, Go.Value.int Go.IntKind.i64 0, Go.Value.int Go.IntKind.i64 0, Go.Value.int Go.IntKind.i64 0, Go.Value.int Go.IntKind.i64 0, Go.Value.int Go.IntKind.i64 0, Go.Value.int Go.IntKind.i64 0]) := ⟨⟨_, Tryz.type44, rfl, rfl, rfl⟩, rfl⟩
instance agg45 : Agg Tryz.prog 45 21 := ⟨Tryz.isAgg45, Tryz.sizeOf45⟩
instance zero45 : ZeroV Tryz.prog 45 #[Go.Value.int Go.IntKind.i64 0, Go.Value.int Go.IntKind.i64 0, Go.Value.int Go.IntKind.i64 0,       Go.Value.int Go.IntKind.i64 0, Go.Value.int Go.IntKind.i64 0, Go.Value.int Go.IntKind.i64 0,       Go.Value.int Go.IntKind.i64 0, Go.Value.int Go.IntKind.i64 0, Go.Value.int Go.IntKind.i64 0,       Go.Value.int Go.IntKind.i64 0, Go.Value.int Go.IntKind.i64 0, Go.Value.int Go.IntKind.i64 0,       Go.Value.int Go.IntKind.i64 0, Go.Value.int Go.IntKind.i64 0, Go.Value.int Go.IntKind.i64 0,       Go.Value.int Go.IntKind.i64 0, Go.Value.int Go.IntKind.i64 0, Go.Value.int Go.IntKind.i64 0,       Go.Value.int Go.IntKind.i64 0, Go.Value.int Go.IntKind.i64 0, Go.Value.int Go.IntKind.i64 0] := ⟨fun w => ⟨_, Tryz.zeroValue45 w, rfl⟩⟩
instance fieldx45x0 : FieldAt Tryz.prog 45 0 0 := .of' Tryz.underlying45 rfl rfl Tryz.sizeOf3
instance fieldx45x1 : FieldAt Tryz.prog 45 1 1 := .of' Tryz.underlying45 rfl rfl Tryz.sizeOf3
instance fieldx45x2 : FieldAt Tryz.prog 45 2 2 := .of' Tryz.underlying45 rfl rfl Tryz.sizeOf3
instance fieldx45x3 : FieldAt Tryz.prog 45 3 3 := .of' Tryz.underlying45 rfl rfl Tryz.sizeOf38
instance fieldx45x4 : FieldAt Tryz.prog 45 4 18 := .of' Tryz.underlying45 rfl rfl Tryz.sizeOf43
instance struct45 : StructT Tryz.prog 45 #[(0, 1), (1, 1), (2, 1), (3, 15), (18, 3)] := ⟨fun w => ⟨_, Tryz.runUnderlying45 w, by simp [Tryz.sizeOf3, Tryz.sizeOf38, Tryz.sizeOf43]⟩⟩
instance elem45 : ElemT Tryz.prog 45 21 168 (Go.Value.agg #[Go.Value.int Go.IntKind.i64 0, Go.Value.int Go.IntKind.i64 0, Go.Value.int Go.IntKind.i64 0, Go.Value.int Go.IntKind.i64 0, Go.Value.int Go.IntKind.i64 0, Go.Value.int Go.IntKind.i64 0, Go.Value.int Go.IntKind.i64 0, Go.Value.int Go.IntKind.i64 0, Go.Value.int Go.IntKind.i64 0, Go.Value.int Go.IntKind.i64 0, Go.Value.int Go.IntKind.i64 0, Go.Value.int Go.IntKind.i64 0, Go.Value.int Go.IntKind.i64 0, Go.Value.int Go.IntKind.i64 0, Go.Value.int Go.IntKind.i64 0, Go.Value.int Go.IntKind.i64 0, Go.Value.int Go.IntKind.i64 0, Go.Value.int Go.IntKind.i64 0, Go.Value.int Go.IntKind.i64 0, Go.Value.int Go.IntKind.i64 0, Go.Value.int Go.IntKind.i64 0]) := ⟨⟨_, Tryz.type45, rfl, rfl, rfl⟩, rfl⟩
instance one46 : One Tryz.prog 46 := ⟨Tryz.isAgg46, Tryz.sizeOf46⟩
instance zero46 : ZeroV Tryz.prog 46 #[Go.Value.nilFunc] := ⟨fun w => ⟨_, Tryz.zeroValue46 w, rfl⟩⟩
instance elem46 : ElemT Tryz.prog 46 1 8 Go.Value.nilFunc := ⟨⟨_, Tryz.type46, rfl, rfl, rfl⟩, rfl⟩
instance one47 : One Tryz.prog 47 := ⟨Tryz.isAgg47, Tryz.sizeOf47⟩
instance zero47 : ZeroV Tryz.prog 47 #[(Go.Value.slice none 0 0)] := ⟨fun w => ⟨_, Tryz.zeroValue47 w, rfl⟩⟩
instance slice47 : SliceT Tryz.prog 47 69 11 := ⟨Tryz.underlying47, Tryz.sizeOf69⟩
instance elem47 : ElemT Tryz.prog 47 1 24 (Go.Value.slice none 0 0) := ⟨⟨_, Tryz.type47, rfl, rfl, rfl⟩, rfl⟩
instance one48 : One Tryz.prog 48 := ⟨Tryz.isAgg48, Tryz.sizeOf48⟩
instance zero48 : ZeroV Tryz.prog 48 #[(Go.Value.slice none 0 0)] := ⟨fun w => ⟨_, Tryz.zeroValue48 w, rfl⟩⟩
instance slice48 : SliceT Tryz.prog 48 75 15 := ⟨Tryz.underlying48, Tryz.sizeOf75⟩
instance elem48 : ElemT Tryz.prog 48 1 24 (Go.Value.slice none 0 0) := ⟨⟨_, Tryz.type48, rfl, rfl, rfl⟩, rfl⟩
instance one49 : One Tryz.prog 49 := ⟨Tryz.isAgg49, Tryz.sizeOf49⟩
instance zero49 : ZeroV Tryz.prog 49 #[(Go.Value.slice none 0 0)] := ⟨fun w => ⟨_, Tryz.zeroValue49 w, rfl⟩⟩
instance slice49 : SliceT Tryz.prog 49 77 10 := ⟨Tryz.underlying49, Tryz.sizeOf77⟩
instance elem49 : ElemT Tryz.prog 49 1 24 (Go.Value.slice none 0 0) := ⟨⟨_, Tryz.type49, rfl, rfl, rfl⟩, rfl⟩
instance agg50 : Agg Tryz.prog 50 3 := ⟨Tryz.isAgg50, Tryz.sizeOf50⟩
instance zero50 : ZeroV Tryz.prog 50 #[Go.Value.slice none 0 0, Go.Value.slice none 0 0, Go.Value.slice none 0 0] := ⟨fun w => ⟨_, Tryz.zeroValue50 w, rfl⟩⟩
instance fieldx50x0 : FieldAt Tryz.prog 50 0 0 := .of' Tryz.underlying50 rfl rfl Tryz.sizeOf47
instance fieldx50x1 : FieldAt Tryz.prog 50 1 1 := .of' Tryz.underlying50 rfl rfl Tryz.sizeOf48
instance fieldx50x2 : FieldAt Tryz.prog 50 2 2 := .of' Tryz.underlying50 rfl rfl Tryz.sizeOf49
instance struct50 : StructT Tryz.prog 50 #[(0, 1), (1, 1), (2, 1)] := ⟨fun w => ⟨_, Tryz.runUnderlying50 w, by simp [Tryz.sizeOf47, Tryz.sizeOf48, Tryz.sizeOf49]⟩⟩
instance elem50 : ElemT Tryz.prog 50 3 72 (Go.Value.agg #[Go.Value.slice none 0 0, Go.Value.slice none 0 0, Go.Value.slice none 0 0]) := ⟨⟨_, Tryz.type50, rfl, rfl, rfl⟩, rfl⟩
instance agg51 : Agg Tryz.prog 51 3 := ⟨Tryz.isAgg51, Tryz.sizeOf51⟩
instance zero51 : ZeroV Tryz.prog 51 #[Go.Value.slice none 0 0, Go.Value.slice none 0 0, Go.Value.slice none 0 0] := ⟨fun w => ⟨_, Tryz.zeroValue51 w, rfl⟩⟩
instance fieldx51x0 : FieldAt Tryz.prog 51 0 0 := .of' Tryz.underlying51 rfl rfl Tryz.sizeOf47
instance fieldx51x1 : FieldAt Tryz.prog 51 1 1 := .of' Tryz.underlying51 rfl rfl Tryz.sizeOf48
instance fieldx51x2 : FieldAt Tryz.prog 51 2 2 := .of' Tryz.underlying51 rfl rfl Tryz.sizeOf49
instance struct51 : StructT Tryz.prog 51 #[(0, 1), (1, 1), (2, 1)] := ⟨fun w => ⟨_, Tryz.runUnderlying51 w, by simp [Tryz.sizeOf47, Tryz.sizeOf48, Tryz.sizeOf49]⟩⟩
instance elem51 : ElemT Tryz.prog 51 3 72 (Go.Value.agg #[Go.Value.slice none 0 0, Go.Value.slice none 0 0, Go.Value.slice none 0 0]) := ⟨⟨_, Tryz.type51, rfl, rfl, rfl⟩, rfl⟩
instance one52 : One Tryz.prog 52 := ⟨Tryz.isAgg52, Tryz.sizeOf52⟩
instance zero52 : ZeroV Tryz.prog 52 #[Go.Value.nilFunc] := ⟨fun w => ⟨_, Tryz.zeroValue52 w, rfl⟩⟩
instance elem52 : ElemT Tryz.prog 52 1 8 Go.Value.nilFunc := ⟨⟨_, Tryz.type52, rfl, rfl, rfl⟩, rfl⟩
instance one53 : One Tryz.prog 53 := ⟨Tryz.isAgg53, Tryz.sizeOf53⟩
instance zero53 : ZeroV Tryz.prog 53 #[Go.Value.nilFunc] := ⟨fun w => ⟨_, Tryz.zeroValue53 w, rfl⟩⟩
instance elem53 : ElemT Tryz.prog 53 1 8 Go.Value.nilFunc := ⟨⟨_, Tryz.type53, rfl, rfl, rfl⟩, rfl⟩
instance agg54 : Agg Tryz.prog 54 14 := ⟨Tryz.isAgg54, Tryz.sizeOf54⟩
instance zero54 : ZeroV Tryz.prog 54 #[Go.Value.int Go.IntKind.i64 0, Go.Value.int Go.IntKind.i64 0, Go.Value.int Go.IntKind.i64 0,       Go.Value.int Go.IntKind.i64 0, Go.Value.int Go.IntKind.i64 0, Go.Value.int Go.IntKind.i64 0,       Go.Value.int Go.IntKind.i64 0, Go.Value.int Go.IntKind.i64 0, Go.Value.int Go.IntKind.i64 0,       Go.Value.int Go.IntKind.i64 0, Go.Value.int Go.IntKind.i64 0, Go.Value.int Go.IntKind.i64 0,       Go.Value.int Go.IntKind.i64 0, Go.Value.slice none 0 0] := ⟨fun w => ⟨_, Tryz.zeroValue54 w, rfl⟩⟩
instance fieldx54x0 : FieldAt Tryz.prog 54 0 0 := .of' Tryz.underlying54 rfl rfl Tryz.sizeOf24
instance fieldx54x1 : FieldAt Tryz.prog 54 1 13 := .of' Tryz.underlying54 rfl rfl Tryz.sizeOf47
instance struct54 : StructT Tryz.prog 54 #[(0, 13), (13, 1)] := ⟨fun w => ⟨_, Tryz.runUnderlying54 w, by simp [Tryz.sizeOf24, Tryz.sizeOf47]⟩⟩
instance elem54 : ElemT Tryz.prog 54 14 128 (Go.Value.agg #[Go.Value.int Go.IntKind.i64 0, Go.Value.int Go.IntKind.i64 0, Go.Value.int Go.IntKind.i64 0, Go.Value.int Go.IntKind.i64 0, Go.Value.int Go.IntKind.i64 0, Go.Value.int Go.IntKind.i64 0, Go.Value.int Go.IntKind.i64 0, Go.Value.int Go.IntKind.i64 0, Go.Value.int Go.IntKind.i64 0, Go.Value.int Go.IntKind.i64 0, Go.Value.int Go.IntKind.i64 0, Go.Value.int Go.IntKind.i64 0, Go.Value.int Go.IntKind.i64 0, Go.Value.slice none 0 0]) := ⟨⟨_, Tryz.type54, rfl, rfl, rfl⟩, rfl⟩
instance agg55 : Agg Tryz.prog 55 14 := ⟨Tryz.isAgg55, Tryz.sizeOf55⟩
instance zero55 : ZeroV Tryz.prog 55 #[Go.Value.int Go.IntKind.i64 0, Go.Value.int Go.IntKind.i64 0, Go.Value.int Go.IntKind.i64 0,       Go.Value.int Go.IntKind.i64 0, Go.Value.int Go.IntKind.i64 0, Go.Value.int Go.IntKind.i64 0,       Go.Value.int Go.IntKind.i64 0, Go.Value.int Go.IntKind.i64 0, Go.Value.int Go.IntKind.i64 0,       Go.Value.int Go.IntKind.i64 0, Go.Value.int Go.IntKind.i64 0, Go.Value.int Go.IntKind.i64 0,       Go.Value.int Go.IntKind.i64 0, Go.Value.slice none 0 0] := ⟨fun w => ⟨_, Tryz.zeroValue55 w, rfl⟩⟩
instance fieldx55x0 : FieldAt Tryz.prog 55 0 0 := .of' Tryz.underlying55 rfl rfl Tryz.sizeOf24
instance fieldx55x1 : FieldAt Tryz.prog 55 1 13 := .of' Tryz.underlying55 rfl rfl Tryz.sizeOf47
instance struct55 : StructT Tryz.prog 55 #[(0, 13), (13, 1)] := ⟨fun w => ⟨_, Tryz.runUnderlying55 w, by simp [Tryz.sizeOf24, Tryz.sizeOf47]⟩⟩
instance elem55 : ElemT Tryz.prog 55 14 128 (Go.Value.agg #[Go.Value.int Go.IntKind.i64 0, Go.Value.int Go.IntKind.i64 0, Go.Value.int Go.IntKind.i64 0, Go.Value.int Go.IntKind.i64 0, Go.Value.int Go.IntKind.i64 0, Go.Value.int Go.IntKind.i64 0, Go.Value.int Go.IntKind.i64 0, Go.Value.int Go.IntKind.i64 0, Go.Value.int Go.IntKind.i64 0, Go.Value.int Go.IntKind.i64 0, Go.Value.int Go.IntKind.i64 0, Go.Value.int Go.IntKind.i64 0, Go.Value.int Go.IntKind.i64 0, Go.Value.slice none 0 0]) := ⟨⟨_, Tryz.type55, rfl, rfl, rfl⟩, rfl⟩
instance one56 : One Tryz.prog 56 := ⟨Tryz.isAgg56, Tryz.sizeOf56⟩
instance zero56 : ZeroV Tryz.prog 56 #[(Go.Value.pointer none)] := ⟨fun w => ⟨_, Tryz.zeroValue56 w, rfl⟩⟩
instance elem56 : ElemT Tryz.prog 56 1 8 (Go.Value.pointer none) := ⟨⟨_, Tryz.type56, rfl, rfl, rfl⟩, rfl⟩
instance one57 : One Tryz.prog 57 := ⟨Tryz.isAgg57, Tryz.sizeOf57⟩
instance zero57 : ZeroV Tryz.prog 57 #[(Go.Value.pointer none)] := ⟨fun w => ⟨_, Tryz.zeroValue57 w, rfl⟩⟩
instance elem57 : ElemT Tryz.prog 57 1 8 (Go.Value.pointer none) := ⟨⟨_, Tryz.type57, rfl, rfl, rfl⟩, rfl⟩
instance one58 : One Tryz.prog 58 := ⟨Tryz.isAgg58, Tryz.sizeOf58⟩
instance zero58 : ZeroV Tryz.prog 58 #[(Go.Value.pointer none)] := ⟨fun w => ⟨_, Tryz.zeroValue58 w, rfl⟩⟩
instance elem58 : ElemT Tryz.prog 58 1 8 (Go.Value.pointer none) := ⟨⟨_, Tryz.type58, rfl, rfl, rfl⟩, rfl⟩
instance agg59 : Agg Tryz.prog 59 17 := ⟨Tryz.isAgg59, Tryz.sizeOf59⟩
instance zero59 : ZeroV Tryz.prog 59 #[Go.Value.int Go.IntKind.i64 0, Go.Value.int Go.IntKind.i64 0, Go.Value.int Go.IntKind.i64 0,       Go.Value.int Go.IntKind.i64 0, Go.Value.int Go.IntKind.i64 0, Go.Value.int Go.IntKind.i64 0,       Go.Value.int Go.IntKind.i64 0, Go.Value.int Go.IntKind.i64 0, Go.Value.int Go.IntKind.i64 0,       Go.Value.int Go.IntKind.i64 0, Go.Value.int Go.IntKind.i64 0, Go.Value.int Go.IntKind.i64 0,       Go.Value.int Go.IntKind.i64 0, Go.Value.int Go.IntKind.i64 0, Go.Value.pointer none, Go.Value.pointer none,       Go.Value.pointer none] := ⟨fun w => ⟨_, Tryz.zeroValue59 w, rfl⟩⟩
instance fieldx59x0 : FieldAt Tryz.prog 59 0 0 := .of' Tryz.underlying59 rfl rfl Tryz.sizeOf24
instance fieldx59x1 : FieldAt Tryz.prog 59 1 13 := .of' Tryz.underlying59 rfl rfl Tryz.sizeOf3
instance fieldx59x2 : FieldAt Tryz.prog 59 2 14 := .of' Tryz.underlying59 rfl rfl Tryz.sizeOf56
instance fieldx59x3 : FieldAt Tryz.prog 59 3 15 := .of' Tryz.underlying59 rfl rfl Tryz.sizeOf57
instance fieldx59x4 : FieldAt Tryz.prog 59 4 16 := .of' Tryz.underlying59 rfl rfl Tryz.sizeOf58
instance struct59 : StructT Tryz.prog 59 #[(0, 13), (13, 1), (14, 1), (15, 1), (16, 1)] := ⟨fun w => ⟨_, Tryz.runUnderlying59 w, by simp [Tryz.sizeOf3, Tryz.sizeOf24, Tryz.sizeOf56, Tryz.sizeOf57, Tryz.sizeOf58]⟩⟩
instance elem59 : ElemT Tryz.prog 59 17 136 (Go.Value.agg #[Go.Value.int Go.IntKind.i64 0, Go.Value.int Go.IntKind.i64 0, Go.Value.int Go.IntKind.i64 0, Go.Value.int Go.IntKind.i64 0, Go.Value.int Go.IntKind.i64 0, Go.Value.int Go.IntKind.i64 0, Go.Value.int Go.IntKind.i64 0, Go.Value.int Go.IntKind.i64 0, Go.Value.int Go.IntKind.i64 0, Go.Value.int Go.IntKind.i64 0, Go.Value.int Go.IntKind.i64 0, Go.Value.int Go.IntKind.i64 0, Go.Value.int Go.IntKind.i64 0, Go.Value.int Go.IntKind.i64 0, Go.Value.pointer none, Go.Value.pointer none, Go.Value.pointer none]) := ⟨⟨_, Tryz.type59, rfl, rfl, rfl⟩, rfl⟩
instance agg60 : Agg Tryz.prog 60 17 := ⟨Tryz.isAgg60, Tryz.sizeOf60⟩
instance zero60 : ZeroV Tryz.prog 60 #[Go.Value.int Go.IntKind.i64 0, Go.Value.int Go.IntKind.i64 0, Go.Value.int Go.IntKind.i64 0,       Go.Value.int Go.IntKind.i64 0, Go.Value.int Go.IntKind.i64 0, Go.Value.int Go.IntKind.i64 0,       Go.Value.int Go.IntKind.i64 0, Go.Value.int Go.IntKind.i64 0, Go.Value.int Go.IntKind.i64 0,       Go.Value.int Go.IntKind.i64 0, Go.Value.int Go.IntKind.i64 0, Go.Value.int Go.IntKind.i64 0,       Go.Value.int Go.IntKind.i64 0, Go.Value.int Go.IntKind.i64 0, Go.Value.pointer none, Go.Value.pointer none,       Go.Value.pointer none] := ⟨fun w => ⟨_, Tryz.zeroValue60 w, rfl⟩⟩
instance fieldx60x0 : FieldAt Tryz.prog 60 0 0 := .of' Tryz.underlying60 rfl rfl Tryz.sizeOf24
instance fieldx60x1 : FieldAt Tryz.prog 60 1 13 := .of' Tryz.underlying60 rfl rfl Tryz.sizeOf3
instance fieldx60x2 : FieldAt Tryz.prog 60 2 14 := .of' Tryz.underlying60 rfl rfl Tryz.sizeOf56
instance fieldx60x3 : FieldAt Tryz.prog 60 3 15 := .of' Tryz.underlying60 rfl rfl Tryz.sizeOf57
instance fieldx60x4 : FieldAt Tryz.prog 60 4 16 := .of' Tryz.underlying60 rfl rfl Tryz.sizeOf58
instance struct60 : StructT Tryz.prog 60 #[(0, 13), (13, 1), (14, 1), (15, 1), (16, 1)] := ⟨fun w => ⟨_, Tryz.runUnderlying60 w, by simp [Tryz.sizeOf3, Tryz.sizeOf24, Tryz.sizeOf56, Tryz.sizeOf57, Tryz.sizeOf58]⟩⟩
instance elem60 : ElemT Tryz.prog 60 17 136 (Go.Value.agg #[Go.Value.int Go.IntKind.i64 0, Go.Value.int Go.IntKind.i64 0, Go.Value.int Go.IntKind.i64 0, Go.Value.int Go.IntKind.i64 0, Go.Value.int Go.IntKind.i64 0, Go.Value.int Go.IntKind.i64 0, Go.Value.int Go.IntKind.i64 0, Go.Value.int Go.IntKind.i64 0, Go.Value.int Go.IntKind.i64 0, Go.Value.int Go.IntKind.i64 0, Go.Value.int Go.IntKind.i64 0, Go.Value.int Go.IntKind.i64 0, Go.Value.int Go.IntKind.i64 0, Go.Value.int Go.IntKind.i64 0, Go.Value.pointer none, Go.Value.pointer none, Go.Value.pointer none]) := ⟨⟨_, Tryz.type60, rfl, rfl, rfl⟩, rfl⟩
instance agg61 : Agg Tryz.prog 61 2 := ⟨Tryz.isAgg61, Tryz.sizeOf61⟩
instance zero61 : ZeroV Tryz.prog 61 #[Go.Value.int Go.IntKind.i64 0, Go.Value.slice none 0 0] := ⟨fun w => ⟨_, Tryz.zeroValue61 w, rfl⟩⟩
instance fieldx61x0 : FieldAt Tryz.prog 61 0 0 := .of' Tryz.underlying61 rfl rfl Tryz.sizeOf3
instance fieldx61x1 : FieldAt Tryz.prog 61 1 1 := .of' Tryz.underlying61 rfl rfl Tryz.sizeOf48
instance struct61 : StructT Tryz.prog 61 #[(0, 1), (1, 1)] := ⟨fun w => ⟨_, Tryz.runUnderlying61 w, by simp [Tryz.sizeOf3, Tryz.sizeOf48]⟩⟩
instance elem61 : ElemT Tryz.prog 61 2 32 (Go.Value.agg #[Go.Value.int Go.IntKind.i64 0, Go.Value.slice none 0 0]) := ⟨⟨_, Tryz.type61, rfl, rfl, rfl⟩, rfl⟩
instance agg62 : Agg Tryz.prog 62 2 := ⟨Tryz.isAgg62, Tryz.sizeOf62⟩
instance zero62 : ZeroV Tryz.prog 62 #[Go.Value.int Go.IntKind.i64 0, Go.Value.slice none 0 0] := ⟨fun w => ⟨_, Tryz.zeroValue62 w, rfl⟩⟩
instance fieldx62x0 : FieldAt Tryz.prog 62 0 0 := .of' Tryz.underlying62 rfl rfl Tryz.sizeOf3
instance fieldx62x1 : FieldAt Tryz.prog 62 1 1 := .of' Tryz.underlying62 rfl rfl Tryz.sizeOf48
instance struct62 : StructT Tryz.prog 62 #[(0, 1), (1, 1)] := ⟨fun w => ⟨_, Tryz.runUnderlying62 w, by simp [Tryz.sizeOf3, Tryz.sizeOf48]⟩⟩
instance elem62 : ElemT Tryz.prog 62 2 32 (Go.Value.agg #[Go.Value.int Go.IntKind.i64 0, Go.Value.slice none 0 0]) := ⟨⟨_, Tryz.type62, rfl, rfl, rfl⟩, rfl⟩
instance agg63 : Agg Tryz.prog 63 2 := ⟨Tryz.isAgg63, Tryz.sizeOf63⟩
instance zero63 : ZeroV Tryz.prog 63 #[Go.Value.int Go.IntKind.i64 0, Go.Value.slice none 0 0] := ⟨fun w => ⟨_, Tryz.zeroValue63 w, rfl⟩⟩
instance fieldx63x0 : FieldAt Tryz.prog 63 0 0 := .of' Tryz.underlying63 rfl rfl Tryz.sizeOf3
instance fieldx63x1 : FieldAt Tryz.prog 63 1 1 := .of' Tryz.underlying63 rfl rfl Tryz.sizeOf49
instance struct63 : StructT Tryz.prog 63 #[(0, 1), (1, 1)] := ⟨fun w => ⟨_, Tryz.runUnderlying63 w, by simp [Tryz.sizeOf3, Tryz.sizeOf49]⟩⟩
instance elem63 : ElemT Tryz.prog 63 2 32 (Go.Value.agg #[Go.Value.int Go.IntKind.i64 0, Go.Value.slice none 0 0]) := ⟨⟨_, Tryz.type63, rfl, rfl, rfl⟩, rfl⟩
instance agg64 : Agg Tryz.prog 64 2 := ⟨Tryz.isAgg64, Tryz.sizeOf64⟩
instance zero64 : ZeroV Tryz.prog 64 #[Go.Value.int Go.IntKind.i64 0, Go.Value.slice none 0 0] := ⟨fun w => ⟨_, Tryz.zeroValue64 w, rfl⟩⟩
instance fieldx64x0 : FieldAt Tryz.prog 64 0 0 := .of' Tryz.underlying64 rfl rfl Tryz.sizeOf3
instance fieldx64x1 : FieldAt Tryz.prog 64 1 1 := .of' Tryz.underlying64 rfl rfl Tryz.sizeOf49
instance struct64 : StructT Tryz.prog 64 #[(0, 1), (1, 1)] := ⟨fun w => ⟨_, Tryz.runUnderlying64 w, by simp [Tryz.sizeOf3, Tryz.sizeOf49]⟩⟩
instance elem64 : ElemT Tryz.prog 64 2 32 (Go.Value.agg #[Go.Value.int Go.IntKind.i64 0, Go.Value.slice none 0 0]) := ⟨⟨_, Tryz.type64, rfl, rfl, rfl⟩, rfl⟩
instance agg65 : Agg Tryz.prog 65 11 := ⟨Tryz.isAgg65, Tryz.sizeOf65⟩
instance zero65 : ZeroV Tryz.prog 65 #[Go.Value.int Go.IntKind.i64 0, Go.Value.int Go.IntKind.i64 0, Go.Value.int Go.IntKind.i64 0,       Go.Value.int Go.IntKind.i64 0, Go.Value.int Go.IntKind.i64 0, Go.Value.int Go.IntKind.i64 0,       Go.Value.int Go.IntKind.i64 0, Go.Value.int Go.IntKind.i64 0, Go.Value.int Go.IntKind.i64 0,       Go.Value.int Go.IntKind.i64 0, Go.Value.bool false] := ⟨fun w => ⟨_, Tryz.zeroValue65 w, rfl⟩⟩
instance fieldx65x0 : FieldAt Tryz.prog 65 0 0 := .of' Tryz.underlying65 rfl rfl Tryz.sizeOf3
instance fieldx65x1 : FieldAt Tryz.prog 65 1 1 := .of' Tryz.underlying65 rfl rfl Tryz.sizeOf3
instance fieldx65x2 : FieldAt Tryz.prog 65 2 2 := .of' Tryz.underlying65 rfl rfl Tryz.sizeOf36
instance fieldx65x3 : FieldAt Tryz.prog 65 3 10 := .of' Tryz.underlying65 rfl rfl Tryz.sizeOf4
instance struct65 : StructT Tryz.prog 65 #[(0, 1), (1, 1), (2, 8), (10, 1)] := ⟨fun w => ⟨_, Tryz.runUnderlying65 w, by simp [Tryz.sizeOf3, Tryz.sizeOf4, Tryz.sizeOf36]⟩⟩
instance elem65 : ElemT Tryz.prog 65 11 88 (Go.Value.agg #[Go.Value.int Go.IntKind.i64 0, Go.Value.int Go.IntKind.i64 0, Go.Value.int Go.IntKind.i64 0, Go.Value.int Go.IntKind.i64 0, Go.Value.int Go.IntKind.i64 0, Go.Value.int Go.IntKind.i64 0, Go.Value.int Go.IntKind.i64 0, Go.Value.int Go.IntKind.i64 0, Go.Value.int Go.IntKind.i64 0, Go.Value.int Go.IntKind.i64 0, Go.Value.bool false]) := ⟨⟨_, Tryz.type65, rfl, rfl, rfl⟩, rfl⟩
instance agg66 : Agg Tryz.prog 66 11 := ⟨Tryz.isAgg66, Tryz.sizeOf66⟩
instance zero66 : ZeroV Tryz.prog 66 #[Go.Value.int Go.IntKind.i64 0, Go.Value.int Go.IntKind.i64 0, Go.Value.int Go.IntKind.i64 0,       Go.Value.int Go.IntKind.i64 0, Go.Value.int Go.IntKind.i64 0, Go.Value.int Go.IntKind.i64 0,       Go.Value.int Go.IntKind.i64 0, Go.Value.int Go.IntKind.i64 0, Go.Value.int Go.IntKind.i64 0,       Go.Value.int Go.IntKind.i64 0, Go.Value.bool false] := ⟨fun w => ⟨_, Tryz.zeroValue66 w, rfl⟩⟩
instance fieldx66x0 : FieldAt Tryz.prog 66 0 0 := .of' Tryz.underlying66 rfl rfl Tryz.sizeOf3
instance fieldx66x1 : FieldAt Tryz.prog 66 1 1 := .of' Tryz.underlying66 rfl rfl Tryz.sizeOf3
instance fieldx66x2 : FieldAt Tryz.prog 66 2 2 := .of' Tryz.underlying66 rfl rfl Tryz.sizeOf36
instance fieldx66x3 : FieldAt Tryz.prog 66 3 10 := .of' Tryz.underlying66 rfl rfl Tryz.sizeOf4
instance struct66 : StructT Tryz.prog 66 #[(0, 1), (1, 1), (2, 8), (10, 1)] := ⟨fun w => ⟨_, Tryz.runUnderlying66 w, by simp [Tryz.sizeOf3, Tryz.sizeOf4, Tryz.sizeOf36]⟩⟩
instance elem66 : ElemT Tryz.prog 66 11 88 (Go.Value.agg #[Go.Value.int Go.IntKind.i64 0, Go.Value.int Go.IntKind.i64 0, Go.Value.int Go.IntKind.i64 0, Go.Value.int Go.IntKind.i64 0, Go.Value.int Go.IntKind.i64 0, Go.Value.int Go.IntKind.i64 0, Go.Value.int Go.IntKind.i64 0, Go.Value.int Go.IntKind.i64 0, Go.Value.int Go.IntKind.i64 0, Go.Value.int Go.IntKind.i64 0, Go.Value.bool false]) := ⟨⟨_, Tryz.type66, rfl, rfl, rfl⟩, rfl⟩
instance one68 : One Tryz.prog 68 := ⟨Tryz.isAgg68, Tryz.sizeOf68⟩
instance zero68 : ZeroV Tryz.prog 68 #[Go.Value.nilFunc] := ⟨fun w => ⟨_, Tryz.zeroValue68 w, rfl⟩⟩
instance elem68 : ElemT Tryz.prog 68 1 8 Go.Value.nilFunc := ⟨⟨_, Tryz.type68, rfl, rfl, rfl⟩, rfl⟩
instance agg69 : Agg Tryz.prog 69 11 := ⟨Tryz.isAgg69, Tryz.sizeOf69⟩
instance zero69 : ZeroV Tryz.prog 69 #[Go.Value.int Go.IntKind.i64 0, Go.Value.int Go.IntKind.i64 0, Go.Value.int Go.IntKind.i64 0,       Go.Value.int Go.IntKind.i64 0, Go.Value.int Go.IntKind.i64 0, Go.Value.int Go.IntKind.i64 0,       Go.Value.int Go.IntKind.i64 0, Go.Value.int Go.IntKind.i64 0, Go.Value.int Go.IntKind.i64 0,       Go.Value.int Go.IntKind.i64 0, Go.Value.bool false] := ⟨fun w => ⟨_, Tryz.zeroValue69 w, rfl⟩⟩
instance fieldx69x0 : FieldAt Tryz.prog 69 0 0 := .of' Tryz.underlying69 rfl rfl Tryz.sizeOf3
instance fieldx69x1 : FieldAt Tryz.prog 69 1 1 := .of' Tryz.underlying69 rfl rfl Tryz.sizeOf3
instance fieldx69x2 : FieldAt Tryz.prog 69 2 2 := .of' Tryz.underlying69 rfl rfl Tryz.sizeOf36
instance fieldx69x3 : FieldAt Tryz.prog 69 3 10 := .of' Tryz.underlying69 rfl rfl Tryz.sizeOf4
instance struct69 : StructT Tryz.prog 69 #[(0, 1), (1, 1), (2, 8), (10, 1)] := ⟨fun w => ⟨_, Tryz.runUnderlying69 w, by simp [Tryz.sizeOf3, Tryz.sizeOf4, Tryz.sizeOf36]⟩⟩
instance elem69 : ElemT Tryz.prog 69 11 88 (Go.Value.agg #[Go.Value.int Go.IntKind.i64 0, Go.Value.int Go.IntKind.i64 0, Go.Value.int Go.IntKind.i64 0, Go.Value.int Go.IntKind.i64 0, Go.Value.int Go.IntKind.i64 0, Go.Value.int Go.IntKind.i64 0, Go.Value.int Go.IntKind.i64 0, Go.Value.int Go.IntKind.i64 0, Go.Value.int Go.IntKind.i64 0, Go.Value.int Go.IntKind.i64 0, Go.Value.bool false]) := ⟨⟨_, Tryz.type69, rfl, rfl, rfl⟩, rfl⟩
instance one71 : One Tryz.prog 71 := ⟨Tryz.isAgg71, Tryz.sizeOf71⟩
instance zero71 : ZeroV Tryz.prog 71 #[Go.Value.nilFunc] := ⟨fun w => ⟨_, Tryz.zeroValue71 w, rfl⟩⟩
instance elem71 : ElemT Tryz.prog 71 1 8 Go.Value.nilFunc := ⟨⟨_, Tryz.type71, rfl, rfl, rfl⟩, rfl⟩
instance one72 : One Tryz.prog 72 := ⟨Tryz.isAgg72, Tryz.sizeOf72⟩
instance zero72 : ZeroV Tryz.prog 72 #[Go.Value.nilFunc] := ⟨fun w => ⟨_, Tryz.zeroValue72 w, rfl⟩⟩
instance elem72 : ElemT Tryz.prog 72 1 8 Go.Value.nilFunc := ⟨⟨_, Tryz.type72, rfl, rfl, rfl⟩, rfl⟩
instance one73 : One Tryz.prog 73 := ⟨Tryz.isAgg73, Tryz.sizeOf73⟩
instance zero73 : ZeroV Tryz.prog 73 #[Go.Value.nilFunc] := ⟨fun w => ⟨_, Tryz.zeroValue73 w, rfl⟩⟩
instance elem73 : ElemT Tryz.prog 73 1 8 Go.Value.nilFunc := ⟨⟨_, Tryz.type73, rfl, rfl, rfl⟩, rfl⟩
instance agg74 : Agg Tryz.prog 74 15 := ⟨Tryz.isAgg74, Tryz.sizeOf74⟩
instance zero74 : ZeroV Tryz.prog 74 #[Go.Value.int Go.IntKind.i64 0, Go.Value.int Go.IntKind.i64 0, Go.Value.int Go.IntKind.i64 0,       Go.Value.int Go.IntKind.i64 0, Go.Value.int Go.IntKind.i64 0, Go.Value.int Go.IntKind.i64 0,       Go.Value.int Go.IntKind.i64 0, Go.Value.int Go.IntKind.i64 0, Go.Value.int Go.IntKind.i64 0,       Go.Value.int Go.IntKind.i64 0, Go.Value.int Go.IntKind.i64 0, Go.Value.int Go.IntKind.i64 0,       Go.Value.int Go.IntKind.i64 0, Go.Value.bool false, Go.Value.bool false] := ⟨fun w => ⟨_, Tryz.zeroValue74 w, rfl⟩⟩
instance fieldx74x0 : FieldAt Tryz.prog 74 0 0 := .of' Tryz.underlying74 rfl rfl Tryz.sizeOf3
instance fieldx74x1 : FieldAt Tryz.prog 74 1 1 := .of' Tryz.underlying74 rfl rfl Tryz.sizeOf3
instance fieldx74x2 : FieldAt Tryz.prog 74 2 2 := .of' Tryz.underlying74 rfl rfl Tryz.sizeOf3
instance fieldx74x3 : FieldAt Tryz.prog 74 3 3 := .of' Tryz.underlying74 rfl rfl Tryz.sizeOf3
instance fieldx74x4 : FieldAt Tryz.prog 74 4 4 := .of' Tryz.underlying74 rfl rfl Tryz.sizeOf3
instance fieldx74x5 : FieldAt Tryz.prog 74 5 5 := .of' Tryz.underlying74 rfl rfl Tryz.sizeOf36
instance fieldx74x6 : FieldAt Tryz.prog 74 6 13 := .of' Tryz.underlying74 rfl rfl Tryz.sizeOf4
instance fieldx74x7 : FieldAt Tryz.prog 74 7 14 := .of' Tryz.underlying74 rfl rfl Tryz.sizeOf4
instance struct74 : StructT Tryz.prog 74 #[(0, 1), (1, 1), (2, 1), (3, 1), (4, 1), (5, 8), (13, 1), (14, 1)] := ⟨fun w => ⟨_, Tryz.runUnderlying74 w, by simp [Tryz.sizeOf3, Tryz.sizeOf4, Tryz.sizeOf36]⟩⟩
instance elem74 : ElemT Tryz.prog 74 15 112 (Go.Value.agg #[Go.Value.int Go.IntKind.i64 0, Go.Value.int Go.IntKind.i64 0, Go.Value.int Go.IntKind.i64 0, Go.Value.int Go.IntKind.i64 0, Go.Value.int Go.IntKind.i64 0, Go.Value.int Go.IntKind.i64 0, Go.Value.int Go.IntKind.i64 0, Go.Value.int Go.IntKind.i64 0, Go.Value.int Go.IntKind.i64 0, Go.Value.int Go.IntKind.i64 0, Go.Value.int Go.IntKind.i64 0, Go.Value.int Go.IntKind.i64 0, Go.Value.int Go.IntKind.i64 0, Go.Value.bool false, Go.Value.bool false]) := ⟨⟨_, Tryz.type74, rfl, rfl, rfl⟩, rfl⟩
instance agg75 : Agg Tryz.prog 75 15 := ⟨Tryz.isAgg75, Tryz.sizeOf75⟩
instance zero75 : ZeroV Tryz.prog 75 #[Go.Value.int Go.IntKind.i64 0, Go.Value.int Go.IntKind.i64 0, Go.Value.int Go.IntKind.i64 0,       Go.Value.int Go.IntKind.i64 0, Go.Value.int Go.IntKind.i64 0, Go.Value.int Go.IntKind.i64 0,       Go.Value.int Go.IntKind.i64 0, Go.Value.int Go.IntKind.i64 0, Go.Value.int Go.IntKind.i64 0,       Go.Value.int Go.IntKind.i64 0, Go.Value.int Go.IntKind.i64 0, Go.Value.int Go.IntKind.i64 0,       Go.Value.int Go.IntKind.i64 0, Go.Value.bool false, Go.Value.bool false] := ⟨fun w => ⟨_, Tryz.zeroValue75 w, rfl⟩⟩
instance fieldx75x0 : FieldAt Tryz.prog 75 0 0 := .of' Tryz.underlying75 rfl rfl Tryz.sizeOf3
instance fieldx75x1 : FieldAt Tryz.prog 75 1 1 := .of' Tryz.underlying75 rfl rfl Tryz.sizeOf3
instance fieldx75x2 : FieldAt Tryz.prog 75 2 2 := .of' Tryz.underlying75 rfl rfl Tryz.sizeOf3
instance fieldx75x3 : FieldAt Tryz.prog 75 3 3 := .of' Tryz.underlying75 rfl rfl Tryz.sizeOf3
instance fieldx75x4 : FieldAt Tryz.prog 75 4 4 := .of' Tryz.underlying75 rfl rfl Tryz.sizeOf3
instance fieldx75x5 : FieldAt Tryz.prog 75 5 5 := .of' Tryz.underlying75 rfl rfl Tryz.sizeOf36
instance fieldx75x6 : FieldAt Tryz.prog 75 6 13 := .of' Tryz.underlying75 rfl rfl Tryz.sizeOf4
instance fieldx75x7 : FieldAt Tryz.prog 75 7 14 := .of' Tryz.underlying75 rfl rfl Tryz.sizeOf4
instance struct75 : StructT Tryz.prog 75 #[(0, 1), (1, 1), (2, 1), (3, 1), (4, 1), (5, 8), (13, 1), (14, 1)] := ⟨fun w => ⟨_, Tryz.runUnderlying75 w, by simp [Tryz.sizeOf3, Tryz.sizeOf4, Tryz.sizeOf36]⟩⟩
instance elem75 : ElemT Tryz.prog 75 15 112 (Go.Value.agg #[Go.Value.int Go.IntKind.i64 0, Go.Value.int Go.IntKind.i64 0, Go.Value.int Go.IntKind.i64 0, Go.Value.int Go.IntKind.i64 0, Go.Value.int Go.IntKind.i64 0, Go.Value.int Go.IntKind.i64 0, Go.Value.int Go.IntKind.i64 0, Go.Value.int Go.IntKind.i64 0, Go.Value.int Go.IntKind.i64 0, Go.Value.int Go.IntKind.i64 0, Go.Value.int Go.IntKind.i64 0, Go.Value.int Go.IntKind.i64 0, Go.Value.int Go.IntKind.i64 0, Go.Value.bool false, Go.Value.bool false]) := ⟨⟨_, Tryz.type75, rfl, rfl, rfl⟩, rfl⟩
instance agg76 : Agg Tryz.prog 76 10 := ⟨Tryz.isAgg76, Tryz.sizeOf76⟩
instance zero76 : ZeroV Tryz.prog 76 #[Go.Value.int Go.IntKind.i64 0, Go.Value.int Go.IntKind.i64 0, Go.Value.int Go.IntKind.i64 0,       Go.Value.int Go.IntKind.i64 0, Go.Value.int Go.IntKind.i64 0, Go.Value.int Go.IntKind.i64 0,       Go.Value.int Go.IntKind.i64 0, Go.Value.int Go.IntKind.i64 0, Go.Value.int Go.IntKind.i64 0, Go.Value.bool false] := ⟨fun w => ⟨_, Tryz.zeroValue76 w, rfl⟩⟩
instance fieldx76x0 : FieldAt Tryz.prog 76 0 0 := .of' Tryz.underlying76 rfl rfl Tryz.sizeOf3
instance fieldx76x1 : FieldAt Tryz.prog 76 1 1 := .of' Tryz.underlying76 rfl rfl Tryz.sizeOf36
instance fieldx76x2 : FieldAt Tryz.prog 76 2 9 := .of' Tryz.underlying76 rfl rfl Tryz.sizeOf4
instance struct76 : StructT Tryz.prog 76 #[(0, 1), (1, 8), (9, 1)] := ⟨fun w => ⟨_, Tryz.runUnderlying76 w, by simp [Tryz.sizeOf3, Tryz.sizeOf4, Tryz.sizeOf36]⟩⟩
instance elem76 : ElemT Tryz.prog 76 10 80 (Go.Value.agg #[Go.Value.int Go.IntKind.i64 0, Go.Value.int Go.IntKind.i64 0, Go.Value.int Go.IntKind.i64 0, Go.Value.int Go.IntKind.i64 0, Go.Value.int Go.IntKind.i64 0, Go.Value.int Go.IntKind.i64 0, Go.Value.int Go.IntKind.i64 0, Go.Value.int Go.IntKind.i64 0, Go.Value.int Go.IntKind.i64 0, Go.Value.bool false]) := ⟨⟨_, Tryz.type76, rfl, rfl, rfl⟩, rfl⟩
instance agg77 : Agg Tryz.prog 77 10 := ⟨Tryz.isAgg77, Tryz.sizeOf77⟩
instance zero77 : ZeroV Tryz.prog 77 #[Go.Value.int Go.IntKind.i64 0, Go.Value.int Go.IntKind.i64 0, Go.Value.int Go.IntKind.i64 0,       Go.Value.int Go.IntKind.i64 0, Go.Value.int Go.IntKind.i64 0, Go.Value.int Go.IntKind.i64 0,       Go.Value.int Go.IntKind.i64 0, Go.Value.int Go.IntKind.i64 0, Go.Value.int Go.IntKind.i64 0, Go.Value.bool false] := ⟨fun w => ⟨_, Tryz.zeroValue77 w, rfl⟩⟩
instance fieldx77x0 : FieldAt Tryz.prog 77 0 0 := .of' Tryz.underlying77 rfl rfl Tryz.sizeOf3
instance fieldx77x1 : FieldAt Tryz.prog 77 1 1 := .of' Tryz.underlying77 rfl rfl Tryz.sizeOf36
instance fieldx77x2 : FieldAt Tryz.prog 77 2 9 := .of' Tryz.underlying77 rfl rfl Tryz.sizeOf4
instance struct77 : StructT Tryz.prog 77 #[(0, 1), (1, 8), (9, 1)] := ⟨fun w => ⟨_, Tryz.runUnderlying77 w, by simp [Tryz.sizeOf3, Tryz.sizeOf4, Tryz.sizeOf36]⟩⟩
instance elem77 : ElemT Tryz.prog 77 10 80 (Go.Value.agg #[Go.Value.int Go.IntKind.i64 0, Go.Value.int Go.IntKind.i64 0, Go.Value.int Go.IntKind.i64 0, Go.Value.int Go.IntKind.i64 0, Go.Value.int Go.IntKind.i64 0, Go.Value.int Go.IntKind.i64 0, Go.Value.int Go.IntKind.i64 0, Go.Value.int Go.IntKind.i64 0, Go.Value.int Go.IntKind.i64 0, Go.Value.bool false]) := ⟨⟨_, Tryz.type77, rfl, rfl, rfl⟩, rfl⟩
instance one79 : One Tryz.prog 79 := ⟨Tryz.isAgg79, Tryz.sizeOf79⟩
instance zero79 : ZeroV Tryz.prog 79 #[Go.Value.nilFunc] := ⟨fun w => ⟨_, Tryz.zeroValue79 w, rfl⟩⟩
instance elem79 : ElemT Tryz.prog 79 1 8 Go.Value.nilFunc := ⟨⟨_, Tryz.type79, rfl, rfl, rfl⟩, rfl⟩
instance one81 : One Tryz.prog 81 := ⟨Tryz.isAgg81, Tryz.sizeOf81⟩
instance zero81 : ZeroV Tryz.prog 81 #[Go.Value.nilFunc] := ⟨fun w => ⟨_, Tryz.zeroValue81 w, rfl⟩⟩
instance elem81 : ElemT Tryz.prog 81 1 8 Go.Value.nilFunc := ⟨⟨_, Tryz.type81, rfl, rfl, rfl⟩, rfl⟩
instance one82 : One Tryz.prog 82 := ⟨Tryz.isAgg82, Tryz.sizeOf82⟩
instance zero82 : ZeroV Tryz.prog 82 #[Go.Value.nilFunc] := ⟨fun w => ⟨_, Tryz.zeroValue82 w, rfl⟩⟩
instance elem82 : ElemT Tryz.prog 82 1 8 Go.Value.nilFunc := ⟨⟨_, Tryz.type82, rfl, rfl, rfl⟩, rfl⟩
instance one84 : One Tryz.prog 84 := ⟨Tryz.isAgg84, Tryz.sizeOf84⟩
instance zero84 : ZeroV Tryz.prog 84 #[Go.Value.nilFunc] := ⟨fun w => ⟨_, Tryz.zeroValue84 w, rfl⟩⟩
instance elem84 : ElemT Tryz.prog 84 1 8 Go.Value.nilFunc := ⟨⟨_, Tryz.type84, rfl, rfl, rfl⟩, rfl⟩
instance one85 : One Tryz.prog 85 := ⟨Tryz.isAgg85, Tryz.sizeOf85⟩
instance zero85 : ZeroV Tryz.prog 85 #[Go.Value.nilFunc] := ⟨fun w => ⟨_, Tryz.zeroValue85 w, rfl⟩⟩
instance elem85 : ElemT Tryz.prog 85 1 8 Go.Value.nilFunc := ⟨⟨_, Tryz.type85, rfl, rfl, rfl⟩, rfl⟩
instance one86 : One Tryz.prog 86 := ⟨Tryz.isAgg86, Tryz.sizeOf86⟩
instance zero86 : ZeroV Tryz.prog 86 #[Go.Value.nilFunc] := ⟨fun w => ⟨_, Tryz.zeroValue86 w, rfl⟩⟩
instance elem86 : ElemT Tryz.prog 86 1 8 Go.Value.nilFunc := ⟨⟨_, Tryz.type86, rfl, rfl, rfl⟩, rfl⟩
instance agg87 : Agg Tryz.prog 87 2 := ⟨Tryz.isAgg87, Tryz.sizeOf87⟩
instance zero87 : ZeroV Tryz.prog 87 #[Go.Value.int Go.IntKind.i64 0, Go.Value.int Go.IntKind.i64 0] := ⟨fun w => ⟨_, Tryz.zeroValue87 w, rfl⟩⟩
instance arr87 : ArrT Tryz.prog 87 2 3 1 := ⟨Tryz.underlying87, Tryz.sizeOf3⟩
instance elem87 : ElemT Tryz.prog 87 2 16 (Go.Value.agg #[Go.Value.int Go.IntKind.i64 0, Go.Value.int Go.IntKind.i64 0]) := ⟨⟨_, Tryz.type87, rfl, rfl, rfl⟩, rfl⟩
instance one89 : One Tryz.prog 89 := ⟨Tryz.isAgg89, Tryz.sizeOf89⟩
instance zero89 : ZeroV Tryz.prog 89 #[Go.Value.nilFunc] := ⟨fun w => ⟨_, Tryz.zeroValue89 w, rfl⟩⟩
instance elem89 : ElemT Tryz.prog 89 1 8 Go.Value.nilFunc := ⟨⟨_, Tryz.type89, rfl, rfl, rfl⟩, rfl⟩
instance one90 : One Tryz.prog 90 := ⟨Tryz.isAgg90, Tryz.sizeOf90⟩
instance zero90 : ZeroV Tryz.prog 90 #[Go.Value.nilFunc] := ⟨fun w => ⟨_, Tryz.zeroValue90 w, rfl⟩⟩
instance elem90 : ElemT Tryz.prog 90 1 8 Go.Value.nilFunc := ⟨⟨_, Tryz.type90, rfl, rfl, rfl⟩, rfl⟩
instance one91 : One Tryz.prog 91 := ⟨Tryz.isAgg91, Tryz.sizeOf91⟩
instance zero91 : ZeroV Tryz.prog 91 #[Go.Value.nilFunc] := ⟨fun w => ⟨_, Tryz.zeroValue91 w, rfl⟩⟩
instance elem91 : ElemT Tryz.prog 91 1 8 Go.Value.nilFunc := ⟨⟨_, Tryz.type91, rfl, rfl, rfl⟩, rfl⟩
instance one92 : One Tryz.prog 92 := ⟨Tryz.isAgg92, Tryz.sizeOf92⟩
instance zero92 : ZeroV Tryz.prog 92 #[Go.Value.nilFunc] := ⟨fun w => ⟨_, Tryz.zeroValue92 w, rfl⟩⟩
instance elem92 : ElemT Tryz.prog 92 1 8 Go.Value.nilFunc := ⟨⟨_, Tryz.type92, rfl, rfl, rfl⟩, rfl⟩
instance one93 : One Tryz.prog 93 := ⟨Tryz.isAgg93, Tryz.sizeOf93⟩
instance zero93 : ZeroV Tryz.prog 93 #[(Go.Value.slice none 0 0)] := ⟨fun w => ⟨_, Tryz.zeroValue93 w, rfl⟩⟩
instance slice93 : SliceT Tryz.prog 93 101 20 := ⟨Tryz.underlying93, Tryz.sizeOf101⟩
instance elem93 : ElemT Tryz.prog 93 1 24 (Go.Value.slice none 0 0) := ⟨⟨_, Tryz.type93, rfl, rfl, rfl⟩, rfl⟩
instance one94 : One Tryz.prog 94 := ⟨Tryz.isAgg94, Tryz.sizeOf94⟩
instance zero94 : ZeroV Tryz.prog 94 #[(Go.Value.pointer none)] := ⟨fun w => ⟨_, Tryz.zeroValue94 w, rfl⟩⟩
instance elem94 : ElemT Tryz.prog 94 1 8 (Go.Value.pointer none) := ⟨⟨_, Tryz.type94, rfl, rfl, rfl⟩, rfl⟩
instance one96 : One Tryz.prog 96 := ⟨Tryz.isAgg96, Tryz.sizeOf96⟩
instance zero96 : ZeroV Tryz.prog 96 #[Go.Value.nilFunc] := ⟨fun w => ⟨_, Tryz.zeroValue96 w, rfl⟩⟩
instance elem96 : ElemT Tryz.prog 96 1 8 Go.Value.nilFunc := ⟨⟨_, Tryz.type96, rfl, rfl, rfl⟩, rfl⟩
instance one97 : One Tryz.prog 97 := ⟨Tryz.isAgg97, Tryz.sizeOf97⟩
instance zero97 : ZeroV Tryz.prog 97 #[(Go.Value.pointer none)] := ⟨fun w => ⟨_, Tryz.zeroValue97 w, rfl⟩⟩
instance elem97 : ElemT Tryz.prog 97 1 8 (Go.Value.pointer none) := ⟨⟨_, Tryz.type97, rfl, rfl, rfl⟩, rfl⟩
instance one99 : One Tryz.prog 99 := ⟨Tryz.isAgg99, Tryz.sizeOf99⟩
instance zero99 : ZeroV Tryz.prog 99 #[Go.Value.nilFunc] := ⟨fun w => ⟨_, Tryz.zeroValue99 w, rfl⟩⟩
instance elem99 : ElemT Tryz.prog 99 1 8 Go.Value.nilFunc := ⟨⟨_, Tryz.type99, rfl, rfl, rfl⟩, rfl⟩
instance agg100 : Agg Tryz.prog 100 20 := ⟨Tryz.isAgg100, Tryz.sizeOf100⟩
instance zero100 : ZeroV Tryz.prog 100 #[Go.Value.int Go.IntKind.i64 0, Go.Value.int Go.IntKind.i64 0, Go.Value.int Go.IntKind.i64 0,       Go.Value.int Go.IntKind.i64 0, Go.Value.int Go.IntKind.i64 0, Go.Value.int Go.IntKind.i64 0,       Go.Value.int Go.IntKind.i64 0, Go.Value.int Go.IntKind.i64 0, Go.Value.int Go.IntKind.i64 0,       Go.Value.int Go.IntKind.i64 0, Go.Value.int Go.IntKind.i64 0, Go.Value.int Go.IntKind.i64 0,       Go.Value.int Go.IntKind.i64 0, Go.Value.int Go.IntKind.i64 0, Go.Value.int Go.IntKind.i64 0,       Go.Value.int Go.IntKind.i64 0, Go.Value.int Go.IntKind.i64 0, Go.Value.int Go.IntKind.i64 0,       Go.Value.int Go.IntKind.i64 0, Go.Value.int Go.IntKind.i64 0] := ⟨fun w => ⟨_, Tryz.zeroValue100 w, rfl⟩⟩
instance fieldx100x0 : FieldAt Tryz.prog 100 0 0 := .of' Tryz.underlying100 rfl rfl Tryz.sizeOf3
instance fieldx100x1 : FieldAt Tryz.prog 100 1 1 := .of' Tryz.underlying100 rfl rfl Tryz.sizeOf3
instance fieldx100x2 : FieldAt Tryz.prog 100 2 2 := .of' Tryz.underlying100 rfl rfl Tryz.sizeOf22
instance fieldx100x3 : FieldAt Tryz.prog 100 3 5 := .of' Tryz.underlying100 rfl rfl Tryz.sizeOf38
instance struct100 : StructT Tryz.prog 100 #[(0, 1), (1, 1), (2, 3), (5, 15)] := ⟨fun w => ⟨_, Tryz.runUnderlying100 w, by simp [Tryz.sizeOf3, Tryz.sizeOf22, Tryz.sizeOf38]⟩⟩
instance elem100 : ElemT Tryz.prog 100 20 160 (Go.Value.agg #[Go.Value.int Go.IntKind.i64 0, Go.Value.int Go.IntKind.i64 0, Go.Value.int Go.IntKind.i64 0, Go.Value.int Go.IntKind.i64 0, Go.Value.int Go.IntKind.i64 0, Go.Value.int Go.IntKind.i64 0, Go.Value.int Go.IntKind.i64 0, Go.Value.int Go.IntKind.i64 0, Go.Value.int Go.IntKind.i64 0, Go.Value.int Go.IntKind.i64 0, Go.Value.int Go.IntKind.i64 0, Go.Value.int Go.IntKind.i64 0, Go.Value.int Go.IntKind.i64 0, Go.Value.int Go.IntKind.i64 0, Go.Value.int Go.IntKind.i64 0, Go.Value.int Go.IntKind.i64 0, Go.Value.int Go.IntKind.i64 0, Go.Value.int Go.IntKind.i64 0, Go.Value.int Go.IntKind.i64 0, Go.Value.int Go.IntKind.i64 0]) := ⟨⟨_, Tryz.type100, rfl, rfl, rfl⟩, rfl⟩
instance agg101 : Agg Tryz.prog 101 20 := ⟨Tryz.isAgg101, Tryz.sizeOf101⟩
instance zero101 : ZeroV Tryz.prog 101 #[Go.Value.int Go.IntKind.i64 0, Go.Value.int Go.IntKind.i64 0, Go.Value.int Go.IntKind.i64 0,       Go.Value.int Go.IntKind.i64 0, Go.Value.int Go.IntKind.i64 0, Go.Value.int Go.IntKind.i64 0,       Go.Value.int Go.IntKind.i64 0, Go.Value.int Go.IntKind.i64 0, Go.Value.int Go.IntKind.i64 0,       Go.Value.int Go.IntKind.i64 0, Go.Value.int Go.IntKind.i64 0, Go.Value.int Go.IntKind.i64 0,       Go.Value.int Go.IntKind.i64 0, Go.Value.int Go.IntKind.i64 0, Go.Value.int Go.IntKind.i64 0,       Go.Value.int Go.IntKind.i64 0, Go.Value.int Go.IntKind.i64 0, Go.Value.int Go.IntKind.i64 0,       Go.Value.int Go.IntKind.i64 0, Go.Value.int Go.IntKind.i64 0] := ⟨fun w => ⟨_, Tryz.zeroValue101 w, rfl⟩⟩
instance fieldx101x0 : FieldAt Tryz.prog 101 0 0 := .of' Tryz.underlying101 rfl rfl Tryz.sizeOf3
instance fieldx101x1 : FieldAt Tryz.prog 101 1 1 := .of' Tryz.underlying101 rfl rfl Tryz.sizeOf3
instance fieldx101x2 : FieldAt Tryz.prog 101 2 2 := .of' Tryz.underlying101 rfl rfl Tryz.sizeOf22
instance fieldx101x3 : FieldAt Tryz.prog 101 3 5 := .of' Tryz.underlying101 rfl rfl Tryz.sizeOf38
instance struct101 : StructT Tryz.prog 101 #[(0, 1), (1, 1), (2, 3), (5, 15)] := ⟨fun w => ⟨_, Tryz.runUnderlying101 w, by simp [Tryz.sizeOf3, Tryz.sizeOf22, Tryz.sizeOf38]⟩⟩
instance elem101 : ElemT Tryz.prog 101 20 160 (Go.Value.agg #[Go.Value.int Go.IntKind.i64 0, Go.Value.int Go.IntKind.i64 0, Go.Value.int Go.IntKind.i64 0, Go.Value.int Go.IntKind.i64 0, Go.Value.int Go.IntKind.i64 0, Go.Value.int Go.IntKind.i64 0, Go.Value.int Go.IntKind.i64 0, Go.Value.int Go.IntKind.i64 0, Go.Value.int Go.IntKind.i64 0, Go.Value.int Go.IntKind.i64 0, Go.Value.int Go.IntKind.i64 0, Go.Value.int Go.IntKind.i64 0, Go.Value.int Go.IntKind.i64 0, Go.Value.int Go.IntKind.i64 0, Go.Value.int Go.IntKind.i64 0, Go.Value.int Go.IntKind.i64 0, Go.Value.int Go.IntKind.i64 0, Go.Value.int Go.IntKind.i64 0, Go.Value.int Go.IntKind.i64 0, Go.Value.int Go.IntKind.i64 0]) := ⟨⟨_, Tryz.type101, rfl, rfl, rfl⟩, rfl⟩
instance agg102 : Agg Tryz.prog 102 18 := ⟨Tryz.isAgg102, Tryz.sizeOf102⟩
instance zero102 : ZeroV Tryz.prog 102 #[Go.Value.int Go.IntKind.i64 0, Go.Value.int Go.IntKind.i64 0, Go.Value.int Go.IntKind.i64 0,       Go.Value.int Go.IntKind.i64 0, Go.Value.int Go.IntKind.i64 0, Go.Value.int Go.IntKind.i64 0,       Go.Value.int Go.IntKind.i64 0, Go.Value.int Go.IntKind.i64 0, Go.Value.int Go.IntKind.i64 0,       Go.Value.int Go.IntKind.i64 0, Go.Value.int Go.IntKind.i64 0, Go.Value.int Go.IntKind.i64 0,       Go.Value.int Go.IntKind.i64 0, Go.Value.int Go.IntKind.i64 0, Go.Value.int Go.IntKind.i64 0, Go.Value.bool false,       Go.Value.bool false, Go.Value.int Go.IntKind.i64 0] := ⟨fun w => ⟨_, Tryz.zeroValue102 w, rfl⟩⟩
instance fieldx102x0 : FieldAt Tryz.prog 102 0 0 := .of' Tryz.underlying102 rfl rfl Tryz.sizeOf38
instance fieldx102x1 : FieldAt Tryz.prog 102 1 15 := .of' Tryz.underlying102 rfl rfl Tryz.sizeOf4
instance fieldx102x2 : FieldAt Tryz.prog 102 2 16 := .of' Tryz.underlying102 rfl rfl Tryz.sizeOf4
instance fieldx102x3 : FieldAt Tryz.prog 102 3 17 := .of' Tryz.underlying102 rfl rfl Tryz.sizeOf29
instance struct102 : StructT Tryz.prog 102 #[(0, 15), (15, 1), (16, 1), (17, 1)] := ⟨fun w => ⟨_, Tryz.runUnderlying102 w, by simp [Tryz.sizeOf4, Tryz.sizeOf29, Tryz.sizeOf38]⟩⟩
instance elem102 : ElemT Tryz.prog 102 18 136 (Go.Value.agg #[Go.Value.int Go.IntKind.i64 0, Go.Value.int Go.IntKind.i64 0, Go.Value.int Go.IntKind.i64 0, Go.Value.int Go.IntKind.i64 0, Go.Value.int Go.IntKind.i64 0, Go.Value.int Go.IntKind.i64 0, Go.Value.int Go.IntKind.i64 0, Go.Value.int Go.IntKind.i64 0, Go.Value.int Go.IntKind.i64 0, Go.Value.int Go.IntKind.i64 0, Go.Value.int Go.IntKind.i64 0, Go.Value.int Go.IntKind.i64 0, Go.Value.int Go.IntKind.i64 0, Go.Value.int Go.IntKind.i64 0, Go.Value.int Go.IntKind.i64 0, Go.Value.bool false, Go.Value.bool false, Go.Value.int Go.IntKind.i64 0]) := ⟨⟨_, Tryz.type102, rfl, rfl, rfl⟩, rfl⟩
instance agg103 : Agg Tryz.prog 103 18 := ⟨Tryz.isAgg103, Tryz.sizeOf103⟩
instance zero103 : ZeroV Tryz.prog 103 #[Go.Value.int Go.IntKind.i64 0, Go.Value.int Go.IntKind.i64 0, Go.Value.int Go.IntKind.i64 0,       Go.Value.int Go.IntKind.i64 0, Go.Value.int Go.IntKind.i64 0, Go.Value.int Go.IntKind.i64 0,       Go.Value.int Go.IntKind.i64 0, Go.Value.int Go.IntKind.i64 0, Go.Value.int Go.IntKind.i64 0,       Go.Value.int Go.IntKind.i64 0, Go.Value.int Go.IntKind.i64 0, Go.Value.int Go.IntKind.i64 0,       Go.Value.int Go.IntKind.i64 0, Go.Value.int Go.IntKind.i64 0, Go.Value.int Go.IntKind.i64 0, Go.Value.bool false,       Go.Value.bool false, Go.Value.int Go.IntKind.i64 0] := ⟨fun w => ⟨_, Tryz.zeroValue103 w, rfl⟩⟩
instance fieldx103x0 : FieldAt Tryz.prog 103 0 0 := .of' Tryz.underlying103 rfl rfl Tryz.sizeOf38
instance fieldx103x1 : FieldAt Tryz.prog 103 1 15 := .of' Tryz.underlying103 rfl rfl Tryz.sizeOf4
instance fieldx103x2 : FieldAt Tryz.prog 103 2 16 := .of' Tryz.underlying103 rfl rfl Tryz.sizeOf4
instance fieldx103x3 : FieldAt Tryz.prog 103 3 17 := .of' Tryz.underlying103 rfl rfl Tryz.sizeOf29
instance struct103 : StructT Tryz.prog 103 #[(0, 15), (15, 1), (16, 1), (17, 1)] := ⟨fun w => ⟨_, Tryz.runUnderlying103 w, by simp [Tryz.sizeOf4, Tryz.sizeOf29, Tryz.sizeOf38]⟩⟩
instance elem103 : ElemT Tryz.prog 103 18 136 (Go.Value.agg #[Go.Value.int Go.IntKind.i64 0, Go.Value.int Go.IntKind.i64 0, Go.Value.int Go.IntKind.i64 0, Go.Value.int Go.IntKind.i64 0, Go.Value.int Go.IntKind.i64 0, Go.Value.int Go.IntKind.i64 0, Go.Value.int Go.IntKind.i64 0, Go.Value.int Go.IntKind.i64 0, Go.Value.int Go.IntKind.i64 0, Go.Value.int Go.IntKind.i64 0, Go.Value.int Go.IntKind.i64 0, Go.Value.int Go.IntKind.i64 0, Go.Value.int Go.IntKind.i64 0, Go.Value.int Go.IntKind.i64 0, Go.Value.int Go.IntKind.i64 0, Go.Value.bool false, Go.Value.bool false, Go.Value.int Go.IntKind.i64 0]) := ⟨⟨_, Tryz.type103, rfl, rfl, rfl⟩, rfl⟩
instance one104 : One Tryz.prog 104 := ⟨Tryz.isAgg104, Tryz.sizeOf104⟩
instance zero104 : ZeroV Tryz.prog 104 #[Go.Value.nilFunc] := ⟨fun w => ⟨_, Tryz.zeroValue104 w, rfl⟩⟩
instance elem104 : ElemT Tryz.prog 104 1 8 Go.Value.nilFunc := ⟨⟨_, Tryz.type104, rfl, rfl, rfl⟩, rfl⟩
instance one105 : One Tryz.prog 105 := ⟨Tryz.isAgg105, Tryz.sizeOf105⟩
instance zero105 : ZeroV Tryz.prog 105 #[Go.Value.nilFunc] := ⟨fun w => ⟨_, Tryz.zeroValue105 w, rfl⟩⟩
instance elem105 : ElemT Tryz.prog 105 1 8 Go.Value.nilFunc := ⟨⟨_, Tryz.type105, rfl, rfl, rfl⟩, rfl⟩
instance one107 : One Tryz.prog 107 := ⟨Tryz.isAgg107, Tryz.sizeOf107⟩
instance zero107 : ZeroV Tryz.prog 107 #[Go.Value.nilFunc] := ⟨fun w => ⟨_, Tryz.zeroValue107 w, rfl⟩⟩
instance elem107 : ElemT Tryz.prog 107 1 8 Go.Value.nilFunc := ⟨⟨_, Tryz.type107, rfl, rfl, rfl⟩, rfl⟩
instance one108 : One Tryz.prog 108 := ⟨Tryz.isAgg108, Tryz.sizeOf108⟩
instance zero108 : ZeroV Tryz.prog 108 #[Go.Value.nilFunc] := ⟨fun w => ⟨_, Tryz.zeroValue108 w, rfl⟩⟩
instance elem108 : ElemT Tryz.prog 108 1 8 Go.Value.nilFunc := ⟨⟨_, Tryz.type108, rfl, rfl, rfl⟩, rfl⟩
instance one109 : One Tryz.prog 109 := ⟨Tryz.isAgg109, Tryz.sizeOf109⟩
instance zero109 : ZeroV Tryz.prog 109 #[(Go.Value.slice none 0 0)] := ⟨fun w => ⟨_, Tryz.zeroValue109 w, rfl⟩⟩
instance slice109 : SliceT Tryz.prog 109 136 5 := ⟨Tryz.underlying109, Tryz.sizeOf136⟩
instance elem109 : ElemT Tryz.prog 109 1 24 (Go.Value.slice none 0 0) := ⟨⟨_, Tryz.type109, rfl, rfl, rfl⟩, rfl⟩
instance one110 : One Tryz.prog 110 := ⟨Tryz.isAgg110, Tryz.sizeOf110⟩
instance zero110 : ZeroV Tryz.prog 110 #[(Go.Value.pointer none)] := ⟨fun w => ⟨_, Tryz.zeroValue110 w, rfl⟩⟩
instance elem110 : ElemT Tryz.prog 110 1 8 (Go.Value.pointer none) := ⟨⟨_, Tryz.type110, rfl, rfl, rfl⟩, rfl⟩
instance one111 : One Tryz.prog 111 := ⟨Tryz.isAgg111, Tryz.sizeOf111⟩
instance zero111 : ZeroV Tryz.prog 111 #[(Go.Value.pointer none)] := ⟨fun w => ⟨_, Tryz.zeroValue111 w, rfl⟩⟩
instance elem111 : ElemT Tryz.prog 111 1 8 (Go.Value.pointer none) := ⟨⟨_, Tryz.type111, rfl, rfl, rfl⟩, rfl⟩
instance agg112 : Agg Tryz.prog 112 18 := ⟨Tryz.isAgg112, Tryz.sizeOf112⟩
instance zero112 : ZeroV Tryz.prog 112 #[Go.Value.int Go.IntKind.i64 0, Go.Value.int Go.IntKind.i64 0, Go.Value.int Go.IntKind.i64 0,       Go.Value.int Go.IntKind.i64 0, Go.Value.int Go.IntKind.i64 0, Go.Value.int Go.IntKind.i64 0,       Go.Value.int Go.IntKind.i64 0, Go.Value.int Go.IntKind.i64 0, Go.Value.int Go.IntKind.i64 0,       Go.Value.int Go.IntKind.i64 0, Go.Value.int Go.IntKind.i64 0, Go.Value.int Go.IntKind.i64 0,       Go.Value.int Go.IntKind.i64 0, Go.Value.int Go.IntKind.i64 0, Go.Value.slice none 0 0, Go.Value.pointer none,       Go.Value.pointer none, Go.Value.int Go.IntKind.i64 0] := ⟨fun w => ⟨_, Tryz.zeroValue112 w, rfl⟩⟩
instance fieldx112x0 : FieldAt Tryz.prog 112 0 0 := .of' Tryz.underlying112 rfl rfl Tryz.sizeOf24
instance fieldx112x1 : FieldAt Tryz.prog 112 1 13 := .of' Tryz.underlying112 rfl rfl Tryz.sizeOf3
instance fieldx112x2 : FieldAt Tryz.prog 112 2 14 := .of' Tryz.underlying112 rfl rfl Tryz.sizeOf109
instance fieldx112x3 : FieldAt Tryz.prog 112 3 15 := .of' Tryz.underlying112 rfl rfl Tryz.sizeOf110
instance fieldx112x4 : FieldAt Tryz.prog 112 4 16 := .of' Tryz.underlying112 rfl rfl Tryz.sizeOf111
instance fieldx112x5 : FieldAt Tryz.prog 112 5 17 := .of' Tryz.underlying112 rfl rfl Tryz.sizeOf3
instance struct112 : StructT Tryz.prog 112 #[(0, 13), (13, 1), (14, 1), (15, 1), (16, 1), (17, 1)] := ⟨fun w => ⟨_, Tryz.runUnderlying112 w, by simp [Tryz.sizeOf3, Tryz.sizeOf24, Tryz.sizeOf109, Tryz.sizeOf110, Tryz.sizeOf111]⟩⟩
instance elem112 : ElemT Tryz.prog 112 18 160 (Go.Value.agg #[Go.Value.int Go.IntKind.i64 0, Go.Value.int Go.IntKind.i64 0, Go.Value.int Go.IntKind.i64 0, Go.Value.int Go.IntKind.i64 0, Go.Value.int Go.IntKind.i64 0, Go.Value.int Go.IntKind.i64 0, Go.Value.int Go.IntKind.i64 0, Go.Value.int Go.IntKind.i64 0, Go.Value.int Go.IntKind.i64 0, Go.Value.int Go.IntKind.i64 0, Go.Value.int Go.IntKind.i64 0, Go.Value.int Go.IntKind.i64 0, Go.Value.int Go.IntKind.i64 0, Go.Value.int Go.IntKind.i64 0, Go.Value.slice none 0 0, Go.Value.pointer none, Go.Value.pointer none, Go.Value.int Go.IntKind.i64 0]) := ⟨⟨_, Tryz.type112, rfl, rfl, rfl⟩, rfl⟩
instance agg113 : Agg Tryz.prog 113 18 := ⟨Tryz.isAgg113, Tryz.sizeOf113⟩
instance zero113 : ZeroV Tryz.prog 113 #[Go.Value.int Go.IntKind.i64 0, Go.Value.int Go.IntKind.i64 0, Go.Value.int Go.IntKind.i64 0,       Go.Value.int Go.IntKind.i64 0, Go.Value.int Go.IntKind.i64 0, Go.Value.int Go.IntKind.i64 0,       Go.Value.int Go.IntKind.i64 0, Go.Value.int Go.IntKind.i64 0, Go.Value.int Go.IntKind.i64 0,       Go.Value.int Go.IntKind.i64 0, Go.Value.int Go.IntKind.i64 0, Go.Value.int Go.IntKind.i64 0,       Go.Value.int Go.IntKind.i64 0, Go.Value.int Go.IntKind.i64 0, Go.Value.slice none 0 0, Go.Value.pointer none,       Go.Value.pointer none, Go.Value.int Go.IntKind.i64 0] := ⟨fun w => ⟨_, Tryz.zeroValue113 w, rfl⟩⟩
instance fieldx113x0 : FieldAt Tryz.prog 113 0 0 := .of' Tryz.underlying113 rfl rfl Tryz.sizeOf24
instance fieldx113x1 : FieldAt Tryz.prog 113 1 13 := .of' Tryz.underlying113 rfl rfl Tryz.sizeOf3
instance fieldx113x2 : FieldAt Tryz.prog 113 2 14 := .of' Tryz.underlying113 rfl rfl Tryz.sizeOf109
instance fieldx113x3 : FieldAt Tryz.prog 113 3 15 := .of' Tryz.underlying113 rfl rfl Tryz.sizeOf110
instance fieldx113x4 : FieldAt Tryz.prog 113 4 16 := .of' Tryz.underlying113 rfl rfl Tryz.sizeOf111
instance fieldx113x5 : FieldAt Tryz.prog 113 5 17 := .of' Tryz.underlying113 rfl rfl Tryz.sizeOf3
instance struct113 : StructT Tryz.prog 113 #[(0, 13), (13, 1), (14, 1), (15, 1), (16, 1), (17, 1)] := ⟨fun w => ⟨_, Tryz.runUnderlying113 w, by simp [Tryz.sizeOf3, Tryz.sizeOf24, Tryz.sizeOf109, Tryz.sizeOf110, Tryz.sizeOf111]⟩⟩
instance elem113 : ElemT Tryz.prog 113 18 160 (Go.Value.agg #[Go.Value.int Go.IntKind.i64 0, Go.Value.int Go.IntKind.i64 0, Go.Value.int Go.IntKind.i64 0, Go.Value.int Go.IntKind.i64 0, Go.Value.int Go.IntKind.i64 0, Go.Value.int Go.IntKind.i64 0, Go.Value.int Go.IntKind.i64 0, Go.Value.int Go.IntKind.i64 0, Go.Value.int Go.IntKind.i64 0, Go.Value.int Go.IntKind.i64 0, Go.Value.int Go.IntKind.i64 0, Go.Value.int Go.IntKind.i64 0, Go.Value.int Go.IntKind.i64 0, Go.Value.int Go.IntKind.i64 0, Go.Value.slice none 0 0, Go.Value.pointer none, Go.Value.pointer none, Go.Value.int Go.IntKind.i64 0]) := ⟨⟨_, Tryz.type113, rfl, rfl, rfl⟩, rfl⟩
instance one114 : One Tryz.prog 114 := ⟨Tryz.isAgg114, Tryz.sizeOf114⟩
instance zero114 : ZeroV Tryz.prog 114 #[Go.Value.nilFunc] := ⟨fun w => ⟨_, Tryz.zeroValue114 w, rfl⟩⟩
instance elem114 : ElemT Tryz.prog 114 1 8 Go.Value.nilFunc := ⟨⟨_, Tryz.type114, rfl, rfl, rfl⟩, rfl⟩
instance one115 : One Tryz.prog 115 := ⟨Tryz.isAgg115, Tryz.sizeOf115⟩
instance zero115 : ZeroV Tryz.prog 115 #[(Go.Value.slice none 0 0)] := ⟨fun w => ⟨_, Tryz.zeroValue115 w, rfl⟩⟩
instance slice115 : SliceT Tryz.prog 115 216 17 := ⟨Tryz.underlying115, Tryz.sizeOf216⟩
instance elem115 : ElemT Tryz.prog 115 1 24 (Go.Value.slice none 0 0) := ⟨⟨_, Tryz.type115, rfl, rfl, rfl⟩, rfl⟩
instance one116 : One Tryz.prog 116 := ⟨Tryz.isAgg116, Tryz.sizeOf116⟩
instance zero116 : ZeroV Tryz.prog 116 #[Go.Value.nilFunc] := ⟨fun w => ⟨_, Tryz.zeroValue116 w, rfl⟩⟩
instance elem116 : ElemT Tryz.prog 116 1 8 Go.Value.nilFunc := ⟨⟨_, Tryz.type116, rfl, rfl, rfl⟩, rfl⟩
instance one117 : One Tryz.prog 117 := ⟨Tryz.isAgg117, Tryz.sizeOf117⟩
instance zero117 : ZeroV Tryz.prog 117 #[(Go.Value.slice none 0 0)] := ⟨fun w => ⟨_, Tryz.zeroValue117 w, rfl⟩⟩
instance slice117 : SliceT Tryz.prog 117 225 17 := ⟨Tryz.underlying117, Tryz.sizeOf225⟩
instance elem117 : ElemT Tryz.prog 117 1 24 (Go.Value.slice none 0 0) := ⟨⟨_, Tryz.type117, rfl, rfl, rfl⟩, rfl⟩
instance one118 : One Tryz.prog 118 := ⟨Tryz.isAgg118, Tryz.sizeOf118⟩
instance zero118 : ZeroV Tryz.prog 118 #[Go.Value.nilFunc] := ⟨fun w => ⟨_, Tryz.zeroValue118 w, rfl⟩⟩
instance elem118 : ElemT Tryz.prog 118 1 8 Go.Value.nilFunc := ⟨⟨_, Tryz.type118, rfl, rfl, rfl⟩, rfl⟩
instance agg119 : Agg Tryz.prog 119 2 := ⟨Tryz.isAgg119, Tryz.sizeOf119⟩
instance zero119 : ZeroV Tryz.prog 119 #[Go.Value.int Go.IntKind.i64 0, Go.Value.slice none 0 0] := ⟨fun w => ⟨_, Tryz.zeroValue119 w, rfl⟩⟩
instance fieldx119x0 : FieldAt Tryz.prog 119 0 0 := .of' Tryz.underlying119 rfl rfl Tryz.sizeOf3
instance fieldx119x1 : FieldAt Tryz.prog 119 1 1 := .of' Tryz.underlying119 rfl rfl Tryz.sizeOf115
instance struct119 : StructT Tryz.prog 119 #[(0, 1), (1, 1)] := ⟨fun w => ⟨_, Tryz.runUnderlying119 w, by simp [Tryz.sizeOf3, Tryz.sizeOf115]⟩⟩
instance elem119 : ElemT Tryz.prog 119 2 32 (Go.Value.agg #[Go.Value.int Go.IntKind.i64 0, Go.Value.slice none 0 0]) := ⟨⟨_, Tryz.type119, rfl, rfl, rfl⟩, rfl⟩
instance agg120 : Agg Tryz.prog 120 2 := ⟨Tryz.isAgg120, Tryz.sizeOf120⟩
instance zero120 : ZeroV Tryz.prog 120 #[Go.Value.int Go.IntKind.i64 0, Go.Value.slice none 0 0] := ⟨fun w => ⟨_, Tryz.zeroValue120 w, rfl⟩⟩
instance fieldx120x0 : FieldAt Tryz.prog 120 0 0 := .of' Tryz.underlying120 rfl rfl Tryz.sizeOf3
instance fieldx120x1 : FieldAt Tryz.prog 120 1 1 := .of' Tryz.underlying120 rfl rfl Tryz.sizeOf115
instance struct120 : StructT Tryz.prog 120 #[(0, 1), (1, 1)] := ⟨fun w => ⟨_, Tryz.runUnderlying120 w, by simp [Tryz.sizeOf3, Tryz.sizeOf115]⟩⟩
instance elem120 : ElemT Tryz.prog 120 2 32 (Go.Value.agg #[Go.Value.int Go.IntKind.i64 0, Go.Value.slice none 0 0]) := ⟨⟨_, Tryz.type120, rfl, rfl, rfl⟩, rfl⟩
instance one121 : One Tryz.prog 121 := ⟨Tryz.isAgg121, Tryz.sizeOf121⟩
instance zero121 : ZeroV Tryz.prog 121 #[(Go.Value.slice none 0 0)] := ⟨fun w => ⟨_, Tryz.zeroValue121 w, rfl⟩⟩
instance slice121 : SliceT Tryz.prog 121 3 1 := ⟨Tryz.underlying121, Tryz.sizeOf3⟩
instance elem121 : ElemT Tryz.prog 121 1 24 (Go.Value.slice none 0 0) := ⟨⟨_, Tryz.type121, rfl, rfl, rfl⟩, rfl⟩
instance agg122 : Agg Tryz.prog 122 4 := ⟨Tryz.isAgg122, Tryz.sizeOf122⟩
instance zero122 : ZeroV Tryz.prog 122 #[Go.Value.int Go.IntKind.i64 0, Go.Value.int Go.IntKind.i64 0, Go.Value.slice none 0 0, Go.Value.bool false] := ⟨fun w => ⟨_, Tryz.zeroValue122 w, rfl⟩⟩
instance fieldx122x0 : FieldAt Tryz.prog 122 0 0 := .of' Tryz.underlying122 rfl rfl Tryz.sizeOf3
instance fieldx122x1 : FieldAt Tryz.prog 122 1 1 := .of' Tryz.underlying122 rfl rfl Tryz.sizeOf3
instance fieldx122x2 : FieldAt Tryz.prog 122 2 2 := .of' Tryz.underlying122 rfl rfl Tryz.sizeOf121
instance fieldx122x3 : FieldAt Tryz.prog 122 3 3 := .of' Tryz.underlying122 rfl rfl Tryz.sizeOf4
instance struct122 : StructT Tryz.prog 122 #[(0, 1), (1, 1), (2, 1), (3, 1)] := ⟨fun w => ⟨_, Tryz.runUnderlying122 w, by simp [Tryz.sizeOf3, Tryz.sizeOf4, Tryz.sizeOf121]⟩⟩
instance elem122 : ElemT Tryz.prog 122 4 48 (Go.Value.agg #[Go.Value.int Go.IntKind.i64 0, Go.Value.int Go.IntKind.i64 0, Go.Value.slice none 0 0, Go.Value.bool false]) := ⟨⟨_, Tryz.type122, rfl, rfl, rfl⟩, rfl⟩
instance agg123 : Agg Tryz.prog 123 4 := ⟨Tryz.isAgg123, Tryz.sizeOf123⟩
instance zero123 : ZeroV Tryz.prog 123 #[Go.Value.int Go.IntKind.i64 0, Go.Value.int Go.IntKind.i64 0, Go.Value.slice none 0 0, Go.Value.bool false] := ⟨fun w => ⟨_, Tryz.zeroValue123 w, rfl⟩⟩
instance fieldx123x0 : FieldAt Tryz.prog 123 0 0 := .of' Tryz.underlying123 rfl rfl Tryz.sizeOf3
instance fieldx123x1 : FieldAt Tryz.prog 123 1 1 := .of' Tryz.underlying123 rfl rfl Tryz.sizeOf3
instance fieldx123x2 : FieldAt Tryz.prog 123 2 2 := .of' Tryz.underlying123 rfl rfl Tryz.sizeOf121
instance fieldx123x3 : FieldAt Tryz.prog 123 3 3 := .of' Tryz.underlying123 rfl rfl Tryz.sizeOf4
instance struct123 : StructT Tryz.prog 123 #[(0, 1), (1, 1), (2, 1), (3, 1)] := ⟨fun w => ⟨_, Tryz.runUnderlying123 w, by simp [Tryz.sizeOf3, Tryz.sizeOf4, Tryz.sizeOf121]⟩⟩
instance elem123 : ElemT Tryz.prog 123 4 48 (Go.Value.agg #[Go.Value.int Go.IntKind.i64 0, Go.Value.int Go.IntKind.i64 0, Go.Value.slice none 0 0, Go.Value.bool false]) := ⟨⟨_, Tryz.type123, rfl, rfl, rfl⟩, rfl⟩
instance agg124 : Agg Tryz.prog 124 5 := ⟨Tryz.isAgg124, Tryz.sizeOf124⟩
instance zero124 : ZeroV Tryz.prog 124 #[Go.Value.int Go.IntKind.i64 0, Go.Value.int Go.IntKind.i64 0, Go.Value.int Go.IntKind.i64 0,       Go.Value.slice none 0 0, Go.Value.bool false] := ⟨fun w => ⟨_, Tryz.zeroValue124 w, rfl⟩⟩
instance fieldx124x0 : FieldAt Tryz.prog 124 0 0 := .of' Tryz.underlying124 rfl rfl Tryz.sizeOf3
instance fieldx124x1 : FieldAt Tryz.prog 124 1 1 := .of' Tryz.underlying124 rfl rfl Tryz.sizeOf123
instance struct124 : StructT Tryz.prog 124 #[(0, 1), (1, 4)] := ⟨fun w => ⟨_, Tryz.runUnderlying124 w, by simp [Tryz.sizeOf3, Tryz.sizeOf123]⟩⟩
instance elem124 : ElemT Tryz.prog 124 5 56 (Go.Value.agg #[Go.Value.int Go.IntKind.i64 0, Go.Value.int Go.IntKind.i64 0, Go.Value.int Go.IntKind.i64 0, Go.Value.slice none 0 0, Go.Value.bool false]) := ⟨⟨_, Tryz.type124, rfl, rfl, rfl⟩, rfl⟩
instance agg125 : Agg Tryz.prog 125 5 := ⟨Tryz.isAgg125, Tryz.sizeOf125⟩
instance zero125 : ZeroV Tryz.prog 125 #[Go.Value.int Go.IntKind.i64 0, Go.Value.int Go.IntKind.i64 0, Go.Value.int Go.IntKind.i64 0,       Go.Value.slice none 0 0, Go.Value.bool false] := ⟨fun w => ⟨_, Tryz.zeroValue125 w, rfl⟩⟩
instance fieldx125x0 : FieldAt Tryz.prog 125 0 0 := .of' Tryz.underlying125 rfl rfl Tryz.sizeOf3
instance fieldx125x1 : FieldAt Tryz.prog 125 1 1 := .of' Tryz.underlying125 rfl rfl Tryz.sizeOf123
instance struct125 : StructT Tryz.prog 125 #[(0, 1), (1, 4)] := ⟨fun w => ⟨_, Tryz.runUnderlying125 w, by simp [Tryz.sizeOf3, Tryz.sizeOf123]⟩⟩
instance elem125 : ElemT Tryz.prog 125 5 56 (Go.Value.agg #[Go.Value.int Go.IntKind.i64 0, Go.Value.int Go.IntKind.i64 0, Go.Value.int Go.IntKind.i64 0, Go.Value.slice none 0 0, Go.Value.bool false]) := ⟨⟨_, Tryz.type125, rfl, rfl, rfl⟩, rfl⟩
instance one127 : One Tryz.prog 127 := ⟨Tryz.isAgg127, Tryz.sizeOf127⟩
instance zero127 : ZeroV Tryz.prog 127 #[Go.Value.nilFunc] := ⟨fun w => ⟨_, Tryz.zeroValue127 w, rfl⟩⟩
instance elem127 : ElemT Tryz.prog 127 1 8 Go.Value.nilFunc := ⟨⟨_, Tryz.type127, rfl, rfl, rfl⟩, rfl⟩
instance one129 : One Tryz.prog 129 := ⟨Tryz.isAgg129, Tryz.sizeOf129⟩
instance zero129 : ZeroV Tryz.prog 129 #[Go.Value.nilFunc] := ⟨fun w => ⟨_, Tryz.zeroValue129 w, rfl⟩⟩
instance elem129 : ElemT Tryz.prog 129 1 8 Go.Value.nilFunc := ⟨⟨_, Tryz.type129, rfl, rfl, rfl⟩, rfl⟩
instance one130 : One Tryz.prog 130 := ⟨Tryz.isAgg130, Tryz.sizeOf130⟩
instance zero130 : ZeroV Tryz.prog 130 #[Go.Value.nilFunc] := ⟨fun w => ⟨_, Tryz.zeroValue130 w, rfl⟩⟩
instance elem130 : ElemT Tryz.prog 130 1 8 Go.Value.nilFunc := ⟨⟨_, Tryz.type130, rfl, rfl, rfl⟩, rfl⟩
instance one132 : One Tryz.prog 132 := ⟨Tryz.isAgg132, Tryz.sizeOf132⟩
instance zero132 : ZeroV Tryz.prog 132 #[Go.Value.nilFunc] := ⟨fun w => ⟨_, Tryz.zeroValue132 w, rfl⟩⟩
instance elem132 : ElemT Tryz.prog 132 1 8 Go.Value.nilFunc := ⟨⟨_, Tryz.type132, rfl, rfl, rfl⟩, rfl⟩
instance one133 : One Tryz.prog 133 := ⟨Tryz.isAgg133, Tryz.sizeOf133⟩
instance zero133 : ZeroV Tryz.prog 133 #[Go.Value.nilFunc] := ⟨fun w => ⟨_, Tryz.zeroValue133 w, rfl⟩⟩
instance elem133 : ElemT Tryz.prog 133 1 8 Go.Value.nilFunc := ⟨⟨_, Tryz.type133, rfl, rfl, rfl⟩, rfl⟩
instance agg134 : Agg Tryz.prog 134 4 := ⟨Tryz.isAgg134, Tryz.sizeOf134⟩
instance zero134 : ZeroV Tryz.prog 134 #[Go.Value.int Go.IntKind.i64 0, Go.Value.int Go.IntKind.i64 0, Go.Value.slice none 0 0, Go.Value.bool false] := ⟨fun w => ⟨_, Tryz.zeroValue134 w, rfl⟩⟩
instance fieldx134x0 : FieldAt Tryz.prog 134 0 0 := .of' Tryz.underlying134 rfl rfl Tryz.sizeOf3
instance fieldx134x1 : FieldAt Tryz.prog 134 1 1 := .of' Tryz.underlying134 rfl rfl Tryz.sizeOf3
instance fieldx134x2 : FieldAt Tryz.prog 134 2 2 := .of' Tryz.underlying134 rfl rfl Tryz.sizeOf121
instance fieldx134x3 : FieldAt Tryz.prog 134 3 3 := .of' Tryz.underlying134 rfl rfl Tryz.sizeOf4
instance struct134 : StructT Tryz.prog 134 #[(0, 1), (1, 1), (2, 1), (3, 1)] := ⟨fun w => ⟨_, Tryz.runUnderlying134 w, by simp [Tryz.sizeOf3, Tryz.sizeOf4, Tryz.sizeOf121]⟩⟩
instance elem134 : ElemT Tryz.prog 134 4 48 (Go.Value.agg #[Go.Value.int Go.IntKind.i64 0, Go.Value.int Go.IntKind.i64 0, Go.Value.slice none 0 0, Go.Value.bool false]) := ⟨⟨_, Tryz.type134, rfl, rfl, rfl⟩, rfl⟩
instance agg135 : Agg Tryz.prog 135 5 := ⟨Tryz.isAgg135, Tryz.sizeOf135⟩
instance zero135 : ZeroV Tryz.prog 135 #[Go.Value.int Go.IntKind.i64 0, Go.Value.int Go.IntKind.i64 0, Go.Value.int Go.IntKind.i64 0,       Go.Value.slice none 0 0, Go.Value.bool false] := ⟨fun w => ⟨_, Tryz.zeroValue135 w, rfl⟩⟩
instance fieldx135x0 : FieldAt Tryz.prog 135 0 0 := .of' Tryz.underlying135 rfl rfl Tryz.sizeOf3
instance fieldx135x1 : FieldAt Tryz.prog 135 1 1 := .of' Tryz.underlying135 rfl rfl Tryz.sizeOf134
instance struct135 : StructT Tryz.prog 135 #[(0, 1), (1, 4)] := ⟨fun w => ⟨_, Tryz.runUnderlying135 w, by simp [Tryz.sizeOf3, Tryz.sizeOf134]⟩⟩
instance elem135 : ElemT Tryz.prog 135 5 56 (Go.Value.agg #[Go.Value.int Go.IntKind.i64 0, Go.Value.int Go.IntKind.i64 0, Go.Value.int Go.IntKind.i64 0, Go.Value.slice none 0 0, Go.Value.bool false]) := ⟨⟨_, Tryz.type135, rfl, rfl, rfl⟩, rfl⟩
instance agg136 : Agg Tryz.prog 136 5 := ⟨Tryz.isAgg136, Tryz.sizeOf136⟩
instance zero136 : ZeroV Tryz.prog 136 #[Go.Value.int Go.IntKind.i64 0, Go.Value.int Go.IntKind.i64 0, Go.Value.int Go.IntKind.i64 0,       Go.Value.slice none 0 0, Go.Value.bool false] := ⟨fun w => ⟨_, Tryz.zeroValue136 w, rfl⟩⟩
instance fieldx136x0 : FieldAt Tryz.prog 136 0 0 := .of' Tryz.underlying136 rfl rfl Tryz.sizeOf3
instance fieldx136x1 : FieldAt Tryz.prog 136 1 1 := .of' Tryz.underlying136 rfl rfl Tryz.sizeOf134
instance struct136 : StructT Tryz.prog 136 #[(0, 1), (1, 4)] := ⟨fun w => ⟨_, Tryz.runUnderlying136 w, by simp [Tryz.sizeOf3, Tryz.sizeOf134]⟩⟩
instance elem136 : ElemT Tryz.prog 136 5 56 (Go.Value.agg #[Go.Value.int Go.IntKind.i64 0, Go.Value.int Go.IntKind.i64 0, Go.Value.int Go.IntKind.i64 0, Go.Value.slice none 0 0, Go.Value.bool false]) := ⟨⟨_, Tryz.type136, rfl, rfl, rfl⟩, rfl⟩
instance one137 : One Tryz.prog 137 := ⟨Tryz.isAgg137, Tryz.sizeOf137⟩
instance zero137 : ZeroV Tryz.prog 137 #[Go.Value.nilFunc] := ⟨fun w => ⟨_, Tryz.zeroValue137 w, rfl⟩⟩
instance elem137 : ElemT Tryz.prog 137 1 8 Go.Value.nilFunc := ⟨⟨_, Tryz.type137, rfl, rfl, rfl⟩, rfl⟩
instance one139 : One Tryz.prog 139 := ⟨Tryz.isAgg139, Tryz.sizeOf139⟩
instance zero139 : ZeroV Tryz.prog 139 #[Go.Value.nilFunc] := ⟨fun w => ⟨_, Tryz.zeroValue139 w, rfl⟩⟩
instance elem139 : ElemT Tryz.prog 139 1 8 Go.Value.nilFunc := ⟨⟨_, Tryz.type139, rfl, rfl, rfl⟩, rfl⟩
instance one140 : One Tryz.prog 140 := ⟨Tryz.isAgg140, Tryz.sizeOf140⟩
instance zero140 : ZeroV Tryz.prog 140 #[(Go.Value.slice none 0 0)] := ⟨fun w => ⟨_, Tryz.zeroValue140 w, rfl⟩⟩
instance slice140 : SliceT Tryz.prog 140 142 10 := ⟨Tryz.underlying140, Tryz.sizeOf142⟩
instance elem140 : ElemT Tryz.prog 140 1 24 (Go.Value.slice none 0 0) := ⟨⟨_, Tryz.type140, rfl, rfl, rfl⟩, rfl⟩
instance one141 : One Tryz.prog 141 := ⟨Tryz.isAgg141, Tryz.sizeOf141⟩
instance zero141 : ZeroV Tryz.prog 141 #[Go.Value.nilFunc] := ⟨fun w => ⟨_, Tryz.zeroValue141 w, rfl⟩⟩
instance elem141 : ElemT Tryz.prog 141 1 8 Go.Value.nilFunc := ⟨⟨_, Tryz.type141, rfl, rfl, rfl⟩, rfl⟩
instance agg142 : Agg Tryz.prog 142 10 := ⟨Tryz.isAgg142, Tryz.sizeOf142⟩
instance zero142 : ZeroV Tryz.prog 142 #[Go.Value.int Go.IntKind.i64 0, Go.Value.int Go.IntKind.i64 0, Go.Value.int Go.IntKind.i64 0,       Go.Value.int Go.IntKind.i64 0, Go.Value.int Go.IntKind.i64 0, Go.Value.int Go.IntKind.i64 0,       Go.Value.int Go.IntKind.i64 0, Go.Value.int Go.IntKind.i64 0, Go.Value.int Go.IntKind.i64 0, Go.Value.bool false] := ⟨fun w => ⟨_, Tryz.zeroValue142 w, rfl⟩⟩
instance fieldx142x0 : FieldAt Tryz.prog 142 0 0 := .of' Tryz.underlying142 rfl rfl Tryz.sizeOf3
instance fieldx142x1 : FieldAt Tryz.prog 142 1 1 := .of' Tryz.underlying142 rfl rfl Tryz.sizeOf36
instance fieldx142x2 : FieldAt Tryz.prog 142 2 9 := .of' Tryz.underlying142 rfl rfl Tryz.sizeOf4
instance struct142 : StructT Tryz.prog 142 #[(0, 1), (1, 8), (9, 1)] := ⟨fun w => ⟨_, Tryz.runUnderlying142 w, by simp [Tryz.sizeOf3, Tryz.sizeOf4, Tryz.sizeOf36]⟩⟩
instance elem142 : ElemT Tryz.prog 142 10 80 (Go.Value.agg #[Go.Value.int Go.IntKind.i64 0, Go.Value.int Go.IntKind.i64 0, Go.Value.int Go.IntKind.i64 0, Go.Value.int Go.IntKind.i64 0, Go.Value.int Go.IntKind.i64 0, Go.Value.int Go.IntKind.i64 0, Go.Value.int Go.IntKind.i64 0, Go.Value.int Go.IntKind.i64 0, Go.Value.int Go.IntKind.i64 0, Go.Value.bool false]) := ⟨⟨_, Tryz.type142, rfl, rfl, rfl⟩, rfl⟩
instance one143 : One Tryz.prog 143 := ⟨Tryz.isAgg143, Tryz.sizeOf143⟩
instance zero143 : ZeroV Tryz.prog 143 #[(Go.Value.slice none 0 0)] := ⟨fun w => ⟨_, Tryz.zeroValue143 w, rfl⟩⟩
instance slice143 : SliceT Tryz.prog 143 162 15 := ⟨Tryz.underlying143, Tryz.sizeOf162⟩
instance elem143 : ElemT Tryz.prog 143 1 24 (Go.Value.slice none 0 0) := ⟨⟨_, Tryz.type143, rfl, rfl, rfl⟩, rfl⟩
instance one144 : One Tryz.prog 144 := ⟨Tryz.isAgg144, Tryz.sizeOf144⟩
instance zero144 : ZeroV Tryz.prog 144 #[Go.Value.nilFunc] := ⟨fun w => ⟨_, Tryz.zeroValue144 w, rfl⟩⟩
instance elem144 : ElemT Tryz.prog 144 1 8 Go.Value.nilFunc := ⟨⟨_, Tryz.type144, rfl, rfl, rfl⟩, rfl⟩
instance one145 : One Tryz.prog 145 := ⟨Tryz.isAgg145, Tryz.sizeOf145⟩
instance zero145 : ZeroV Tryz.prog 145 #[(Go.Value.pointer none)] := ⟨fun w => ⟨_, Tryz.zeroValue145 w, rfl⟩⟩
instance elem145 : ElemT Tryz.prog 145 1 8 (Go.Value.pointer none) := ⟨⟨_, Tryz.type145, rfl, rfl, rfl⟩, rfl⟩
instance one147 : One Tryz.prog 147 := ⟨Tryz.isAgg147, Tryz.sizeOf147⟩
instance zero147 : ZeroV Tryz.prog 147 #[Go.Value.nilFunc] := ⟨fun w => ⟨_, Tryz.zeroValue147 w, rfl⟩⟩
instance elem147 : ElemT Tryz.prog 147 1 8 Go.Value.nilFunc := ⟨⟨_, Tryz.type147, rfl, rfl, rfl⟩, rfl⟩
instance one148 : One Tryz.prog 148 := ⟨Tryz.isAgg148, Tryz.sizeOf148⟩
instance zero148 : ZeroV Tryz.prog 148 #[(Go.Value.pointer none)] := ⟨fun w => ⟨_, Tryz.zeroValue148 w, rfl⟩⟩
instance elem148 : ElemT Tryz.prog 148 1 8 (Go.Value.pointer none) := ⟨⟨_, Tryz.type148, rfl, rfl, rfl⟩, rfl⟩
instance one150 : One Tryz.prog 150 := ⟨Tryz.isAgg150, Tryz.sizeOf150⟩
instance zero150 : ZeroV Tryz.prog 150 #[Go.Value.nilFunc] := ⟨fun w => ⟨_, Tryz.zeroValue150 w, rfl⟩⟩
instance elem150 : ElemT Tryz.prog 150 1 8 Go.Value.nilFunc := ⟨⟨_, Tryz.type150, rfl, rfl, rfl⟩, rfl⟩
instance one151 : One Tryz.prog 151 := ⟨Tryz.isAgg151, Tryz.sizeOf151⟩
instance zero151 : ZeroV Tryz.prog 151 #[(Go.Value.pointer none)] := ⟨fun w => ⟨_, Tryz.zeroValue151 w, rfl⟩⟩
instance elem151 : ElemT Tryz.prog 151 1 8 (Go.Value.pointer none) := ⟨⟨_, Tryz.type151, rfl, rfl, rfl⟩, rfl⟩
instance one153 : One Tryz.prog 153 := ⟨Tryz.isAgg153, Tryz.sizeOf153⟩
instance zero153 : ZeroV Tryz.prog 153 #[Go.Value.nilFunc] := ⟨fun w => ⟨_, Tryz.zeroValue153 w, rfl⟩⟩
instance elem153 : ElemT Tryz.prog 153 1 8 Go.Value.nilFunc := ⟨⟨_, Tryz.type153, rfl, rfl, rfl⟩, rfl⟩
instance agg154 : Agg Tryz.prog 154 17 := ⟨Tryz.isAgg154, Tryz.sizeOf154⟩
instance zero154 : ZeroV Tryz.prog 154 #[Go.Value.int Go.IntKind.i64 0, Go.Value.int Go.IntKind.i64 0, Go.Value.int Go.IntKind.i64 0,       Go.Value.int Go.IntKind.i64 0, Go.Value.int Go.IntKind.i64 0, Go.Value.int Go.IntKind.i64 0,       Go.Value.int Go.IntKind.i64 0, Go.Value.int Go.IntKind.i64 0, Go.Value.int Go.IntKind.i64 0,       Go.Value.int Go.IntKind.i64 0, Go.Value.int Go.IntKind.i64 0, Go.Value.int Go.IntKind.i64 0,       Go.Value.int Go.IntKind.i64 0, Go.Value.int Go.IntKind.i64 0, Go.Value.pointer none, Go.Value.pointer none,       Go.Value.pointer none] := ⟨fun w => ⟨_, Tryz.zeroValue154 w, rfl⟩⟩
instance fieldx154x0 : FieldAt Tryz.prog 154 0 0 := .of' Tryz.underlying154 rfl rfl Tryz.sizeOf24
instance fieldx154x1 : FieldAt Tryz.prog 154 1 13 := .of' Tryz.underlying154 rfl rfl Tryz.sizeOf3
instance fieldx154x2 : FieldAt Tryz.prog 154 2 14 := .of' Tryz.underlying154 rfl rfl Tryz.sizeOf145
instance fieldx154x3 : FieldAt Tryz.prog 154 3 15 := .of' Tryz.underlying154 rfl rfl Tryz.sizeOf148
instance fieldx154x4 : FieldAt Tryz.prog 154 4 16 := .of' Tryz.underlying154 rfl rfl Tryz.sizeOf151
instance struct154 : StructT Tryz.prog 154 #[(0, 13), (13, 1), (14, 1), (15, 1), (16, 1)] := ⟨fun w => ⟨_, Tryz.runUnderlying154 w, by simp [Tryz.sizeOf3, Tryz.sizeOf24, Tryz.sizeOf145, Tryz.sizeOf148, Tryz.sizeOf151]⟩⟩
instance elem154 : ElemT Tryz.prog 154 17 136 (Go.Value.agg #[Go.Value.int Go.IntKind.i64 0, Go.Value.int Go.IntKind.i64 0, Go.Value.int Go.IntKind.i64 0, Go.Value.int Go.IntKind.i64 0, Go.Value.int Go.IntKind.i64 0, Go.Value.int Go.IntKind.i64 0, Go.Value.int Go.IntKind.i64 0, Go.Value.int Go.IntKind.i64 0, Go.Value.int Go.IntKind.i64 0, Go.Value.int Go.IntKind.i64 0, Go.Value.int Go.IntKind.i64 0, Go.Value.int Go.IntKind.i64 0, Go.Value.int Go.IntKind.i64 0, Go.Value.int Go.IntKind.i64 0, Go.Value.pointer none, Go.Value.pointer none, Go.Value.pointer none]) := ⟨⟨_, Tryz.type154, rfl, rfl, rfl⟩, rfl⟩
instance agg155 : Agg Tryz.prog 155 17 := ⟨Tryz.isAgg155, Tryz.sizeOf155⟩
instance zero155 : ZeroV Tryz.prog 155 #[Go.Value.int Go.IntKind.i64 0, Go.Value.int Go.IntKind.i64 0, Go.Value.int Go.IntKind.i64 0,       Go.Value.int Go.IntKind.i64 0, Go.Value.int Go.IntKind.i64 0, Go.Value.int Go.IntKind.i64 0,       Go.Value.int Go.IntKind.i64 0, Go.Value.int Go.IntKind.i64 0, Go.Value.int Go.IntKind.i64 0,       Go.Value.int Go.IntKind.i64 0, Go.Value.int Go.IntKind.i64 0, Go.Value.int Go.IntKind.i64 0,       Go.Value.int Go.IntKind.i64 0, Go.Value.int Go.IntKind.i64 0, Go.Value.pointer none, Go.Value.pointer none,       Go.Value.pointer none] := ⟨fun w => ⟨_, Tryz.zeroValue155 w, rfl⟩⟩
instance fieldx155x0 : FieldAt Tryz.prog 155 0 0 := .of' Tryz.underlying155 rfl rfl Tryz.sizeOf24
instance fieldx155x1 : FieldAt Tryz.prog 155 1 13 := .of' Tryz.underlying155 rfl rfl Tryz.sizeOf3
instance fieldx155x2 : FieldAt Tryz.prog 155 2 14 := .of' Tryz.underlying155 rfl rfl Tryz.sizeOf145
instance fieldx155x3 : FieldAt Tryz.prog 155 3 15 := .of' Tryz.underlying155 rfl rfl Tryz.sizeOf148
instance fieldx155x4 : FieldAt Tryz.prog 155 4 16 := .of' Tryz.underlying155 rfl rfl Tryz.sizeOf151
instance struct155 : StructT Tryz.prog 155 #[(0, 13), (13, 1), (14, 1), (15, 1), (16, 1)] := ⟨fun w => ⟨_, Tryz.runUnderlying155 w, by simp [Tryz.sizeOf3, Tryz.sizeOf24, Tryz.sizeOf145, Tryz.sizeOf148, Tryz.sizeOf151]⟩⟩
instance elem155 : ElemT Tryz.prog 155 17 136 (Go.Value.agg #[Go.Value.int Go.IntKind.i64 0, Go.Value.int Go.IntKind.i64 0, Go.Value.int Go.IntKind.i64 0, Go.Value.int Go.IntKind.i64 0, Go.Value.int Go.IntKind.i64 0, Go.Value.int Go.IntKind.i64 0, Go.Value.int Go.IntKind.i64 0, Go.Value.int Go.IntKind.i64 0, Go.Value.int Go.IntKind.i64 0, Go.Value.int Go.IntKind.i64 0, Go.Value.int Go.IntKind.i64 0, Go.Value.int Go.IntKind.i64 0, Go.Value.int Go.IntKind.i64 0, Go.Value.int Go.IntKind.i64 0, Go.Value.pointer none, Go.Value.pointer none, Go.Value.pointer none]) := ⟨⟨_, Tryz.type155, rfl, rfl, rfl⟩, rfl⟩
instance one157 : One Tryz.prog 157 := ⟨Tryz.isAgg157, Tryz.sizeOf157⟩
instance zero157 : ZeroV Tryz.prog 157 #[Go.Value.nilFunc] := ⟨fun w => ⟨_, Tryz.zeroValue157 w, rfl⟩⟩
instance elem157 : ElemT Tryz.prog 157 1 8 Go.Value.nilFunc := ⟨⟨_, Tryz.type157, rfl, rfl, rfl⟩, rfl⟩
instance one159 : One Tryz.prog 159 := ⟨Tryz.isAgg159, Tryz.sizeOf159⟩
instance zero159 : ZeroV Tryz.prog 159 #[Go.Value.nilFunc] := ⟨fun w => ⟨_, Tryz.zeroValue159 w, rfl⟩⟩
instance elem159 : ElemT Tryz.prog 159 1 8 Go.Value.nilFunc := ⟨⟨_, Tryz.type159, rfl, rfl, rfl⟩, rfl⟩
instance one161 : One Tryz.prog 161 := ⟨Tryz.isAgg161, Tryz.sizeOf161⟩
instance zero161 : ZeroV Tryz.prog 161 #[Go.Value.nilFunc] := ⟨fun w => ⟨_, Tryz.zeroValue161 w, rfl⟩⟩
instance elem161 : ElemT Tryz.prog 161 1 8 Go.Value.nilFunc := ⟨⟨_, Tryz.type161, rfl, rfl, rfl⟩, rfl⟩
instance agg162 : Agg Tryz.prog 162 15 := ⟨Tryz.isAgg162, Tryz.sizeOf162⟩
instance zero162 : ZeroV Tryz.prog 162 #[Go.Value.int Go.IntKind.i64 0, Go.Value.int Go.IntKind.i64 0, Go.Value.int Go.IntKind.i64 0,       Go.Value.int Go.IntKind.i64 0, Go.Value.int Go.IntKind.i64 0, Go.Value.int Go.IntKind.i64 0,       Go.Value.int Go.IntKind.i64 0, Go.Value.int Go.IntKind.i64 0, Go.Value.int Go.IntKind.i64 0,       Go.Value.int Go.IntKind.i64 0, Go.Value.int Go.IntKind.i64 0, Go.Value.int Go.IntKind.i64 0,       Go.Value.int Go.IntKind.i64 0, Go.Value.bool false, Go.Value.bool false] := ⟨fun w => ⟨_, Tryz.zeroValue162 w, rfl⟩⟩
instance fieldx162x0 : FieldAt Tryz.prog 162 0 0 := .of' Tryz.underlying162 rfl rfl Tryz.sizeOf3
instance fieldx162x1 : FieldAt Tryz.prog 162 1 1 := .of' Tryz.underlying162 rfl rfl Tryz.sizeOf3
instance fieldx162x2 : FieldAt Tryz.prog 162 2 2 := .of' Tryz.underlying162 rfl rfl Tryz.sizeOf3
instance fieldx162x3 : FieldAt Tryz.prog 162 3 3 := .of' Tryz.underlying162 rfl rfl Tryz.sizeOf3
instance fieldx162x4 : FieldAt Tryz.prog 162 4 4 := .of' Tryz.underlying162 rfl rfl Tryz.sizeOf3
instance fieldx162x5 : FieldAt Tryz.prog 162 5 5 := .of' Tryz.underlying162 rfl rfl Tryz.sizeOf36
instance fieldx162x6 : FieldAt Tryz.prog 162 6 13 := .of' Tryz.underlying162 rfl rfl Tryz.sizeOf4
instance fieldx162x7 : FieldAt Tryz.prog 162 7 14 := .of' Tryz.underlying162 rfl rfl Tryz.sizeOf4
instance struct162 : StructT Tryz.prog 162 #[(0, 1), (1, 1), (2, 1), (3, 1), (4, 1), (5, 8), (13, 1), (14, 1)] := ⟨fun w => ⟨_, Tryz.runUnderlying162 w, by simp [Tryz.sizeOf3, Tryz.sizeOf4, Tryz.sizeOf36]⟩⟩
instance elem162 : ElemT Tryz.prog 162 15 112 (Go.Value.agg #[Go.Value.int Go.IntKind.i64 0, Go.Value.int Go.IntKind.i64 0, Go.Value.int Go.IntKind.i64 0, Go.Value.int Go.IntKind.i64 0, Go.Value.int Go.IntKind.i64 0, Go.Value.int Go.IntKind.i64 0, Go.Value.int Go.IntKind.i64 0, Go.Value.int Go.IntKind.i64 0, Go.Value.int Go.IntKind.i64 0, Go.Value.int Go.IntKind.i64 0, Go.Value.int Go.IntKind.i64 0, Go.Value.int Go.IntKind.i64 0, Go.Value.int Go.IntKind.i64 0, Go.Value.bool false, Go.Value.bool false]) := ⟨⟨_, Tryz.type162, rfl, rfl, rfl⟩, rfl⟩
instance one164 : One Tryz.prog 164 := ⟨Tryz.isAgg164, Tryz.sizeOf164⟩
instance zero164 : ZeroV Tryz.prog 164 #[Go.Value.nilFunc] := ⟨fun w => ⟨_, Tryz.zeroValue164 w, rfl⟩⟩
instance elem164 : ElemT Tryz.prog 164 1 8 Go.Value.nilFunc := ⟨⟨_, Tryz.type164, rfl, rfl, rfl⟩, rfl⟩
instance one165 : One Tryz.prog 165 := ⟨Tryz.isAgg165, Tryz.sizeOf165⟩
instance zero165 : ZeroV Tryz.prog 165 #[Go.Value.nilFunc] := ⟨fun w => ⟨_, Tryz.zeroValue165 w, rfl⟩⟩
instance elem165 : ElemT Tryz.prog 165 1 8 Go.Value.nilFunc := ⟨⟨_, Tryz.type165, rfl, rfl, rfl⟩, rfl⟩
instance agg166 : Agg Tryz.prog 166 4 := ⟨Tryz.isAgg166, Tryz.sizeOf166⟩
instance zero166 : ZeroV Tryz.prog 166 #[Go.Value.int Go.IntKind.i64 0, Go.Value.int Go.IntKind.i64 0, Go.Value.int Go.IntKind.i64 0, Go.Value.bool false] := ⟨fun w => ⟨_, Tryz.zeroValue166 w, rfl⟩⟩
instance fieldx166x0 : FieldAt Tryz.prog 166 0 0 := .of' Tryz.underlying166 rfl rfl Tryz.sizeOf3
instance fieldx166x1 : FieldAt Tryz.prog 166 1 1 := .of' Tryz.underlying166 rfl rfl Tryz.sizeOf3
instance fieldx166x2 : FieldAt Tryz.prog 166 2 2 := .of' Tryz.underlying166 rfl rfl Tryz.sizeOf3
instance fieldx166x3 : FieldAt Tryz.prog 166 3 3 := .of' Tryz.underlying166 rfl rfl Tryz.sizeOf4
instance struct166 : StructT Tryz.prog 166 #[(0, 1), (1, 1), (2, 1), (3, 1)] := ⟨fun w => ⟨_, Tryz.runUnderlying166 w, by simp [Tryz.sizeOf3, Tryz.sizeOf4]⟩⟩
instance elem166 : ElemT Tryz.prog 166 4 32 (Go.Value.agg #[Go.Value.int Go.IntKind.i64 0, Go.Value.int Go.IntKind.i64 0, Go.Value.int Go.IntKind.i64 0, Go.Value.bool false]) := ⟨⟨_, Tryz.type166, rfl, rfl, rfl⟩, rfl⟩
instance agg167 : Agg Tryz.prog 167 4 := ⟨Tryz.isAgg167, Tryz.sizeOf167⟩
instance zero167 : ZeroV Tryz.prog 167 #[Go.Value.int Go.IntKind.i64 0, Go.Value.int Go.IntKind.i64 0, Go.Value.int Go.IntKind.i64 0, Go.Value.bool false] := ⟨fun w => ⟨_, Tryz.zeroValue167 w, rfl⟩⟩
instance fieldx167x0 : FieldAt Tryz.prog 167 0 0 := .of' Tryz.underlying167 rfl rfl Tryz.sizeOf3
instance fieldx167x1 : FieldAt Tryz.prog 167 1 1 := .of' Tryz.underlying167 rfl rfl Tryz.sizeOf3
instance fieldx167x2 : FieldAt Tryz.prog 167 2 2 := .of' Tryz.underlying167 rfl rfl Tryz.sizeOf3
instance fieldx167x3 : FieldAt Tryz.prog 167 3 3 := .of' Tryz.underlying167 rfl rfl Tryz.sizeOf4
instance struct167 : StructT Tryz.prog 167 #[(0, 1), (1, 1), (2, 1), (3, 1)] := ⟨fun w => ⟨_, Tryz.runUnderlying167 w, by simp [Tryz.sizeOf3, Tryz.sizeOf4]⟩⟩
instance elem167 : ElemT Tryz.prog 167 4 32 (Go.Value.agg #[Go.Value.int Go.IntKind.i64 0, Go.Value.int Go.IntKind.i64 0, Go.Value.int Go.IntKind.i64 0, Go.Value.bool false]) := ⟨⟨_, Tryz.type167, rfl, rfl, rfl⟩, rfl⟩
instance agg168 : Agg Tryz.prog 168 52 := ⟨Tryz.isAgg168, Tryz.sizeOf168⟩
instance zero168 : ZeroV Tryz.prog 168 #[Go.Value.int Go.IntKind.i64 0, Go.Value.int Go.IntKind.i64 0, Go.Value.int Go.IntKind.i64 0, Go.Value.bool false,       Go.Value.int Go.IntKind.i64 0, Go.Value.int Go.IntKind.i64 0, Go.Value.int Go.IntKind.i64 0, Go.Value.bool false,       Go.Value.int Go.IntKind.i64 0, Go.Value.int Go.IntKind.i64 0, Go.Value.int Go.IntKind.i64 0, Go.Value.bool false,       Go.Value.int Go.IntKind.i64 0, Go.Value.int Go.IntKind.i64 0, Go.Value.int Go.IntKind.i64 0, Go.Value.bool false,       Go.Value.int Go.IntKind.i64 0, Go.Value.int Go.IntKind.i64 0, Go.Value.int Go.IntKind.i64 0, Go.Value.bool false,       Go.Value.int Go.IntKind.i64 0, Go.Value.int Go.IntKind.i64 0, Go.Value.int Go.IntKind.i64 0, Go.Value.bool false,       Go.Value.int Go.IntKind.i64 0, Go.Value.int Go.IntKind.i64 0, Go.Value.int Go.IntKind.i64 0, Go.Value.bool false,       Go.Value.int Go.IntKind.i64 0, Go.Value.int Go.IntKind.i64 0, Go.Value.int Go.IntKind.i64 0, Go.Value.bool false,       Go.Value.int Go.IntKind.i64 0, Go.Value.int Go.IntKind.i64 0, Go.Value.int Go.IntKind.i64 0, Go.Value.bool false,       Go.Value.int Go.IntKind.i64 0, Go.Value.int Go.IntKind.i64 0, Go.Value.int Go.IntKind.i64 0, Go.Value.bool false,       Go.Value.int Go.IntKind.i64 0, Go.Value.int Go.IntKind.i64 0, Go.Value.int Go.IntKind.i64 0, Go.Value.bool false,       Go.Value.int Go.IntKind.i64 0, Go.Value.int Go.IntKind.i64 0, Go.Value.int Go.IntKind.i64 0, Go.Value.bool false,       Go.Value.int Go.IntKind.i64 0, Go.Value.int Go.IntKind.i64 0, Go.Value.int Go.IntKind.i64 0, Go.Value.bool false] := ⟨fun w => ⟨_, Tryz.zeroValue168 w, rfl⟩⟩
instance arr168 : ArrT Tryz.prog 168 13 167 4 := ⟨Tryz.underlying168, Tryz.sizeOf167⟩
instance elem168 : ElemT Tryz.prog 168 52 416 (Go.Value.agg #[Go.Value.int Go.IntKind.i64 0, Go.Value.int Go.IntKind.i64 0, Go.Value.int Go.IntKind.i64 0, Go.Value.bool false, Go.Value.int Go.IntKind.i64 0, Go.Value.int Go.IntKind.i64 0, Go.Value.int Go.IntKind.i64 0, Go.Value.bool false, Go.Value.int Go.IntKind.i64 0, Go.Value.int Go.IntKind.i64 0, Go.Value.int Go.IntKind.i64 0, Go.Value.bool false, Go.Value.int Go.IntKind.i64 0, Go.Value.int Go.IntKind.i64 0, Go.Value.int Go.IntKind.i64 0, Go.Value.bool false, Go.Value.int Go.IntKind.i64 0, Go.Value.int Go.IntKind.i64 0, Go.Value.int Go.IntKind.i64 0, Go.Value.bool false, Go.Value.int Go.IntKind.i64 0, Go.Value.int Go.IntKind.i64 0, Go.Value.int Go.IntKind.i64 0, Go.Value.bool false, Go.Value.int Go.IntKind.i64 0, Go.Value.int Go.IntKind.i64 0, Go.Value.int Go.IntKind.i64 0, Go.Value.bool false, Go.Value.int Go.IntKind.i64 0, Go.Value.int Go.IntKind.i64 0, Go.Value.int Go.IntKind.i64 0, Go.Value.bool false, Go.Value.int Go.IntKind.i64 0, Go.Value.int Go.IntKind.i64 0, Go.Value.int Go.IntKind.i64 0, Go.Value.bool false, Go.Value.int Go.IntKind.i64 0, Go.Value.int Go.IntKind.i64 0, Go.Value.int Go.IntKind.i64 0, Go.Value.bool false, Go.Value.int Go.IntKind.i64 0, Go.Value.int Go.IntKind.i64 0, Go.Value.int Go.IntKind.i64 0, Go.Value.bool false, Go.Value.int Go.IntKind.i64 0, Go.Value.int Go.IntKind.i64 0, Go.Value.int Go.IntKind.i64 0, Go.Value.bool false, Go.Value.int Go.IntKind.i64 0, Go.Value.int Go.IntKind.i64 0, Go.Value.int Go.IntKind.i64 0, Go.Value.bool false]) := ⟨⟨_, Tryz.type168, rfl, rfl, rfl⟩, rfl⟩
instance one169 : One Tryz.prog 169 := ⟨Tryz.isAgg169, Tryz.sizeOf169⟩
instance zero169 : ZeroV Tryz.prog 169 #[Go.Value.nilFunc] := ⟨fun w => ⟨_, Tryz.zeroValue169 w, rfl⟩⟩
instance elem169 : ElemT Tryz.prog 169 1 8 Go.Value.nilFunc := ⟨⟨_, Tryz.type169, rfl, rfl, rfl⟩, rfl⟩
instance one170 : One Tryz.prog 170 := ⟨Tryz.isAgg170, Tryz.sizeOf170⟩
instance zero170 : ZeroV Tryz.prog 170 #[Go.Value.nilFunc] := ⟨fun w => ⟨_, Tryz.zeroValue170 w, rfl⟩⟩
instance elem170 : ElemT Tryz.prog 170 1 8 Go.Value.nilFunc := ⟨⟨_, Tryz.type170, rfl, rfl, rfl⟩, rfl⟩
instance one171 : One Tryz.prog 171 := ⟨Tryz.isAgg171, Tryz.sizeOf171⟩
instance zero171 : ZeroV Tryz.prog 171 #[Go.Value.nilFunc] := ⟨fun w => ⟨_, Tryz.zeroValue171 w, rfl⟩⟩
instance elem171 : ElemT Tryz.prog 171 1 8 Go.Value.nilFunc := ⟨⟨_, Tryz.type171, rfl, rfl, rfl⟩, rfl⟩
instance agg172 : Agg Tryz.prog 172 2 := ⟨Tryz.isAgg172, Tryz.sizeOf172⟩
instance zero172 : ZeroV Tryz.prog 172 #[Go.Value.int Go.IntKind.i64 0, Go.Value.int Go.IntKind.i64 0] := ⟨fun w => ⟨_, Tryz.zeroValue172 w, rfl⟩⟩
instance fieldx172x0 : FieldAt Tryz.prog 172 0 0 := .of' Tryz.underlying172 rfl rfl Tryz.sizeOf3
instance fieldx172x1 : FieldAt Tryz.prog 172 1 1 := .of' Tryz.underlying172 rfl rfl Tryz.sizeOf3
instance struct172 : StructT Tryz.prog 172 #[(0, 1), (1, 1)] := ⟨fun w => ⟨_, Tryz.runUnderlying172 w, by simp [Tryz.sizeOf3]⟩⟩
instance elem172 : ElemT Tryz.prog 172 2 16 (Go.Value.agg #[Go.Value.int Go.IntKind.i64 0, Go.Value.int Go.IntKind.i64 0]) := ⟨⟨_, Tryz.type172, rfl, rfl, rfl⟩, rfl⟩
instance agg173 : Agg Tryz.prog 173 2 := ⟨Tryz.isAgg173, Tryz.sizeOf173⟩
instance zero173 : ZeroV Tryz.prog 173 #[Go.Value.int Go.IntKind.i64 0, Go.Value.int Go.IntKind.i64 0] := ⟨fun w => ⟨_, Tryz.zeroValue173 w, rfl⟩⟩
instance fieldx173x0 : FieldAt Tryz.prog 173 0 0 := .of' Tryz.underlying173 rfl rfl Tryz.sizeOf3
instance fieldx173x1 : FieldAt Tryz.prog 173 1 1 := .of' Tryz.underlying173 rfl rfl Tryz.sizeOf3
instance struct173 : StructT Tryz.prog 173 #[(0, 1), (1, 1)] := ⟨fun w => ⟨_, Tryz.runUnderlying173 w, by simp [Tryz.sizeOf3]⟩⟩
instance elem173 : ElemT Tryz.prog 173 2 16 (Go.Value.agg #[Go.Value.int Go.IntKind.i64 0, Go.Value.int Go.IntKind.i64 0]) := ⟨⟨_, Tryz.type173, rfl, rfl, rfl⟩, rfl⟩
instance one174 : One Tryz.prog 174 := ⟨Tryz.isAgg174, Tryz.sizeOf174⟩
instance zero174 : ZeroV Tryz.prog 174 #[Go.Value.nilFunc] := ⟨fun w => ⟨_, Tryz.zeroValue174 w, rfl⟩⟩
instance elem174 : ElemT Tryz.prog 174 1 8 Go.Value.nilFunc := ⟨⟨_, Tryz.type174, rfl, rfl, rfl⟩, rfl⟩
instance one176 : One Tryz.prog 176 := ⟨Tryz.isAgg176, Tryz.sizeOf176⟩
instance zero176 : ZeroV Tryz.prog 176 #[Go.Value.nilFunc] := ⟨fun w => ⟨_, Tryz.zeroValue176 w, rfl⟩⟩
instance elem176 : ElemT Tryz.prog 176 1 8 Go.Value.nilFunc := ⟨⟨_, Tryz.type176, rfl, rfl, rfl⟩, rfl⟩
instance one177 : One Tryz.prog 177 := ⟨Tryz.isAgg177, Tryz.sizeOf177⟩
instance zero177 : ZeroV Tryz.prog 177 #[Go.Value.nilFunc] := ⟨fun w => ⟨_, Tryz.zeroValue177 w, rfl⟩⟩
instance elem177 : ElemT Tryz.prog 177 1 8 Go.Value.nilFunc := ⟨⟨_, Tryz.type177, rfl, rfl, rfl⟩, rfl⟩
instance one178 : One Tryz.prog 178 := ⟨Tryz.isAgg178, Tryz.sizeOf178⟩
instance zero178 : ZeroV Tryz.prog 178 #[Go.Value.nilFunc] := ⟨fun w => ⟨_, Tryz.zeroValue178 w, rfl⟩⟩
instance elem178 : ElemT Tryz.prog 178 1 8 Go.Value.nilFunc := ⟨⟨_, Tryz.type178, rfl, rfl, rfl⟩, rfl⟩
instance one179 : One Tryz.prog 179 := ⟨Tryz.isAgg179, Tryz.sizeOf179⟩
instance zero179 : ZeroV Tryz.prog 179 #[Go.Value.nilFunc] := ⟨fun w => ⟨_, Tryz.zeroValue179 w, rfl⟩⟩
instance elem179 : ElemT Tryz.prog 179 1 8 Go.Value.nilFunc := ⟨⟨_, Tryz.type179, rfl, rfl, rfl⟩, rfl⟩
instance one180 : One Tryz.prog 180 := ⟨Tryz.isAgg180, Tryz.sizeOf180⟩
instance zero180 : ZeroV Tryz.prog 180 #[Go.Value.nilFunc] := ⟨fun w => ⟨_, Tryz.zeroValue180 w, rfl⟩⟩
instance elem180 : ElemT Tryz.prog 180 1 8 Go.Value.nilFunc := ⟨⟨_, Tryz.type180, rfl, rfl, rfl⟩, rfl⟩
instance one181 : One Tryz.prog 181 := ⟨Tryz.isAgg181, Tryz.sizeOf181⟩
instance zero181 : ZeroV Tryz.prog 181 #[Go.Value.nilFunc] := ⟨fun w => ⟨_, Tryz.zeroValue181 w, rfl⟩⟩
instance elem181 : ElemT Tryz.prog 181 1 8 Go.Value.nilFunc := ⟨⟨_, Tryz.type181, rfl, rfl, rfl⟩, rfl⟩
instance one182 : One Tryz.prog 182 := ⟨Tryz.isAgg182, Tryz.sizeOf182⟩
instance zero182 : ZeroV Tryz.prog 182 #[Go.Value.nilFunc] := ⟨fun w => ⟨_, Tryz.zeroValue182 w, rfl⟩⟩
instance elem182 : ElemT Tryz.prog 182 1 8 Go.Value.nilFunc := ⟨⟨_, Tryz.type182, rfl, rfl, rfl⟩, rfl⟩
instance one183 : One Tryz.prog 183 := ⟨Tryz.isAgg183, Tryz.sizeOf183⟩
instance zero183 : ZeroV Tryz.prog 183 #[Go.Value.nilFunc] := ⟨fun w => ⟨_, Tryz.zeroValue183 w, rfl⟩⟩
instance elem183 : ElemT Tryz.prog 183 1 8 Go.Value.nilFunc := ⟨⟨_, Tryz.type183, rfl, rfl, rfl⟩, rfl⟩
instance agg184 : Agg Tryz.prog 184 16 := ⟨Tryz.isAgg184, Tryz.sizeOf184⟩
instance zero184 : ZeroV Tryz.prog 184 #[Go.Value.int Go.IntKind.i64 0, Go.Value.int Go.IntKind.i64 0, Go.Value.int Go.IntKind.i64 0,       Go.Value.int Go.IntKind.i64 0, Go.Value.int Go.IntKind.i64 0, Go.Value.int Go.IntKind.i64 0,       Go.Value.int Go.IntKind.i64 0, Go.Value.int Go.IntKind.i64 0, Go.Value.int Go.IntKind.i64 0,       Go.Value.int Go.IntKind.i64 0, Go.Value.int Go.IntKind.i64 0, Go.Value.int Go.IntKind.i64 0,       Go.Value.int Go.IntKind.i64 0, Go.Value.int Go.IntKind.i64 0, Go.Value.int Go.IntKind.i64 0, Go.Value.bool false] := ⟨fun w => ⟨_, Tryz.zeroValue184 w, rfl⟩⟩
instance fieldx184x0 : FieldAt Tryz.prog 184 0 0 := .of' Tryz.underlying184 rfl rfl Tryz.sizeOf38
instance fieldx184x1 : FieldAt Tryz.prog 184 1 15 := .of' Tryz.underlying184 rfl rfl Tryz.sizeOf4
instance struct184 : StructT Tryz.prog 184 #[(0, 15), (15, 1)] := ⟨fun w => ⟨_, Tryz.runUnderlying184 w, by simp [Tryz.sizeOf4, Tryz.sizeOf38]⟩⟩
instance elem184 : ElemT Tryz.prog 184 16 128 (Go.Value.agg #[Go.Value.int Go.IntKind.i64 0, Go.Value.int Go.IntKind.i64 0, Go.Value.int Go.IntKind.i64 0, Go.Value.int Go.IntKind.i64 0, Go.Value.int Go.IntKind.i64 0, Go.Value.int Go.IntKind.i64 0, Go.Value.int Go.IntKind.i64 0, Go.Value.int Go.IntKind.i64 0, Go.Value.int Go.IntKind.i64 0, Go.Value.int Go.IntKind.i64 0, Go.Value.int Go.IntKind.i64 0, Go.Value.int Go.IntKind.i64 0, Go.Value.int Go.IntKind.i64 0, Go.Value.int Go.IntKind.i64 0, Go.Value.int Go.IntKind.i64 0, Go.Value.bool false]) := ⟨⟨_, Tryz.type184, rfl, rfl, rfl⟩, rfl⟩
instance agg185 : Agg Tryz.prog 185 16 := ⟨Tryz.isAgg185, Tryz.sizeOf185⟩
instance zero185 : ZeroV Tryz.prog 185 #[Go.Value.int Go.IntKind.i64 0, Go.Value.int Go.IntKind.i64 0, Go.Value.int Go.IntKind.i64 0,       Go.Value.int Go.IntKind.i64 0, Go.Value.int Go.IntKind.i64 0, Go.Value.int Go.IntKind.i64 0,       Go.Value.int Go.IntKind.i64 0, Go.Value.int Go.IntKind.i64 0, Go.Value.int Go.IntKind.i64 0,       Go.Value.int Go.IntKind.i64 0, Go.Value.int Go.IntKind.i64 0, Go.Value.int Go.IntKind.i64 0,       Go.Value.int Go.IntKind.i64 0, Go.Value.int Go.IntKind.i64 0, Go.Value.int Go.IntKind.i64 0, Go.Value.bool false] := ⟨fun w => ⟨_, Tryz.zeroValue185 w, rfl⟩⟩
instance fieldx185x0 : FieldAt Tryz.prog 185 0 0 := .of' Tryz.underlying185 rfl rfl Tryz.sizeOf38
instance fieldx185x1 : FieldAt Tryz.prog 185 1 15 := .of' Tryz.underlying185 rfl rfl Tryz.sizeOf4
instance struct185 : StructT Tryz.prog 185 #[(0, 15), (15, 1)] := ⟨fun w => ⟨_, Tryz.runUnderlying185 w, by simp [Tryz.sizeOf4, Tryz.sizeOf38]⟩⟩
instance elem185 : ElemT Tryz.prog 185 16 128 (Go.Value.agg #[Go.Value.int Go.IntKind.i64 0, Go.Value.int Go.IntKind.i64 0, Go.Value.int Go.IntKind.i64 0, Go.Value.int Go.IntKind.i64 0, Go.Value.int Go.IntKind.i64 0, Go.Value.int Go.IntKind.i64 0, Go.Value.int Go.IntKind.i64 0, Go.Value.int Go.IntKind.i64 0, Go.Value.int Go.IntKind.i64 0, Go.Value.int Go.IntKind.i64 0, Go.Value.int Go.IntKind.i64 0, Go.Value.int Go.IntKind.i64 0, Go.Value.int Go.IntKind.i64 0, Go.Value.int Go.IntKind.i64 0, Go.Value.int Go.IntKind.i64 0, Go.Value.bool false]) := ⟨⟨_, Tryz.type185, rfl, rfl, rfl⟩, rfl⟩
instance one188 : One Tryz.prog 188 := ⟨Tryz.isAgg188, Tryz.sizeOf188⟩
instance zero188 : ZeroV Tryz.prog 188 #[Go.Value.nilFunc] := ⟨fun w => ⟨_, Tryz.zeroValue188 w, rfl⟩⟩
instance elem188 : ElemT Tryz.prog 188 1 8 Go.Value.nilFunc := ⟨⟨_, Tryz.type188, rfl, rfl, rfl⟩, rfl⟩
instance one190 : One Tryz.prog 190 := ⟨Tryz.isAgg190, Tryz.sizeOf190⟩
instance zero190 : ZeroV Tryz.prog 190 #[Go.Value.nilFunc] := ⟨fun w => ⟨_, Tryz.zeroValue190 w, rfl⟩⟩
instance elem190 : ElemT Tryz.prog 190 1 8 Go.Value.nilFunc := ⟨⟨_, Tryz.type190, rfl, rfl, rfl⟩, rfl⟩
instance one192 : One Tryz.prog 192 := ⟨Tryz.isAgg192, Tryz.sizeOf192⟩
instance zero192 : ZeroV Tryz.prog 192 #[Go.Value.nilFunc] := ⟨fun w => ⟨_, Tryz.zeroValue192 w, rfl⟩⟩
instance elem192 : ElemT Tryz.prog 192 1 8 Go.Value.nilFunc := ⟨⟨_, Tryz.type192, rfl, rfl, rfl⟩, rfl⟩
instance one193 : One Tryz.prog 193 := ⟨Tryz.isAgg193, Tryz.sizeOf193⟩
instance zero193 : ZeroV Tryz.prog 193 #[Go.Value.nilFunc] := ⟨fun w => ⟨_, Tryz.zeroValue193 w, rfl⟩⟩
instance elem193 : ElemT Tryz.prog 193 1 8 Go.Value.nilFunc := ⟨⟨_, Tryz.type193, rfl, rfl, rfl⟩, rfl⟩
instance one194 : One Tryz.prog 194 := ⟨Tryz.isAgg194, Tryz.sizeOf194⟩
instance zero194 : ZeroV Tryz.prog 194 #[Go.Value.nilFunc] := ⟨fun w => ⟨_, Tryz.zeroValue194 w, rfl⟩⟩
instance elem194 : ElemT Tryz.prog 194 1 8 Go.Value.nilFunc := ⟨⟨_, Tryz.type194, rfl, rfl, rfl⟩, rfl⟩
instance one195 : One Tryz.prog 195 := ⟨Tryz.isAgg195, Tryz.sizeOf195⟩
instance zero195 : ZeroV Tryz.prog 195 #[Go.Value.nilFunc] := ⟨fun w => ⟨_, Tryz.zeroValue195 w, rfl⟩⟩
instance elem195 : ElemT Tryz.prog 195 1 8 Go.Value.nilFunc := ⟨⟨_, Tryz.type195, rfl, rfl, rfl⟩, rfl⟩
instance one196 : One Tryz.prog 196 := ⟨Tryz.isAgg196, Tryz.sizeOf196⟩
instance zero196 : ZeroV Tryz.prog 196 #[(Go.Value.pointer none)] := ⟨fun w => ⟨_, Tryz.zeroValue196 w, rfl⟩⟩
instance elem196 : ElemT Tryz.prog 196 1 8 (Go.Value.pointer none) := ⟨⟨_, Tryz.type196, rfl, rfl, rfl⟩, rfl⟩
instance one198 : One Tryz.prog 198 := ⟨Tryz.isAgg198, Tryz.sizeOf198⟩
instance zero198 : ZeroV Tryz.prog 198 #[Go.Value.nilFunc] := ⟨fun w => ⟨_, Tryz.zeroValue198 w, rfl⟩⟩
instance elem198 : ElemT Tryz.prog 198 1 8 Go.Value.nilFunc := ⟨⟨_, Tryz.type198, rfl, rfl, rfl⟩, rfl⟩
instance one199 : One Tryz.prog 199 := ⟨Tryz.isAgg199, Tryz.sizeOf199⟩
instance zero199 : ZeroV Tryz.prog 199 #[(Go.Value.pointer none)] := ⟨fun w => ⟨_, Tryz.zeroValue199 w, rfl⟩⟩
instance elem199 : ElemT Tryz.prog 199 1 8 (Go.Value.pointer none) := ⟨⟨_, Tryz.type199, rfl, rfl, rfl⟩, rfl⟩
instance one201 : One Tryz.prog 201 := ⟨Tryz.isAgg201, Tryz.sizeOf201⟩
instance zero201 : ZeroV Tryz.prog 201 #[Go.Value.nilFunc] := ⟨fun w => ⟨_, Tryz.zeroValue201 w, rfl⟩⟩
instance elem201 : ElemT Tryz.prog 201 1 8 Go.Value.nilFunc := ⟨⟨_, Tryz.type201, rfl, rfl, rfl⟩, rfl⟩
instance one202 : One Tryz.prog 202 := ⟨Tryz.isAgg202, Tryz.sizeOf202⟩
instance zero202 : ZeroV Tryz.prog 202 #[(Go.Value.map none)] := ⟨fun w => ⟨_, Tryz.zeroValue202 w, rfl⟩⟩
instance elem202 : ElemT Tryz.prog 202 1 8 (Go.Value.map none) := ⟨⟨_, Tryz.type202, rfl, rfl, rfl⟩, rfl⟩
instance agg203 : Agg Tryz.prog 203 18 := ⟨Tryz.isAgg203, Tryz.sizeOf203⟩
instance zero203 : ZeroV Tryz.prog 203 #[Go.Value.int Go.IntKind.i64 0, Go.Value.int Go.IntKind.i64 0, Go.Value.int Go.IntKind.i64 0,       Go.Value.int Go.IntKind.i64 0, Go.Value.int Go.IntKind.i64 0, Go.Value.int Go.IntKind.i64 0,       Go.Value.int Go.IntKind.i64 0, Go.Value.int Go.IntKind.i64 0, Go.Value.int Go.IntKind.i64 0,       Go.Value.int Go.IntKind.i64 0, Go.Value.int Go.IntKind.i64 0, Go.Value.int Go.IntKind.i64 0,       Go.Value.int Go.IntKind.i64 0, Go.Value.int Go.IntKind.i64 0, Go.Value.map none, Go.Value.pointer none,       Go.Value.pointer none, Go.Value.int Go.IntKind.i64 0] := ⟨fun w => ⟨_, Tryz.zeroValue203 w, rfl⟩⟩
instance fieldx203x0 : FieldAt Tryz.prog 203 0 0 := .of' Tryz.underlying203 rfl rfl Tryz.sizeOf24
instance fieldx203x1 : FieldAt Tryz.prog 203 1 13 := .of' Tryz.underlying203 rfl rfl Tryz.sizeOf3
instance fieldx203x2 : FieldAt Tryz.prog 203 2 14 := .of' Tryz.underlying203 rfl rfl Tryz.sizeOf202
instance fieldx203x3 : FieldAt Tryz.prog 203 3 15 := .of' Tryz.underlying203 rfl rfl Tryz.sizeOf196
instance fieldx203x4 : FieldAt Tryz.prog 203 4 16 := .of' Tryz.underlying203 rfl rfl Tryz.sizeOf199
instance fieldx203x5 : FieldAt Tryz.prog 203 5 17 := .of' Tryz.underlying203 rfl rfl Tryz.sizeOf3
instance struct203 : StructT Tryz.prog 203 #[(0, 13), (13, 1), (14, 1), (15, 1), (16, 1), (17, 1)] := ⟨fun w => ⟨_, Tryz.runUnderlying203 w, by simp [Tryz.sizeOf3, Tryz.sizeOf24, Tryz.sizeOf196, Tryz.sizeOf199, Tryz.sizeOf202]⟩⟩
instance elem203 : ElemT Tryz.prog 203 18 144 (Go.Value.agg #[Go.Value.int Go.IntKind.i64 0, Go.Value.int Go.IntKind.i64 0, Go.Value.int Go.IntKind.i64 0, Go.Value.int Go.IntKind.i64 0, Go.Value.int Go.IntKind.i64 0, Go.Value.int Go.IntKind.i64 0, Go.Value.int Go.IntKind.i64 0, Go.Value.int Go.IntKind.i64 0, Go.Value.int Go.IntKind.i64 0, Go.Value.int Go.IntKind.i64 0, Go.Value.int Go.IntKind.i64 0, Go.Value.int Go.IntKind.i64 0, Go.Value.int Go.IntKind.i64 0, Go.Value.int Go.IntKind.i64 0, Go.Value.map none, Go.Value.pointer none, Go.Value.pointer none, Go.Value.int Go.IntKind.i64 0]) := ⟨⟨_, Tryz.type203, rfl, rfl, rfl⟩, rfl⟩
instance agg204 : Agg Tryz.prog 204 18 := ⟨Tryz.isAgg204, Tryz.sizeOf204⟩
instance zero204 : ZeroV Tryz.prog 204 #[Go.Value.int Go.IntKind.i64 0, Go.Value.int Go.IntKind.i64 0, Go.Value.int Go.IntKind.i64 0,       Go.Value.int Go.IntKind.i64 0, Go.Value.int Go.IntKind.i64 0, Go.Value.int Go.IntKind.i64 0,       Go.Value.int Go.IntKind.i64 0, Go.Value.int Go.IntKind.i64 0, Go.Value.int Go.IntKind.i64 0,       Go.Value.int Go.IntKind.i64 0, Go.Value.int Go.IntKind.i64 0, Go.Value.int Go.IntKind.i64 0,       Go.Value.int Go.IntKind.i64 0, Go.Value.int Go.IntKind.i64 0, Go.Value.map none, Go.Value.pointer none,       Go.Value.pointer none, Go.Value.int Go.IntKind.i64 0] := ⟨fun w => ⟨_, Tryz.zeroValue204 w, rfl⟩⟩
instance fieldx204x0 : FieldAt Tryz.prog 204 0 0 := .of' Tryz.underlying204 rfl rfl Tryz.sizeOf24
instance fieldx204x1 : FieldAt Tryz.prog 204 1 13 := .of' Tryz.underlying204 rfl rfl Tryz.sizeOf3
instance fieldx204x2 : FieldAt Tryz.prog 204 2 14 := .of' Tryz.underlying204 rfl rfl Tryz.sizeOf202
instance fieldx204x3 : FieldAt Tryz.prog 204 3 15 := .of' Tryz.underlying204 rfl rfl Tryz.sizeOf196
instance fieldx204x4 : FieldAt Tryz.prog 204 4 16 := .of' Tryz.underlying204 rfl rfl Tryz.sizeOf199
instance fieldx204x5 : FieldAt Tryz.prog 204 5 17 := .of' Tryz.underlying204 rfl rfl Tryz.sizeOf3
instance struct204 : StructT Tryz.prog 204 #[(0, 13), (13, 1), (14, 1), (15, 1), (16, 1), (17, 1)] := ⟨fun w => ⟨_, Tryz.runUnderlying204 w, by simp [Tryz.sizeOf3, Tryz.sizeOf24, Tryz.sizeOf196, Tryz.sizeOf199, Tryz.sizeOf202]⟩⟩
instance elem204 : ElemT Tryz.prog 204 18 144 (Go.Value.agg #[Go.Value.int Go.IntKind.i64 0, Go.Value.int Go.IntKind.i64 0, Go.Value.int Go.IntKind.i64 0, Go.Value.int Go.IntKind.i64 0, Go.Value.int Go.IntKind.i64 0, Go.Value.int Go.IntKind.i64 0, Go.Value.int Go.IntKind.i64 0, Go.Value.int Go.IntKind.i64 0, Go.Value.int Go.IntKind.i64 0, Go.Value.int Go.IntKind.i64 0, Go.Value.int Go.IntKind.i64 0, Go.Value.int Go.IntKind.i64 0, Go.Value.int Go.IntKind.i64 0, Go.Value.int Go.IntKind.i64 0, Go.Value.map none, Go.Value.pointer none, Go.Value.pointer none, Go.Value.int Go.IntKind.i64 0]) := ⟨⟨_, Tryz.type204, rfl, rfl, rfl⟩, rfl⟩
instance one205 : One Tryz.prog 205 := ⟨Tryz.isAgg205, Tryz.sizeOf205⟩
instance zero205 : ZeroV Tryz.prog 205 #[Go.Value.nilFunc] := ⟨fun w => ⟨_, Tryz.zeroValue205 w, rfl⟩⟩
instance elem205 : ElemT Tryz.prog 205 1 8 Go.Value.nilFunc := ⟨⟨_, Tryz.type205, rfl, rfl, rfl⟩, rfl⟩
instance one207 : One Tryz.prog 207 := ⟨Tryz.isAgg207, Tryz.sizeOf207⟩
instance zero207 : ZeroV Tryz.prog 207 #[Go.Value.nilFunc] := ⟨fun w => ⟨_, Tryz.zeroValue207 w, rfl⟩⟩
instance elem207 : ElemT Tryz.prog 207 1 8 Go.Value.nilFunc := ⟨⟨_, Tryz.type207, rfl, rfl, rfl⟩, rfl⟩
instance one209 : One Tryz.prog 209 := ⟨Tryz.isAgg209, Tryz.sizeOf209⟩
instance zero209 : ZeroV Tryz.prog 209 #[Go.Value.nilFunc] := ⟨fun w => ⟨_, Tryz.zeroValue209 w, rfl⟩⟩
instance elem209 : ElemT Tryz.prog 209 1 8 Go.Value.nilFunc := ⟨⟨_, Tryz.type209, rfl, rfl, rfl⟩, rfl⟩
instance one211 : One Tryz.prog 211 := ⟨Tryz.isAgg211, Tryz.sizeOf211⟩
instance zero211 : ZeroV Tryz.prog 211 #[Go.Value.nilFunc] := ⟨fun w => ⟨_, Tryz.zeroValue211 w, rfl⟩⟩
instance elem211 : ElemT Tryz.prog 211 1 8 Go.Value.nilFunc := ⟨⟨_, Tryz.type211, rfl, rfl, rfl⟩, rfl⟩
instance one213 : One Tryz.prog 213 := ⟨Tryz.isAgg213, Tryz.sizeOf213⟩
instance zero213 : ZeroV Tryz.prog 213 #[Go.Value.nilFunc] := ⟨fun w => ⟨_, Tryz.zeroValue213 w, rfl⟩⟩
instance elem213 : ElemT Tryz.prog 213 1 8 Go.Value.nilFunc := ⟨⟨_, Tryz.type213, rfl, rfl, rfl⟩, rfl⟩
instance one214 : One Tryz.prog 214 := ⟨Tryz.isAgg214, Tryz.sizeOf214⟩
instance zero214 : ZeroV Tryz.prog 214 #[(Go.Value.slice none 0 0)] := ⟨fun w => ⟨_, Tryz.zeroValue214 w, rfl⟩⟩
instance slice214 : SliceT Tryz.prog 214 38 15 := ⟨Tryz.underlying214, Tryz.sizeOf38⟩
instance elem214 : ElemT Tryz.prog 214 1 24 (Go.Value.slice none 0 0) := ⟨⟨_, Tryz.type214, rfl, rfl, rfl⟩, rfl⟩
instance agg215 : Agg Tryz.prog 215 17 := ⟨Tryz.isAgg215, Tryz.sizeOf215⟩
instance zero215 : ZeroV Tryz.prog 215 #[Go.Value.int Go.IntKind.i64 0, Go.Value.int Go.IntKind.i64 0, Go.Value.int Go.IntKind.i64 0,       Go.Value.int Go.IntKind.i64 0, Go.Value.int Go.IntKind.i64 0, Go.Value.int Go.IntKind.i64 0,       Go.Value.int Go.IntKind.i64 0, Go.Value.int Go.IntKind.i64 0, Go.Value.int Go.IntKind.i64 0,       Go.Value.int Go.IntKind.i64 0, Go.Value.int Go.IntKind.i64 0, Go.Value.int Go.IntKind.i64 0,       Go.Value.int Go.IntKind.i64 0, Go.Value.int Go.IntKind.i64 0, Go.Value.int Go.IntKind.i64 0, Go.Value.bool false,       Go.Value.slice none 0 0] := ⟨fun w => ⟨_, Tryz.zeroValue215 w, rfl⟩⟩
instance fieldx215x0 : FieldAt Tryz.prog 215 0 0 := .of' Tryz.underlying215 rfl rfl Tryz.sizeOf38
instance fieldx215x1 : FieldAt Tryz.prog 215 1 15 := .of' Tryz.underlying215 rfl rfl Tryz.sizeOf4
instance fieldx215x2 : FieldAt Tryz.prog 215 2 16 := .of' Tryz.underlying215 rfl rfl Tryz.sizeOf214
instance struct215 : StructT Tryz.prog 215 #[(0, 15), (15, 1), (16, 1)] := ⟨fun w => ⟨_, Tryz.runUnderlying215 w, by simp [Tryz.sizeOf4, Tryz.sizeOf38, Tryz.sizeOf214]⟩⟩
instance elem215 : ElemT Tryz.prog 215 17 152 (Go.Value.agg #[Go.Value.int Go.IntKind.i64 0, Go.Value.int Go.IntKind.i64 0, Go.Value.int Go.IntKind.i64 0, Go.Value.int Go.IntKind.i64 0, Go.Value.int Go.IntKind.i64 0, Go.Value.int Go.IntKind.i64 0, Go.Value.int Go.IntKind.i64 0, Go.Value.int Go.IntKind.i64 0, Go.Value.int Go.IntKind.i64 0, Go.Value.int Go.IntKind.i64 0, Go.Value.int Go.IntKind.i64 0, Go.Value.int Go.IntKind.i64 0, Go.Value.int Go.IntKind.i64 0, Go.Value.int Go.IntKind.i64 0, Go.Value.int Go.IntKind.i64 0, Go.Value.bool false, Go.Value.slice none 0 0]) := ⟨⟨_, Tryz.type215, rfl, rfl, rfl⟩, rfl⟩
instance agg216 : Agg Tryz.prog 216 17 := ⟨Tryz.isAgg216, Tryz.sizeOf216⟩
instance zero216 : ZeroV Tryz.prog 216 #[Go.Value.int Go.IntKind.i64 0, Go.Value.int Go.IntKind.i64 0, Go.Value.int Go.IntKind.i64 0,       Go.Value.int Go.IntKind.i64 0, Go.Value.int Go.IntKind.i64 0, Go.Value.int Go.IntKind.i64 0,       Go.Value.int Go.IntKind.i64 0, Go.Value.int Go.IntKind.i64 0, Go.Value.int Go.IntKind.i64 0,       Go.Value.int Go.IntKind.i64 0, Go.Value.int Go.IntKind.i64 0, Go.Value.int Go.IntKind.i64 0,       Go.Value.int Go.IntKind.i64 0, Go.Value.int Go.IntKind.i64 0, Go.Value.int Go.IntKind.i64 0, Go.Value.bool false,       Go.Value.slice none 0 0] := ⟨fun w => ⟨_, Tryz.zeroValue216 w, rfl⟩⟩
instance fieldx216x0 : FieldAt Tryz.prog 216 0 0 := .of' Tryz.underlying216 rfl rfl Tryz.sizeOf38
instance fieldx216x1 : FieldAt Tryz.prog 216 1 15 := .of' Tryz.underlying216 rfl rfl Tryz.sizeOf4
instance fieldx216x2 : FieldAt Tryz.prog 216 2 16 := .of' Tryz.underlying216 rfl rfl Tryz.sizeOf214
instance struct216 : StructT Tryz.prog 216 #[(0, 15), (15, 1), (16, 1)] := ⟨fun w => ⟨_, Tryz.runUnderlying216 w, by simp [Tryz.sizeOf4, Tryz.sizeOf38, Tryz.sizeOf214]⟩⟩
instance elem216 : ElemT Tryz.prog 216 17 152 (Go.Value.agg #[Go.Value.int Go.IntKind.i64 0, Go.Value.int Go.IntKind.i64 0, Go.Value.int Go.IntKind.i64 0, Go.Value.int Go.IntKind.i64 0, Go.Value.int Go.IntKind.i64 0, Go.Value.int Go.IntKind.i64 0, Go.Value.int Go.IntKind.i64 0, Go.Value.int Go.IntKind.i64 0, Go.Value.int Go.IntKind.i64 0, Go.Value.int Go.IntKind.i64 0, Go.Value.int Go.IntKind.i64 0, Go.Value.int Go.IntKind.i64 0, Go.Value.int Go.IntKind.i64 0, Go.Value.int Go.IntKind.i64 0, Go.Value.int Go.IntKind.i64 0, Go.Value.bool false, Go.Value.slice none 0 0]) := ⟨⟨_, Tryz.type216, rfl, rfl, rfl⟩, rfl⟩
instance agg217 : Agg Tryz.prog 217 7 := ⟨Tryz.isAgg217, Tryz.sizeOf217⟩
instance zero217 : ZeroV Tryz.prog 217 #[Go.Value.int Go.IntKind.i64 0, Go.Value.int Go.IntKind.i64 0, Go.Value.int Go.IntKind.i64 0,       Go.Value.slice none 0 0, Go.Value.bool false, Go.Value.slice none 0 0, Go.Value.bool false] := ⟨fun w => ⟨_, Tryz.zeroValue217 w, rfl⟩⟩
instance fieldx217x0 : FieldAt Tryz.prog 217 0 0 := .of' Tryz.underlying217 rfl rfl Tryz.sizeOf136
instance fieldx217x1 : FieldAt Tryz.prog 217 1 5 := .of' Tryz.underlying217 rfl rfl Tryz.sizeOf214
instance fieldx217x2 : FieldAt Tryz.prog 217 2 6 := .of' Tryz.underlying217 rfl rfl Tryz.sizeOf4
instance struct217 : StructT Tryz.prog 217 #[(0, 5), (5, 1), (6, 1)] := ⟨fun w => ⟨_, Tryz.runUnderlying217 w, by simp [Tryz.sizeOf4, Tryz.sizeOf136, Tryz.sizeOf214]⟩⟩
instance elem217 : ElemT Tryz.prog 217 7 88 (Go.Value.agg #[Go.Value.int Go.IntKind.i64 0, Go.Value.int Go.IntKind.i64 0, Go.Value.int Go.IntKind.i64 0, Go.Value.slice none 0 0, Go.Value.bool false, Go.Value.slice none 0 0, Go.Value.bool false]) := ⟨⟨_, Tryz.type217, rfl, rfl, rfl⟩, rfl⟩
instance agg218 : Agg Tryz.prog 218 7 := ⟨Tryz.isAgg218, Tryz.sizeOf218⟩
instance zero218 : ZeroV Tryz.prog 218 #[Go.Value.int Go.IntKind.i64 0, Go.Value.int Go.IntKind.i64 0, Go.Value.int Go.IntKind.i64 0,       Go.Value.slice none 0 0, Go.Value.bool false, Go.Value.slice none 0 0, Go.Value.bool false] := ⟨fun w => ⟨_, Tryz.zeroValue218 w, rfl⟩⟩
instance fieldx218x0 : FieldAt Tryz.prog 218 0 0 := .of' Tryz.underlying218 rfl rfl Tryz.sizeOf136
instance fieldx218x1 : FieldAt Tryz.prog 218 1 5 := .of' Tryz.underlying218 rfl rfl Tryz.sizeOf214
instance fieldx218x2 : FieldAt Tryz.prog 218 2 6 := .of' Tryz.underlying218 rfl rfl Tryz.sizeOf4
instance struct218 : StructT Tryz.prog 218 #[(0, 5), (5, 1), (6, 1)] := ⟨fun w => ⟨_, Tryz.runUnderlying218 w, by simp [Tryz.sizeOf4, Tryz.sizeOf136, Tryz.sizeOf214]⟩⟩
instance elem218 : ElemT Tryz.prog 218 7 88 (Go.Value.agg #[Go.Value.int Go.IntKind.i64 0, Go.Value.int Go.IntKind.i64 0, Go.Value.int Go.IntKind.i64 0, Go.Value.slice none 0 0, Go.Value.bool false, Go.Value.slice none 0 0, Go.Value.bool false]) := ⟨⟨_, Tryz.type218, rfl, rfl, rfl⟩, rfl⟩
instance one220 : One Tryz.prog 220 := ⟨Tryz.isAgg220, Tryz.sizeOf220⟩
instance zero220 : ZeroV Tryz.prog 220 #[Go.Value.nilFunc] := ⟨fun w => ⟨_, Tryz.zeroValue220 w, rfl⟩⟩
instance elem220 : ElemT Tryz.prog 220 1 8 Go.Value.nilFunc := ⟨⟨_, Tryz.type220, rfl, rfl, rfl⟩, rfl⟩
instance one221 : One Tryz.prog 221 := ⟨Tryz.isAgg221, Tryz.sizeOf221⟩
instance zero221 : ZeroV Tryz.prog 221 #[Go.Value.nilFunc] := ⟨fun w => ⟨_, Tryz.zeroValue221 w, rfl⟩⟩
instance elem221 : ElemT Tryz.prog 221 1 8 Go.Value.nilFunc := ⟨⟨_, Tryz.type221, rfl, rfl, rfl⟩, rfl⟩
instance one222 : One Tryz.prog 222 := ⟨Tryz.isAgg222, Tryz.sizeOf222⟩
instance zero222 : ZeroV Tryz.prog 222 #[Go.Value.nilFunc] := ⟨fun w => ⟨_, Tryz.zeroValue222 w, rfl⟩⟩
instance elem222 : ElemT Tryz.prog 222 1 8 Go.Value.nilFunc := ⟨⟨_, Tryz.type222, rfl, rfl, rfl⟩, rfl⟩
instance one223 : One Tryz.prog 223 := ⟨Tryz.isAgg223, Tryz.sizeOf223⟩
instance zero223 : ZeroV Tryz.prog 223 #[Go.Value.nilFunc] := ⟨fun w => ⟨_, Tryz.zeroValue223 w, rfl⟩⟩
instance elem223 : ElemT Tryz.prog 223 1 8 Go.Value.nilFunc := ⟨⟨_, Tryz.type223, rfl, rfl, rfl⟩, rfl⟩
instance one224 : One Tryz.prog 224 := ⟨Tryz.isAgg224, Tryz.sizeOf224⟩
instance zero224 : ZeroV Tryz.prog 224 #[Go.Value.nilFunc] := ⟨fun w => ⟨_, Tryz.zeroValue224 w, rfl⟩⟩
instance elem224 : ElemT Tryz.prog 224 1 8 Go.Value.nilFunc := ⟨⟨_, Tryz.type224, rfl, rfl, rfl⟩, rfl⟩
instance agg225 : Agg Tryz.prog 225 17 := ⟨Tryz.isAgg225, Tryz.sizeOf225⟩
instance zero225 : ZeroV Tryz.prog 225 #[Go.Value.int Go.IntKind.i64 0, Go.Value.int Go.IntKind.i64 0, Go.Value.int Go.IntKind.i64 0,       Go.Value.int Go.IntKind.i64 0, Go.Value.int Go.IntKind.i64 0, Go.Value.int Go.IntKind.i64 0,       Go.Value.int Go.IntKind.i64 0, Go.Value.int Go.IntKind.i64 0, Go.Value.int Go.IntKind.i64 0,       Go.Value.int Go.IntKind.i64 0, Go.Value.int Go.IntKind.i64 0, Go.Value.int Go.IntKind.i64 0,       Go.Value.int Go.IntKind.i64 0, Go.Value.int Go.IntKind.i64 0, Go.Value.int Go.IntKind.i64 0, Go.Value.bool false,       Go.Value.slice none 0 0] := ⟨fun w => ⟨_, Tryz.zeroValue225 w, rfl⟩⟩
instance fieldx225x0 : FieldAt Tryz.prog 225 0 0 := .of' Tryz.underlying225 rfl rfl Tryz.sizeOf38
instance fieldx225x1 : FieldAt Tryz.prog 225 1 15 := .of' Tryz.underlying225 rfl rfl Tryz.sizeOf4
instance fieldx225x2 : FieldAt Tryz.prog 225 2 16 := .of' Tryz.underlying225 rfl rfl Tryz.sizeOf214
instance struct225 : StructT Tryz.prog 225 #[(0, 15), (15, 1), (16, 1)] := ⟨fun w => ⟨_, Tryz.runUnderlying225 w, by simp [Tryz.sizeOf4, Tryz.sizeOf38, Tryz.sizeOf214]⟩⟩
instance elem225 : ElemT Tryz.prog 225 17 152 (Go.Value.agg #[Go.Value.int Go.IntKind.i64 0, Go.Value.int Go.IntKind.i64 0, Go.Value.int Go.IntKind.i64 0, Go.Value.int Go.IntKind.i64 0, Go.Value.int Go.IntKind.i64 0, Go.Value.int Go.IntKind.i64 0, Go.Value.int Go.IntKind.i64 0, Go.Value.int Go.IntKind.i64 0, Go.Value.int Go.IntKind.i64 0, Go.Value.int Go.IntKind.i64 0, Go.Value.int Go.IntKind.i64 0, Go.Value.int Go.IntKind.i64 0, Go.Value.int Go.IntKind.i64 0, Go.Value.int Go.IntKind.i64 0, Go.Value.int Go.IntKind.i64 0, Go.Value.bool false, Go.Value.slice none 0 0]) := ⟨⟨_, Tryz.type225, rfl, rfl, rfl⟩, rfl⟩
instance one226 : One Tryz.prog 226 := ⟨Tryz.isAgg226, Tryz.sizeOf226⟩
instance zero226 : ZeroV Tryz.prog 226 #[Go.Value.nilFunc] := ⟨fun w => ⟨_, Tryz.zeroValue226 w, rfl⟩⟩
instance elem226 : ElemT Tryz.prog 226 1 8 Go.Value.nilFunc := ⟨⟨_, Tryz.type226, rfl, rfl, rfl⟩, rfl⟩
instance agg227 : Agg Tryz.prog 227 14 := ⟨Tryz.isAgg227, Tryz.sizeOf227⟩
instance zero227 : ZeroV Tryz.prog 227 #[Go.Value.int Go.IntKind.i64 0, Go.Value.int Go.IntKind.i64 0, Go.Value.int Go.IntKind.i64 0,       Go.Value.int Go.IntKind.i64 0, Go.Value.int Go.IntKind.i64 0, Go.Value.int Go.IntKind.i64 0,       Go.Value.int Go.IntKind.i64 0, Go.Value.int Go.IntKind.i64 0, Go.Value.int Go.IntKind.i64 0,       Go.Value.int Go.IntKind.i64 0, Go.Value.int Go.IntKind.i64 0, Go.Value.int Go.IntKind.i64 0,       Go.Value.int Go.IntKind.i64 0, Go.Value.slice none 0 0] := ⟨fun w => ⟨_, Tryz.zeroValue227 w, rfl⟩⟩
instance fieldx227x0 : FieldAt Tryz.prog 227 0 0 := .of' Tryz.underlying227 rfl rfl Tryz.sizeOf24
instance fieldx227x1 : FieldAt Tryz.prog 227 1 13 := .of' Tryz.underlying227 rfl rfl Tryz.sizeOf121
instance struct227 : StructT Tryz.prog 227 #[(0, 13), (13, 1)] := ⟨fun w => ⟨_, Tryz.runUnderlying227 w, by simp [Tryz.sizeOf24, Tryz.sizeOf121]⟩⟩
instance elem227 : ElemT Tryz.prog 227 14 128 (Go.Value.agg #[Go.Value.int Go.IntKind.i64 0, Go.Value.int Go.IntKind.i64 0, Go.Value.int Go.IntKind.i64 0, Go.Value.int Go.IntKind.i64 0, Go.Value.int Go.IntKind.i64 0, Go.Value.int Go.IntKind.i64 0, Go.Value.int Go.IntKind.i64 0, Go.Value.int Go.IntKind.i64 0, Go.Value.int Go.IntKind.i64 0, Go.Value.int Go.IntKind.i64 0, Go.Value.int Go.IntKind.i64 0, Go.Value.int Go.IntKind.i64 0, Go.Value.int Go.IntKind.i64 0, Go.Value.slice none 0 0]) := ⟨⟨_, Tryz.type227, rfl, rfl, rfl⟩, rfl⟩
instance agg228 : Agg Tryz.prog 228 14 := ⟨Tryz.isAgg228, Tryz.sizeOf228⟩
instance zero228 : ZeroV Tryz.prog 228 #[Go.Value.int Go.IntKind.i64 0, Go.Value.int Go.IntKind.i64 0, Go.Value.int Go.IntKind.i64 0,       Go.Value.int Go.IntKind.i64 0, Go.Value.int Go.IntKind.i64 0, Go.Value.int Go.IntKind.i64 0,       Go.Value.int Go.IntKind.i64 0, Go.Value.int Go.IntKind.i64 0, Go.Value.int Go.IntKind.i64 0,       Go.Value.int Go.IntKind.i64 0, Go.Value.int Go.IntKind.i64 0, Go.Value.int Go.IntKind.i64 0,       Go.Value.int Go.IntKind.i64 0, Go.Value.slice none 0 0] := ⟨fun w => ⟨_, Tryz.zeroValue228 w, rfl⟩⟩
instance fieldx228x0 : FieldAt Tryz.prog 228 0 0 := .of' Tryz.underlying228 rfl rfl Tryz.sizeOf24
instance fieldx228x1 : FieldAt Tryz.prog 228 1 13 := .of' Tryz.underlying228 rfl rfl Tryz.sizeOf121
instance struct228 : StructT Tryz.prog 228 #[(0, 13), (13, 1)] := ⟨fun w => ⟨_, Tryz.runUnderlying228 w, by simp [Tryz.sizeOf24, Tryz.sizeOf121]⟩⟩
instance elem228 : ElemT Tryz.prog 228 14 128 (Go.Value.agg #[Go.Value.int Go.IntKind.i64 0, Go.Value.int Go.IntKind.i64 0, Go.Value.int Go.IntKind.i64 0, Go.Value.int Go.IntKind.i64 0, Go.Value.int Go.IntKind.i64 0, Go.Value.int Go.IntKind.i64 0, Go.Value.int Go.IntKind.i64 0, Go.Value.int Go.IntKind.i64 0, Go.Value.int Go.IntKind.i64 0, Go.Value.int Go.IntKind.i64 0, Go.Value.int Go.IntKind.i64 0, Go.Value.int Go.IntKind.i64 0, Go.Value.int Go.IntKind.i64 0, Go.Value.slice none 0 0]) := ⟨⟨_, Tryz.type228, rfl, rfl, rfl⟩, rfl⟩
instance one229 : One Tryz.prog 229 := ⟨Tryz.isAgg229, Tryz.sizeOf229⟩
instance zero229 : ZeroV Tryz.prog 229 #[Go.Value.nilFunc] := ⟨fun w => ⟨_, Tryz.zeroValue229 w, rfl⟩⟩
instance elem229 : ElemT Tryz.prog 229 1 8 Go.Value.nilFunc := ⟨⟨_, Tryz.type229, rfl, rfl, rfl⟩, rfl⟩
instance one231 : One Tryz.prog 231 := ⟨Tryz.isAgg231, Tryz.sizeOf231⟩
instance zero231 : ZeroV Tryz.prog 231 #[Go.Value.nilFunc] := ⟨fun w => ⟨_, Tryz.zeroValue231 w, rfl⟩⟩
instance elem231 : ElemT Tryz.prog 231 1 8 Go.Value.nilFunc := ⟨⟨_, Tryz.type231, rfl, rfl, rfl⟩, rfl⟩
instance one232 : One Tryz.prog 232 := ⟨Tryz.isAgg232, Tryz.sizeOf232⟩
instance zero232 : ZeroV Tryz.prog 232 #[(Go.Value.slice none 0 0)] := ⟨fun w => ⟨_, Tryz.zeroValue232 w, rfl⟩⟩
instance slice232 : SliceT Tryz.prog 232 66 11 := ⟨Tryz.underlying232, Tryz.sizeOf66⟩
instance elem232 : ElemT Tryz.prog 232 1 24 (Go.Value.slice none 0 0) := ⟨⟨_, Tryz.type232, rfl, rfl, rfl⟩, rfl⟩
instance agg233 : Agg Tryz.prog 233 14 := ⟨Tryz.isAgg233, Tryz.sizeOf233⟩
instance zero233 : ZeroV Tryz.prog 233 #[Go.Value.int Go.IntKind.i64 0, Go.Value.int Go.IntKind.i64 0, Go.Value.int Go.IntKind.i64 0,       Go.Value.int Go.IntKind.i64 0, Go.Value.int Go.IntKind.i64 0, Go.Value.int Go.IntKind.i64 0,       Go.Value.int Go.IntKind.i64 0, Go.Value.int Go.IntKind.i64 0, Go.Value.int Go.IntKind.i64 0,       Go.Value.int Go.IntKind.i64 0, Go.Value.int Go.IntKind.i64 0, Go.Value.int Go.IntKind.i64 0,       Go.Value.int Go.IntKind.i64 0, Go.Value.slice none 0 0] := ⟨fun w => ⟨_, Tryz.zeroValue233 w, rfl⟩⟩
instance fieldx233x0 : FieldAt Tryz.prog 233 0 0 := .of' Tryz.underlying233 rfl rfl Tryz.sizeOf24
instance fieldx233x1 : FieldAt Tryz.prog 233 1 13 := .of' Tryz.underlying233 rfl rfl Tryz.sizeOf232
instance struct233 : StructT Tryz.prog 233 #[(0, 13), (13, 1)] := ⟨fun w => ⟨_, Tryz.runUnderlying233 w, by simp [Tryz.sizeOf24, Tryz.sizeOf232]⟩⟩
instance elem233 : ElemT Tryz.prog 233 14 128 (Go.Value.agg #[Go.Value.int Go.IntKind.i64 0, Go.Value.int Go.IntKind.i64 0, Go.Value.int Go.IntKind.i64 0, Go.Value.int Go.IntKind.i64 0, Go.Value.int Go.IntKind.i64 0, Go.Value.int Go.IntKind.i64 0, Go.Value.int Go.IntKind.i64 0, Go.Value.int Go.IntKind.i64 0, Go.Value.int Go.IntKind.i64 0, Go.Value.int Go.IntKind.i64 0, Go.Value.int Go.IntKind.i64 0, Go.Value.int Go.IntKind.i64 0, Go.Value.int Go.IntKind.i64 0, Go.Value.slice none 0 0]) := ⟨⟨_, Tryz.type233, rfl, rfl, rfl⟩, rfl⟩
instance agg234 : Agg Tryz.prog 234 14 := ⟨Tryz.isAgg234, Tryz.sizeOf234⟩
instance zero234 : ZeroV Tryz.prog 234 #[Go.Value.int Go.IntKind.i64 0, Go.Value.int Go.IntKind.i64 0, Go.Value.int Go.IntKind.i64 0,       Go.Value.int Go.IntKind.i64 0, Go.Value.int Go.IntKind.i64 0, Go.Value.int Go.IntKind.i64 0,       Go.Value.int Go.IntKind.i64 0, Go.Value.int Go.IntKind.i64 0, Go.Value.int Go.IntKind.i64 0,       Go.Value.int Go.IntKind.i64 0, Go.Value.int Go.IntKind.i64 0, Go.Value.int Go.IntKind.i64 0,       Go.Value.int Go.IntKind.i64 0, Go.Value.slice none 0 0] := ⟨fun w => ⟨_, Tryz.zeroValue234 w, rfl⟩⟩
instance fieldx234x0 : FieldAt Tryz.prog 234 0 0 := .of' Tryz.underlying234 rfl rfl Tryz.sizeOf24
instance fieldx234x1 : FieldAt Tryz.prog 234 1 13 := .of' Tryz.underlying234 rfl rfl Tryz.sizeOf232
instance struct234 : StructT Tryz.prog 234 #[(0, 13), (13, 1)] := ⟨fun w => ⟨_, Tryz.runUnderlying234 w, by simp [Tryz.sizeOf24, Tryz.sizeOf232]⟩⟩
instance elem234 : ElemT Tryz.prog 234 14 128 (Go.Value.agg #[Go.Value.int Go.IntKind.i64 0, Go.Value.int Go.IntKind.i64 0, Go.Value.int Go.IntKind.i64 0, Go.Value.int Go.IntKind.i64 0, Go.Value.int Go.IntKind.i64 0, Go.Value.int Go.IntKind.i64 0, Go.Value.int Go.IntKind.i64 0, Go.Value.int Go.IntKind.i64 0, Go.Value.int Go.IntKind.i64 0, Go.Value.int Go.IntKind.i64 0, Go.Value.int Go.IntKind.i64 0, Go.Value.int Go.IntKind.i64 0, Go.Value.int Go.IntKind.i64 0, Go.Value.slice none 0 0]) := ⟨⟨_, Tryz.type234, rfl, rfl, rfl⟩, rfl⟩
instance agg235 : Agg Tryz.prog 235 2 := ⟨Tryz.isAgg235, Tryz.sizeOf235⟩
instance zero235 : ZeroV Tryz.prog 235 #[Go.Value.int Go.IntKind.i64 0, Go.Value.slice none 0 0] := ⟨fun w => ⟨_, Tryz.zeroValue235 w, rfl⟩⟩
instance fieldx235x0 : FieldAt Tryz.prog 235 0 0 := .of' Tryz.underlying235 rfl rfl Tryz.sizeOf3
instance fieldx235x1 : FieldAt Tryz.prog 235 1 1 := .of' Tryz.underlying235 rfl rfl Tryz.sizeOf143
instance struct235 : StructT Tryz.prog 235 #[(0, 1), (1, 1)] := ⟨fun w => ⟨_, Tryz.runUnderlying235 w, by simp [Tryz.sizeOf3, Tryz.sizeOf143]⟩⟩
instance elem235 : ElemT Tryz.prog 235 2 32 (Go.Value.agg #[Go.Value.int Go.IntKind.i64 0, Go.Value.slice none 0 0]) := ⟨⟨_, Tryz.type235, rfl, rfl, rfl⟩, rfl⟩
instance agg236 : Agg Tryz.prog 236 2 := ⟨Tryz.isAgg236, Tryz.sizeOf236⟩
instance zero236 : ZeroV Tryz.prog 236 #[Go.Value.int Go.IntKind.i64 0, Go.Value.slice none 0 0] := ⟨fun w => ⟨_, Tryz.zeroValue236 w, rfl⟩⟩
instance fieldx236x0 : FieldAt Tryz.prog 236 0 0 := .of' Tryz.underlying236 rfl rfl Tryz.sizeOf3
instance fieldx236x1 : FieldAt Tryz.prog 236 1 1 := .of' Tryz.underlying236 rfl rfl Tryz.sizeOf143
instance struct236 : StructT Tryz.prog 236 #[(0, 1), (1, 1)] := ⟨fun w => ⟨_, Tryz.runUnderlying236 w, by simp [Tryz.sizeOf3, Tryz.sizeOf143]⟩⟩
instance elem236 : ElemT Tryz.prog 236 2 32 (Go.Value.agg #[Go.Value.int Go.IntKind.i64 0, Go.Value.slice none 0 0]) := ⟨⟨_, Tryz.type236, rfl, rfl, rfl⟩, rfl⟩
instance agg237 : Agg Tryz.prog 237 2 := ⟨Tryz.isAgg237, Tryz.sizeOf237⟩
instance zero237 : ZeroV Tryz.prog 237 #[Go.Value.int Go.IntKind.i64 0, Go.Value.slice none 0 0] := ⟨fun w => ⟨_, Tryz.zeroValue237 w, rfl⟩⟩
instance fieldx237x0 : FieldAt Tryz.prog 237 0 0 := .of' Tryz.underlying237 rfl rfl Tryz.sizeOf3
instance fieldx237x1 : FieldAt Tryz.prog 237 1 1 := .of' Tryz.underlying237 rfl rfl Tryz.sizeOf140
instance struct237 : StructT Tryz.prog 237 #[(0, 1), (1, 1)] := ⟨fun w => ⟨_, Tryz.runUnderlying237 w, by simp [Tryz.sizeOf3, Tryz.sizeOf140]⟩⟩
instance elem237 : ElemT Tryz.prog 237 2 32 (Go.Value.agg #[Go.Value.int Go.IntKind.i64 0, Go.Value.slice none 0 0]) := ⟨⟨_, Tryz.type237, rfl, rfl, rfl⟩, rfl⟩
instance agg238 : Agg Tryz.prog 238 2 := ⟨Tryz.isAgg238, Tryz.sizeOf238⟩
instance zero238 : ZeroV Tryz.prog 238 #[Go.Value.int Go.IntKind.i64 0, Go.Value.slice none 0 0] := ⟨fun w => ⟨_, Tryz.zeroValue238 w, rfl⟩⟩
instance fieldx238x0 : FieldAt Tryz.prog 238 0 0 := .of' Tryz.underlying238 rfl rfl Tryz.sizeOf3
instance fieldx238x1 : FieldAt Tryz.prog 238 1 1 := .of' Tryz.underlying238 rfl rfl Tryz.sizeOf140
instance struct238 : StructT Tryz.prog 238 #[(0, 1), (1, 1)] := ⟨fun w => ⟨_, Tryz.runUnderlying238 w, by simp [Tryz.sizeOf3, Tryz.sizeOf140]⟩⟩
instance elem238 : ElemT Tryz.prog 238 2 32 (Go.Value.agg #[Go.Value.int Go.IntKind.i64 0, Go.Value.slice none 0 0]) := ⟨⟨_, Tryz.type238, rfl, rfl, rfl⟩, rfl⟩
instance one239 : One Tryz.prog 239 := ⟨Tryz.isAgg239, Tryz.sizeOf239⟩
instance zero239 : ZeroV Tryz.prog 239 #[Go.Value.nilFunc] := ⟨fun w => ⟨_, Tryz.zeroValue239 w, rfl⟩⟩
instance elem239 : ElemT Tryz.prog 239 1 8 Go.Value.nilFunc := ⟨⟨_, Tryz.type239, rfl, rfl, rfl⟩, rfl⟩
instance one241 : One Tryz.prog 241 := ⟨Tryz.isAgg241, Tryz.sizeOf241⟩
instance zero241 : ZeroV Tryz.prog 241 #[Go.Value.nilFunc] := ⟨fun w => ⟨_, Tryz.zeroValue241 w, rfl⟩⟩
instance elem241 : ElemT Tryz.prog 241 1 8 Go.Value.nilFunc := ⟨⟨_, Tryz.type241, rfl, rfl, rfl⟩, rfl⟩
instance one242 : One Tryz.prog 242 := ⟨Tryz.isAgg242, Tryz.sizeOf242⟩
instance zero242 : ZeroV Tryz.prog 242 #[Go.Value.nilFunc] := ⟨fun w => ⟨_, Tryz.zeroValue242 w, rfl⟩⟩
instance elem242 : ElemT Tryz.prog 242 1 8 Go.Value.nilFunc := ⟨⟨_, Tryz.type242, rfl, rfl, rfl⟩, rfl⟩
instance one243 : One Tryz.prog 243 := ⟨Tryz.isAgg243, Tryz.sizeOf243⟩
instance zero243 : ZeroV Tryz.prog 243 #[Go.Value.nilFunc] := ⟨fun w => ⟨_, Tryz.zeroValue243 w, rfl⟩⟩
instance elem243 : ElemT Tryz.prog 243 1 8 Go.Value.nilFunc := ⟨⟨_, Tryz.type243, rfl, rfl, rfl⟩, rfl⟩
instance one244 : One Tryz.prog 244 := ⟨Tryz.isAgg244, Tryz.sizeOf244⟩
instance zero244 : ZeroV Tryz.prog 244 #[Go.Value.nilFunc] := ⟨fun w => ⟨_, Tryz.zeroValue244 w, rfl⟩⟩
instance elem244 : ElemT Tryz.prog 244 1 8 Go.Value.nilFunc := ⟨⟨_, Tryz.type244, rfl, rfl, rfl⟩, rfl⟩
instance one246 : One Tryz.prog 246 := ⟨Tryz.isAgg246, Tryz.sizeOf246⟩
instance zero246 : ZeroV Tryz.prog 246 #[Go.Value.nilFunc] := ⟨fun w => ⟨_, Tryz.zeroValue246 w, rfl⟩⟩
instance elem246 : ElemT Tryz.prog 246 1 8 Go.Value.nilFunc := ⟨⟨_, Tryz.type246, rfl, rfl, rfl⟩, rfl⟩
instance one247 : One Tryz.prog 247 := ⟨Tryz.isAgg247, Tryz.sizeOf247⟩
instance zero247 : ZeroV Tryz.prog 247 #[Go.Value.nilFunc] := ⟨fun w => ⟨_, Tryz.zeroValue247 w, rfl⟩⟩
instance elem247 : ElemT Tryz.prog 247 1 8 Go.Value.nilFunc := ⟨⟨_, Tryz.type247, rfl, rfl, rfl⟩, rfl⟩
instance one248 : One Tryz.prog 248 := ⟨Tryz.isAgg248, Tryz.sizeOf248⟩
instance zero248 : ZeroV Tryz.prog 248 #[(Go.Value.pointer none)] := ⟨fun w => ⟨_, Tryz.zeroValue248 w, rfl⟩⟩
instance elem248 : ElemT Tryz.prog 248 1 8 (Go.Value.pointer none) := ⟨⟨_, Tryz.type248, rfl, rfl, rfl⟩, rfl⟩
instance one249 : One Tryz.prog 249 := ⟨Tryz.isAgg249, Tryz.sizeOf249⟩
instance zero249 : ZeroV Tryz.prog 249 #[Go.Value.nilFunc] := ⟨fun w => ⟨_, Tryz.zeroValue249 w, rfl⟩⟩
instance elem249 : ElemT Tryz.prog 249 1 8 Go.Value.nilFunc := ⟨⟨_, Tryz.type249, rfl, rfl, rfl⟩, rfl⟩
instance one250 : One Tryz.prog 250 := ⟨Tryz.isAgg250, Tryz.sizeOf250⟩
instance zero250 : ZeroV Tryz.prog 250 #[(Go.Value.pointer none)] := ⟨fun w => ⟨_, Tryz.zeroValue250 w, rfl⟩⟩
instance elem250 : ElemT Tryz.prog 250 1 8 (Go.Value.pointer none) := ⟨⟨_, Tryz.type250, rfl, rfl, rfl⟩, rfl⟩
instance one251 : One Tryz.prog 251 := ⟨Tryz.isAgg251, Tryz.sizeOf251⟩
instance zero251 : ZeroV Tryz.prog 251 #[Go.Value.nilIface] := ⟨fun w => ⟨_, Tryz.zeroValue251 w, rfl⟩⟩
instance elem251 : ElemT Tryz.prog 251 1 16 Go.Value.nilIface := ⟨⟨_, Tryz.type251, rfl, rfl, rfl⟩, rfl⟩
instance one252 : One Tryz.prog 252 := ⟨Tryz.isAgg252, Tryz.sizeOf252⟩
instance zero252 : ZeroV Tryz.prog 252 #[Go.Value.nilIface] := ⟨fun w => ⟨_, Tryz.zeroValue252 w, rfl⟩⟩
instance elem252 : ElemT Tryz.prog 252 1 16 Go.Value.nilIface := ⟨⟨_, Tryz.type252, rfl, rfl, rfl⟩, rfl⟩
instance one253 : One Tryz.prog 253 := ⟨Tryz.isAgg253, Tryz.sizeOf253⟩
instance zero253 : ZeroV Tryz.prog 253 #[Go.Value.nilFunc] := ⟨fun w => ⟨_, Tryz.zeroValue253 w, rfl⟩⟩
instance elem253 : ElemT Tryz.prog 253 1 8 Go.Value.nilFunc := ⟨⟨_, Tryz.type253, rfl, rfl, rfl⟩, rfl⟩
instance one254 : One Tryz.prog 254 := ⟨Tryz.isAgg254, Tryz.sizeOf254⟩
instance zero254 : ZeroV Tryz.prog 254 #[Go.Value.nilIface] := ⟨fun w => ⟨_, Tryz.zeroValue254 w, rfl⟩⟩
instance elem254 : ElemT Tryz.prog 254 1 16 Go.Value.nilIface := ⟨⟨_, Tryz.type254, rfl, rfl, rfl⟩, rfl⟩
instance one255 : One Tryz.prog 255 := ⟨Tryz.isAgg255, Tryz.sizeOf255⟩
instance zero255 : ZeroV Tryz.prog 255 #[Go.Value.nilIface] := ⟨fun w => ⟨_, Tryz.zeroValue255 w, rfl⟩⟩
instance elem255 : ElemT Tryz.prog 255 1 16 Go.Value.nilIface := ⟨⟨_, Tryz.type255, rfl, rfl, rfl⟩, rfl⟩
instance one257 : One Tryz.prog 257 := ⟨Tryz.isAgg257, Tryz.sizeOf257⟩
instance zero257 : ZeroV Tryz.prog 257 #[Go.Value.nilFunc] := ⟨fun w => ⟨_, Tryz.zeroValue257 w, rfl⟩⟩
instance elem257 : ElemT Tryz.prog 257 1 8 Go.Value.nilFunc := ⟨⟨_, Tryz.type257, rfl, rfl, rfl⟩, rfl⟩
instance one258 : One Tryz.prog 258 := ⟨Tryz.isAgg258, Tryz.sizeOf258⟩
instance zero258 : ZeroV Tryz.prog 258 #[Go.Value.nilFunc] := ⟨fun w => ⟨_, Tryz.zeroValue258 w, rfl⟩⟩
instance elem258 : ElemT Tryz.prog 258 1 8 Go.Value.nilFunc := ⟨⟨_, Tryz.type258, rfl, rfl, rfl⟩, rfl⟩
instance one259 : One Tryz.prog 259 := ⟨Tryz.isAgg259, Tryz.sizeOf259⟩
instance zero259 : ZeroV Tryz.prog 259 #[Go.Value.nilFunc] := ⟨fun w => ⟨_, Tryz.zeroValue259 w, rfl⟩⟩
instance elem259 : ElemT Tryz.prog 259 1 8 Go.Value.nilFunc := ⟨⟨_, Tryz.type259, rfl, rfl, rfl⟩, rfl⟩
instance one260 : One Tryz.prog 260 := ⟨Tryz.isAgg260, Tryz.sizeOf260⟩
instance zero260 : ZeroV Tryz.prog 260 #[(Go.Value.pointer none)] := ⟨fun w => ⟨_, Tryz.zeroValue260 w, rfl⟩⟩
instance elem260 : ElemT Tryz.prog 260 1 8 (Go.Value.pointer none) := ⟨⟨_, Tryz.type260, rfl, rfl, rfl⟩, rfl⟩
instance one261 : One Tryz.prog 261 := ⟨Tryz.isAgg261, Tryz.sizeOf261⟩
instance zero261 : ZeroV Tryz.prog 261 #[Go.Value.nilFunc] := ⟨fun w => ⟨_, Tryz.zeroValue261 w, rfl⟩⟩
instance elem261 : ElemT Tryz.prog 261 1 8 Go.Value.nilFunc := ⟨⟨_, Tryz.type261, rfl, rfl, rfl⟩, rfl⟩
instance one262 : One Tryz.prog 262 := ⟨Tryz.isAgg262, Tryz.sizeOf262⟩
instance zero262 : ZeroV Tryz.prog 262 #[Go.Value.nilFunc] := ⟨fun w => ⟨_, Tryz.zeroValue262 w, rfl⟩⟩
instance elem262 : ElemT Tryz.prog 262 1 8 Go.Value.nilFunc := ⟨⟨_, Tryz.type262, rfl, rfl, rfl⟩, rfl⟩
instance one263 : One Tryz.prog 263 := ⟨Tryz.isAgg263, Tryz.sizeOf263⟩
instance zero263 : ZeroV Tryz.prog 263 #[Go.Value.nilFunc] := ⟨fun w => ⟨_, Tryz.zeroValue263 w, rfl⟩⟩
instance elem263 : ElemT Tryz.prog 263 1 8 Go.Value.nilFunc := ⟨⟨_, Tryz.type263, rfl, rfl, rfl⟩, rfl⟩
instance one264 : One Tryz.prog 264 := ⟨Tryz.isAgg264, Tryz.sizeOf264⟩
instance zero264 : ZeroV Tryz.prog 264 #[Go.Value.nilFunc] := ⟨fun w => ⟨_, Tryz.zeroValue264 w, rfl⟩⟩
instance elem264 : ElemT Tryz.prog 264 1 8 Go.Value.nilFunc := ⟨⟨_, Tryz.type264, rfl, rfl, rfl⟩, rfl⟩
instance one265 : One Tryz.prog 265 := ⟨Tryz.isAgg265, Tryz.sizeOf265⟩
instance zero265 : ZeroV Tryz.prog 265 #[Go.Value.nilFunc] := ⟨fun w => ⟨_, Tryz.zeroValue265 w, rfl⟩⟩
instance elem265 : ElemT Tryz.prog 265 1 8 Go.Value.nilFunc := ⟨⟨_, Tryz.type265, rfl, rfl, rfl⟩, rfl⟩
instance agg270 : Agg Tryz.prog 270 14 := ⟨Tryz.isAgg270, Tryz.sizeOf270⟩
instance zero270 : ZeroV Tryz.prog 270 #[Go.Value.int Go.IntKind.i64 0, Go.Value.int Go.IntKind.i64 0, Go.Value.int Go.IntKind.i64 0,       Go.Value.int Go.IntKind.i64 0, Go.Value.int Go.IntKind.i64 0, Go.Value.int Go.IntKind.i64 0,       Go.Value.int Go.IntKind.i64 0, Go.Value.int Go.IntKind.i64 0, Go.Value.int Go.IntKind.i64 0,       Go.Value.int Go.IntKind.i64 0, Go.Value.int Go.IntKind.i64 0, Go.Value.int Go.IntKind.i64 0,       Go.Value.int Go.IntKind.i64 0, Go.Value.slice none 0 0] := ⟨fun w => ⟨_, Tryz.zeroValue270 w, rfl⟩⟩
instance fieldx270x0 : FieldAt Tryz.prog 270 0 0 := .of' Tryz.underlying270 rfl rfl Tryz.sizeOf24
instance fieldx270x1 : FieldAt Tryz.prog 270 1 13 := .of' Tryz.underlying270 rfl rfl Tryz.sizeOf121
instance struct270 : StructT Tryz.prog 270 #[(0, 13), (13, 1)] := ⟨fun w => ⟨_, Tryz.runUnderlying270 w, by simp [Tryz.sizeOf24, Tryz.sizeOf121]⟩⟩
instance elem270 : ElemT Tryz.prog 270 14 128 (Go.Value.agg #[Go.Value.int Go.IntKind.i64 0, Go.Value.int Go.IntKind.i64 0, Go.Value.int Go.IntKind.i64 0, Go.Value.int Go.IntKind.i64 0, Go.Value.int Go.IntKind.i64 0, Go.Value.int Go.IntKind.i64 0, Go.Value.int Go.IntKind.i64 0, Go.Value.int Go.IntKind.i64 0, Go.Value.int Go.IntKind.i64 0, Go.Value.int Go.IntKind.i64 0, Go.Value.int Go.IntKind.i64 0, Go.Value.int Go.IntKind.i64 0, Go.Value.int Go.IntKind.i64 0, Go.Value.slice none 0 0]) := ⟨⟨_, Tryz.type270, rfl, rfl, rfl⟩, rfl⟩
instance agg272 : Agg Tryz.prog 272 2 := ⟨Tryz.isAgg272, Tryz.sizeOf272⟩
instance zero272 : ZeroV Tryz.prog 272 #[Go.Value.int Go.IntKind.i64 0, Go.Value.slice none 0 0] := ⟨fun w => ⟨_, Tryz.zeroValue272 w, rfl⟩⟩
instance fieldx272x0 : FieldAt Tryz.prog 272 0 0 := .of' Tryz.underlying272 rfl rfl Tryz.sizeOf3
instance fieldx272x1 : FieldAt Tryz.prog 272 1 1 := .of' Tryz.underlying272 rfl rfl Tryz.sizeOf117
instance struct272 : StructT Tryz.prog 272 #[(0, 1), (1, 1)] := ⟨fun w => ⟨_, Tryz.runUnderlying272 w, by simp [Tryz.sizeOf3, Tryz.sizeOf117]⟩⟩
instance elem272 : ElemT Tryz.prog 272 2 32 (Go.Value.agg #[Go.Value.int Go.IntKind.i64 0, Go.Value.slice none 0 0]) := ⟨⟨_, Tryz.type272, rfl, rfl, rfl⟩, rfl⟩
instance one288 : One Tryz.prog 288 := ⟨Tryz.isAgg288, Tryz.sizeOf288⟩
instance zero288 : ZeroV Tryz.prog 288 #[Go.Value.nilFunc] := ⟨fun w => ⟨_, Tryz.zeroValue288 w, rfl⟩⟩
instance elem288 : ElemT Tryz.prog 288 1 8 Go.Value.nilFunc := ⟨⟨_, Tryz.type288, rfl, rfl, rfl⟩, rfl⟩
instance one292 : One Tryz.prog 292 := ⟨Tryz.isAgg292, Tryz.sizeOf292⟩
instance zero292 : ZeroV Tryz.prog 292 #[Go.Value.nilFunc] := ⟨fun w => ⟨_, Tryz.zeroValue292 w, rfl⟩⟩
instance elem292 : ElemT Tryz.prog 292 1 8 Go.Value.nilFunc := ⟨⟨_, Tryz.type292, rfl, rfl, rfl⟩, rfl⟩
instance agg294 : Agg Tryz.prog 294 0 := ⟨Tryz.isAgg294, Tryz.sizeOf294⟩
instance zero294 : ZeroV Tryz.prog 294 #[] := ⟨fun w => ⟨_, Tryz.zeroValue294 w, rfl⟩⟩
instance struct294 : StructT Tryz.prog 294 #[] := ⟨fun w => ⟨_, Tryz.runUnderlying294 w, by simp []⟩⟩
instance elem294 : ElemT Tryz.prog 294 0 0 (Go.Value.agg #[]) := ⟨⟨_, Tryz.type294, rfl, rfl, rfl⟩, rfl⟩
instance agg296 : Agg Tryz.prog 296 0 := ⟨Tryz.isAgg296, Tryz.sizeOf296⟩
instance zero296 : ZeroV Tryz.prog 296 #[] := ⟨fun w => ⟨_, Tryz.zeroValue296 w, rfl⟩⟩
instance struct296 : StructT Tryz.prog 296 #[(0, 0)] := ⟨fun w => ⟨_, Tryz.runUnderlying296 w, by simp [Tryz.sizeOf294]⟩⟩
instance elem296 : ElemT Tryz.prog 296 0 0 (Go.Value.agg #[]) := ⟨⟨_, Tryz.type296, rfl, rfl, rfl⟩, rfl⟩
instance agg298 : Agg Tryz.prog 298 1 := ⟨Tryz.isAgg298, Tryz.sizeOf298⟩
instance zero298 : ZeroV Tryz.prog 298 #[Go.Value.bool false] := ⟨fun w => ⟨_, Tryz.zeroValue298 w, rfl⟩⟩
instance fieldx298x0 : FieldAt Tryz.prog 298 0 0 := .of' Tryz.underlying298 rfl rfl Tryz.sizeOf4
instance struct298 : StructT Tryz.prog 298 #[(0, 1)] := ⟨fun w => ⟨_, Tryz.runUnderlying298 w, by simp [Tryz.sizeOf4]⟩⟩
instance elem298 : ElemT Tryz.prog 298 1 1 (Go.Value.agg #[Go.Value.bool false]) := ⟨⟨_, Tryz.type298, rfl, rfl, rfl⟩, rfl⟩
instance agg299 : Agg Tryz.prog 299 0 := ⟨Tryz.isAgg299, Tryz.sizeOf299⟩
instance zero299 : ZeroV Tryz.prog 299 #[] := ⟨fun w => ⟨_, Tryz.zeroValue299 w, rfl⟩⟩
instance struct299 : StructT Tryz.prog 299 #[] := ⟨fun w => ⟨_, Tryz.runUnderlying299 w, by simp []⟩⟩
instance elem299 : ElemT Tryz.prog 299 0 0 (Go.Value.agg #[]) := ⟨⟨_, Tryz.type299, rfl, rfl, rfl⟩, rfl⟩
instance agg300 : Agg Tryz.prog 300 1 := ⟨Tryz.isAgg300, Tryz.sizeOf300⟩
instance zero300 : ZeroV Tryz.prog 300 #[Go.Value.bool false] := ⟨fun w => ⟨_, Tryz.zeroValue300 w, rfl⟩⟩
instance fieldx300x0 : FieldAt Tryz.prog 300 0 0 := .of' Tryz.underlying300 rfl rfl Tryz.sizeOf4
instance struct300 : StructT Tryz.prog 300 #[(0, 1)] := ⟨fun w => ⟨_, Tryz.runUnderlying300 w, by simp [Tryz.sizeOf4]⟩⟩
instance elem300 : ElemT Tryz.prog 300 1 1 (Go.Value.agg #[Go.Value.bool false]) := ⟨⟨_, Tryz.type300, rfl, rfl, rfl⟩, rfl⟩
instance agg301 : Agg Tryz.prog 301 0 := ⟨Tryz.isAgg301, Tryz.sizeOf301⟩
instance zero301 : ZeroV Tryz.prog 301 #[] := ⟨fun w => ⟨_, Tryz.zeroValue301 w, rfl⟩⟩
instance struct301 : StructT Tryz.prog 301 #[] := ⟨fun w => ⟨_, Tryz.runUnderlying301 w, by simp []⟩⟩
instance elem301 : ElemT Tryz.prog 301 0 0 (Go.Value.agg #[]) := ⟨⟨_, Tryz.type301, rfl, rfl, rfl⟩, rfl⟩
instance one304 : One Tryz.prog 304 := ⟨Tryz.isAgg304, Tryz.sizeOf304⟩
instance zero304 : ZeroV Tryz.prog 304 #[(Go.Value.pointer none)] := ⟨fun w => ⟨_, Tryz.zeroValue304 w, rfl⟩⟩
instance elem304 : ElemT Tryz.prog 304 1 8 (Go.Value.pointer none) := ⟨⟨_, Tryz.type304, rfl, rfl, rfl⟩, rfl⟩
instance one305 : One Tryz.prog 305 := ⟨Tryz.isAgg305, Tryz.sizeOf305⟩
instance zero305 : ZeroV Tryz.prog 305 #[Go.Value.nilFunc] := ⟨fun w => ⟨_, Tryz.zeroValue305 w, rfl⟩⟩
instance elem305 : ElemT Tryz.prog 305 1 8 Go.Value.nilFunc := ⟨⟨_, Tryz.type305, rfl, rfl, rfl⟩, rfl⟩
instance one307 : One Tryz.prog 307 := ⟨Tryz.isAgg307, Tryz.sizeOf307⟩
instance zero307 : ZeroV Tryz.prog 307 #[Go.Value.nilFunc] := ⟨fun w => ⟨_, Tryz.zeroValue307 w, rfl⟩⟩
instance elem307 : ElemT Tryz.prog 307 1 8 Go.Value.nilFunc := ⟨⟨_, Tryz.type307, rfl, rfl, rfl⟩, rfl⟩
instance agg309 : Agg Tryz.prog 309 7 := ⟨Tryz.isAgg309, Tryz.sizeOf309⟩
instance zero309 : ZeroV Tryz.prog 309 #[Go.Value.int Go.IntKind.i64 0, Go.Value.int Go.IntKind.i64 0, Go.Value.int Go.IntKind.i64 0,       Go.Value.slice none 0 0, Go.Value.bool false, Go.Value.slice none 0 0, Go.Value.bool false] := ⟨fun w => ⟨_, Tryz.zeroValue309 w, rfl⟩⟩
instance fieldx309x0 : FieldAt Tryz.prog 309 0 0 := .of' Tryz.underlying309 rfl rfl Tryz.sizeOf125
instance fieldx309x1 : FieldAt Tryz.prog 309 1 5 := .of' Tryz.underlying309 rfl rfl Tryz.sizeOf214
instance fieldx309x2 : FieldAt Tryz.prog 309 2 6 := .of' Tryz.underlying309 rfl rfl Tryz.sizeOf4
instance struct309 : StructT Tryz.prog 309 #[(0, 5), (5, 1), (6, 1)] := ⟨fun w => ⟨_, Tryz.runUnderlying309 w, by simp [Tryz.sizeOf4, Tryz.sizeOf125, Tryz.sizeOf214]⟩⟩
instance elem309 : ElemT Tryz.prog 309 7 88 (Go.Value.agg #[Go.Value.int Go.IntKind.i64 0, Go.Value.int Go.IntKind.i64 0, Go.Value.int Go.IntKind.i64 0, Go.Value.slice none 0 0, Go.Value.bool false, Go.Value.slice none 0 0, Go.Value.bool false]) := ⟨⟨_, Tryz.type309, rfl, rfl, rfl⟩, rfl⟩
instance one312 : One Tryz.prog 312 := ⟨Tryz.isAgg312, Tryz.sizeOf312⟩
instance zero312 : ZeroV Tryz.prog 312 #[(Go.Value.pointer none)] := ⟨fun w => ⟨_, Tryz.zeroValue312 w, rfl⟩⟩
instance elem312 : ElemT Tryz.prog 312 1 8 (Go.Value.pointer none) := ⟨⟨_, Tryz.type312, rfl, rfl, rfl⟩, rfl⟩
instance one324 : One Tryz.prog 324 := ⟨Tryz.isAgg324, Tryz.sizeOf324⟩
instance zero324 : ZeroV Tryz.prog 324 #[Go.Value.nilFunc] := ⟨fun w => ⟨_, Tryz.zeroValue324 w, rfl⟩⟩
instance elem324 : ElemT Tryz.prog 324 1 8 Go.Value.nilFunc := ⟨⟨_, Tryz.type324, rfl, rfl, rfl⟩, rfl⟩
instance agg326 : Agg Tryz.prog 326 29 := ⟨Tryz.isAgg326, Tryz.sizeOf326⟩
instance zero326 : ZeroV Tryz.prog 326 #[Go.Value.int Go.IntKind.i64 0, Go.Value.int Go.IntKind.i64 0, Go.Value.int Go.IntKind.i64 0,       Go.Value.slice none 0 0, Go.Value.bool false, Go.Value.int Go.IntKind.i64 0, Go.Value.int Go.IntKind.i64 0,       Go.Value.int Go.IntKind.i64 0, Go.Value.int Go.IntKind.i64 0, Go.Value.int Go.IntKind.i64 0,       Go.Value.int Go.IntKind.i64 0, Go.Value.int Go.IntKind.i64 0, Go.Value.int Go.IntKind.i64 0,       Go.Value.int Go.IntKind.i64 0, Go.Value.int Go.IntKind.i64 0, Go.Value.int Go.IntKind.i64 0,       Go.Value.int Go.IntKind.i64 0, Go.Value.int Go.IntKind.i64 0, Go.Value.int Go.IntKind.i64 0,       Go.Value.int Go.IntKind.i64 0, Go.Value.int Go.IntKind.i64 0, Go.Value.int Go.IntKind.i64 0,       Go.Value.int Go.IntKind.i64 0, Go.Value.int Go.IntKind.i64 0, Go.Value.int Go.IntKind.i64 0,       Go.Value.int Go.IntKind.i64 0, Go.Value.int Go.IntKind.i64 0, Go.Value.int Go.IntKind.i64 0, Go.Value.nilFunc] := ⟨fun w => ⟨_, Tryz.zeroValue326 w, rfl⟩⟩
instance fieldx326x0 : FieldAt Tryz.prog 326 0 0 := .of' Tryz.underlying326 rfl rfl Tryz.sizeOf125
instance fieldx326x1 : FieldAt Tryz.prog 326 1 5 := .of' Tryz.underlying326 rfl rfl Tryz.sizeOf38
instance fieldx326x2 : FieldAt Tryz.prog 326 2 20 := .of' Tryz.underlying326 rfl rfl Tryz.sizeOf36
instance fieldx326x3 : FieldAt Tryz.prog 326 3 28 := .of' Tryz.underlying326 rfl rfl Tryz.sizeOf324
instance struct326 : StructT Tryz.prog 326 #[(0, 5), (5, 15), (20, 8), (28, 1)] := ⟨fun w => ⟨_, Tryz.runUnderlying326 w, by simp [Tryz.sizeOf36, Tryz.sizeOf38, Tryz.sizeOf125, Tryz.sizeOf324]⟩⟩
instance elem326 : ElemT Tryz.prog 326 29 248 (Go.Value.agg #[Go.Value.int Go.IntKind.i64 0, Go.Value.int Go.IntKind.i64 0, Go.Value.int Go.IntKind.i64 0, Go.Value.slice none 0 0, Go.Value.bool false, Go.Value.int Go.IntKind.i64 0, Go.Value.int Go.IntKind.i64 0, Go.Value.int Go.IntKind.i64 0, Go.Value.int Go.IntKind.i64 0, Go.Value.int Go.IntKind.i64 0, Go.Value.int Go.IntKind.i64 0, Go.Value.int Go.IntKind.i64 0, Go.Value.int Go.IntKind.i64 0, Go.Value.int Go.IntKind.i64 0, Go.Value.int Go.IntKind.i64 0, Go.Value.int Go.IntKind.i64 0, Go.Value.int Go.IntKind.i64 0, Go.Value.int Go.IntKind.i64 0, Go.Value.int Go.IntKind.i64 0, Go.Value.int Go.IntKind.i64 0, Go.Value.int Go.IntKind.i64 0, Go.Value.int Go.IntKind.i64 0, Go.Value.int Go.IntKind.i64 0, Go.Value.int Go.IntKind.i64 0, Go.Value.int Go.IntKind.i64 0, Go.Value.int Go.IntKind.i64 0, Go.Value.int Go.IntKind.i64 0, Go.Value.int Go.IntKind.i64 0, Go.Value.nilFunc]) := ⟨⟨_, Tryz.type326, rfl, rfl, rfl⟩, rfl⟩
instance one329 : One Tryz.prog 329 := ⟨Tryz.isAgg329, Tryz.sizeOf329⟩
instance zero329 : ZeroV Tryz.prog 329 #[(Go.Value.int Go.IntKind.u64 0)] := ⟨fun w => ⟨_, Tryz.zeroValue329 w, rfl⟩⟩
instance elem329 : ElemT Tryz.prog 329 1 8 (Go.Value.int Go.IntKind.u64 0) := ⟨⟨_, Tryz.type329, rfl, rfl, rfl⟩, rfl⟩
instance fn2 : FnAt Tryz.prog 2 := ⟨Tryz.call2⟩
instance fn3 : FnAt Tryz.prog 3 := ⟨Tryz.call3⟩
instance fn4 : FnAt Tryz.prog 4 := ⟨Tryz.call4⟩
instance fn5 : FnAt Tryz.prog 5 := ⟨Tryz.call5⟩
instance fn6 : FnAt Tryz.prog 6 := ⟨Tryz.call6⟩
instance fn7 : FnAt Tryz.prog 7 := ⟨Tryz.call7⟩
instance fn8 : FnAt Tryz.prog 8 := ⟨Tryz.call8⟩
instance fn9 : FnAt Tryz.prog 9 := ⟨Tryz.call9⟩
instance fn10 : FnAt Tryz.prog 10 := ⟨Tryz.call10⟩
instance fn11 : FnAt Tryz.prog 11 := ⟨Tryz.call11⟩
instance fn12 : FnAt Tryz.prog 12 := ⟨Tryz.call12⟩
instance fn13 : FnAt Tryz.prog 13 := ⟨Tryz.call13⟩
instance fn14 : FnAt Tryz.prog 14 := ⟨Tryz.call14⟩
instance fn15 : FnAt Tryz.prog 15 := ⟨Tryz.call15⟩
instance fn16 : FnAt Tryz.prog 16 := ⟨Tryz.call16⟩
instance fn17 : FnAt Tryz.prog 17 := ⟨Tryz.call17⟩
instance fn18 : FnAt Tryz.prog 18 := ⟨Tryz.call18⟩
instance fn19 : FnAt Tryz.prog 19 := ⟨Tryz.call19⟩
instance fn20 : FnAt Tryz.prog 20 := ⟨Tryz.call20⟩
instance fn21 : FnAt Tryz.prog 21 := ⟨Tryz.call21⟩
instance fn22 : FnAt Tryz.prog 22 := ⟨Tryz.call22⟩
instance fn23 : FnAt Tryz.prog 23 := ⟨Tryz.call23⟩
instance fn24 : FnAt Tryz.prog 24 := ⟨Tryz.call24⟩
instance fn25 : FnAt Tryz.prog 25 := ⟨Tryz.call25⟩
instance fn26 : FnAt Tryz.prog 26 := ⟨Tryz.call26⟩
instance fn27 : FnAt Tryz.prog 27 := ⟨Tryz.call27⟩
instance fn28 : FnAt Tryz.prog 28 := ⟨Tryz.call28⟩
instance fn29 : FnAt Tryz.prog 29 := ⟨Tryz.call29⟩
instance fn30 : FnAt Tryz.prog 30 := ⟨Tryz.call30⟩
instance fn31 : FnAt Tryz.prog 31 := ⟨Tryz.call31⟩
instance fn32 : FnAt Tryz.prog 32 := ⟨Tryz.call32⟩
instance fn33 : FnAt Tryz.prog 33 := ⟨Tryz.call33⟩
instance fn34 : FnAt Tryz.prog 34 := ⟨Tryz.call34⟩
instance fn35 : FnAt Tryz.prog 35 := ⟨Tryz.call35⟩
instance fn36 : FnAt Tryz.prog 36 := ⟨Tryz.call36⟩
instance fn37 : FnAt Tryz.prog 37 := ⟨Tryz.call37⟩
instance fn38 : FnAt Tryz.prog 38 := ⟨Tryz.call38⟩
instance fn39 : FnAt Tryz.prog 39 := ⟨Tryz.call39⟩
instance fn40 : FnAt Tryz.prog 40 := ⟨Tryz.call40⟩
instance fn41 : FnAt Tryz.prog 41 := ⟨Tryz.call41⟩
instance fn42 : FnAt Tryz.prog 42 := ⟨Tryz.call42⟩
instance fn43 : FnAt Tryz.prog 43 := ⟨Tryz.call43⟩
instance fn44 : FnAt Tryz.prog 44 := ⟨Tryz.call44⟩
instance fn45 : FnAt Tryz.prog 45 := ⟨Tryz.call45⟩
instance fn46 : FnAt Tryz.prog 46 := ⟨Tryz.call46⟩
instance fn47 : FnAt Tryz.prog 47 := ⟨Tryz.call47⟩
instance fn48 : FnAt Tryz.prog 48 := ⟨Tryz.call48⟩
instance fn49 : FnAt Tryz.prog 49 := ⟨Tryz.call49⟩
instance fn50 : FnAt Tryz.prog 50 := ⟨Tryz.call50⟩
instance fn51 : FnAt Tryz.prog 51 := ⟨Tryz.call51⟩
instance fn52 : FnAt Tryz.prog 52 := ⟨Tryz.call52⟩
instance fn53 : FnAt Tryz.prog 53 := ⟨Tryz.call53⟩
instance fn54 : FnAt Tryz.prog 54 := ⟨Tryz.call54⟩
instance fn55 : FnAt Tryz.prog 55 := ⟨Tryz.call55⟩
instance fn56 : FnAt Tryz.prog 56 := ⟨Tryz.call56⟩
instance fn57 : FnAt Tryz.prog 57 := ⟨Tryz.call57⟩
instance fn58 : FnAt Tryz.prog 58 := ⟨Tryz.call58⟩
instance fn59 : FnAt Tryz.prog 59 := ⟨Tryz.call59⟩
instance fn60 : FnAt Tryz.prog 60 := ⟨Tryz.call60⟩
instance fn61 : FnAt Tryz.prog 61 := ⟨Tryz.call61⟩
instance fn62 : FnAt Tryz.prog 62 := ⟨Tryz.call62⟩
instance fn63 : FnAt Tryz.prog 63 := ⟨Tryz.call63⟩
instance fn64 : FnAt Tryz.prog 64 := ⟨Tryz.call64⟩
instance fn65 : FnAt Tryz.prog 65 := ⟨Tryz.call65⟩
instance fn66 : FnAt Tryz.prog 66 := ⟨Tryz.call66⟩
instance fn67 : FnAt Tryz.prog 67 := ⟨Tryz.call67⟩
instance fn68 : FnAt Tryz.prog 68 := ⟨Tryz.call68⟩
instance fn69 : FnAt Tryz.prog 69 := ⟨Tryz.call69⟩
instance fn70 : FnAt Tryz.prog 70 := ⟨Tryz.call70⟩
instance fn71 : FnAt Tryz.prog 71 := ⟨Tryz.call71⟩
instance fn72 : FnAt Tryz.prog 72 := ⟨Tryz.call72⟩
instance fn73 : FnAt Tryz.prog 73 := ⟨Tryz.call73⟩
instance fn74 : FnAt Tryz.prog 74 := ⟨Tryz.call74⟩
instance fn75 : FnAt Tryz.prog 75 := ⟨Tryz.call75⟩
instance fn76 : FnAt Tryz.prog 76 := ⟨Tryz.call76⟩
instance fn77 : FnAt Tryz.prog 77 := ⟨Tryz.call77⟩
instance fn78 : FnAt Tryz.prog 78 := ⟨Tryz.call78⟩
instance fn79 : FnAt Tryz.prog 79 := ⟨Tryz.call79⟩
instance fn80 : FnAt Tryz.prog 80 := ⟨Tryz.call80⟩
instance fn81 : FnAt Tryz.prog 81 := ⟨Tryz.call81⟩
instance fn82 : FnAt Tryz.prog 82 := ⟨Tryz.call82⟩
instance fn83 : FnAt Tryz.prog 83 := ⟨Tryz.call83⟩
instance fn84 : FnAt Tryz.prog 84 := ⟨Tryz.call84⟩
instance fn85 : FnAt Tryz.prog 85 := ⟨Tryz.call85⟩
instance fn86 : FnAt Tryz.prog 86 := ⟨Tryz.call86⟩
instance fn87 : FnAt Tryz.prog 87 := ⟨Tryz.call87⟩
instance fn88 : FnAt Tryz.prog 88 := ⟨Tryz.call88⟩
instance fn89 : FnAt Tryz.prog 89 := ⟨Tryz.call89⟩
instance fn90 : FnAt Tryz.prog 90 := ⟨Tryz.call90⟩
instance fn91 : FnAt Tryz.prog 91 := ⟨Tryz.call91⟩
instance fn92 : FnAt Tryz.prog 92 := ⟨Tryz.call92⟩
instance fn93 : FnAt Tryz.prog 93 := ⟨Tryz.call93⟩
instance fn94 : FnAt Tryz.prog 94 := ⟨Tryz.call94⟩
instance fn95 : FnAt Tryz.prog 95 := ⟨Tryz.call95⟩
instance fn96 : FnAt Tryz.prog 96 := ⟨Tryz.call96⟩
instance fn97 : FnAt Tryz.prog 97 := ⟨Tryz.call97⟩
instance fn98 : FnAt Tryz.prog 98 := ⟨Tryz.call98⟩
instance fn99 : FnAt Tryz.prog 99 := ⟨Tryz.call99⟩
instance fn100 : FnAt Tryz.prog 100 := ⟨Tryz.call100⟩
instance fn101 : FnAt Tryz.prog 101 := ⟨Tryz.call101⟩
instance fn102 : FnAt Tryz.prog 102 := ⟨Tryz.call102⟩
instance fn103 : FnAt Tryz.prog 103 := ⟨Tryz.call103⟩
instance fn104 : FnAt Tryz.prog 104 := ⟨Tryz.call104⟩
instance fn105 : FnAt Tryz.prog 105 := ⟨Tryz.call105⟩
instance fn106 : FnAt Tryz.prog 106 := ⟨Tryz.call106⟩
instance fn107 : FnAt Tryz.prog 107 := ⟨Tryz.call107⟩
instance fn108 : FnAt Tryz.prog 108 := ⟨Tryz.call108⟩
instance fn109 : FnAt Tryz.prog 109 := ⟨Tryz.call109⟩
instance fn110 : FnAt Tryz.prog 110 := ⟨Tryz.call110⟩
instance fn111 : FnAt Tryz.prog 111 := ⟨Tryz.call111⟩
instance fn112 : FnAt Tryz.prog 112 := ⟨Tryz.call112⟩
instance fn113 : FnAt Tryz.prog 113 := ⟨Tryz.call113⟩
instance fn114 : FnAt Tryz.prog 114 := ⟨Tryz.call114⟩
instance fn115 : FnAt Tryz.prog 115 := ⟨Tryz.call115⟩
instance fn116 : FnAt Tryz.prog 116 := ⟨Tryz.call116⟩
instance fn117 : FnAt Tryz.prog 117 := ⟨Tryz.call117⟩
instance fn118 : FnAt Tryz.prog 118 := ⟨Tryz.call118⟩
instance fn119 : FnAt Tryz.prog 119 := ⟨Tryz.call119⟩
instance fn120 : FnAt Tryz.prog 120 := ⟨Tryz.call120⟩
instance fn121 : FnAt Tryz.prog 121 := ⟨Tryz.call121⟩
instance fn122 : FnAt Tryz.prog 122 := ⟨Tryz.call122⟩
instance fn123 : FnAt Tryz.prog 123 := ⟨Tryz.call123⟩
instance fn124 : FnAt Tryz.prog 124 := ⟨Tryz.call124⟩
instance fn125 : FnAt Tryz.prog 125 := ⟨Tryz.call125⟩
instance fn126 : FnAt Tryz.prog 126 := ⟨Tryz.call126⟩
instance fn127 : FnAt Tryz.prog 127 := ⟨Tryz.call127⟩
instance fn128 : FnAt Tryz.prog 128 := ⟨Tryz.call128⟩
instance fn129 : FnAt Tryz.prog 129 := ⟨Tryz.call129⟩
instance fn130 : FnAt Tryz.prog 130 := ⟨Tryz.call130⟩
instance fn131 : FnAt Tryz.prog 131 := ⟨Tryz.call131⟩
instance fn132 : FnAt Tryz.prog 132 := ⟨Tryz.call132⟩
instance fn133 : FnAt Tryz.prog 133 := ⟨Tryz.call133⟩
instance fn134 : FnAt Tryz.prog 134 := ⟨Tryz.call134⟩
instance fn135 : FnAt Tryz.prog 135 := ⟨Tryz.call135⟩
instance fn136 : FnAt Tryz.prog 136 := ⟨Tryz.call136⟩
instance fn137 : FnAt Tryz.prog 137 := ⟨Tryz.call137⟩
instance fn138 : FnAt Tryz.prog 138 := ⟨Tryz.call138⟩
instance fn139 : FnAt Tryz.prog 139 := ⟨Tryz.call139⟩
instance fn140 : FnAt Tryz.prog 140 := ⟨Tryz.call140⟩
instance fn141 : FnAt Tryz.prog 141 := ⟨Tryz.call141⟩
instance fn142 : FnAt Tryz.prog 142 := ⟨Tryz.call142⟩
instance fn143 : FnAt Tryz.prog 143 := ⟨Tryz.call143⟩
instance fn144 : FnAt Tryz.prog 144 := ⟨Tryz.call144⟩
instance fn145 : FnAt Tryz.prog 145 := ⟨Tryz.call145⟩
instance fn146 : FnAt Tryz.prog 146 := ⟨Tryz.call146⟩
instance fn147 : FnAt Tryz.prog 147 := ⟨Tryz.call147⟩
instance fn148 : FnAt Tryz.prog 148 := ⟨Tryz.call148⟩
instance fn149 : FnAt Tryz.prog 149 := ⟨Tryz.call149⟩
instance fn150 : FnAt Tryz.prog 150 := ⟨Tryz.call150⟩
instance fn151 : FnAt Tryz.prog 151 := ⟨Tryz.call151⟩
instance fn152 : FnAt Tryz.prog 152 := ⟨Tryz.call152⟩
instance fn153 : FnAt Tryz.prog 153 := ⟨Tryz.call153⟩
instance fn154 : FnAt Tryz.prog 154 := ⟨Tryz.call154⟩
instance fn155 : FnAt Tryz.prog 155 := ⟨Tryz.call155⟩
instance fn156 : FnAt Tryz.prog 156 := ⟨Tryz.call156⟩
instance fn157 : FnAt Tryz.prog 157 := ⟨Tryz.call157⟩
instance fn158 : FnAt Tryz.prog 158 := ⟨Tryz.call158⟩
instance fn159 : FnAt Tryz.prog 159 := ⟨Tryz.call159⟩
instance fn160 : FnAt Tryz.prog 160 := ⟨Tryz.call160⟩
instance fn161 : FnAt Tryz.prog 161 := ⟨Tryz.call161⟩
instance fn162 : FnAt Tryz.prog 162 := ⟨Tryz.call162⟩
instance fn163 : FnAt Tryz.prog 163 := ⟨Tryz.call163⟩
instance fn164 : FnAt Tryz.prog 164 := ⟨Tryz.call164⟩
instance fn165 : FnAt Tryz.prog 165 := ⟨Tryz.call165⟩
instance fn166 : FnAt Tryz.prog 166 := ⟨Tryz.call166⟩
instance fn167 : FnAt Tryz.prog 167 := ⟨Tryz.call167⟩
instance fn168 : FnAt Tryz.prog 168 := ⟨Tryz.call168⟩
instance fn169 : FnAt Tryz.prog 169 := ⟨Tryz.call169⟩
instance fn170 : FnAt Tryz.prog 170 := ⟨Tryz.call170⟩
instance fn171 : FnAt Tryz.prog 171 := ⟨Tryz.call171⟩
instance fn172 : FnAt Tryz.prog 172 := ⟨Tryz.call172⟩
instance fn173 : FnAt Tryz.prog 173 := ⟨Tryz.call173⟩
instance fn174 : FnAt Tryz.prog 174 := ⟨Tryz.call174⟩
instance fn175 : FnAt Tryz.prog 175 := ⟨Tryz.call175⟩
instance fn176 : FnAt Tryz.prog 176 := ⟨Tryz.call176⟩
instance fn177 : FnAt Tryz.prog 177 := ⟨Tryz.call177⟩
instance fn178 : FnAt Tryz.prog 178 := ⟨Tryz.call178⟩
instance fn179 : FnAt Tryz.prog 179 := ⟨Tryz.call179⟩
instance fn180 : FnAt Tryz.prog 180 := ⟨Tryz.call180⟩
instance fn181 : FnAt Tryz.prog 181 := ⟨Tryz.call181⟩
instance fn182 : FnAt Tryz.prog 182 := ⟨Tryz.call182⟩
instance fn183 : FnAt Tryz.prog 183 := ⟨Tryz.call183⟩
instance fn184 : FnAt Tryz.prog 184 := ⟨Tryz.call184⟩
instance fn185 : FnAt Tryz.prog 185 := ⟨Tryz.call185⟩
instance fn186 : FnAt Tryz.prog 186 := ⟨Tryz.call186⟩
instance fn187 : FnAt Tryz.prog 187 := ⟨Tryz.call187⟩
instance fn188 : FnAt Tryz.prog 188 := ⟨Tryz.call188⟩
instance fn189 : FnAt Tryz.prog 189 := ⟨Tryz.call189⟩
instance fn190 : FnAt Tryz.prog 190 := ⟨Tryz.call190⟩
instance fn191 : FnAt Tryz.prog 191 := ⟨Tryz.call191⟩
instance fn192 : FnAt Tryz.prog 192 := ⟨Tryz.call192⟩
instance fn193 : FnAt Tryz.prog 193 := ⟨Tryz.call193⟩
instance fn194 : FnAt Tryz.prog 194 := ⟨Tryz.call194⟩
instance fn195 : FnAt Tryz.prog 195 := ⟨Tryz.call195⟩
instance fn196 : FnAt Tryz.prog 196 := ⟨Tryz.call196⟩
instance fn197 : FnAt Tryz.prog 197 := ⟨Tryz.call197⟩
instance fn198 : FnAt Tryz.prog 198 := ⟨Tryz.call198⟩
instance fn199 : FnAt Tryz.prog 199 := ⟨Tryz.call199⟩
instance fn200 : FnAt Tryz.prog 200 := ⟨Tryz.call200⟩
instance fn201 : FnAt Tryz.prog 201 := ⟨Tryz.call201⟩
instance fn202 : FnAt Tryz.prog 202 := ⟨Tryz.call202⟩
instance fn203 : FnAt Tryz.prog 203 := ⟨Tryz.call203⟩
instance fn204 : FnAt Tryz.prog 204 := ⟨Tryz.call204⟩
instance fn205 : FnAt Tryz.prog 205 := ⟨Tryz.call205⟩
instance fn206 : FnAt Tryz.prog 206 := ⟨Tryz.call206⟩
instance fn207 : FnAt Tryz.prog 207 := ⟨Tryz.call207⟩
instance fn208 : FnAt Tryz.prog 208 := ⟨Tryz.call208⟩
instance fn209 : FnAt Tryz.prog 209 := ⟨Tryz.call209⟩
instance fn210 : FnAt Tryz.prog 210 := ⟨Tryz.call210⟩
instance fn211 : FnAt Tryz.prog 211 := ⟨Tryz.call211⟩
instance fn212 : FnAt Tryz.prog 212 := ⟨Tryz.call212⟩
instance fn213 : FnAt Tryz.prog 213 := ⟨Tryz.call213⟩
instance fn214 : FnAt Tryz.prog 214 := ⟨Tryz.call214⟩
instance fn215 : FnAt Tryz.prog 215 := ⟨Tryz.call215⟩
instance fn216 : FnAt Tryz.prog 216 := ⟨Tryz.call216⟩
instance fn217 : FnAt Tryz.prog 217 := ⟨Tryz.call217⟩
instance fn218 : FnAt Tryz.prog 218 := ⟨Tryz.call218⟩
instance fn219 : FnAt Tryz.prog 219 := ⟨Tryz.call219⟩
instance fn220 : FnAt Tryz.prog 220 := ⟨Tryz.call220⟩
instance fn221 : FnAt Tryz.prog 221 := ⟨Tryz.call221⟩
instance fn222 : FnAt Tryz.prog 222 := ⟨Tryz.call222⟩
instance fn223 : FnAt Tryz.prog 223 := ⟨Tryz.call223⟩
instance fn224 : FnAt Tryz.prog 224 := ⟨Tryz.call224⟩
instance fn225 : FnAt Tryz.prog 225 := ⟨Tryz.call225⟩
instance fn226 : FnAt Tryz.prog 226 := ⟨Tryz.call226⟩
instance fn227 : FnAt Tryz.prog 227 := ⟨Tryz.call227⟩
instance fn228 : FnAt Tryz.prog 228 := ⟨Tryz.call228⟩
instance fn229 : FnAt Tryz.prog 229 := ⟨Tryz.call229⟩
instance fn230 : FnAt Tryz.prog 230 := ⟨Tryz.call230⟩
instance fn231 : FnAt Tryz.prog 231 := ⟨Tryz.call231⟩
instance fn232 : FnAt Tryz.prog 232 := ⟨Tryz.call232⟩
instance fn233 : FnAt Tryz.prog 233 := ⟨Tryz.call233⟩
instance fn234 : FnAt Tryz.prog 234 := ⟨Tryz.call234⟩
instance fn235 : FnAt Tryz.prog 235 := ⟨Tryz.call235⟩
instance fn236 : FnAt Tryz.prog 236 := ⟨Tryz.call236⟩
instance fn237 : FnAt Tryz.prog 237 := ⟨Tryz.call237⟩
instance fn238 : FnAt Tryz.prog 238 := ⟨Tryz.call238⟩
instance fn239 : FnAt Tryz.prog 239 := ⟨Tryz.call239⟩
instance fn240 : FnAt Tryz.prog 240 := ⟨Tryz.call240⟩
instance fn241 : FnAt Tryz.prog 241 := ⟨Tryz.call241⟩
instance fn243 : FnAt Tryz.prog 243 := ⟨Tryz.call243⟩
instance fn244 : FnAt Tryz.prog 244 := ⟨Tryz.call244⟩
instance fn245 : FnAt Tryz.prog 245 := ⟨Tryz.call245⟩
instance fn263 : FnAt Tryz.prog 263 := ⟨Tryz.call263⟩
instance fn264 : FnAt Tryz.prog 264 := ⟨Tryz.call264⟩
instance fn265 : FnAt Tryz.prog 265 := ⟨Tryz.call265⟩
instance fn266 : FnAt Tryz.prog 266 := ⟨Tryz.call266⟩
instance fn267 : FnAt Tryz.prog 267 := ⟨Tryz.call267⟩
instance fn268 : FnAt Tryz.prog 268 := ⟨Tryz.call268⟩
instance fn269 : FnAt Tryz.prog 269 := ⟨Tryz.call269⟩
instance fn270 : FnAt Tryz.prog 270 := ⟨Tryz.call270⟩
instance fn271 : FnAt Tryz.prog 271 := ⟨Tryz.call271⟩
instance fn272 : FnAt Tryz.prog 272 := ⟨Tryz.call272⟩
theorem mixed : (Tryz.prog).follows .mixedOrders = true := rfl
end Go.SL.TryzI
