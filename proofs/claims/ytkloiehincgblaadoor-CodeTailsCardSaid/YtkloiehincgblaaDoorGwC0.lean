/- Part of the proof: GwC0. -/
import Derived.Test.YtkloiehincgblaaDoorGwErr
import Derived.Test.YtkloiehincgblaaDoorProg
import Derived.KernelRfl
set_option linter.unusedSimpArgs false
set_option linter.unusedVariables false
set_option maxRecDepth 100000
set_option maxHeartbeats 4000000
namespace Go.Gw
open Go.Proofs Go.Gw

theorem mixed : Tryd.prog.follows .mixedOrders = true := by kernel_rfl
def gls [ErrC] : List (Nat × AV) := [(0, errA (.s 0)), (1, errA (.s 1)), (2, errA (.s 2))]
theorem ty2 : tyOf Tryd.prog 2 = some (false, 1) := by kernel_rfl
theorem ty3 : tyOf Tryd.prog 3 = some (false, 1) := by kernel_rfl
theorem ty5 : tyOf Tryd.prog 5 = some (false, 1) := by kernel_rfl
theorem ty9 : tyOf Tryd.prog 9 = some (false, 1) := by kernel_rfl
theorem ty22 : tyOf Tryd.prog 22 = some (false, 1) := by kernel_rfl
theorem ty26 : tyOf Tryd.prog 26 = some (false, 1) := by kernel_rfl
theorem ty92 : tyOf Tryd.prog 92 = some (false, 1) := by kernel_rfl
theorem ty93 : tyOf Tryd.prog 93 = some (false, 1) := by kernel_rfl
theorem ty94 : tyOf Tryd.prog 94 = some (false, 1) := by kernel_rfl
theorem ty98 : tyOf Tryd.prog 98 = some (true, 4) := by kernel_rfl
theorem ty101 : tyOf Tryd.prog 101 = some (true, 3) := by kernel_rfl
theorem ty102 : tyOf Tryd.prog 102 = some (false, 1) := by kernel_rfl
theorem ty103 : tyOf Tryd.prog 103 = some (false, 1) := by kernel_rfl
theorem ty105 : tyOf Tryd.prog 105 = some (true, 8) := by kernel_rfl
theorem ty108 : tyOf Tryd.prog 108 = some (true, 2) := by kernel_rfl
theorem ty110 : tyOf Tryd.prog 110 = some (true, 4) := by kernel_rfl
theorem el22 : elmOf Tryd.prog 22 = some (5, 1) := by kernel_rfl
theorem ap22 : Ap Tryd.prog 22 5 1 1 := Ap.of el22 (i := Tryd.t5) (by kernel_rfl) rfl rfl
theorem el42 : elmOf Tryd.prog 42 = some (9, 1) := by kernel_rfl
theorem ap42 : Ap Tryd.prog 42 9 1 16 := Ap.of el42 (i := Tryd.t9) (by kernel_rfl) rfl rfl
theorem el92 : elmOf Tryd.prog 92 = some (98, 4) := by kernel_rfl
theorem ap92 : Ap Tryd.prog 92 98 4 40 := Ap.of el92 (i := Tryd.t98) (by kernel_rfl) rfl rfl
theorem el93 : elmOf Tryd.prog 93 = some (101, 3) := by kernel_rfl
theorem ap93 : Ap Tryd.prog 93 101 3 24 := Ap.of el93 (i := Tryd.t101) (by kernel_rfl) rfl rfl
theorem el94 : elmOf Tryd.prog 94 = some (105, 8) := by kernel_rfl
theorem ap94 : Ap Tryd.prog 94 105 8 104 := Ap.of el94 (i := Tryd.t105) (by kernel_rfl) rfl rfl
theorem el102 : elmOf Tryd.prog 102 = some (108, 2) := by kernel_rfl
theorem ap102 : Ap Tryd.prog 102 108 2 16 := Ap.of el102 (i := Tryd.t108) (by kernel_rfl) rfl rfl
theorem el103 : elmOf Tryd.prog 103 = some (110, 4) := by kernel_rfl
theorem ap103 : Ap Tryd.prog 103 110 4 32 := Ap.of el103 (i := Tryd.t110) (by kernel_rfl) rfl rfl
theorem el161 : elmOf Tryd.prog 161 = some (3, 1) := by kernel_rfl
theorem ap161 : Ap Tryd.prog 161 3 1 8 := Ap.of el161 (i := Tryd.t3) (by kernel_rfl) rfl rfl
theorem fl89_0 : fldOf Tryd.prog 89 0 = some 0 := by kernel_rfl
theorem fl89_1 : fldOf Tryd.prog 89 1 = some 1 := by kernel_rfl
theorem fl96_0 : fldOf Tryd.prog 96 0 = some 0 := by kernel_rfl
theorem fl96_1 : fldOf Tryd.prog 96 1 = some 1 := by kernel_rfl
theorem fl96_2 : fldOf Tryd.prog 96 2 = some 2 := by kernel_rfl
theorem fl96_3 : fldOf Tryd.prog 96 3 = some 3 := by kernel_rfl
theorem fl98_0 : fldOf Tryd.prog 98 0 = some 0 := by kernel_rfl
theorem fl98_1 : fldOf Tryd.prog 98 1 = some 1 := by kernel_rfl
theorem fl98_2 : fldOf Tryd.prog 98 2 = some 2 := by kernel_rfl
theorem fl98_3 : fldOf Tryd.prog 98 3 = some 3 := by kernel_rfl
theorem fl101_0 : fldOf Tryd.prog 101 0 = some 0 := by kernel_rfl
theorem fl101_1 : fldOf Tryd.prog 101 1 = some 1 := by kernel_rfl
theorem fl101_2 : fldOf Tryd.prog 101 2 = some 2 := by kernel_rfl
theorem fl105_0 : fldOf Tryd.prog 105 0 = some 0 := by kernel_rfl
theorem fl105_1 : fldOf Tryd.prog 105 1 = some 1 := by kernel_rfl
theorem fl105_2 : fldOf Tryd.prog 105 2 = some 2 := by kernel_rfl
theorem fl105_3 : fldOf Tryd.prog 105 3 = some 3 := by kernel_rfl
theorem fl105_4 : fldOf Tryd.prog 105 4 = some 4 := by kernel_rfl
theorem fl105_5 : fldOf Tryd.prog 105 5 = some 5 := by kernel_rfl
theorem fl105_6 : fldOf Tryd.prog 105 6 = some 6 := by kernel_rfl
theorem fl105_7 : fldOf Tryd.prog 105 7 = some 7 := by kernel_rfl
theorem fl108_0 : fldOf Tryd.prog 108 0 = some 0 := by kernel_rfl
theorem fl108_1 : fldOf Tryd.prog 108 1 = some 1 := by kernel_rfl
theorem fl110_0 : fldOf Tryd.prog 110 0 = some 0 := by kernel_rfl
theorem fl110_1 : fldOf Tryd.prog 110 1 = some 1 := by kernel_rfl
theorem fl110_2 : fldOf Tryd.prog 110 2 = some 2 := by kernel_rfl
theorem fl110_3 : fldOf Tryd.prog 110 3 = some 3 := by kernel_rfl
theorem ze3 : zeroOf Tryd.prog 3 = some ((Go.Value.int Go.IntKind.i64 0)) := by kernel_rfl
theorem ze5 : zeroOf Tryd.prog 5 = some ((Go.Value.int Go.IntKind.u8 0)) := by kernel_rfl
theorem ze9 : zeroOf Tryd.prog 9 = some ((Go.Value.string { data := #[] })) := by kernel_rfl
theorem ze89 : zeroOf Tryd.prog 89 = some ((Go.Value.agg #[Go.Value.slice none 0 0, Go.Value.nilIface])) := by kernel_rfl
theorem ze96 : zeroOf Tryd.prog 96 = some ((Go.Value.agg #[Go.Value.slice none 0 0, Go.Value.slice none 0 0, Go.Value.slice none 0 0, Go.Value.int Go.IntKind.i64 0])) := by kernel_rfl
theorem ze98 : zeroOf Tryd.prog 98 = some ((Go.Value.agg #[Go.Value.int Go.IntKind.i64 0, Go.Value.string { data := #[] }, Go.Value.int Go.IntKind.i64 0, Go.Value.int Go.IntKind.i64 0])) := by kernel_rfl
theorem ze101 : zeroOf Tryd.prog 101 = some ((Go.Value.agg #[Go.Value.int Go.IntKind.i64 0, Go.Value.int Go.IntKind.i64 0, Go.Value.int Go.IntKind.i64 0])) := by kernel_rfl
theorem ze105 : zeroOf Tryd.prog 105 = some ((Go.Value.agg #[Go.Value.int Go.IntKind.i64 0, Go.Value.int Go.IntKind.i64 0, Go.Value.int Go.IntKind.i64 0, Go.Value.int Go.IntKind.i64 0, Go.Value.int Go.IntKind.i64 0, Go.Value.string { data := #[] }, Go.Value.slice none 0 0, Go.Value.slice none 0 0])) := by kernel_rfl
theorem ze108 : zeroOf Tryd.prog 108 = some ((Go.Value.agg #[Go.Value.int Go.IntKind.i64 0, Go.Value.int Go.IntKind.i64 0])) := by kernel_rfl
theorem ze110 : zeroOf Tryd.prog 110 = some ((Go.Value.agg #[Go.Value.int Go.IntKind.i64 0, Go.Value.int Go.IntKind.i64 0, Go.Value.int Go.IntKind.i64 0, Go.Value.int Go.IntKind.i64 0])) := by kernel_rfl
theorem zel22 : zeroOf Tryd.prog 5 = some ((Go.Value.int Go.IntKind.u8 0)) := ze5
theorem zel42 : zeroOf Tryd.prog 9 = some ((Go.Value.string { data := #[] })) := ze9
theorem zel92 : zeroOf Tryd.prog 98 = some ((Go.Value.agg #[Go.Value.int Go.IntKind.i64 0, Go.Value.string { data := #[] }, Go.Value.int Go.IntKind.i64 0, Go.Value.int Go.IntKind.i64 0])) := ze98
theorem zel93 : zeroOf Tryd.prog 101 = some ((Go.Value.agg #[Go.Value.int Go.IntKind.i64 0, Go.Value.int Go.IntKind.i64 0, Go.Value.int Go.IntKind.i64 0])) := ze101
theorem zel94 : zeroOf Tryd.prog 105 = some ((Go.Value.agg #[Go.Value.int Go.IntKind.i64 0, Go.Value.int Go.IntKind.i64 0, Go.Value.int Go.IntKind.i64 0, Go.Value.int Go.IntKind.i64 0, Go.Value.int Go.IntKind.i64 0, Go.Value.string { data := #[] }, Go.Value.slice none 0 0, Go.Value.slice none 0 0])) := ze105
theorem zel102 : zeroOf Tryd.prog 108 = some ((Go.Value.agg #[Go.Value.int Go.IntKind.i64 0, Go.Value.int Go.IntKind.i64 0])) := ze108
theorem zel103 : zeroOf Tryd.prog 110 = some ((Go.Value.agg #[Go.Value.int Go.IntKind.i64 0, Go.Value.int Go.IntKind.i64 0, Go.Value.int Go.IntKind.i64 0, Go.Value.int Go.IntKind.i64 0])) := ze110
theorem zel161 : zeroOf Tryd.prog 3 = some ((Go.Value.int Go.IntKind.i64 0)) := ze3
theorem pl89 : plOf Tryd.prog 89 = some [(0, 1), (1, 1)] := by kernel_rfl
theorem pl96 : plOf Tryd.prog 96 = some [(0, 1), (1, 1), (2, 1), (3, 1)] := by kernel_rfl
theorem pl98 : plOf Tryd.prog 98 = some [(0, 1), (1, 1), (2, 1), (3, 1)] := by kernel_rfl
theorem pl101 : plOf Tryd.prog 101 = some [(0, 1), (1, 1), (2, 1)] := by kernel_rfl
theorem pl105 : plOf Tryd.prog 105 = some [(0, 1), (1, 1), (2, 1), (3, 1), (4, 1), (5, 1), (6, 1), (7, 1)] := by kernel_rfl
theorem pl108 : plOf Tryd.prog 108 = some [(0, 1), (1, 1)] := by kernel_rfl
theorem pl110 : plOf Tryd.prog 110 = some [(0, 1), (1, 1), (2, 1), (3, 1)] := by kernel_rfl
theorem fn10 : IsFn Tryd.prog 10 := ⟨Tryd.f10, Tryd.func10, rfl, by kernel_rfl⟩
theorem fn11 : IsFn Tryd.prog 11 := ⟨Tryd.f11, Tryd.func11, rfl, by kernel_rfl⟩
theorem fn12 : IsFn Tryd.prog 12 := ⟨Tryd.f12, Tryd.func12, rfl, by kernel_rfl⟩
theorem fn13 : IsFn Tryd.prog 13 := ⟨Tryd.f13, Tryd.func13, rfl, by kernel_rfl⟩
theorem fn14 : IsFn Tryd.prog 14 := ⟨Tryd.f14, Tryd.func14, rfl, by kernel_rfl⟩
theorem fn15 : IsFn Tryd.prog 15 := ⟨Tryd.f15, Tryd.func15, rfl, by kernel_rfl⟩
theorem fn16 : IsFn Tryd.prog 16 := ⟨Tryd.f16, Tryd.func16, rfl, by kernel_rfl⟩
theorem fn42 : IsFn Tryd.prog 42 := ⟨Tryd.f42, Tryd.func42, rfl, by kernel_rfl⟩
theorem fn43 : IsFn Tryd.prog 43 := ⟨Tryd.f43, Tryd.func43, rfl, by kernel_rfl⟩
theorem fn44 : IsFn Tryd.prog 44 := ⟨Tryd.f44, Tryd.func44, rfl, by kernel_rfl⟩
theorem fn45 : IsFn Tryd.prog 45 := ⟨Tryd.f45, Tryd.func45, rfl, by kernel_rfl⟩
theorem fn46 : IsFn Tryd.prog 46 := ⟨Tryd.f46, Tryd.func46, rfl, by kernel_rfl⟩
theorem fn47 : IsFn Tryd.prog 47 := ⟨Tryd.f47, Tryd.func47, rfl, by kernel_rfl⟩
theorem fn81 : IsFn Tryd.prog 81 := ⟨Tryd.f81, Tryd.func81, rfl, by kernel_rfl⟩
theorem fn82 : IsFn Tryd.prog 82 := ⟨Tryd.f82, Tryd.func82, rfl, by kernel_rfl⟩
theorem fn83 : IsFn Tryd.prog 83 := ⟨Tryd.f83, Tryd.func83, rfl, by kernel_rfl⟩
theorem fn84 : IsFn Tryd.prog 84 := ⟨Tryd.f84, Tryd.func84, rfl, by kernel_rfl⟩
theorem fn85 : IsFn Tryd.prog 85 := ⟨Tryd.f85, Tryd.func85, rfl, by kernel_rfl⟩
theorem fn86 : IsFn Tryd.prog 86 := ⟨Tryd.f86, Tryd.func86, rfl, by kernel_rfl⟩
theorem fn87 : IsFn Tryd.prog 87 := ⟨Tryd.f87, Tryd.func87, rfl, by kernel_rfl⟩
theorem fn117 : IsFn Tryd.prog 117 := ⟨Tryd.f117, Tryd.func117, rfl, by kernel_rfl⟩
theorem fn118 : IsFn Tryd.prog 118 := ⟨Tryd.f118, Tryd.func118, rfl, by kernel_rfl⟩
theorem fn119 : IsFn Tryd.prog 119 := ⟨Tryd.f119, Tryd.func119, rfl, by kernel_rfl⟩
theorem fn150 : IsFn Tryd.prog 150 := ⟨Tryd.f150, Tryd.func150, rfl, by kernel_rfl⟩
theorem fn151 : IsFn Tryd.prog 151 := ⟨Tryd.f151, Tryd.func151, rfl, by kernel_rfl⟩
theorem fn171 : IsFn Tryd.prog 171 := ⟨Tryd.f171, Tryd.func171, rfl, by kernel_rfl⟩
theorem fn195 : IsFn Tryd.prog 195 := ⟨Tryd.f195, Tryd.func195, rfl, by kernel_rfl⟩
end Go.Gw
