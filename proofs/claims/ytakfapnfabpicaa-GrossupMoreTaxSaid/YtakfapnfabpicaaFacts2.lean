/-
  Facts on the types and functions of this seat's translation, each by the kernel's own reckoning.
  Conditions: none.
-/
import Derived.Test.YtakfapnfabpicaaProg
import Derived.Test.YtakfapnfabpicaaE2Q
import Derived.KernelRfl
namespace Go.Proofs.Ytakfapnfabpicaa
open Go.E2
theorem fol : Try.prog.follows .mixedOrders = true := by kernel_rfl
theorem one3 : OneT Try.prog 3 := ⟨⟨_, Try.underlying3, rfl⟩, by kernel_rfl⟩
theorem one4 : OneT Try.prog 4 := ⟨⟨_, Try.underlying4, rfl⟩, by kernel_rfl⟩
theorem one22 : OneT Try.prog 22 := ⟨⟨_, Try.underlying22, rfl⟩, by kernel_rfl⟩
theorem one27 : OneT Try.prog 27 := ⟨⟨_, Try.underlying27, rfl⟩, by kernel_rfl⟩
theorem one30 : OneT Try.prog 30 := ⟨⟨_, Try.underlying30, rfl⟩, by kernel_rfl⟩
theorem one40 : OneT Try.prog 40 := ⟨⟨_, Try.underlying40, rfl⟩, by kernel_rfl⟩
theorem one54 : OneT Try.prog 54 := ⟨⟨_, Try.underlying54, rfl⟩, by kernel_rfl⟩
theorem one95 : OneT Try.prog 95 := ⟨⟨_, Try.underlying95, rfl⟩, by kernel_rfl⟩
theorem agg24 : AggT Try.prog 24 2 := ⟨⟨_, Try.underlying24, rfl⟩, by kernel_rfl⟩
theorem agg36 : AggT Try.prog 36 2 := ⟨⟨_, Try.underlying36, rfl⟩, by kernel_rfl⟩
theorem agg39 : AggT Try.prog 39 3 := ⟨⟨_, Try.underlying39, rfl⟩, by kernel_rfl⟩
theorem agg56 : AggT Try.prog 56 4 := ⟨⟨_, Try.underlying56, rfl⟩, by kernel_rfl⟩
theorem agg58 : AggT Try.prog 58 4 := ⟨⟨_, Try.underlying58, rfl⟩, by kernel_rfl⟩
theorem agg64 : AggT Try.prog 64 2 := ⟨⟨_, Try.underlying64, rfl⟩, by kernel_rfl⟩
theorem agg90 : AggT Try.prog 90 3 := ⟨⟨_, Try.underlying90, rfl⟩, by kernel_rfl⟩
theorem slc22 : SlcT Try.prog 22 39 3 := ⟨Try.underlying22, by kernel_rfl⟩
theorem slc30 : SlcT Try.prog 30 36 2 := ⟨Try.underlying30, by kernel_rfl⟩
theorem slc84 : SlcT Try.prog 84 3 1 := ⟨Try.underlying84, by kernel_rfl⟩
theorem slc87 : SlcT Try.prog 87 90 3 := ⟨Try.underlying87, by kernel_rfl⟩
theorem fld24_0 : FldT Try.prog 24 0 0 := ⟨⟨_, _, Try.underlying24, rfl, rfl, by kernel_rfl⟩⟩
theorem fld24_1 : FldT Try.prog 24 1 1 := ⟨⟨_, _, Try.underlying24, rfl, rfl, by kernel_rfl⟩⟩
theorem fld36_0 : FldT Try.prog 36 0 0 := ⟨⟨_, _, Try.underlying36, rfl, rfl, by kernel_rfl⟩⟩
theorem fld36_1 : FldT Try.prog 36 1 1 := ⟨⟨_, _, Try.underlying36, rfl, rfl, by kernel_rfl⟩⟩
theorem fld39_0 : FldT Try.prog 39 0 0 := ⟨⟨_, _, Try.underlying39, rfl, rfl, by kernel_rfl⟩⟩
theorem fld39_1 : FldT Try.prog 39 1 1 := ⟨⟨_, _, Try.underlying39, rfl, rfl, by kernel_rfl⟩⟩
theorem fld39_2 : FldT Try.prog 39 2 2 := ⟨⟨_, _, Try.underlying39, rfl, rfl, by kernel_rfl⟩⟩
theorem fld56_0 : FldT Try.prog 56 0 0 := ⟨⟨_, _, Try.underlying56, rfl, rfl, by kernel_rfl⟩⟩
theorem fld56_1 : FldT Try.prog 56 1 2 := ⟨⟨_, _, Try.underlying56, rfl, rfl, by kernel_rfl⟩⟩
theorem fld56_2 : FldT Try.prog 56 2 3 := ⟨⟨_, _, Try.underlying56, rfl, rfl, by kernel_rfl⟩⟩
theorem fld58_0 : FldT Try.prog 58 0 0 := ⟨⟨_, _, Try.underlying58, rfl, rfl, by kernel_rfl⟩⟩
theorem fld58_1 : FldT Try.prog 58 1 1 := ⟨⟨_, _, Try.underlying58, rfl, rfl, by kernel_rfl⟩⟩
theorem fld58_2 : FldT Try.prog 58 2 2 := ⟨⟨_, _, Try.underlying58, rfl, rfl, by kernel_rfl⟩⟩
theorem fld58_3 : FldT Try.prog 58 3 3 := ⟨⟨_, _, Try.underlying58, rfl, rfl, by kernel_rfl⟩⟩
theorem fld64_0 : FldT Try.prog 64 0 0 := ⟨⟨_, _, Try.underlying64, rfl, rfl, by kernel_rfl⟩⟩
theorem fld64_1 : FldT Try.prog 64 1 1 := ⟨⟨_, _, Try.underlying64, rfl, rfl, by kernel_rfl⟩⟩
theorem fld90_0 : FldT Try.prog 90 0 0 := ⟨⟨_, _, Try.underlying90, rfl, rfl, by kernel_rfl⟩⟩
theorem fld90_1 : FldT Try.prog 90 1 1 := ⟨⟨_, _, Try.underlying90, rfl, rfl, by kernel_rfl⟩⟩
theorem fld90_2 : FldT Try.prog 90 2 2 := ⟨⟨_, _, Try.underlying90, rfl, rfl, by kernel_rfl⟩⟩
theorem zer3 : ZeroA Try.prog 3 [.v (.int .i64 0)] := ⟨⟨.int .i64 0, by kernel_rfl, rfl⟩⟩
theorem zer24 : ZeroA Try.prog 24 [.v (.int .i64 0), .v (.slice none 0 0)] := ⟨⟨.agg #[.int .i64 0, .slice none 0 0], by kernel_rfl, rfl⟩⟩
theorem zer27 : ZeroA Try.prog 27 [.v (.int .i64 0)] := ⟨⟨.int .i64 0, by kernel_rfl, rfl⟩⟩
theorem zer30 : ZeroA Try.prog 30 [.v (.slice none 0 0)] := ⟨⟨.slice none 0 0, by kernel_rfl, rfl⟩⟩
theorem zer36 : ZeroA Try.prog 36 [.v (.int .i64 0), .v (.int .i64 0)] := ⟨⟨.agg #[.int .i64 0, .int .i64 0], by kernel_rfl, rfl⟩⟩
theorem zer39 : ZeroA Try.prog 39 [.v (.int .i64 0), .v (.int .i64 0), .v (.int .i64 0)] := ⟨⟨.agg #[.int .i64 0, .int .i64 0, .int .i64 0], by kernel_rfl, rfl⟩⟩
theorem zer54 : ZeroA Try.prog 54 [.v (.nilFunc)] := ⟨⟨.nilFunc, by kernel_rfl, rfl⟩⟩
theorem zer56 : ZeroA Try.prog 56 [.v (.int .i64 0), .v (.int .i64 0), .v (.nilFunc), .v (.bool false)] := ⟨⟨.agg #[.int .i64 0, .int .i64 0, .nilFunc, .bool false], by kernel_rfl, rfl⟩⟩
theorem zer58 : ZeroA Try.prog 58 [.v (.nilFunc), .v (.nilFunc), .v (.int .i64 0), .v (.int .i64 0)] := ⟨⟨.agg #[.nilFunc, .nilFunc, .int .i64 0, .int .i64 0], by kernel_rfl, rfl⟩⟩
theorem zer64 : ZeroA Try.prog 64 [.v (.int .i64 0), .v (.int .i64 0)] := ⟨⟨.agg #[.int .i64 0, .int .i64 0], by kernel_rfl, rfl⟩⟩
theorem zer90 : ZeroA Try.prog 90 [.v (.int .i64 0), .v (.int .i64 0), .v (.int .i64 0)] := ⟨⟨.agg #[.int .i64 0, .int .i64 0, .int .i64 0], by kernel_rfl, rfl⟩⟩
theorem apt22 : ApT Try.prog 22 39 3 24 := ⟨⟨.agg #[.int .i64 0, .int .i64 0, .int .i64 0], Try.underlying22, by kernel_rfl, rfl, by omega, by omega⟩⟩
theorem apt30 : ApT Try.prog 30 36 2 16 := ⟨⟨.agg #[.int .i64 0, .int .i64 0], Try.underlying30, by kernel_rfl, rfl, by omega, by omega⟩⟩
theorem apt84 : ApT Try.prog 84 3 1 8 := ⟨⟨.int .i64 0, Try.underlying84, by kernel_rfl, rfl, by omega, by omega⟩⟩
theorem apt87 : ApT Try.prog 87 90 3 24 := ⟨⟨.agg #[.int .i64 0, .int .i64 0, .int .i64 0], Try.underlying87, by kernel_rfl, rfl, by omega, by omega⟩⟩
theorem lay24 : LayT Try.prog 24 [.v (.int .i64 0), .v (.slice none 0 0)] ((#[(0, 1), (1, 1)] : Array (Nat × Nat))[·]?) := lay_struct (z := .agg #[.int .i64 0, .slice none 0 0]) (by kernel_rfl) rfl Try.underlying24 (fun _ => by kernel_rfl)
theorem lay36 : LayT Try.prog 36 [.v (.int .i64 0), .v (.int .i64 0)] ((#[(0, 1), (1, 1)] : Array (Nat × Nat))[·]?) := lay_struct (z := .agg #[.int .i64 0, .int .i64 0]) (by kernel_rfl) rfl Try.underlying36 (fun _ => by kernel_rfl)
theorem lay39 : LayT Try.prog 39 [.v (.int .i64 0), .v (.int .i64 0), .v (.int .i64 0)] ((#[(0, 1), (1, 1), (2, 1)] : Array (Nat × Nat))[·]?) := lay_struct (z := .agg #[.int .i64 0, .int .i64 0, .int .i64 0]) (by kernel_rfl) rfl Try.underlying39 (fun _ => by kernel_rfl)
theorem lay56 : LayT Try.prog 56 [.v (.int .i64 0), .v (.int .i64 0), .v (.nilFunc), .v (.bool false)] ((#[(0, 2), (2, 1), (3, 1)] : Array (Nat × Nat))[·]?) := lay_struct (z := .agg #[.int .i64 0, .int .i64 0, .nilFunc, .bool false]) (by kernel_rfl) rfl Try.underlying56 (fun _ => by kernel_rfl)
theorem lay58 : LayT Try.prog 58 [.v (.nilFunc), .v (.nilFunc), .v (.int .i64 0), .v (.int .i64 0)] ((#[(0, 1), (1, 1), (2, 1), (3, 1)] : Array (Nat × Nat))[·]?) := lay_struct (z := .agg #[.nilFunc, .nilFunc, .int .i64 0, .int .i64 0]) (by kernel_rfl) rfl Try.underlying58 (fun _ => by kernel_rfl)
theorem lay64 : LayT Try.prog 64 [.v (.int .i64 0), .v (.int .i64 0)] ((#[(0, 1), (1, 1)] : Array (Nat × Nat))[·]?) := lay_struct (z := .agg #[.int .i64 0, .int .i64 0]) (by kernel_rfl) rfl Try.underlying64 (fun _ => by kernel_rfl)
theorem lay90 : LayT Try.prog 90 [.v (.int .i64 0), .v (.int .i64 0), .v (.int .i64 0)] ((#[(0, 1), (1, 1), (2, 1)] : Array (Nat × Nat))[·]?) := lay_struct (z := .agg #[.int .i64 0, .int .i64 0, .int .i64 0]) (by kernel_rfl) rfl Try.underlying90 (fun _ => by kernel_rfl)
theorem bld24_  : BldT Try.prog 24 [] [.v (.int .i64 0), .v (.slice none 0 0)] := ⟨_, _, lay24, by simp [fillA]⟩
theorem bld24_0 (x0 : AV) (hx0 : x0.one = true) : BldT Try.prog 24 [(0, x0)] [x0, .v (.slice none 0 0)] := ⟨_, _, lay24, by simp [fillA, AV.one_cells hx0, AV.one_ok hx0]⟩
theorem bld24_0_1 (x0 x1 : AV) (hx0 : x0.one = true) (hx1 : x1.one = true) : BldT Try.prog 24 [(0, x0), (1, x1)] [x0, x1] := ⟨_, _, lay24, by simp [fillA, AV.one_cells hx0, AV.one_ok hx0, AV.one_cells hx1, AV.one_ok hx1]⟩
theorem bld36_0_1 (x0 x1 : AV) (hx0 : x0.one = true) (hx1 : x1.one = true) : BldT Try.prog 36 [(0, x0), (1, x1)] [x0, x1] := ⟨_, _, lay36, by simp [fillA, AV.one_cells hx0, AV.one_ok hx0, AV.one_cells hx1, AV.one_ok hx1]⟩
theorem bld39_  : BldT Try.prog 39 [] [.v (.int .i64 0), .v (.int .i64 0), .v (.int .i64 0)] := ⟨_, _, lay39, by simp [fillA]⟩
theorem bld39_0_1_2 (x0 x1 x2 : AV) (hx0 : x0.one = true) (hx1 : x1.one = true) (hx2 : x2.one = true) : BldT Try.prog 39 [(0, x0), (1, x1), (2, x2)] [x0, x1, x2] := ⟨_, _, lay39, by simp [fillA, AV.one_cells hx0, AV.one_ok hx0, AV.one_cells hx1, AV.one_ok hx1, AV.one_cells hx2, AV.one_ok hx2]⟩
theorem bld39_0_2 (x0 x2 : AV) (hx0 : x0.one = true) (hx2 : x2.one = true) : BldT Try.prog 39 [(0, x0), (2, x2)] [x0, .v (.int .i64 0), x2] := ⟨_, _, lay39, by simp [fillA, AV.one_cells hx0, AV.one_ok hx0, AV.one_cells hx2, AV.one_ok hx2]⟩
theorem bld39_1 (x1 : AV) (hx1 : x1.one = true) : BldT Try.prog 39 [(1, x1)] [.v (.int .i64 0), x1, .v (.int .i64 0)] := ⟨_, _, lay39, by simp [fillA, AV.one_cells hx1, AV.one_ok hx1]⟩
theorem bld56_0_1_2 (x0_0 x0_1 x1 x2 : AV) (hx1 : x1.one = true) (hx2 : x2.one = true) : BldT Try.prog 56 [(0, .agg [x0_0, x0_1]), (1, x1), (2, x2)] [x0_0, x0_1, x1, x2] := ⟨_, _, lay56, by simp [fillA, AV.cells_agg, AV.ok_agg, AV.one_cells hx1, AV.one_ok hx1, AV.one_cells hx2, AV.one_ok hx2]⟩
theorem bld58_0_1_2_3 (x0 x1 x2 x3 : AV) (hx0 : x0.one = true) (hx1 : x1.one = true) (hx2 : x2.one = true) (hx3 : x3.one = true) : BldT Try.prog 58 [(0, x0), (1, x1), (2, x2), (3, x3)] [x0, x1, x2, x3] := ⟨_, _, lay58, by simp [fillA, AV.one_cells hx0, AV.one_ok hx0, AV.one_cells hx1, AV.one_ok hx1, AV.one_cells hx2, AV.one_ok hx2, AV.one_cells hx3, AV.one_ok hx3]⟩
theorem bld64_0_1 (x0 x1 : AV) (hx0 : x0.one = true) (hx1 : x1.one = true) : BldT Try.prog 64 [(0, x0), (1, x1)] [x0, x1] := ⟨_, _, lay64, by simp [fillA, AV.one_cells hx0, AV.one_ok hx0, AV.one_cells hx1, AV.one_ok hx1]⟩
theorem bld90_0_1_2 (x0 x1 x2 : AV) (hx0 : x0.one = true) (hx1 : x1.one = true) (hx2 : x2.one = true) : BldT Try.prog 90 [(0, x0), (1, x1), (2, x2)] [x0, x1, x2] := ⟨_, _, lay90, by simp [fillA, AV.one_cells hx0, AV.one_ok hx0, AV.one_cells hx1, AV.one_ok hx1, AV.one_cells hx2, AV.one_ok hx2]⟩
theorem bsl22_1_0 (x0_0 x0_1 x0_2 : AV)  : BslT Try.prog 22 39 1 3 [(0, .agg [x0_0, x0_1, x0_2])] [.agg [x0_0, x0_1, x0_2]] := ⟨Try.underlying22, by kernel_rfl, by omega, rfl, by omega, by simp [AV.cells_agg], ⟨.agg #[.int .i64 0, .int .i64 0, .int .i64 0], by kernel_rfl, by simp [fillA, AV.cells_agg, AV.ok_agg, Array.range, Value.cells]⟩⟩
theorem bsl22_3_0_1_2 (x0_0 x0_1 x0_2 x1_0 x1_1 x1_2 x2_0 x2_1 x2_2 : AV)  : BslT Try.prog 22 39 3 3 [(0, .agg [x0_0, x0_1, x0_2]), (1, .agg [x1_0, x1_1, x1_2]), (2, .agg [x2_0, x2_1, x2_2])] [.agg [x0_0, x0_1, x0_2], .agg [x1_0, x1_1, x1_2], .agg [x2_0, x2_1, x2_2]] := ⟨Try.underlying22, by kernel_rfl, by omega, rfl, by omega, by simp [AV.cells_agg], ⟨.agg #[.int .i64 0, .int .i64 0, .int .i64 0], by kernel_rfl, by simp [fillA, AV.cells_agg, AV.ok_agg, Array.range, Value.cells]⟩⟩
theorem bsl30_1_0 (x0_0 x0_1 : AV)  : BslT Try.prog 30 36 1 2 [(0, .agg [x0_0, x0_1])] [.agg [x0_0, x0_1]] := ⟨Try.underlying30, by kernel_rfl, by omega, rfl, by omega, by simp [AV.cells_agg], ⟨.agg #[.int .i64 0, .int .i64 0], by kernel_rfl, by simp [fillA, AV.cells_agg, AV.ok_agg, Array.range, Value.cells]⟩⟩
theorem bsl84_1_0 (x0 : AV) (hx0 : x0.one = true) : BslT Try.prog 84 3 1 1 [(0, x0)] [x0] := ⟨Try.underlying84, by kernel_rfl, by omega, rfl, by omega, by simp [AV.one_cells hx0], ⟨.int .i64 0, by kernel_rfl, by simp [fillA, Array.range, Value.cells, AV.one_cells hx0, AV.one_ok hx0]⟩⟩
theorem bsl87_2_0_1 (x0_0 x0_1 x0_2 x1_0 x1_1 x1_2 : AV)  : BslT Try.prog 87 90 2 3 [(0, .agg [x0_0, x0_1, x0_2]), (1, .agg [x1_0, x1_1, x1_2])] [.agg [x0_0, x0_1, x0_2], .agg [x1_0, x1_1, x1_2]] := ⟨Try.underlying87, by kernel_rfl, by omega, rfl, by omega, by simp [AV.cells_agg], ⟨.agg #[.int .i64 0, .int .i64 0, .int .i64 0], by kernel_rfl, by simp [fillA, AV.cells_agg, AV.ok_agg, Array.range, Value.cells]⟩⟩
theorem eqs36 (a0 a1 b0 b1 : Int) : EqT Try.prog 36 (.agg #[.int .i64 a0, .int .i64 a1]) (.agg #[.int .i64 b0, .int .i64 b1]) (decide (a0 = b0) && decide (a1 = b1)) := ⟨fun w => by by_cases h0 : a0 = b0 <;> by_cases h1 : a1 = b1 <;> simp [go_sem, h0, h1], fun op o1 o2 w => run_eqGuard_agg w op 36 o1 o2 _ _ (by kernel_rfl), fun w => by by_cases h0 : a0 = b0 <;> by_cases h1 : a1 = b1 <;> simp [go_sem, h0, h1]⟩
theorem ent11 : EntersT Try.prog 11 := enters_of Try.func11 (s := "wageoffice/wageofficelaw30.head") rfl (by simp) rfl
theorem ent12 : EntersT Try.prog 12 := enters_of Try.func12 (s := "wageoffice/wageofficelaw30.few") rfl (by simp) rfl
theorem ent13 : EntersT Try.prog 13 := enters_of Try.func13 (s := "wageoffice/grossup.Net") rfl (by simp) rfl
theorem ent14 : EntersT Try.prog 14 := enters_of Try.func14 (s := "wageoffice/wageofficeref30.Net") rfl (by simp) rfl
theorem ent15 : EntersT Try.prog 15 := enters_of Try.func15 (s := "wageoffice/grossup.Solve") rfl (by simp) rfl
theorem ent16 : EntersT Try.prog 16 := enters_of Try.func16 (s := "wageoffice/wageofficeref30.Solve") rfl (by simp) rfl
theorem ent17 : EntersT Try.prog 17 := enters_of Try.func17 (s := "wageoffice/grossup.Least") rfl (by simp) rfl
theorem ent18 : EntersT Try.prog 18 := enters_of Try.func18 (s := "wageoffice/wageofficeref30.Least") rfl (by simp) rfl
theorem ent19 : EntersT Try.prog 19 := enters_of Try.func19 (s := "wageoffice/wageofficeref30.Spans") rfl (by simp) rfl
theorem ent20 : EntersT Try.prog 20 := enters_of Try.func20 (s := "wageoffice/wageofficeref05.Valid") rfl (by simp) rfl
theorem ent21 : EntersT Try.prog 21 := enters_of Try.func21 (s := "wageoffice/wageofficelaw30.rises") rfl (by simp) rfl
theorem ent22 : EntersT Try.prog 22 := enters_of Try.func22 (s := "wageoffice/span.Has") rfl (by simp) rfl
theorem ent23 : EntersT Try.prog 23 := enters_of Try.func23 (s := "wageoffice/span.Valid") rfl (by simp) rfl
theorem ent24 : EntersT Try.prog 24 := enters_of Try.func24 (s := "wageoffice/piecewise.Add") rfl (by simp) rfl
theorem ent25 : EntersT Try.prog 25 := enters_of Try.func25 (s := "wageoffice/wageofficelaw30.nets") rfl (by simp) rfl
theorem ent26 : EntersT Try.prog 26 := enters_of Try.func26 (s := "wageoffice/wageofficelaw30.solves") rfl (by simp) rfl
theorem ent27 : EntersT Try.prog 27 := enters_of Try.func27 (s := "wageoffice/wageofficelaw30.example") rfl (by simp) rfl
theorem ent28 : EntersT Try.prog 28 := enters_of Try.func28 (s := "wageoffice/piecewise.Round") rfl (by simp) rfl
theorem ent29 : EntersT Try.prog 29 := enters_of Try.func29 (s := "wageoffice/wageofficeref05.Round") rfl (by simp) rfl
theorem ent30 : EntersT Try.prog 30 := enters_of Try.func30 (s := "wageoffice/grossup.check") rfl (by simp) rfl
theorem ent31 : EntersT Try.prog 31 := enters_of Try.func31 (s := "wageoffice/grossup.stretches") rfl (by simp) rfl
theorem ent32 : EntersT Try.prog 32 := enters_of Try.func32 (s := "wageoffice/grossup.toward") rfl (by simp) rfl
theorem ent33 : EntersT Try.prog 33 := enters_of Try.func33 (s := "wageoffice/grossup.search") rfl (by simp) rfl
theorem ent34 : EntersT Try.prog 34 := enters_of Try.func34 (s := "wageoffice/grossup.Solve$1") rfl (by simp) rfl
theorem ent35 : EntersT Try.prog 35 := enters_of Try.func35 (s := "wageoffice/grossup.Solve$2") rfl (by simp) rfl
theorem ent36 : EntersT Try.prog 36 := enters_of Try.func36 (s := "wageoffice/span.Normal") rfl (by simp) rfl
theorem ent37 : EntersT Try.prog 37 := enters_of Try.func37 (s := "wageoffice/wageofficeref30.wrong") rfl (by simp) rfl
theorem ent38 : EntersT Try.prog 38 := enters_of Try.func38 (s := "wageoffice/wageofficeref30.piece") rfl (by simp) rfl
theorem ent39 : EntersT Try.prog 39 := enters_of Try.func39 (s := "wageoffice/wageofficeref04.Normal") rfl (by simp) rfl
theorem ent40 : EntersT Try.prog 40 := enters_of Try.func40 (s := "wageoffice/grossup.Least$1") rfl (by simp) rfl
theorem ent41 : EntersT Try.prog 41 := enters_of Try.func41 (s := "wageoffice/wageofficeref05.within") rfl (by simp) rfl
theorem ent42 : EntersT Try.prog 42 := enters_of Try.func42 (s := "wageoffice/span.proper") rfl (by simp) rfl
theorem ent43 : EntersT Try.prog 43 := enters_of Try.func43 (s := "wageoffice/piecewise.both") rfl (by simp) rfl
theorem ent44 : EntersT Try.prog 44 := enters_of Try.func44 (s := "wageoffice/piecewise.stretches") rfl (by simp) rfl
theorem ent45 : EntersT Try.prog 45 := enters_of Try.func45 (s := "wageoffice/piecewise.at") rfl (by simp) rfl
theorem ent46 : EntersT Try.prog 46 := enters_of Try.func46 (s := "wageoffice/piecewise.checked") rfl (by simp) rfl
theorem ent47 : EntersT Try.prog 47 := enters_of Try.func47 (s := "wageoffice/piecewise.Valid") rfl (by simp) rfl
theorem ent48 : EntersT Try.prog 48 := enters_of Try.func48 (s := "wageoffice/piecewise.argument") rfl (by simp) rfl
theorem ent49 : EntersT Try.prog 49 := enters_of Try.func49 (s := "wageoffice/piecewise.floor") rfl (by simp) rfl
theorem ent50 : EntersT Try.prog 50 := enters_of Try.func50 (s := "wageoffice/wageofficeref05.Eval") rfl (by simp) rfl
theorem ent51 : EntersT Try.prog 51 := enters_of Try.func51 (s := "wageoffice/grossup.stretches$1") rfl (by simp) rfl
theorem ent52 : EntersT Try.prog 52 := enters_of Try.func52 (s := "wageoffice/grossup.stretches$1$1") rfl (by simp) rfl
theorem ent53 : EntersT Try.prog 53 := enters_of Try.func53 (s := "wageoffice/grossup.floor") rfl (by simp) rfl
theorem ent54 : EntersT Try.prog 54 := enters_of Try.func54 (s := "wageoffice/grossup.stretches$1$2") rfl (by simp) rfl
theorem ent55 : EntersT Try.prog 55 := enters_of Try.func55 (s := "wageoffice/grossup.stretches$1$3") rfl (by simp) rfl
theorem ent56 : EntersT Try.prog 56 := enters_of Try.func56 (s := "wageoffice/grossup.stretches$1$4") rfl (by simp) rfl
theorem ent57 : EntersT Try.prog 57 := enters_of Try.func57 (s := "wageoffice/grossup.toward$1") rfl (by simp) rfl
theorem ent58 : EntersT Try.prog 58 := enters_of Try.func58 (s := "wageoffice/grossup.toward$2") rfl (by simp) rfl
theorem ent59 : EntersT Try.prog 59 := enters_of Try.func59 (s := "wageoffice/grossup.toward$3") rfl (by simp) rfl
theorem ent60 : EntersT Try.prog 60 := enters_of Try.func60 (s := "wageoffice/grossup.toward$4") rfl (by simp) rfl
theorem ent61 : EntersT Try.prog 61 := enters_of Try.func61 (s := "wageoffice/span.sweep") rfl (by simp) rfl
theorem ent62 : EntersT Try.prog 62 := enters_of Try.func62 (s := "wageoffice/span.Normal$1") rfl (by simp) rfl
theorem ent63 : EntersT Try.prog 63 := enters_of Try.func63 (s := "wageoffice/wageofficeref30.last") rfl (by simp) rfl
theorem ent64 : EntersT Try.prog 64 := enters_of Try.func64 (s := "wageoffice/wageofficeref30.meet") rfl (by simp) rfl
theorem ent65 : EntersT Try.prog 65 := enters_of Try.func65 (s := "wageoffice/wageofficeref30.taxed") rfl (by simp) rfl
theorem ent66 : EntersT Try.prog 66 := enters_of Try.func66 (s := "wageoffice/wageofficeref30.between") rfl (by simp) rfl
theorem ent67 : EntersT Try.prog 67 := enters_of Try.func67 (s := "wageoffice/wageofficeref04.sorted") rfl (by simp) rfl
theorem ent68 : EntersT Try.prog 68 := enters_of Try.func68 (s := "wageoffice/wageofficeref04.Proper") rfl (by simp) rfl
theorem ent69 : EntersT Try.prog 69 := enters_of Try.func69 (s := "wageoffice/piecewise.stretches$1") rfl (by simp) rfl
theorem ent70 : EntersT Try.prog 70 := enters_of Try.func70 (s := "wageoffice/piecewise.sorted[int]") rfl (by simp) rfl
theorem ent71 : EntersT Try.prog 71 := enters_of Try.func71 (s := "sort.Search") rfl (by simp) rfl
theorem ent72 : EntersT Try.prog 72 := enters_of Try.func72 (s := "wageoffice/piecewise.at$1") rfl (by simp) rfl
theorem ent73 : EntersT Try.prog 73 := enters_of Try.func73 (s := "wageoffice/wageofficeref05.At") rfl (by simp) rfl
theorem ent74 : EntersT Try.prog 74 := enters_of Try.func74 (s := "wageoffice/span.edges") rfl (by simp) rfl
theorem ent75 : EntersT Try.prog 75 := enters_of Try.func75 (s := "wageoffice/wageofficeref30.above") rfl (by simp) rfl
theorem ent76 : EntersT Try.prog 76 := enters_of Try.func76 (s := "wageoffice/wageofficeref30.below") rfl (by simp) rfl
theorem ent77 : EntersT Try.prog 77 := enters_of Try.func77 (s := "wageoffice/wageofficeref04.merge") rfl (by simp) rfl
theorem ent78 : EntersT Try.prog 78 := enters_of Try.func78 (s := "slices.Clone[[]int,int]") rfl (by simp) rfl
theorem ent79 : EntersT Try.prog 79 := enters_of Try.func79 (s := "slices.Sort[[]int,int]") rfl (by simp) rfl
theorem ent80 : EntersT Try.prog 80 := enters_of Try.func80 (s := "slices.Compact[[]int,int]") rfl (by simp) rfl
theorem ent81 : EntersT Try.prog 81 := enters_of Try.func81 (s := "wageoffice/wageofficeref05.Piece") rfl (by simp) rfl
theorem ent82 : EntersT Try.prog 82 := enters_of Try.func82 (s := "wageoffice/span.sortBy[wageoffice/span.edge,int]") rfl (by simp) rfl
theorem ent83 : EntersT Try.prog 83 := enters_of Try.func83 (s := "wageoffice/span.edges$1") rfl (by simp) rfl
theorem ent86 : EntersT Try.prog 86 := enters_of Try.func86 (s := "slices.SortFunc[[]wageoffice/span.edge,wageoffice/span.edge]") rfl (by simp) rfl
theorem ent87 : EntersT Try.prog 87 := enters_of Try.func87 (s := "wageoffice/span.sortBy[wageoffice/span.edge,int]$1") rfl (by simp) rfl
theorem ent88 : EntersT Try.prog 88 := enters_of Try.func88 (s := "cmp.Compare[int]") rfl (by simp) rfl
theorem ent101 : EntersT Try.prog 101 := enters_of Try.func101 (s := "cmp.isNaN[int]") rfl (by simp) rfl
end Go.Proofs.Ytakfapnfabpicaa
