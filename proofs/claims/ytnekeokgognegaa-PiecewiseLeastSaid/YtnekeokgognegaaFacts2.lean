/-
  Facts on the types and functions of this seat's translation, each by the kernel's own reckoning.
  Conditions: none.
-/
import Derived.Test.YtnekeokgognegaaProg
import Derived.Test.YtnekeokgognegaaE2Q
import Derived.KernelRfl
namespace Go.Proofs.Ytnekeokgognegaa
open Go.E2
theorem fol : Try.prog.follows .mixedOrders = true := by kernel_rfl
theorem one3 : OneT Try.prog 3 := ⟨⟨_, Try.underlying3, rfl⟩, by kernel_rfl⟩
theorem one22 : OneT Try.prog 22 := ⟨⟨_, Try.underlying22, rfl⟩, by kernel_rfl⟩
theorem one34 : OneT Try.prog 34 := ⟨⟨_, Try.underlying34, rfl⟩, by kernel_rfl⟩
theorem one87 : OneT Try.prog 87 := ⟨⟨_, Try.underlying87, rfl⟩, by kernel_rfl⟩
theorem agg24 : AggT Try.prog 24 2 := ⟨⟨_, Try.underlying24, rfl⟩, by kernel_rfl⟩
theorem agg29 : AggT Try.prog 29 4 := ⟨⟨_, Try.underlying29, rfl⟩, by kernel_rfl⟩
theorem agg50 : AggT Try.prog 50 2 := ⟨⟨_, Try.underlying50, rfl⟩, by kernel_rfl⟩
theorem agg55 : AggT Try.prog 55 3 := ⟨⟨_, Try.underlying55, rfl⟩, by kernel_rfl⟩
theorem agg82 : AggT Try.prog 82 3 := ⟨⟨_, Try.underlying82, rfl⟩, by kernel_rfl⟩
theorem slc22 : SlcT Try.prog 22 55 3 := ⟨Try.underlying22, by kernel_rfl⟩
theorem slc25 : SlcT Try.prog 25 56 3 := ⟨Try.underlying25, by kernel_rfl⟩
theorem slc30 : SlcT Try.prog 30 29 4 := ⟨Try.underlying30, by kernel_rfl⟩
theorem slc34 : SlcT Try.prog 34 50 2 := ⟨Try.underlying34, by kernel_rfl⟩
theorem slc41 : SlcT Try.prog 41 3 1 := ⟨Try.underlying41, by kernel_rfl⟩
theorem slc79 : SlcT Try.prog 79 82 3 := ⟨Try.underlying79, by kernel_rfl⟩
theorem arr26 : ArrT Try.prog 26 4 3 1 := ⟨Try.underlying26, by kernel_rfl⟩
theorem arr29 : ArrT Try.prog 29 2 24 2 := ⟨Try.underlying29, by kernel_rfl⟩
theorem arr56 : ArrT Try.prog 56 3 3 1 := ⟨Try.underlying56, by kernel_rfl⟩
theorem fld24_0 : FldT Try.prog 24 0 0 := ⟨⟨_, _, Try.underlying24, rfl, rfl, by kernel_rfl⟩⟩
theorem fld24_1 : FldT Try.prog 24 1 1 := ⟨⟨_, _, Try.underlying24, rfl, rfl, by kernel_rfl⟩⟩
theorem fld50_0 : FldT Try.prog 50 0 0 := ⟨⟨_, _, Try.underlying50, rfl, rfl, by kernel_rfl⟩⟩
theorem fld50_1 : FldT Try.prog 50 1 1 := ⟨⟨_, _, Try.underlying50, rfl, rfl, by kernel_rfl⟩⟩
theorem fld55_0 : FldT Try.prog 55 0 0 := ⟨⟨_, _, Try.underlying55, rfl, rfl, by kernel_rfl⟩⟩
theorem fld55_1 : FldT Try.prog 55 1 1 := ⟨⟨_, _, Try.underlying55, rfl, rfl, by kernel_rfl⟩⟩
theorem fld55_2 : FldT Try.prog 55 2 2 := ⟨⟨_, _, Try.underlying55, rfl, rfl, by kernel_rfl⟩⟩
theorem fld82_0 : FldT Try.prog 82 0 0 := ⟨⟨_, _, Try.underlying82, rfl, rfl, by kernel_rfl⟩⟩
theorem fld82_1 : FldT Try.prog 82 1 1 := ⟨⟨_, _, Try.underlying82, rfl, rfl, by kernel_rfl⟩⟩
theorem fld82_2 : FldT Try.prog 82 2 2 := ⟨⟨_, _, Try.underlying82, rfl, rfl, by kernel_rfl⟩⟩
theorem zer24 : ZeroA Try.prog 24 [.v (.int .i64 0), .v (.slice none 0 0)] := ⟨⟨.agg #[.int .i64 0, .slice none 0 0], by kernel_rfl, rfl⟩⟩
theorem zer29 : ZeroA Try.prog 29 [.v (.int .i64 0), .v (.slice none 0 0), .v (.int .i64 0), .v (.slice none 0 0)] := ⟨⟨.agg #[.int .i64 0, .slice none 0 0, .int .i64 0, .slice none 0 0], by kernel_rfl, rfl⟩⟩
theorem zer34 : ZeroA Try.prog 34 [.v (.slice none 0 0)] := ⟨⟨.slice none 0 0, by kernel_rfl, rfl⟩⟩
theorem zer50 : ZeroA Try.prog 50 [.v (.int .i64 0), .v (.int .i64 0)] := ⟨⟨.agg #[.int .i64 0, .int .i64 0], by kernel_rfl, rfl⟩⟩
theorem zer55 : ZeroA Try.prog 55 [.v (.int .i64 0), .v (.int .i64 0), .v (.int .i64 0)] := ⟨⟨.agg #[.int .i64 0, .int .i64 0, .int .i64 0], by kernel_rfl, rfl⟩⟩
theorem zer82 : ZeroA Try.prog 82 [.v (.int .i64 0), .v (.int .i64 0), .v (.int .i64 0)] := ⟨⟨.agg #[.int .i64 0, .int .i64 0, .int .i64 0], by kernel_rfl, rfl⟩⟩
theorem apt22 : ApT Try.prog 22 55 3 24 := ⟨⟨.agg #[.int .i64 0, .int .i64 0, .int .i64 0], Try.underlying22, by kernel_rfl, rfl, by omega, by omega⟩⟩
theorem apt25 : ApT Try.prog 25 56 3 24 := ⟨⟨.agg #[.int .i64 0, .int .i64 0, .int .i64 0], Try.underlying25, by kernel_rfl, rfl, by omega, by omega⟩⟩
theorem apt34 : ApT Try.prog 34 50 2 16 := ⟨⟨.agg #[.int .i64 0, .int .i64 0], Try.underlying34, by kernel_rfl, rfl, by omega, by omega⟩⟩
theorem apt41 : ApT Try.prog 41 3 1 8 := ⟨⟨.int .i64 0, Try.underlying41, by kernel_rfl, rfl, by omega, by omega⟩⟩
theorem apt79 : ApT Try.prog 79 82 3 24 := ⟨⟨.agg #[.int .i64 0, .int .i64 0, .int .i64 0], Try.underlying79, by kernel_rfl, rfl, by omega, by omega⟩⟩
theorem lay24 : LayT Try.prog 24 [.v (.int .i64 0), .v (.slice none 0 0)] ((#[(0, 1), (1, 1)] : Array (Nat × Nat))[·]?) := lay_struct (z := .agg #[.int .i64 0, .slice none 0 0]) (by kernel_rfl) rfl Try.underlying24 (fun _ => by kernel_rfl)
theorem lay29 : LayT Try.prog 29 [.v (.int .i64 0), .v (.slice none 0 0), .v (.int .i64 0), .v (.slice none 0 0)] (fun i => some (i * 2, 2)) := lay_array (z := .agg #[.int .i64 0, .slice none 0 0, .int .i64 0, .slice none 0 0]) (by kernel_rfl) rfl arr29
theorem lay50 : LayT Try.prog 50 [.v (.int .i64 0), .v (.int .i64 0)] ((#[(0, 1), (1, 1)] : Array (Nat × Nat))[·]?) := lay_struct (z := .agg #[.int .i64 0, .int .i64 0]) (by kernel_rfl) rfl Try.underlying50 (fun _ => by kernel_rfl)
theorem lay55 : LayT Try.prog 55 [.v (.int .i64 0), .v (.int .i64 0), .v (.int .i64 0)] ((#[(0, 1), (1, 1), (2, 1)] : Array (Nat × Nat))[·]?) := lay_struct (z := .agg #[.int .i64 0, .int .i64 0, .int .i64 0]) (by kernel_rfl) rfl Try.underlying55 (fun _ => by kernel_rfl)
theorem lay82 : LayT Try.prog 82 [.v (.int .i64 0), .v (.int .i64 0), .v (.int .i64 0)] ((#[(0, 1), (1, 1), (2, 1)] : Array (Nat × Nat))[·]?) := lay_struct (z := .agg #[.int .i64 0, .int .i64 0, .int .i64 0]) (by kernel_rfl) rfl Try.underlying82 (fun _ => by kernel_rfl)
theorem bld24_  : BldT Try.prog 24 [] [.v (.int .i64 0), .v (.slice none 0 0)] := ⟨_, _, lay24, by simp [fillA]⟩
theorem bld24_0 (x0 : AV) (hx0 : x0.one = true) : BldT Try.prog 24 [(0, x0)] [x0, .v (.slice none 0 0)] := ⟨_, _, lay24, by simp [fillA, AV.one_cells hx0, AV.one_ok hx0]⟩
theorem bld24_0_1 (x0 x1 : AV) (hx0 : x0.one = true) (hx1 : x1.one = true) : BldT Try.prog 24 [(0, x0), (1, x1)] [x0, x1] := ⟨_, _, lay24, by simp [fillA, AV.one_cells hx0, AV.one_ok hx0, AV.one_cells hx1, AV.one_ok hx1]⟩
theorem bld29_0_1 (x0_0 x0_1 x1_0 x1_1 : AV)  : BldT Try.prog 29 [(0, .agg [x0_0, x0_1]), (1, .agg [x1_0, x1_1])] [x0_0, x0_1, x1_0, x1_1] := ⟨_, _, lay29, by simp [fillA, AV.cells_agg, AV.ok_agg]⟩
theorem bld50_0_1 (x0 x1 : AV) (hx0 : x0.one = true) (hx1 : x1.one = true) : BldT Try.prog 50 [(0, x0), (1, x1)] [x0, x1] := ⟨_, _, lay50, by simp [fillA, AV.one_cells hx0, AV.one_ok hx0, AV.one_cells hx1, AV.one_ok hx1]⟩
theorem bld55_  : BldT Try.prog 55 [] [.v (.int .i64 0), .v (.int .i64 0), .v (.int .i64 0)] := ⟨_, _, lay55, by simp [fillA]⟩
theorem bld55_0_1 (x0 x1 : AV) (hx0 : x0.one = true) (hx1 : x1.one = true) : BldT Try.prog 55 [(0, x0), (1, x1)] [x0, x1, .v (.int .i64 0)] := ⟨_, _, lay55, by simp [fillA, AV.one_cells hx0, AV.one_ok hx0, AV.one_cells hx1, AV.one_ok hx1]⟩
theorem bld55_0_1_2 (x0 x1 x2 : AV) (hx0 : x0.one = true) (hx1 : x1.one = true) (hx2 : x2.one = true) : BldT Try.prog 55 [(0, x0), (1, x1), (2, x2)] [x0, x1, x2] := ⟨_, _, lay55, by simp [fillA, AV.one_cells hx0, AV.one_ok hx0, AV.one_cells hx1, AV.one_ok hx1, AV.one_cells hx2, AV.one_ok hx2]⟩
theorem bld55_1 (x1 : AV) (hx1 : x1.one = true) : BldT Try.prog 55 [(1, x1)] [.v (.int .i64 0), x1, .v (.int .i64 0)] := ⟨_, _, lay55, by simp [fillA, AV.one_cells hx1, AV.one_ok hx1]⟩
theorem bld55_1_2 (x1 x2 : AV) (hx1 : x1.one = true) (hx2 : x2.one = true) : BldT Try.prog 55 [(1, x1), (2, x2)] [.v (.int .i64 0), x1, x2] := ⟨_, _, lay55, by simp [fillA, AV.one_cells hx1, AV.one_ok hx1, AV.one_cells hx2, AV.one_ok hx2]⟩
theorem bld55_2 (x2 : AV) (hx2 : x2.one = true) : BldT Try.prog 55 [(2, x2)] [.v (.int .i64 0), .v (.int .i64 0), x2] := ⟨_, _, lay55, by simp [fillA, AV.one_cells hx2, AV.one_ok hx2]⟩
theorem bld82_0_1_2 (x0 x1 x2 : AV) (hx0 : x0.one = true) (hx1 : x1.one = true) (hx2 : x2.one = true) : BldT Try.prog 82 [(0, x0), (1, x1), (2, x2)] [x0, x1, x2] := ⟨_, _, lay82, by simp [fillA, AV.one_cells hx0, AV.one_ok hx0, AV.one_cells hx1, AV.one_ok hx1, AV.one_cells hx2, AV.one_ok hx2]⟩
theorem bsl22_1_0 (x0_0 x0_1 x0_2 : AV)  : BslT Try.prog 22 55 1 3 [(0, .agg [x0_0, x0_1, x0_2])] [.agg [x0_0, x0_1, x0_2]] := ⟨Try.underlying22, by kernel_rfl, by omega, rfl, by omega, by simp [AV.cells_agg], ⟨.agg #[.int .i64 0, .int .i64 0, .int .i64 0], by kernel_rfl, by simp [fillA, AV.cells_agg, AV.ok_agg, Array.range, Value.cells]⟩⟩
theorem bsl22_2_0_1 (x0_0 x0_1 x0_2 x1_0 x1_1 x1_2 : AV)  : BslT Try.prog 22 55 2 3 [(0, .agg [x0_0, x0_1, x0_2]), (1, .agg [x1_0, x1_1, x1_2])] [.agg [x0_0, x0_1, x0_2], .agg [x1_0, x1_1, x1_2]] := ⟨Try.underlying22, by kernel_rfl, by omega, rfl, by omega, by simp [AV.cells_agg], ⟨.agg #[.int .i64 0, .int .i64 0, .int .i64 0], by kernel_rfl, by simp [fillA, AV.cells_agg, AV.ok_agg, Array.range, Value.cells]⟩⟩
theorem bsl22_3_0_1_2 (x0_0 x0_1 x0_2 x1_0 x1_1 x1_2 x2_0 x2_1 x2_2 : AV)  : BslT Try.prog 22 55 3 3 [(0, .agg [x0_0, x0_1, x0_2]), (1, .agg [x1_0, x1_1, x1_2]), (2, .agg [x2_0, x2_1, x2_2])] [.agg [x0_0, x0_1, x0_2], .agg [x1_0, x1_1, x1_2], .agg [x2_0, x2_1, x2_2]] := ⟨Try.underlying22, by kernel_rfl, by omega, rfl, by omega, by simp [AV.cells_agg], ⟨.agg #[.int .i64 0, .int .i64 0, .int .i64 0], by kernel_rfl, by simp [fillA, AV.cells_agg, AV.ok_agg, Array.range, Value.cells]⟩⟩
theorem bsl30_3_0_1_2 (x0_0 x0_1 x0_2 x0_3 x1_0 x1_1 x1_2 x1_3 x2_0 x2_1 x2_2 x2_3 : AV)  : BslT Try.prog 30 29 3 4 [(0, .agg [x0_0, x0_1, x0_2, x0_3]), (1, .agg [x1_0, x1_1, x1_2, x1_3]), (2, .agg [x2_0, x2_1, x2_2, x2_3])] [.agg [x0_0, x0_1, x0_2, x0_3], .agg [x1_0, x1_1, x1_2, x1_3], .agg [x2_0, x2_1, x2_2, x2_3]] := ⟨Try.underlying30, by kernel_rfl, by omega, rfl, by omega, by simp [AV.cells_agg], ⟨.agg #[.int .i64 0, .slice none 0 0, .int .i64 0, .slice none 0 0], by kernel_rfl, by simp [fillA, AV.cells_agg, AV.ok_agg, Array.range, Value.cells]⟩⟩
theorem bsl34_1_0 (x0_0 x0_1 : AV)  : BslT Try.prog 34 50 1 2 [(0, .agg [x0_0, x0_1])] [.agg [x0_0, x0_1]] := ⟨Try.underlying34, by kernel_rfl, by omega, rfl, by omega, by simp [AV.cells_agg], ⟨.agg #[.int .i64 0, .int .i64 0], by kernel_rfl, by simp [fillA, AV.cells_agg, AV.ok_agg, Array.range, Value.cells]⟩⟩
theorem bsl41_1_0 (x0 : AV) (hx0 : x0.one = true) : BslT Try.prog 41 3 1 1 [(0, x0)] [x0] := ⟨Try.underlying41, by kernel_rfl, by omega, rfl, by omega, by simp [AV.one_cells hx0], ⟨.int .i64 0, by kernel_rfl, by simp [fillA, Array.range, Value.cells, AV.one_cells hx0, AV.one_ok hx0]⟩⟩
theorem bsl41_2_0_1 (x0 x1 : AV) (hx0 : x0.one = true) (hx1 : x1.one = true) : BslT Try.prog 41 3 2 1 [(0, x0), (1, x1)] [x0, x1] := ⟨Try.underlying41, by kernel_rfl, by omega, rfl, by omega, by simp [AV.one_cells hx0, AV.one_cells hx1], ⟨.int .i64 0, by kernel_rfl, by simp [fillA, Array.range, Value.cells, AV.one_cells hx0, AV.one_ok hx0, AV.one_cells hx1, AV.one_ok hx1]⟩⟩
theorem bsl41_3_0_1_2 (x0 x1 x2 : AV) (hx0 : x0.one = true) (hx1 : x1.one = true) (hx2 : x2.one = true) : BslT Try.prog 41 3 3 1 [(0, x0), (1, x1), (2, x2)] [x0, x1, x2] := ⟨Try.underlying41, by kernel_rfl, by omega, rfl, by omega, by simp [AV.one_cells hx0, AV.one_cells hx1, AV.one_cells hx2], ⟨.int .i64 0, by kernel_rfl, by simp [fillA, Array.range, Value.cells, AV.one_cells hx0, AV.one_ok hx0, AV.one_cells hx1, AV.one_ok hx1, AV.one_cells hx2, AV.one_ok hx2]⟩⟩
theorem bsl41_4_0_1_2_3 (x0 x1 x2 x3 : AV) (hx0 : x0.one = true) (hx1 : x1.one = true) (hx2 : x2.one = true) (hx3 : x3.one = true) : BslT Try.prog 41 3 4 1 [(0, x0), (1, x1), (2, x2), (3, x3)] [x0, x1, x2, x3] := ⟨Try.underlying41, by kernel_rfl, by omega, rfl, by omega, by simp [AV.one_cells hx0, AV.one_cells hx1, AV.one_cells hx2, AV.one_cells hx3], ⟨.int .i64 0, by kernel_rfl, by simp [fillA, Array.range, Value.cells, AV.one_cells hx0, AV.one_ok hx0, AV.one_cells hx1, AV.one_ok hx1, AV.one_cells hx2, AV.one_ok hx2, AV.one_cells hx3, AV.one_ok hx3]⟩⟩
theorem bsl79_2_0_1 (x0_0 x0_1 x0_2 x1_0 x1_1 x1_2 : AV)  : BslT Try.prog 79 82 2 3 [(0, .agg [x0_0, x0_1, x0_2]), (1, .agg [x1_0, x1_1, x1_2])] [.agg [x0_0, x0_1, x0_2], .agg [x1_0, x1_1, x1_2]] := ⟨Try.underlying79, by kernel_rfl, by omega, rfl, by omega, by simp [AV.cells_agg], ⟨.agg #[.int .i64 0, .int .i64 0, .int .i64 0], by kernel_rfl, by simp [fillA, AV.cells_agg, AV.ok_agg, Array.range, Value.cells]⟩⟩
theorem eqs50 (a0 a1 b0 b1 : Int) : EqT Try.prog 50 (.agg #[.int .i64 a0, .int .i64 a1]) (.agg #[.int .i64 b0, .int .i64 b1]) (decide (a0 = b0) && decide (a1 = b1)) := ⟨fun w => by by_cases h0 : a0 = b0 <;> by_cases h1 : a1 = b1 <;> simp [go_sem, h0, h1], fun op o1 o2 w => run_eqGuard_agg w op 50 o1 o2 _ _ (by kernel_rfl), fun w => by by_cases h0 : a0 = b0 <;> by_cases h1 : a1 = b1 <;> simp [go_sem, h0, h1]⟩
theorem eqs55 (a0 a1 a2 b0 b1 b2 : Int) : EqT Try.prog 55 (.agg #[.int .i64 a0, .int .i64 a1, .int .i64 a2]) (.agg #[.int .i64 b0, .int .i64 b1, .int .i64 b2]) (decide (a0 = b0) && decide (a1 = b1) && decide (a2 = b2)) := ⟨fun w => by by_cases h0 : a0 = b0 <;> by_cases h1 : a1 = b1 <;> by_cases h2 : a2 = b2 <;> simp [go_sem, h0, h1, h2], fun op o1 o2 w => run_eqGuard_agg w op 55 o1 o2 _ _ (by kernel_rfl), fun w => by by_cases h0 : a0 = b0 <;> by_cases h1 : a1 = b1 <;> by_cases h2 : a2 = b2 <;> simp [go_sem, h0, h1, h2]⟩
theorem ent9 : EntersT Try.prog 9 := enters_of Try.func9 (s := "wageoffice/wageofficelaw05.head") rfl (by simp) rfl
theorem ent10 : EntersT Try.prog 10 := enters_of Try.func10 (s := "wageoffice/wageofficelaw05.Made") rfl (by simp) rfl
theorem ent11 : EntersT Try.prog 11 := enters_of Try.func11 (s := "wageoffice/piecewise.Add") rfl (by simp) rfl
theorem ent12 : EntersT Try.prog 12 := enters_of Try.func12 (s := "wageoffice/wageofficeref05.Add") rfl (by simp) rfl
theorem ent13 : EntersT Try.prog 13 := enters_of Try.func13 (s := "wageoffice/piecewise.Least") rfl (by simp) rfl
theorem ent14 : EntersT Try.prog 14 := enters_of Try.func14 (s := "wageoffice/wageofficeref05.Least") rfl (by simp) rfl
theorem ent15 : EntersT Try.prog 15 := enters_of Try.func15 (s := "wageoffice/piecewise.Where") rfl (by simp) rfl
theorem ent16 : EntersT Try.prog 16 := enters_of Try.func16 (s := "wageoffice/wageofficeref05.Where") rfl (by simp) rfl
theorem ent17 : EntersT Try.prog 17 := enters_of Try.func17 (s := "wageoffice/wageofficelaw05.pick") rfl (by simp) rfl
theorem ent18 : EntersT Try.prog 18 := enters_of Try.func18 (s := "wageoffice/wageofficeref05.Same") rfl (by simp) rfl
theorem ent19 : EntersT Try.prog 19 := enters_of Try.func19 (s := "wageoffice/wageofficeref04.Same") rfl (by simp) rfl
theorem ent20 : EntersT Try.prog 20 := enters_of Try.func20 (s := "wageoffice/piecewise.Valid") rfl (by simp) rfl
theorem ent21 : EntersT Try.prog 21 := enters_of Try.func21 (s := "wageoffice/wageofficeref05.Valid") rfl (by simp) rfl
theorem ent22 : EntersT Try.prog 22 := enters_of Try.func22 (s := "wageoffice/piecewise.Eval") rfl (by simp) rfl
theorem ent23 : EntersT Try.prog 23 := enters_of Try.func23 (s := "wageoffice/wageofficeref05.Eval") rfl (by simp) rfl
theorem ent24 : EntersT Try.prog 24 := enters_of Try.func24 (s := "wageoffice/piecewise.Round") rfl (by simp) rfl
theorem ent25 : EntersT Try.prog 25 := enters_of Try.func25 (s := "wageoffice/wageofficeref05.Round") rfl (by simp) rfl
theorem ent26 : EntersT Try.prog 26 := enters_of Try.func26 (s := "wageoffice/wageofficelaw05.arguments") rfl (by simp) rfl
theorem ent27 : EntersT Try.prog 27 := enters_of Try.func27 (s := "wageoffice/wageofficeref04.Has") rfl (by simp) rfl
theorem ent28 : EntersT Try.prog 28 := enters_of Try.func28 (s := "wageoffice/piecewise.both") rfl (by simp) rfl
theorem ent29 : EntersT Try.prog 29 := enters_of Try.func29 (s := "wageoffice/piecewise.stretches") rfl (by simp) rfl
theorem ent30 : EntersT Try.prog 30 := enters_of Try.func30 (s := "wageoffice/piecewise.at") rfl (by simp) rfl
theorem ent31 : EntersT Try.prog 31 := enters_of Try.func31 (s := "wageoffice/piecewise.checked") rfl (by simp) rfl
theorem ent32 : EntersT Try.prog 32 := enters_of Try.func32 (s := "wageoffice/wageofficeref05.wrong") rfl (by simp) rfl
theorem ent33 : EntersT Try.prog 33 := enters_of Try.func33 (s := "wageoffice/wageofficeref05.Starts") rfl (by simp) rfl
theorem ent34 : EntersT Try.prog 34 := enters_of Try.func34 (s := "wageoffice/wageofficeref05.At") rfl (by simp) rfl
theorem ent35 : EntersT Try.prog 35 := enters_of Try.func35 (s := "wageoffice/wageofficeref05.Slope") rfl (by simp) rfl
theorem ent36 : EntersT Try.prog 36 := enters_of Try.func36 (s := "wageoffice/wageofficeref05.result") rfl (by simp) rfl
theorem ent37 : EntersT Try.prog 37 := enters_of Try.func37 (s := "wageoffice/wageofficeref05.Turn") rfl (by simp) rfl
theorem ent38 : EntersT Try.prog 38 := enters_of Try.func38 (s := "wageoffice/piecewise.steps") rfl (by simp) rfl
theorem ent39 : EntersT Try.prog 39 := enters_of Try.func39 (s := "wageoffice/span.Normal") rfl (by simp) rfl
theorem ent40 : EntersT Try.prog 40 := enters_of Try.func40 (s := "wageoffice/wageofficeref05.within") rfl (by simp) rfl
theorem ent41 : EntersT Try.prog 41 := enters_of Try.func41 (s := "wageoffice/wageofficeref05.First") rfl (by simp) rfl
theorem ent42 : EntersT Try.prog 42 := enters_of Try.func42 (s := "wageoffice/wageofficeref04.Normal") rfl (by simp) rfl
theorem ent43 : EntersT Try.prog 43 := enters_of Try.func43 (s := "wageoffice/piecewise.argument") rfl (by simp) rfl
theorem ent44 : EntersT Try.prog 44 := enters_of Try.func44 (s := "wageoffice/piecewise.floor") rfl (by simp) rfl
theorem ent45 : EntersT Try.prog 45 := enters_of Try.func45 (s := "wageoffice/wageofficeref04.Proper") rfl (by simp) rfl
theorem ent46 : EntersT Try.prog 46 := enters_of Try.func46 (s := "wageoffice/piecewise.stretches$1") rfl (by simp) rfl
theorem ent47 : EntersT Try.prog 47 := enters_of Try.func47 (s := "wageoffice/piecewise.sorted[int]") rfl (by simp) rfl
theorem ent48 : EntersT Try.prog 48 := enters_of Try.func48 (s := "sort.Search") rfl (by simp) rfl
theorem ent49 : EntersT Try.prog 49 := enters_of Try.func49 (s := "wageoffice/piecewise.at$1") rfl (by simp) rfl
theorem ent50 : EntersT Try.prog 50 := enters_of Try.func50 (s := "wageoffice/wageofficeref05.Piece") rfl (by simp) rfl
theorem ent51 : EntersT Try.prog 51 := enters_of Try.func51 (s := "wageoffice/span.sweep") rfl (by simp) rfl
theorem ent52 : EntersT Try.prog 52 := enters_of Try.func52 (s := "wageoffice/span.Normal$1") rfl (by simp) rfl
theorem ent53 : EntersT Try.prog 53 := enters_of Try.func53 (s := "wageoffice/wageofficeref04.sorted") rfl (by simp) rfl
theorem ent54 : EntersT Try.prog 54 := enters_of Try.func54 (s := "slices.Clone[[]int,int]") rfl (by simp) rfl
theorem ent55 : EntersT Try.prog 55 := enters_of Try.func55 (s := "slices.Sort[[]int,int]") rfl (by simp) rfl
theorem ent56 : EntersT Try.prog 56 := enters_of Try.func56 (s := "slices.Compact[[]int,int]") rfl (by simp) rfl
theorem ent57 : EntersT Try.prog 57 := enters_of Try.func57 (s := "wageoffice/span.edges") rfl (by simp) rfl
theorem ent58 : EntersT Try.prog 58 := enters_of Try.func58 (s := "wageoffice/wageofficeref04.merge") rfl (by simp) rfl
theorem ent61 : EntersT Try.prog 61 := enters_of Try.func61 (s := "wageoffice/span.proper") rfl (by simp) rfl
theorem ent62 : EntersT Try.prog 62 := enters_of Try.func62 (s := "wageoffice/span.sortBy[wageoffice/span.edge,int]") rfl (by simp) rfl
theorem ent63 : EntersT Try.prog 63 := enters_of Try.func63 (s := "wageoffice/span.edges$1") rfl (by simp) rfl
theorem ent75 : EntersT Try.prog 75 := enters_of Try.func75 (s := "slices.SortFunc[[]wageoffice/span.edge,wageoffice/span.edge]") rfl (by simp) rfl
theorem ent76 : EntersT Try.prog 76 := enters_of Try.func76 (s := "wageoffice/span.sortBy[wageoffice/span.edge,int]$1") rfl (by simp) rfl
theorem ent77 : EntersT Try.prog 77 := enters_of Try.func77 (s := "cmp.Compare[int]") rfl (by simp) rfl
theorem ent83 : EntersT Try.prog 83 := enters_of Try.func83 (s := "cmp.isNaN[int]") rfl (by simp) rfl
end Go.Proofs.Ytnekeokgognegaa
