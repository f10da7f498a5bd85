/-
  The types and functions of this seat's translation, each by the kernel's own reckoning.
  Conditions: none.
-/
import Derived.Test.YtnekeokgognegaaProg
import Derived.Test.YtnekeokgognegaaE5D
import Derived.KernelRfl
namespace Go.Proofs.Ytnekeokgognegaa
open Go.E2
def tab : Tr := .node (.node (.node (.node (.node (.node (.node (.node .nil (.int .u8) .nil) (.one (.nilFunc)) .nil) (.int .i64) (.node .nil (.one (.nilFunc)) .nil)) (.one (.pointer none)) (.node (.node .nil (.sl 82 3 24) .nil) (.one (.nilFunc)) (.node .nil (.one (.nilFunc)) .nil))) (.st 4 [(0, 1), (1, 1), (2, 1), (3, 1)] [.int .i64 0, .int .i64 0, .bool false, .int .u8 0]) (.node (.node (.node .nil (.one (.nilFunc)) .nil) (.one (.nilFunc)) (.node .nil (.one (.nilFunc)) .nil)) (.st 2 [(0, 1), (1, 1)] [.int .i64 0, .slice none 0 0]) (.node (.node .nil (.one (.nilFunc)) .nil) (.st 3 [(0, 1), (1, 1), (2, 1)] [.int .i64 0, .int .i64 0, .int .i64 0]) (.node .nil (.one (.nilFunc)) .nil)))) (.int .i64) (.node (.node (.node (.node (.node .nil (.int .i32) .nil) (.one (.nilFunc)) .nil) (.no) (.node .nil (.int .u64) .nil)) (.st 1 [(0, 1)] [.pointer none]) (.node (.node .nil (.one (.nilFunc)) .nil) (.one (.nilFunc)) (.node .nil (.one (.nilFunc)) .nil))) (.str) (.node (.node (.node .nil (.one (.nilFunc)) .nil) (.one (.nilFunc)) (.node .nil (.one (.nilFunc)) .nil)) (.one (.nilFunc)) (.node (.node .nil (.one (.nilFunc)) .nil) (.one (.nilFunc)) (.node .nil (.st 0 [(0, 0)] []) .nil))))) (.one (.nilFunc)) (.node (.node (.node (.node (.node (.node .nil (.one (.pointer none)) .nil) (.one (.nilFunc)) .nil) (.one (.nilFunc)) (.node .nil (.int .u32) .nil)) (.one (.pointer none)) (.node (.node .nil (.st 3 [(0, 1), (1, 1), (2, 1)] [.int .i64 0, .int .i64 0, .int .i64 0]) .nil) (.st 2 [(0, 1), (1, 1)] [.int .i64 0, .int .i64 0]) (.node .nil (.one (.nilFunc)) .nil))) (.str) (.node (.node (.node .nil (.one (.nilFunc)) .nil) (.sl 3 1 8) (.node .nil (.one (.nilFunc)) .nil)) (.sl 56 3 24) (.node (.node .nil (.int .i64) .nil) (.one (.nilFunc)) (.node .nil (.st 4 [(0, 1), (1, 1), (2, 1), (3, 1)] [.pointer none, .pointer none, .pointer none, .string ByteArray.empty]) .nil)))) (.int .u8) (.node (.node (.node (.node (.node .nil (.st 11 [(0, 1), (1, 1), (2, 1), (3, 1), (4, 1), (5, 1), (6, 1), (7, 1), (8, 1), (9, 1), (10, 1)] [.int .u64 0, .int .u64 0, .int .u32 0, .int .u8 0, .int .u8 0, .int .u8 0, .int .u8 0, .nilFunc, .pointer none, .int .i32 0, .int .i32 0]) .nil) (.one (.nilFunc)) .nil) (.one (.nilFunc)) (.node .nil (.one (.nilFunc)) .nil)) (.int .i32) (.node (.node .nil (.one (.nilFunc)) .nil) (.one (.nilFunc)) (.node .nil (.one (.nilFunc)) .nil))) (.st 2 [(0, 1), (1, 1)] [.string ByteArray.empty, .int .u64 0]) (.node (.node (.node .nil (.one (.nilFunc)) .nil) (.one (.nilFunc)) (.node .nil (.one (.pointer none)) .nil)) (.arr 2 24 2 [.int .i64 0, .slice none 0 0, .int .i64 0, .slice none 0 0]) (.node (.node .nil (.one (.nilFunc)) .nil) (.no) (.node .nil (.one (.nilFunc)) .nil)))))) (.no) (.node (.node (.node (.node (.node (.node (.node .nil (.one (.nilFunc)) .nil) (.one (.nilFunc)) .nil) (.no) (.node .nil (.one (.nilFunc)) .nil)) (.one (.pointer none)) (.node (.node .nil (.one (.nilFunc)) .nil) (.one (.nilFunc)) (.node .nil (.one (.nilFunc)) .nil))) (.st 4 [(0, 1), (1, 1), (2, 1), (3, 1)] [.int .i64 0, .int .i64 0, .bool false, .int .u8 0]) (.node (.node (.node .nil (.one (.nilFunc)) .nil) (.one (.nilFunc)) (.node .nil (.one (.nilFunc)) .nil)) (.st 2 [(0, 1), (1, 1)] [.int .i64 0, .slice none 0 0]) (.node (.node .nil (.one (.nilFunc)) .nil) (.arr 3 3 1 [.int .i64 0, .int .i64 0, .int .i64 0]) (.node .nil (.st 4 [(0, 1), (1, 1), (2, 1), (3, 1)] [.pointer none, .pointer none, .pointer none, .string ByteArray.empty]) .nil)))) (.bool) (.node (.node (.node (.node (.node .nil (.st 11 [(0, 1), (1, 1), (2, 1), (3, 1), (4, 1), (5, 1), (6, 1), (7, 1), (8, 1), (9, 1), (10, 1)] [.int .u64 0, .int .u64 0, .int .u32 0, .int .u8 0, .int .u8 0, .int .u8 0, .int .u8 0, .nilFunc, .pointer none, .int .i32 0, .int .i32 0]) .nil) (.one (.nilFunc)) .nil) (.one (.nilFunc)) (.node .nil (.one (.nilFunc)) .nil)) (.one (.nilIface)) (.node (.node .nil (.one (.nilFunc)) .nil) (.one (.nilFunc)) (.node .nil (.one (.nilFunc)) .nil))) (.int .u64) (.node (.node (.node .nil (.one (.nilFunc)) .nil) (.no) (.node .nil (.one (.nilFunc)) .nil)) (.one (.nilFunc)) (.node (.node .nil (.one (.nilFunc)) .nil) (.one (.nilFunc)) (.node .nil (.st 0 [(0, 0)] []) .nil))))) (.int .i64) (.node (.node (.node (.node (.node (.node .nil (.int .i32) .nil) (.one (.nilFunc)) .nil) (.sl 50 2 16) (.node .nil (.one (.nilFunc)) .nil)) (.st 1 [(0, 1)] [.pointer none]) (.node (.node .nil (.st 3 [(0, 1), (1, 1), (2, 1)] [.int .i64 0, .int .i64 0, .int .i64 0]) .nil) (.st 2 [(0, 1), (1, 1)] [.int .i64 0, .int .i64 0]) (.node .nil (.one (.nilFunc)) .nil))) (.str) (.node (.node (.node .nil (.one (.nilFunc)) .nil) (.no) (.node .nil (.one (.pointer none)) .nil)) (.arr 4 3 1 [.int .i64 0, .int .i64 0, .int .i64 0, .int .i64 0]) (.node (.node .nil (.no) .nil) (.one (.nilFunc)) (.node .nil (.arr 0 16 1 []) .nil)))) (.int .u8) (.node (.node (.node (.node (.node .nil (.no) .nil) (.one (.nilFunc)) .nil) (.one (.nilFunc)) (.node .nil (.int .u64) .nil)) (.sl 55 3 24) (.node (.node .nil (.one (.nilFunc)) .nil) (.st 3 [(0, 1), (1, 1), (2, 1)] [.int .i64 0, .int .i64 0, .int .i64 0]) (.node .nil (.one (.nilFunc)) .nil))) (.st 2 [(0, 1), (1, 1)] [.string ByteArray.empty, .int .u64 0]) (.node (.node (.node .nil (.int .u64) .nil) (.one (.nilFunc)) (.node .nil (.one (.nilFunc)) .nil)) (.sl 29 4 64) (.node (.node .nil (.no) .nil) (.one (.nilFunc)) (.node .nil (.int .u8) .nil))))))
instance tabOK : TabOK Try.prog tab := ⟨by kernel_rfl, by kernel_rfl⟩
theorem eqs50 (a0 b0 : Int) (a1 b1 : Int) : EqT Try.prog 50 (.agg #[.int .i64 a0, .int .i64 a1]) (.agg #[.int .i64 b0, .int .i64 b1]) (decide (a0 = b0) && (decide (a1 = b1) && true)) := eqT_of Try.underlying50 (by kernel_rfl) (by kernel_rfl) (fun _ => eqf (by simp) (one_of (T := tab) rfl rfl) rfl rfl (eqI tabOK rfl) (eqf (by simp) (one_of (T := tab) rfl rfl) rfl rfl (eqI tabOK rfl) (rfl)))
theorem eqs55 (a0 b0 : Int) (a1 b1 : Int) (a2 b2 : Int) : EqT Try.prog 55 (.agg #[.int .i64 a0, .int .i64 a1, .int .i64 a2]) (.agg #[.int .i64 b0, .int .i64 b1, .int .i64 b2]) (decide (a0 = b0) && (decide (a1 = b1) && (decide (a2 = b2) && true))) := eqT_of Try.underlying55 (by kernel_rfl) (by kernel_rfl) (fun _ => eqf (by simp) (one_of (T := tab) rfl rfl) rfl rfl (eqI tabOK rfl) (eqf (by simp) (one_of (T := tab) rfl rfl) rfl rfl (eqI tabOK rfl) (eqf (by simp) (one_of (T := tab) rfl rfl) rfl rfl (eqI tabOK rfl) (rfl))))
theorem ent9 : EntersT Try.prog 9 := enters_of Try.func9 (s := "wageoffice/wageofficelaw05.head") rfl (by simp) rfl
theorem ent10 : EntersT Try.prog 10 := enters_of Try.func10 (s := "wageoffice/wageofficelaw05.Made") rfl (by simp) rfl
theorem ent11 : EntersT Try.prog 11 := enters_of Try.func11 (s := "wageoffice/piecewise.Add") rfl (by simp) rfl
theorem ent12 : EntersT Try.prog 12 := enters_of Try.func12 (s := "wageoffice/wageofficeref05.Add") rfl (by simp) rfl
theorem ent13 : EntersT Try.prog 13 := enters_of Try.func13 (s := "wageoffice/piecewise.Least") rfl (by simp) rfl
theorem ent14 : EntersT Try.prog 14 := enters_of Try.func14 (s := "wageoffice/wageofficeref05.Least") rfl (by simp) rfl
theorem ent15 : EntersT Try.prog 15 := enters_of Try.func15 (s := "wageoffice/piecewise.Where") rfl (by simp) rfl
theorem ent16 : EntersT Try.prog 16 := enters_of Try.func16 (s := "wageoffice/wageofficeref05.Where") rfl (by simp) rfl
theorem ent17 : EntersT Try.prog 17 := enters_of Try.func17 (s := "wageoffice/wageofficelaw05.pick") rfl (by simp) rfl
theorem ent18 : EntersT Try.prog 18 := enters_of Try.func18 (s := "wageoffice/wageofficeref05.Same") rfl (by simp) rfl
theorem ent19 : EntersT Try.prog 19 := enters_of Try.func19 (s := "wageoffice/wageofficeref04.Same") rfl (by simp) rfl
theorem ent20 : EntersT Try.prog 20 := enters_of Try.func20 (s := "wageoffice/piecewise.Valid") rfl (by simp) rfl
theorem ent21 : EntersT Try.prog 21 := enters_of Try.func21 (s := "wageoffice/wageofficeref05.Valid") rfl (by simp) rfl
theorem ent22 : EntersT Try.prog 22 := enters_of Try.func22 (s := "wageoffice/piecewise.Eval") rfl (by simp) rfl
theorem ent23 : EntersT Try.prog 23 := enters_of Try.func23 (s := "wageoffice/wageofficeref05.Eval") rfl (by simp) rfl
theorem ent24 : EntersT Try.prog 24 := enters_of Try.func24 (s := "wageoffice/piecewise.Round") rfl (by simp) rfl
theorem ent25 : EntersT Try.prog 25 := enters_of Try.func25 (s := "wageoffice/wageofficeref05.Round") rfl (by simp) rfl
theorem ent28 : EntersT Try.prog 28 := enters_of Try.func28 (s := "wageoffice/piecewise.both") rfl (by simp) rfl
theorem ent29 : EntersT Try.prog 29 := enters_of Try.func29 (s := "wageoffice/piecewise.stretches") rfl (by simp) rfl
theorem ent30 : EntersT Try.prog 30 := enters_of Try.func30 (s := "wageoffice/piecewise.at") rfl (by simp) rfl
theorem ent31 : EntersT Try.prog 31 := enters_of Try.func31 (s := "wageoffice/piecewise.checked") rfl (by simp) rfl
theorem ent32 : EntersT Try.prog 32 := enters_of Try.func32 (s := "wageoffice/wageofficeref05.wrong") rfl (by simp) rfl
theorem ent33 : EntersT Try.prog 33 := enters_of Try.func33 (s := "wageoffice/wageofficeref05.Starts") rfl (by simp) rfl
theorem ent34 : EntersT Try.prog 34 := enters_of Try.func34 (s := "wageoffice/wageofficeref05.At") rfl (by simp) rfl
theorem ent35 : EntersT Try.prog 35 := enters_of Try.func35 (s := "wageoffice/wageofficeref05.Slope") rfl (by simp) rfl
theorem ent36 : EntersT Try.prog 36 := enters_of Try.func36 (s := "wageoffice/wageofficeref05.result") rfl (by simp) rfl
theorem ent37 : EntersT Try.prog 37 := enters_of Try.func37 (s := "wageoffice/wageofficeref05.Turn") rfl (by simp) rfl
theorem ent38 : EntersT Try.prog 38 := enters_of Try.func38 (s := "wageoffice/piecewise.steps") rfl (by simp) rfl
theorem ent39 : EntersT Try.prog 39 := enters_of Try.func39 (s := "wageoffice/span.Normal") rfl (by simp) rfl
theorem ent40 : EntersT Try.prog 40 := enters_of Try.func40 (s := "wageoffice/wageofficeref05.within") rfl (by simp) rfl
theorem ent41 : EntersT Try.prog 41 := enters_of Try.func41 (s := "wageoffice/wageofficeref05.First") rfl (by simp) rfl
theorem ent42 : EntersT Try.prog 42 := enters_of Try.func42 (s := "wageoffice/wageofficeref04.Normal") rfl (by simp) rfl
theorem ent43 : EntersT Try.prog 43 := enters_of Try.func43 (s := "wageoffice/piecewise.argument") rfl (by simp) rfl
theorem ent44 : EntersT Try.prog 44 := enters_of Try.func44 (s := "wageoffice/piecewise.floor") rfl (by simp) rfl
theorem ent45 : EntersT Try.prog 45 := enters_of Try.func45 (s := "wageoffice/wageofficeref04.Proper") rfl (by simp) rfl
theorem ent46 : EntersT Try.prog 46 := enters_of Try.func46 (s := "wageoffice/piecewise.stretches$1") rfl (by simp) rfl
theorem ent47 : EntersT Try.prog 47 := enters_of Try.func47 (s := "wageoffice/piecewise.sorted[int]") rfl (by simp) rfl
theorem ent48 : EntersT Try.prog 48 := enters_of Try.func48 (s := "sort.Search") rfl (by simp) rfl
theorem ent49 : EntersT Try.prog 49 := enters_of Try.func49 (s := "wageoffice/piecewise.at$1") rfl (by simp) rfl
theorem ent50 : EntersT Try.prog 50 := enters_of Try.func50 (s := "wageoffice/wageofficeref05.Piece") rfl (by simp) rfl
theorem ent51 : EntersT Try.prog 51 := enters_of Try.func51 (s := "wageoffice/span.sweep") rfl (by simp) rfl
theorem ent52 : EntersT Try.prog 52 := enters_of Try.func52 (s := "wageoffice/span.Normal$1") rfl (by simp) rfl
theorem ent53 : EntersT Try.prog 53 := enters_of Try.func53 (s := "wageoffice/wageofficeref04.sorted") rfl (by simp) rfl
theorem ent54 : EntersT Try.prog 54 := enters_of Try.func54 (s := "slices.Clone[[]int,int]") rfl (by simp) rfl
theorem ent55 : EntersT Try.prog 55 := enters_of Try.func55 (s := "slices.Sort[[]int,int]") rfl (by simp) rfl
theorem ent56 : EntersT Try.prog 56 := enters_of Try.func56 (s := "slices.Compact[[]int,int]") rfl (by simp) rfl
theorem ent57 : EntersT Try.prog 57 := enters_of Try.func57 (s := "wageoffice/span.edges") rfl (by simp) rfl
theorem ent58 : EntersT Try.prog 58 := enters_of Try.func58 (s := "wageoffice/wageofficeref04.merge") rfl (by simp) rfl
theorem ent61 : EntersT Try.prog 61 := enters_of Try.func61 (s := "wageoffice/span.proper") rfl (by simp) rfl
theorem ent62 : EntersT Try.prog 62 := enters_of Try.func62 (s := "wageoffice/span.sortBy[wageoffice/span.edge,int]") rfl (by simp) rfl
theorem ent63 : EntersT Try.prog 63 := enters_of Try.func63 (s := "wageoffice/span.edges$1") rfl (by simp) rfl
theorem ent75 : EntersT Try.prog 75 := enters_of Try.func75 (s := "slices.SortFunc[[]wageoffice/span.edge,wageoffice/span.edge]") rfl (by simp) rfl
theorem ent76 : EntersT Try.prog 76 := enters_of Try.func76 (s := "wageoffice/span.sortBy[wageoffice/span.edge,int]$1") rfl (by simp) rfl
theorem ent77 : EntersT Try.prog 77 := enters_of Try.func77 (s := "cmp.Compare[int]") rfl (by simp) rfl
theorem ent83 : EntersT Try.prog 83 := enters_of Try.func83 (s := "cmp.isNaN[int]") rfl (by simp) rfl
end Go.Proofs.Ytnekeokgognegaa
