/- Tables and annotations, printed by gen.py (own program) out of the seat's own translation. -/
import Derived.Test.YtmcgeohnmncinaaChecked
import Derived.Test.YtmcgeohnmncinaaFwZc
import Derived.KernelRfl
set_option linter.all false
namespace Go.Proofs.Ytmcgeohnmncinaa.W
open Go.Fw
def tabL : List (Option TI) := [none,
  none,
  some ⟨.int .i64, [.int .i64], 8⟩,
  some ⟨.int .i64, [.int .i64], 8⟩,
  some ⟨.bool, [.bool], 1⟩,
  some ⟨.int .u8, [.int .u8], 1⟩,
  none,
  none,
  none,
  some ⟨.str, [.str], 16⟩,
  none,
  none,
  none,
  none,
  none,
  none,
  none,
  none,
  none,
  none,
  none,
  some ⟨.int .i32, [.int .i32], 4⟩,
  some ⟨.sl 42, [.sl 42], 24⟩,
  some ⟨.struct [(0, 9), (1, 3), (2, 9), (3, 22)], [.str, .int .i64, .str, .sl 42], 64⟩,
  some ⟨.struct [(0, 9), (1, 3), (2, 9), (3, 22)], [.str, .int .i64, .str, .sl 42], 64⟩,
  none,
  some ⟨.int .i64, [.int .i64], 8⟩,
  none,
  none,
  none,
  none,
  none,
  none,
  none,
  none,
  none,
  none,
  none,
  none,
  none,
  none,
  some ⟨.struct [(0, 9), (1, 9)], [.str, .str], 32⟩,
  some ⟨.struct [(0, 9), (1, 9)], [.str, .str], 32⟩,
  none,
  none,
  none,
  none,
  none,
  none,
  none,
  none,
  none,
  none,
  none,
  none,
  none,
  none,
  none,
  some ⟨.sl 5, [.sl 5], 24⟩,
  none,
  none,
  none,
  some ⟨.func, [.func], 8⟩,
  none,
  none,
  some ⟨.func, [.func], 8⟩,
  some ⟨.int .u64, [.int .u64], 8⟩,
  none,
  none,
  none,
  none,
  none,
  some ⟨.int .u32, [.int .u32], 4⟩]
def tab : Tab := fun t => tabL.getD t none
def fns : List Nat := [2, 3, 4, 5, 6, 7, 8, 9, 10, 11, 12, 13, 14, 15, 16, 17, 18, 19, 20, 21, 22, 23, 24, 25, 26, 27, 28, 29, 30, 31, 32, 33, 34, 35, 36, 37, 38, 39, 40, 41, 42, 43, 44, 45, 46, 48, 49, 50, 51, 52, 53, 54, 55, 57, 58, 61, 63]
noncomputable def body : FuncId → Option Func := bodyOf Try.prog fns
def ann0 : FAnn := { pre := [], split := [], loops := [], post := [.freeze 0], res := .t [], objs := [] }
def ann1 : FAnn := { pre := [], split := [], loops := [], post := [.freeze 0], res := .t [], objs := [] }
def ann2 : FAnn := { pre := [], split := [], loops := [], post := [.freeze 0], res := .t [], objs := [] }
def ann3 : FAnn := { pre := [((1, 1), [.freeze 9]), ((1, 10), [.freeze 18]), ((7, 1), [.freeze 36]), ((11, 17), [.freeze 69])], split := [(1, 2), (1, 8), (11, 5), (11, 15), (14, 3), (14, 11)], loops := [(0, [.kill [0, 2, 6, 7, 8, 9, 10, 11, 12, 13, 14, 15, 16, 17, 18, 19, 20, 21, 22, 23, 24, 25, 26, 27, 28, 29, 30, 31, 32, 33, 34, 35, 36, 37, 38, 39, 40, 41, 42, 43, 44, 45, 46, 47, 48, 49, 50, 51, 52, 53, 54, 55, 56, 57, 58, 59, 60, 61, 62, 63, 64, 65, 66, 67, 68, 69, 70, 71, 72, 73, 74, 75, 76, 77, 78, 79, 80, 81, 82, 83, 84, 85, 86, 87, 88, 89, 90]])], post := [.freeze 0], res := .cell (.bool), objs := [] }
def ann4 : FAnn := { pre := [((1, 1), [.freeze 9]), ((3, 2), [.freeze 18, .freeze 19]), ((4, 2), [.freeze 24, .freeze 25]), ((5, 6), [.freeze 33, .freeze 34])], split := [(1, 2), (5, 3), (5, 8)], loops := [], post := [.freeze 0], res := .cell (.bool), objs := [] }
def ann5 : FAnn := { pre := [((1, 1), [.freeze 5]), ((1, 4), [.freeze 8])], split := [(1, 2), (3, 5), (3, 14), (3, 20)], loops := [], post := [.freeze 0], res := .cell (.bool), objs := [] }
def ann6 : FAnn := { pre := [((1, 1), [.freeze 17]), ((3, 1), [.freeze 21]), ((4, 1), [.freeze 27]), ((5, 1), [.freeze 33]), ((6, 1), [.freeze 38]), ((7, 1), [.freeze 44]), ((8, 11), [.freeze 58, .freeze 59]), ((8, 36), [.freeze 83, .freeze 84])], split := [(8, 3), (8, 8), (8, 13), (8, 18), (8, 23), (8, 28), (8, 33), (8, 38)], loops := [], post := [.freeze 0], res := .cell (.bool), objs := [] }
def ann7 : FAnn := { pre := [((1, 1), [.freeze 15]), ((3, 1), [.freeze 23]), ((4, 2), [.freeze 26, .freeze 27]), ((5, 1), [.freeze 31]), ((6, 2), [.freeze 34, .freeze 35]), ((11, 2), [.freeze 52, .freeze 53]), ((16, 2), [.freeze 69, .freeze 70]), ((16, 6), [.freeze 73, .freeze 74])], split := [(1, 2), (16, 3), (16, 8)], loops := [(0, [.kill [0, 3, 4, 7, 10, 12, 13, 14, 15, 16, 17, 18, 19, 20, 21, 22, 23, 24, 25, 26, 27, 28, 29, 30, 31, 32, 33, 34, 35, 36, 37, 38, 39, 40, 41, 42, 43, 44, 45, 46, 47, 48, 49, 50, 51, 52, 53, 54, 55, 56, 57, 58, 59, 60, 61, 62, 63, 64, 65, 66, 67, 68, 69, 70, 71, 72, 73, 74, 75, 76, 77, 78, 79]]), (2, [.kill [0, 1, 3, 4, 7, 9, 10, 11, 13, 15, 16, 17, 18, 19, 20, 21, 22, 23, 24, 25, 26, 27, 28, 29, 30, 31, 32, 33, 34, 35, 36, 37, 38, 39, 40, 41, 42, 43, 44, 45, 46, 47, 48, 49, 50, 51, 52, 53, 54, 55, 56, 57, 58, 59, 60, 61, 62, 63, 64, 65, 66, 67, 68, 69, 70, 71, 72, 73, 74, 75, 76, 77, 78, 79]])], post := [.freeze 0], res := .cell (.bool), objs := [] }
def ann8 : FAnn := { pre := [((1, 1), [.freeze 19]), ((3, 3), [.freeze 33, .freeze 34, .freeze 35]), ((4, 3), [.freeze 40, .freeze 41, .freeze 42]), ((5, 2), [.freeze 47, .freeze 48]), ((6, 2), [.freeze 53, .freeze 54]), ((7, 2), [.freeze 59, .freeze 60]), ((8, 2), [.freeze 65, .freeze 66]), ((9, 6), [.freeze 74, .freeze 75]), ((9, 26), [.freeze 94, .freeze 95])], split := [(1, 2), (1, 7), (9, 3), (9, 8), (9, 13), (9, 18), (9, 23), (9, 28)], loops := [], post := [.freeze 0], res := .cell (.bool), objs := [] }
def ann9 : FAnn := { pre := [((1, 1), [.freeze 16]), ((3, 2), [.freeze 30, .freeze 31]), ((6, 2), [.freeze 39, .freeze 40]), ((7, 8), [.freeze 51]), ((9, 2), [.freeze 77, .freeze 78]), ((10, 2), [.freeze 83, .freeze 84]), ((13, 2), [.freeze 102, .freeze 103]), ((14, 2), [.freeze 108, .freeze 109])], split := [(1, 2), (1, 7), (7, 2), (7, 6), (7, 11), (7, 18), (7, 25), (11, 3), (11, 7), (15, 1), (15, 5)], loops := [], post := [.freeze 0], res := .cell (.bool), objs := [] }
def ann10 : FAnn := { pre := [], split := [(3, 5), (6, 2)], loops := [(0, [.kill [0, 2, 5, 6, 7, 8, 9, 10, 11, 12, 13, 14, 15, 16, 17, 18, 19, 20, 21, 22, 23, 24, 25, 26, 27, 28, 29, 30, 31, 32, 33, 34, 35, 36, 37, 38, 39, 40, 41, 42, 43, 44, 45, 46, 47, 48, 49, 50, 51]])], post := [.freeze 0], res := .cell (.bool), objs := [] }
def ann11 : FAnn := { pre := [((3, 2), [.freeze 21]), ((3, 7), [.freeze 26]), ((11, 4), [.freeze 55, .freeze 56, .freeze 58])], split := [(1, 3), (3, 4), (5, 4), (5, 10)], loops := [(1, [.kill [0, 1, 2, 4, 5, 6, 7, 8, 9, 10, 11, 12, 13, 14, 15, 16, 17, 18, 19, 20, 21, 22, 23, 24, 25, 26, 27, 28, 29, 30, 31, 32, 33, 34, 35, 36, 37, 38, 39, 40, 41, 42, 43, 44, 45, 46, 47, 51, 52, 53, 54, 55, 56, 57, 58, 59, 60, 61, 62, 63, 64, 65]])], post := [.freeze 0], res := .cell (.int .i64), objs := [] }
def ann12 : FAnn := { pre := [((1, 1), [.freeze 10]), ((2, 1), [.freeze 16]), ((3, 1), [.freeze 22])], split := [(4, 1), (4, 4), (4, 8), (4, 12)], loops := [], post := [.freeze 0], res := .cell (.bool), objs := [] }
def ann13 : FAnn := { pre := [((1, 1), [.freeze 9]), ((3, 1), [.freeze 13]), ((7, 1), [.freeze 24])], split := [], loops := [], post := [.freeze 0], res := .t [.cell (.str), .cell (.bool), .a [.cell (.str), .cell (.int .i64), .cell (.str), .cell (.sl 42)]], objs := [] }
def ann14 : FAnn := { pre := [((1, 1), [.freeze 7]), ((4, 1), [.freeze 15]), ((8, 1), [.freeze 28])], split := [], loops := [], post := [.freeze 0], res := .t [.a [.cell (.str), .cell (.int .i64), .cell (.str), .cell (.sl 42)], .cell (.int .i64)], objs := [] }
def ann15 : FAnn := { pre := [((1, 1), [.freeze 7]), ((4, 1), [.freeze 13])], split := [], loops := [], post := [.freeze 0], res := .t [.a [.cell (.str), .cell (.int .i64), .cell (.str), .cell (.sl 42)], .cell (.int .i64)], objs := [] }
def ann16 : FAnn := { pre := [], split := [(1, 5), (1, 12), (1, 19)], loops := [(0, [.kill [0, 1, 4, 6, 7, 8, 9, 10, 11, 12, 13, 14, 15, 16, 17, 18, 19, 20, 21, 22, 23, 24, 25, 26, 27, 28, 29, 30, 31, 32, 33, 34, 35, 36, 37, 38, 39, 40, 41, 42, 43, 44, 45, 46, 47, 48, 49, 50, 51]])], post := [.freeze 0], res := .cell (.bool), objs := [] }
def ann17 : FAnn := { pre := [((3, 2), [.freeze 19]), ((3, 7), [.freeze 24]), ((11, 2), [.freeze 59]), ((15, 2), [.freeze 79])], split := [(1, 3), (3, 4), (5, 4), (5, 10), (13, 2)], loops := [(1, [.kill [0, 2, 4, 5, 6, 7, 8, 9, 10, 11, 12, 13, 14, 15, 16, 17, 18, 19, 20, 21, 22, 23, 24, 25, 26, 27, 28, 29, 30, 31, 32, 33, 34, 35, 36, 37, 38, 39, 40, 41, 42, 43, 44, 45, 46, 47, 48, 49, 50, 51, 52, 53, 54, 55, 56, 57, 58, 59, 60, 61, 62, 63, 64, 65, 66, 67, 68, 69, 70, 71, 72, 73, 74, 75, 76, 77, 78, 79, 80, 81, 82, 83, 84, 85, 86]])], post := [.freeze 0], res := .cell (.int .i64), objs := [] }
def ann18 : FAnn := { pre := [((1, 24), [.freeze 26, .freeze 28])], split := [(1, 5), (1, 12), (1, 19)], loops := [], post := [.freeze 0], res := .cell (.bool), objs := [] }
def ann19 : FAnn := { pre := [], split := [], loops := [], post := [.freeze 0], res := .a [.cell (.str), .cell (.int .i64), .cell (.str), .cell (.sl 42)], objs := [] }
def ann20 : FAnn := { pre := [((1, 1), [.freeze 7]), ((3, 1), [.freeze 11]), ((4, 1), [.freeze 14])], split := [], loops := [], post := [.freeze 0], res := .t [.cell (.int .i64), .cell (.bool), .a [.cell (.str), .cell (.int .i64), .cell (.str), .cell (.sl 42)]], objs := [] }
def ann21 : FAnn := { pre := [((1, 1), [.freeze 6])], split := [], loops := [], post := [.freeze 0], res := .t [.cell (.int .i64), .cell (.bool), .a [.cell (.str), .cell (.int .i64), .cell (.str), .cell (.sl 42)]], objs := [] }
def ann22 : FAnn := { pre := [((1, 1), [.freeze 4])], split := [(1, 3)], loops := [], post := [.freeze 0], res := .t [.cell (.int .i64), .cell (.bool)], objs := [] }
def ann23 : FAnn := { pre := [((1, 1), [.freeze 7])], split := [(6, 6)], loops := [(0, [.kill [0, 2, 3, 6, 7, 8, 9, 10, 11, 12, 13, 14, 15, 16, 17, 18, 19, 20, 21, 22, 23, 24, 25, 26, 27, 28, 29, 30, 31, 32, 33, 34, 35, 36, 37, 38, 39, 40, 41, 42, 43, 44, 45, 46, 47, 48, 49, 50, 51, 52, 53, 54]])], post := [.freeze 0], res := .t [.cell (.str), .cell (.bool), .a [.cell (.str), .cell (.int .i64), .cell (.str), .cell (.sl 42)]], objs := [] }
def ann24 : FAnn := { pre := [((1, 1), [.freeze 12]), ((4, 3), [.freeze 20]), ((7, 1), [.freeze 26]), ((8, 2), [.freeze 29, .freeze 30]), ((12, 5), [.freeze 45]), ((12, 6), [.freeze 42, .freeze 43, .freeze 46]), ((13, 6), [.freeze 52])], split := [], loops := [], post := [.freeze 0], res := .t [.a [.cell (.str), .cell (.int .i64), .cell (.str), .cell (.sl 42)], .cell (.int .i64)], objs := [] }
def ann25 : FAnn := { pre := [((1, 1), [.freeze 8]), ((3, 1), [.freeze 12]), ((4, 2), [.freeze 15, .freeze 16]), ((6, 5), [.freeze 22, .freeze 23, .freeze 25])], split := [], loops := [], post := [.freeze 0], res := .t [.a [.cell (.str), .cell (.int .i64), .cell (.str), .cell (.sl 42)], .cell (.bool)], objs := [] }
def ann26 : FAnn := { pre := [((1, 1), [.freeze 12]), ((4, 1), [.freeze 18]), ((6, 1), [.freeze 22]), ((8, 3), [.freeze 27, .freeze 28]), ((13, 5), [.freeze 57])], split := [(9, 3), (12, 4)], loops := [(0, [.kill [0, 4, 5, 7, 8, 12, 13, 14, 15, 16, 17, 18, 19, 20, 21, 22, 23, 24, 25, 26, 27, 28, 29, 30, 31, 32, 33, 34, 35, 36, 37, 38, 39, 40, 41, 42, 43, 44, 45, 46, 47, 48, 49, 50, 51, 52, 53, 54, 55, 56, 57, 58, 59, 60, 61, 62, 63, 64, 65, 66, 67, 68, 69, 70, 71, 72, 73]])], post := [.freeze 0], res := .t [.a [.cell (.str), .cell (.int .i64), .cell (.str), .cell (.sl 42)], .cell (.int .i64)], objs := [], free := [(15, 1), (15, 2), (15, 3), (15, 6), (15, 7), (15, 8)] }
def ann27 : FAnn := { pre := [((1, 1), [.freeze 8]), ((3, 2), [.freeze 12, .freeze 13])], split := [], loops := [], post := [.freeze 0], res := .t [.cell (.str), .cell (.bool)], objs := [] }
def ann28 : FAnn := { pre := [((1, 1), [.freeze 7])], split := [], loops := [(0, [.kill [0, 3, 4, 5, 7, 8, 9, 10, 11, 12, 13, 14, 15, 16, 17, 18, 19, 20, 21, 22, 23, 24, 25, 26, 27, 28, 29, 30]])], post := [.freeze 0], res := .t [.cell (.str), .cell (.bool)], objs := [] }
def ann29 : FAnn := { pre := [((1, 1), [.freeze 8]), ((3, 2), [.freeze 13, .freeze 14]), ((4, 3), [.freeze 19, .freeze 20])], split := [], loops := [], post := [.freeze 0], res := .t [.a [.cell (.str), .cell (.int .i64), .cell (.str), .cell (.sl 42)], .cell (.bool)], objs := [] }
def ann30 : FAnn := { pre := [], split := [(4, 2), (4, 6), (4, 9)], loops := [(0, [.kill [0, 1, 2, 3, 4, 5, 9, 10, 11, 12, 13, 14, 15, 16, 17, 18, 19, 20, 21, 22, 23, 24, 25, 26]])], post := [.freeze 0], res := .cell (.bool), objs := [] }
def ann31 : FAnn := { pre := [((1, 2), [.freeze 9]), ((5, 2), [.freeze 23])], split := [(3, 2)], loops := [], post := [.freeze 0], res := .cell (.int .i64), objs := [] }
def ann32 : FAnn := { pre := [((1, 2), [.freeze 4])], split := [], loops := [], post := [.freeze 0], res := .a [.cell (.str), .cell (.int .i64), .cell (.str), .cell (.sl 42)], objs := [] }
def ann33 : FAnn := { pre := [((1, 2), [.freeze 7, .freeze 8])], split := [], loops := [], post := [.freeze 0], res := .t [.cell (.str), .cell (.str), .cell (.bool)], objs := [] }
def ann34 : FAnn := { pre := [], split := [(5, 2), (5, 6), (5, 9)], loops := [(0, [.kill [1, 2, 4, 5, 6, 7, 8, 9, 10, 11, 12, 13, 14, 15, 16, 17, 18, 19, 20, 21, 22, 23, 24, 25, 26, 27]])], post := [.freeze 0], res := .cell (.bool), objs := [] }
def ann35 : FAnn := { pre := [], split := [(4, 4), (6, 3)], loops := [(0, [.kill [1, 2, 4, 5, 6, 7, 8, 9, 10, 11, 12, 13, 14, 15, 16, 17, 18, 19, 20, 21, 22, 23, 24, 25, 26, 27]])], post := [.freeze 0], res := .cell (.bool), objs := [] }
def ann36 : FAnn := { pre := [], split := [], loops := [(0, [.kill [2, 3, 4, 5, 6, 7, 8, 9, 10, 11, 14, 15, 16, 17, 18, 19, 20, 21, 22, 23, 24, 25]])], post := [.freeze 0], res := .cell (.bool), objs := [] }
def ann37 : FAnn := { pre := [((1, 3), [.freeze 7, .freeze 8])], split := [], loops := [], post := [.freeze 0], res := .t [.cell (.int .i64), .cell (.bool)], objs := [] }
def ann38 : FAnn := { pre := [((14, 6), [.freeze 61, .freeze 66]), ((19, 4), [.freeze 91, .freeze 92])], split := [], loops := [], post := [.freeze 0], res := .cell (.sl 42), objs := [] }
def ann39 : FAnn := { pre := [], split := [], loops := [], post := [.freeze 0], res := .cell (.sl 42), objs := [] }
def ann40 : FAnn := { pre := [((6, 5), [.freeze 25])], split := [], loops := [(0, [.kill [2, 3, 4, 7, 8, 9, 10, 11, 12, 13, 14, 15, 16, 17, 18, 19, 20, 21, 22, 23, 24, 25, 26, 27, 28]])], post := [.freeze 0], res := .cell (.sl 42), objs := [] }
def ann41 : FAnn := { pre := [((3, 1), [.freeze 10])], split := [(1, 2)], loops := [], post := [.freeze 0], res := .cell (.bool), objs := [] }
def ann42 : FAnn := { pre := [], split := [], loops := [], post := [.freeze 0], res := .cell (.sl 42), objs := [] }
def ann43 : FAnn := { pre := [((1, 2), [.freeze 8, .freeze 9])], split := [], loops := [], post := [.freeze 0], res := .t [.cell (.str), .cell (.str), .cell (.bool)], objs := [] }
def ann44 : FAnn := { pre := [((5, 6), [.freeze 28, .freeze 29]), ((8, 11), [.freeze 44, .freeze 45])], split := [(8, 4)], loops := [(0, [.kill [3, 4, 5, 6, 7, 11, 12, 13, 14, 15, 16, 17, 18, 19, 20, 21, 22, 23, 24, 25, 26, 27, 28, 29, 30, 31, 32, 33, 34, 35, 36, 37, 38, 39, 40, 41, 42, 43, 44, 45, 46, 47, 48]])], post := [.freeze 0], res := .t [.cell (.int .i64), .cell (.bool)], objs := [] }
def ann45 : FAnn := { pre := [((1, 3), [.freeze 6, .freeze 7])], split := [], loops := [], post := [.freeze 0], res := .cell (.int .i64), objs := [] }
def ann46 : FAnn := { pre := [((1, 2), [.freeze 5, .freeze 6])], split := [], loops := [], post := [.freeze 0], res := .cell (.int .i64), objs := [] }
def ann47 : FAnn := { pre := [], split := [], loops := [], post := [.freeze 0], res := .cell (.bool), objs := [] }
def ann48 : FAnn := { pre := [((0, 5), [.freeze 4, .freeze 8])], split := [], loops := [], post := [.freeze 0], res := .t [], objs := [] }
def ann49 : FAnn := { pre := [((1, 2), [.freeze 5, .freeze 6])], split := [], loops := [], post := [.freeze 0], res := .cell (.bool), objs := [] }
def ann50 : FAnn := { pre := [], split := [(1, 2)], loops := [], post := [.freeze 0], res := .cell (.bool), objs := [] }
def ann51 : FAnn := { pre := [((5, 3), [.freeze 27, .freeze 29]), ((9, 2), [.freeze 45, .freeze 46]), ((17, 6), [.freeze 69, .freeze 70]), ((25, 6), [.freeze 104]), ((26, 4), [.freeze 110, .freeze 111]), ((31, 4), [.freeze 135, .freeze 136])], split := [(2, 2), (8, 3), (21, 6), (25, 3), (30, 3), (30, 10)], loops := [(1, [.kill [2, 3, 4, 11, 12, 13, 14, 15, 16, 17, 18, 19, 20, 21, 22, 23, 24, 25, 26, 27, 28, 29, 30, 31, 32, 33, 34, 35, 36, 37, 38, 39, 40, 41, 42, 43, 44, 45, 46, 47, 48, 49, 50, 51, 52, 53, 54, 55, 56, 57, 58, 59, 60, 61, 62, 63, 64, 65, 66, 67, 68, 69, 70, 71, 72, 73, 74, 75, 76, 77, 78, 79, 80, 81, 82, 83, 84, 85, 86, 87, 88, 89, 90, 91, 92, 93, 94, 95, 96, 97, 98, 99, 100, 101, 102, 103, 104, 105, 106, 107, 108, 109, 110, 111, 112, 113, 114, 115, 116, 117, 118, 119, 120, 121, 122, 123, 124, 125, 126, 127, 128, 129, 130, 131, 132, 133, 134, 135, 136, 137, 138, 139, 140, 141, 142]])], post := [.freeze 0], res := .cell (.int .i64), objs := [] }
def ann52 : FAnn := { pre := [((1, 2), [.freeze 5, .freeze 6])], split := [], loops := [], post := [.freeze 0], res := .cell (.int .i64), objs := [] }
def ann53 : FAnn := { pre := [((0, 3), [.freeze 6]), ((1, 3), [.freeze 10]), ((2, 1), [.freeze 12])], split := [], loops := [], post := [.freeze 0], res := .t [], objs := [] }
def ann54 : FAnn := { pre := [((1, 2), [.freeze 5, .freeze 6])], split := [], loops := [], post := [.freeze 0], res := .cell (.int .i64), objs := [] }
def ann55 : FAnn := { pre := [((1, 2), [.freeze 5, .freeze 6])], split := [], loops := [], post := [.freeze 0], res := .cell (.int .i64), objs := [] }
def ann56 : FAnn := { pre := [], split := [], loops := [], post := [.freeze 0], res := .cell (.int .i64), objs := [] }
def ann57 : FAnn := { pre := [], split := [], loops := [], post := [.freeze 0], res := .cell (.int .i64), objs := [] }
def ann58 : FAnn := { pre := [((1, 1), [.freeze 12])], split := [(8, 3), (16, 3)], loops := [(0, [.kill [2, 3, 4, 10, 11, 12, 13, 14, 15, 16, 17, 18, 19, 20, 21, 22, 23, 24, 25, 26, 27, 28, 29, 30, 31, 32, 33, 34, 35, 36, 37, 38, 39, 40, 41, 42, 43, 44, 45, 46, 47, 48, 49, 50, 51, 52, 53, 54, 55, 56, 57, 58, 59, 60, 61, 62, 63, 64, 65, 66, 67, 68, 69, 70, 71, 72, 73, 74, 75, 76, 77, 78, 79, 80]]), (2, [.kill [2, 3, 4, 9, 11, 12, 13, 14, 15, 16, 17, 18, 19, 20, 21, 22, 23, 24, 25, 26, 27, 28, 29, 30, 31, 32, 33, 34, 35, 36, 37, 38, 39, 40, 41, 42, 43, 44, 45, 46, 47, 48, 49, 50, 51, 52, 53, 54, 55, 56, 57, 58, 59, 60, 61, 62, 63, 64, 65, 66, 67, 68, 69, 70, 71, 72, 73, 74, 75, 76, 77, 78, 79, 80]])], post := [.freeze 0], res := .cell (.int .i64), objs := [] }
def ann59 : FAnn := { pre := [], split := [], loops := [], post := [.freeze 0], res := .cell (.int .i64), objs := [] }
def ann60 : FAnn := { pre := [((3, 13), [.freeze 21]), ((3, 15), [.freeze 25])], split := [], loops := [(0, [.kill [1, 4, 5, 6, 7, 8, 9, 10, 11, 12, 13, 14, 15, 16, 17, 18, 19, 20, 21, 22, 23, 24, 25, 26, 27]])], post := [.freeze 0], res := .t [], objs := [] }
def ann61 : FAnn := { pre := [((4, 2), [.freeze 16])], split := [], loops := [(0, [.kill [0, 3, 4, 5, 6, 7, 8, 9, 11, 12, 13, 14, 15, 16, 17, 18, 19, 20]])], post := [.freeze 0], res := .cell (.int .i64), objs := [] }
def ann62 : FAnn := { pre := [], split := [], loops := [], post := [.freeze 0], res := .cell (.int .i64), objs := [] }
def ann63 : FAnn := { pre := [], split := [], loops := [(0, [.kill [1, 2, 3, 6, 7, 8, 9, 10, 11, 12, 13, 14, 15, 16, 17, 18, 19, 20, 21, 22, 23, 24, 25, 26, 27, 28, 29, 30, 31, 32, 33, 34, 35, 36, 37, 38]]), (2, [.kill [0, 1, 2, 3, 5, 9, 10, 11, 12, 13, 14, 15, 16, 17, 18, 19, 20, 21, 22, 23, 24, 25, 26, 27, 28, 29, 30, 31, 32, 33, 34, 35, 36, 37, 38]])], post := [.freeze 0], res := .t [.cell (.int .u32), .cell (.int .u32)], objs := [] }
def ann64 : FAnn := { pre := [], split := [], loops := [], post := [.freeze 0], res := .cell (.str), objs := [] }
def ann65 : FAnn := { pre := [], split := [], loops := [], post := [.freeze 0], res := .t [], objs := [] }
def ann66 : FAnn := { pre := [], split := [], loops := [], post := [.freeze 0], res := .cell (.str), objs := [] }
def ann67 : FAnn := { pre := [], split := [], loops := [], post := [.freeze 0], res := .t [], objs := [] }
def ann68 : FAnn := { pre := [], split := [], loops := [], post := [.freeze 0], res := .cell (.str), objs := [] }
def ann69 : FAnn := { pre := [], split := [], loops := [], post := [.freeze 0], res := .t [], objs := [] }
def ann70 : FAnn := { pre := [], split := [], loops := [], post := [.freeze 0], res := .cell (.str), objs := [] }
def ann71 : FAnn := { pre := [], split := [], loops := [], post := [.freeze 0], res := .t [], objs := [] }
def ann72 : FAnn := { pre := [], split := [], loops := [], post := [.freeze 0], res := .cell (.str), objs := [] }
def ann73 : FAnn := { pre := [], split := [], loops := [], post := [.freeze 0], res := .t [], objs := [] }
def ann74 : FAnn := { pre := [], split := [], loops := [], post := [.freeze 0], res := .cell (.str), objs := [] }
def ann75 : FAnn := { pre := [], split := [], loops := [], post := [.freeze 0], res := .t [], objs := [] }
def ann76 : FAnn := { pre := [], split := [], loops := [], post := [.freeze 0], res := .cell (.int .i64), objs := [] }
def ann77 : FAnn := { pre := [], split := [], loops := [], post := [.freeze 0], res := .cell (.str), objs := [] }
def ann78 : FAnn := { pre := [], split := [], loops := [], post := [.freeze 0], res := .t [], objs := [] }
def ann79 : FAnn := { pre := [], split := [], loops := [], post := [.freeze 0], res := .cell (.str), objs := [] }
def ann80 : FAnn := { pre := [], split := [], loops := [], post := [.freeze 0], res := .cell (.str), objs := [] }
def annL : List FAnn := [ann0, ann1, ann2, ann3, ann4, ann5, ann6, ann7, ann8, ann9, ann10, ann11, ann12, ann13, ann14, ann15, ann16, ann17, ann18, ann19, ann20, ann21, ann22, ann23, ann24, ann25, ann26, ann27, ann28, ann29, ann30, ann31, ann32, ann33, ann34, ann35, ann36, ann37, ann38, ann39, ann40, ann41, ann42, ann43, ann44, ann45, ann46, ann47, ann48, ann49, ann50, ann51, ann52, ann53, ann54, ann55, ann56, ann57, ann58, ann59, ann60, ann61, ann62, ann63, ann64, ann65, ann66, ann67, ann68, ann69, ann70, ann71, ann72, ann73, ann74, ann75, ann76, ann77, ann78, ann79, ann80]
def ann : FuncId → FAnn := fun f => annL.getD f {}
noncomputable def prim : FuncId → List AV → List AObj → Option (Ab Res) := fun f args st =>
  bif Nat.beq f 62 then (match args with
    | [.k (.string s), .k (.int .u8 c)] => (match st with
      | [] => some (some (true, .k (.int .i64 (firstIdx s c.toNat.toUInt8)), []))
      | _ => some none)
    | _ => some none) else
  none
noncomputable def sys : FSys := { T := tab, body := body, ann := ann, prim := prim }
end Go.Proofs.Ytmcgeohnmncinaa.W
