import Derived.Test.YtjmhioacbpgalaaDoorS4
namespace Go.Proofs.YtjmhioacbpgalaaDoor.S
open Go Go.Proofs.YtjmhioacbpgalaaDoorV
set_option linter.unusedSimpArgs false
set_option linter.unusedVariables false
set_option maxRecDepth 100000
def bs (l : List UInt8) : ByteArray := ⟨l.toArray⟩
def exC (k a b : Int) : List D := [.v (.int .i64 k), .v (.int .i64 a), .v (.int .i64 b)]
def ex (k a b : Int) : D := .agg (exC k a b)
def s1 : ByteArray := bs [48, 120, 50, 32, 49, 126, 50, 32, 49, 32, 48, 32, 49, 32, 48, 33, 32, 48, 32, 49, 33]
def s2 : ByteArray := bs [48, 120]
def s3 : ByteArray := bs [48, 120, 49, 48, 48, 48, 49]
def s4 : ByteArray := bs [48, 120, 51, 32, 49, 32, 48, 33]
def cells1 : List D := exC 1 0 0 ++ exC 1 0 0 ++ exC 2 1 2 ++ exC 1 1 0 ++ exC 1 0 0 ++ exC 1 1 0 ++ exC 3 0 0 ++ exC 1 0 0 ++ exC 3 1 0
def rows1 : List D := [ex 1 0 0, ex 1 0 0, ex 2 1 2, ex 1 1 0, ex 1 0 0, ex 1 1 0, ex 3 0 0, ex 1 0 0, ex 3 1 0]
def cells2 : List D := exC 1 0 0 ++ exC 1 0 0 ++ exC 1 0 0 ++ exC 1 1 0 ++ exC 3 0 0
def rows2 : List D := [ex 1 0 0, ex 1 0 0, ex 1 0 0, ex 1 1 0, ex 3 0 0]
theorem r19a : runF Tryd.prog call0 tabs 200 12 19 [.v (.string s1)] = some (.tup [.ref 0 0 9 3 true, .v (.int .i64 0)], [.cells cells1 false]) := by kernel_rfl
theorem r19b : runF Tryd.prog call0 tabs 200 12 19 [.v (.string s2)] = some (.tup [.v (.slice none 0 0), .v (.int .i64 3)], []) := by kernel_rfl
theorem r19c : runF Tryd.prog call0 tabs 200 12 19 [.v (.string s3)] = some (.tup [.v (.slice none 0 0), .v (.int .i64 2)], []) := by kernel_rfl
theorem r15 : runF Tryd.prog call0 tabs 200 12 15 [.v (.int .i64 2), .sl 3 rows1] = some (.ref 0 0 5 3 true, [.cells cells2 false]) := by kernel_rfl
theorem r21a : runF Tryd.prog call0 tabs 200 12 21 [.sl 3 rows2] = some (.v (.string s4), []) := by kernel_rfl
theorem r21b : runF Tryd.prog call0 tabs 200 12 21 [.sl 3 rows1] = some (.v (.string s1), []) := by kernel_rfl
theorem r17a : runF Tryd.prog call0 tabs 200 12 17 [.sl 1 [.v (.bool true), .v (.bool false), .v (.bool true)], .v (.int .i64 0)] = some (.v (.int .i64 2), []) := by kernel_rfl
theorem r17b : runF Tryd.prog call0 tabs 200 12 17 [.sl 1 [.v (.bool true), .v (.bool false), .v (.bool true)], .v (.int .i64 2)] = some (.v (.int .i64 0), []) := by kernel_rfl
theorem r17c : runF Tryd.prog call0 tabs 200 12 17 [.sl 1 [.v (.bool false)], .v (.int .i64 0)] = some (.v (.int .i64 (-1)), []) := by kernel_rfl
theorem r12a : runF Tryd.prog call0 tabs 200 12 12 [.v (.int .i64 2), ex 2 1 2] = some (.v (.bool true), []) := by kernel_rfl
theorem r12b : runF Tryd.prog call0 tabs 200 12 12 [.v (.int .i64 1), ex 2 1 2] = some (.v (.bool false), []) := by kernel_rfl
end Go.Proofs.YtjmhioacbpgalaaDoor.S
