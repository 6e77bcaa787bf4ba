/- The six steps of ParseCuts, read behind a text. Plain lists, no program. -/
import Derived.Test.YtlonkcmkgmbkcaaDoorPCutsP
import Derived.Test.YtlonkcmkgmbkcaaDoorRMem
namespace Go.Proofs.YtlonkcmkgmbkcaaDoor.ParS
open LexS
set_option linter.unusedVariables false
set_option maxRecDepth 100000

def bar : Tk := ⟨4, [124], 0⟩
def cut0 : List Tk := [⟨1, [107, 101, 101, 112], 0⟩, ⟨1, [97], 0⟩]
def cut1 : List Tk := [⟨1, [97, 108, 105, 103, 110], 0⟩, ⟨2, [], 5⟩]
def cut2 : List Tk := [⟨1, [116, 111, 112], 0⟩, ⟨2, [], 3⟩, ⟨1, [98, 121], 0⟩, ⟨1, [98], 0⟩]
def cut3 : List Tk := [⟨1, [103, 114, 111, 117, 112], 0⟩, ⟨1, [99], 0⟩, ⟨4, [58], 0⟩, ⟨1, [99, 111, 117, 110, 116], 0⟩]
def cut4 : List Tk := [⟨1, [119, 104, 101, 114, 101], 0⟩, ⟨1, [100], 0⟩, ⟨4, [61], 0⟩, ⟨2, [], 1⟩]
def cut5 : List Tk := [⟨1, [117, 110, 105, 111, 110], 0⟩, ⟨4, [40], 0⟩, ⟨1, [102, 101, 116, 99, 104], 0⟩, ⟨1, [101], 0⟩, ⟨4, [41], 0⟩]
theorem lx0 : (lexS [32, 124, 32, 107, 101, 101, 112, 32, 97]).2 = (0, 0) ∧ (lexS [32, 124, 32, 107, 101, 101, 112, 32, 97]).1.map tk = bar :: cut0 := by decide +kernel
theorem lx1 : (lexS [32, 124, 32, 97, 108, 105, 103, 110, 32, 53]).2 = (0, 0) ∧ (lexS [32, 124, 32, 97, 108, 105, 103, 110, 32, 53]).1.map tk = bar :: cut1 := by decide +kernel
theorem lx2 : (lexS [32, 124, 32, 116, 111, 112, 32, 51, 32, 98, 121, 32, 98]).2 = (0, 0) ∧ (lexS [32, 124, 32, 116, 111, 112, 32, 51, 32, 98, 121, 32, 98]).1.map tk = bar :: cut2 := by decide +kernel
theorem lx3 : (lexS [32, 124, 32, 103, 114, 111, 117, 112, 32, 99, 32, 58, 32, 99, 111, 117, 110, 116]).2 = (0, 0) ∧ (lexS [32, 124, 32, 103, 114, 111, 117, 112, 32, 99, 32, 58, 32, 99, 111, 117, 110, 116]).1.map tk = bar :: cut3 := by decide +kernel
theorem lx4 : (lexS [32, 124, 32, 119, 104, 101, 114, 101, 32, 100, 32, 61, 32, 49]).2 = (0, 0) ∧ (lexS [32, 124, 32, 119, 104, 101, 114, 101, 32, 100, 32, 61, 32, 49]).1.map tk = bar :: cut4 := by decide +kernel
theorem lx5 : (lexS [32, 124, 32, 117, 110, 105, 111, 110, 32, 40, 102, 101, 116, 99, 104, 32, 101, 41]).2 = (0, 0) ∧ (lexS [32, 124, 32, 117, 110, 105, 111, 110, 32, 40, 102, 101, 116, 99, 104, 32, 101, 41]).1.map tk = bar :: cut5 := by decide +kernel
theorem st0 (b : Nat) (ns : List Nd) : stepOf (pInner 16) (pCond 16) b cut0 ns = .ok (ns.length, [], ns ++ [{ node 3 [b] with names := [[97]] }]) := by kernel_rfl
theorem st1 (b : Nat) (ns : List Nd) : stepOf (pInner 16) (pCond 16) b cut1 ns = .ok (ns.length, [], ns ++ [{ node 4 [b] with n := 5 }]) := by kernel_rfl
theorem st2 (b : Nat) (ns : List Nd) : stepOf (pInner 16) (pCond 16) b cut2 ns = .ok (ns.length, [], ns ++ [{ node 6 [b] with n := 3, s := [98] }]) := by kernel_rfl
theorem st3 (b : Nat) (ns : List Nd) : stepOf (pInner 16) (pCond 16) b cut3 ns = .ok (ns.length, [], ns ++ [{ node 5 [b] with names := [[99]], aggs := [(1, [])] }]) := by kernel_rfl
theorem st4 (b : Nat) (ns : List Nd) : stepOf (pInner 16) (pCond 16) b cut4 ns = .ok ((ns ++ [{ node 14 [] with s := [100], n := 1, v := ⟨1, 1, []⟩ }]).length, [], (ns ++ [{ node 14 [] with s := [100], n := 1, v := ⟨1, 1, []⟩ }]) ++ [node 2 [b, ns.length]]) := by kernel_rfl
theorem st5 (b : Nat) (ns : List Nd) : stepOf (pInner 16) (pCond 16) b cut5 ns = .ok ((ns ++ [{ node 1 [] with s := [101], to_ := 1099511627775 }]).length, [], (ns ++ [{ node 1 [] with s := [101], to_ := 1099511627775 }]) ++ [node 8 [b, ns.length]]) := by kernel_rfl
end Go.Proofs.YtlonkcmkgmbkcaaDoor.ParS
