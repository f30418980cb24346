/- Hints for the evaluator, of the seat Try. Written by a program of this work. -/
import Derived.Test.YtbgjkpokmlkgiaaEc
import Derived.Test.YtbgjkpokmlkgiaaX0
namespace Go.VL.Try
open Go Go.VL Go.Proofs
def T3 : Tbl := [(20, [3], [(0, []), (1, []), (2, []), (4, []), (5, []), (6, []), (7, []), (3, [4, 5, 6, 7]), (8, [])]),
  (22, [], [(0, []), (1, []), (2, []), (3, []), (4, []), (5, []), (6, [])])]
def L3 : List (Nat × List (Tmp × List (Option Nat))) := [(18, [(3, []), (5, []), (8, []), (9, [])]), (10, [(0, []), (3, []), (5, []), (6, [])])]
def L4 : List (Nat × List (Tmp × List (Option Nat))) := [(11, [(0, []), (1, []), (5, []), (7, []), (8, [some 1]), (9, [])])]
def T5 : Tbl := [(20, [4, 9], [(0, []), (1, []), (2, []), (3, []), (5, []), (6, []), (7, []), (8, []), (4, [5, 6, 7, 8]), (9, []), (10, [])]),
  (23, [3, 7], [(0, []), (1, []), (2, []), (4, []), (5, []), (6, []), (3, [4, 5, 6]), (7, []), (8, [])]),
  (43, [3, 7, 8, 12, 17], [(0, []), (1, []), (2, []), (4, []), (5, []), (6, []), (3, [4, 5, 6]), (7, []), (8, []), (9, []), (10, []), (11, []), (13, []), (14, []), (15, []), (16, []), (12, [13, 14, 15, 16]), (17, []), (18, []), (19, [])])]
def L5 : List (Nat × List (Tmp × List (Option Nat))) := [(27, [(1, []), (5, []), (7, []), (9, []), (10, []), (12, [])]), (12, [(1, []), (5, []), (7, []), (9, [])])]
def L6 : List (Nat × List (Tmp × List (Option Nat))) := [(8, [(0, []), (3, []), (5, [])])]
def T9 : Tbl := [(3, [], [(0, []), (1, []), (2, []), (3, []), (4, []), (5, []), (6, []), (7, []), (8, []), (9, []), (10, []), (11, []), (12, []), (13, [])])]
def L11 : List (Nat × List (Tmp × List (Option Nat))) := [(3, [(0, []), (1, []), (6, []), (12, []), (13, []), (14, [])])]
def T19 : Tbl := [(4, [14], [(0, []), (1, []), (2, []), (3, []), (4, []), (5, []), (6, []), (7, []), (8, []), (9, []), (10, []), (11, []), (12, []), (13, []), (14, [])]),
  (5, [], [(0, []), (1, []), (2, []), (3, []), (4, []), (5, []), (6, []), (7, []), (8, []), (9, []), (10, [])]),
  (8, [5], [(0, []), (1, []), (2, []), (3, []), (4, []), (5, [0, 1, 2, 3, 4]), (6, [])])]
def T21 : Tbl := [(1, [4], [(0, []), (1, []), (2, []), (3, []), (4, [0, 1, 2, 3]), (5, [])])]
def T22 : Tbl := [(1, [4, 10], [(0, []), (1, []), (2, []), (3, []), (5, []), (6, []), (7, []), (8, []), (4, [5, 6, 7, 8]), (9, []), (10, []), (11, [])])]
def T23 : Tbl := [(6, [17], [(0, []), (1, []), (2, []), (3, []), (4, []), (5, []), (6, []), (7, []), (8, []), (9, []), (10, []), (11, []), (12, []), (13, []), (14, []), (15, []), (16, []), (17, []), (18, []), (19, [])])]
def L23 : List (Nat × List (Tmp × List (Option Nat))) := [(3, [(0, []), (1, []), (6, []), (7, [])])]
def T26 : Tbl := [(1, [1, 6], [(0, []), (2, []), (3, []), (4, []), (5, []), (1, [2, 3, 4, 5]), (6, []), (7, [])])]
def L26 : List (Nat × List (Tmp × List (Option Nat))) := [(4, [(0, []), (1, []), (5, [])])]
def L33 : List (Nat × List (Tmp × List (Option Nat))) := [(1, [(0, []), (7, []), (8, [])])]
def L39 : List (Nat × List (Tmp × List (Option Nat))) := [(3, [(0, []), (2, []), (4, []), (5, [])])]
def L47 : List (Nat × List (Tmp × List (Option Nat))) := [(35, [(4, []), (9, []), (13, []), (14, []), (15, [])])]
def L54 : List (Nat × List (Tmp × List (Option Nat))) := [(2, [(0, []), (1, []), (5, [])])]
def L55 : List (Nat × List (Tmp × List (Option Nat))) := [(4, [(0, []), (3, [])])]
def L56 : List (Nat × List (Tmp × List (Option Nat))) := [(3, [(0, []), (1, []), (6, []), (7, [])])]
def hasOf (g : Nat) : Bool := [2, 3, 4, 5, 6, 7, 8, 9, 10, 11, 12, 14, 15, 16, 17, 18, 19, 20, 21, 22, 23, 24, 25, 26, 27, 28, 29, 30, 31, 32, 33, 34, 35, 36, 37, 38, 39, 40, 41, 42, 44, 45, 46, 47, 48, 49, 50, 51, 52, 53, 54, 55, 56, 57, 58].contains g
def tblOf (g : Nat) : Tbl := (([(3, T3), (5, T5), (9, T9), (19, T19), (21, T21), (22, T22), (23, T23), (26, T26)] : List (Nat × Tbl)).lookup g).getD []
def liveOf1 (g : Nat) : List (Nat × List (Tmp × List (Option Nat))) := (([(3, L3), (4, L4), (5, L5), (6, L6), (11, L11), (23, L23), (26, L26), (33, L33), (39, L39), (47, L47), (54, L54), (55, L55), (56, L56)] : List (Nat × List (Nat × List (Tmp × List (Option Nat))))).lookup g).getD []
def ownOf (g : Nat) : List Nat := (([] : List (Nat × List Nat)).lookup g).getD []
def keepOf (g : Nat) : Option (List (List (Option Nat))) := ([(8, [[], []]), (17, [[], []]), (22, [[]]), (40, [[some 1]])] : List (Nat × List (List (Option Nat)))).lookup g
def extOf (g : Nat) : Option (List PV → Option PV) := ([(13, extFrom), (43, extBits)] : List (Nat × (List PV → Option PV))).lookup g
def nilqOf (g : Nat) : Bool := [40].contains g
def HT : Hints := ⟨hasOf, tblOf, liveOf1, ownOf, keepOf, extOf, nilqOf⟩
theorem ht2 : HT.has 2 = true ∧ HT.ext 2 = none ∧ HT.tbl 2 = [] ∧ HT.live 2 = [] ∧ HT.keep 2 = none := ⟨by kernel_rfl, by kernel_rfl, by kernel_rfl, by kernel_rfl, by kernel_rfl⟩
theorem ht3 : HT.has 3 = true ∧ HT.ext 3 = none ∧ HT.tbl 3 = T3 ∧ HT.live 3 = L3 ∧ HT.keep 3 = none := ⟨by kernel_rfl, by kernel_rfl, by kernel_rfl, by kernel_rfl, by kernel_rfl⟩
theorem ht4 : HT.has 4 = true ∧ HT.ext 4 = none ∧ HT.tbl 4 = [] ∧ HT.live 4 = L4 ∧ HT.keep 4 = none := ⟨by kernel_rfl, by kernel_rfl, by kernel_rfl, by kernel_rfl, by kernel_rfl⟩
theorem ht5 : HT.has 5 = true ∧ HT.ext 5 = none ∧ HT.tbl 5 = T5 ∧ HT.live 5 = L5 ∧ HT.keep 5 = none := ⟨by kernel_rfl, by kernel_rfl, by kernel_rfl, by kernel_rfl, by kernel_rfl⟩
theorem ht6 : HT.has 6 = true ∧ HT.ext 6 = none ∧ HT.tbl 6 = [] ∧ HT.live 6 = L6 ∧ HT.keep 6 = none := ⟨by kernel_rfl, by kernel_rfl, by kernel_rfl, by kernel_rfl, by kernel_rfl⟩
theorem ht7 : HT.has 7 = true ∧ HT.ext 7 = none ∧ HT.tbl 7 = [] ∧ HT.live 7 = [] ∧ HT.keep 7 = none := ⟨by kernel_rfl, by kernel_rfl, by kernel_rfl, by kernel_rfl, by kernel_rfl⟩
theorem ht8 : HT.has 8 = true ∧ HT.ext 8 = none ∧ HT.tbl 8 = [] ∧ HT.live 8 = [] ∧ HT.keep 8 = some [[], []] := ⟨by kernel_rfl, by kernel_rfl, by kernel_rfl, by kernel_rfl, by kernel_rfl⟩
theorem ht9 : HT.has 9 = true ∧ HT.ext 9 = none ∧ HT.tbl 9 = T9 ∧ HT.live 9 = [] ∧ HT.keep 9 = none := ⟨by kernel_rfl, by kernel_rfl, by kernel_rfl, by kernel_rfl, by kernel_rfl⟩
theorem ht10 : HT.has 10 = true ∧ HT.ext 10 = none ∧ HT.tbl 10 = [] ∧ HT.live 10 = [] ∧ HT.keep 10 = none := ⟨by kernel_rfl, by kernel_rfl, by kernel_rfl, by kernel_rfl, by kernel_rfl⟩
theorem ht11 : HT.has 11 = true ∧ HT.ext 11 = none ∧ HT.tbl 11 = [] ∧ HT.live 11 = L11 ∧ HT.keep 11 = none := ⟨by kernel_rfl, by kernel_rfl, by kernel_rfl, by kernel_rfl, by kernel_rfl⟩
theorem ht12 : HT.has 12 = true ∧ HT.ext 12 = none ∧ HT.tbl 12 = [] ∧ HT.live 12 = [] ∧ HT.keep 12 = none := ⟨by kernel_rfl, by kernel_rfl, by kernel_rfl, by kernel_rfl, by kernel_rfl⟩
theorem ht14 : HT.has 14 = true ∧ HT.ext 14 = none ∧ HT.tbl 14 = [] ∧ HT.live 14 = [] ∧ HT.keep 14 = none := ⟨by kernel_rfl, by kernel_rfl, by kernel_rfl, by kernel_rfl, by kernel_rfl⟩
theorem ht15 : HT.has 15 = true ∧ HT.ext 15 = none ∧ HT.tbl 15 = [] ∧ HT.live 15 = [] ∧ HT.keep 15 = none := ⟨by kernel_rfl, by kernel_rfl, by kernel_rfl, by kernel_rfl, by kernel_rfl⟩
theorem ht16 : HT.has 16 = true ∧ HT.ext 16 = none ∧ HT.tbl 16 = [] ∧ HT.live 16 = [] ∧ HT.keep 16 = none := ⟨by kernel_rfl, by kernel_rfl, by kernel_rfl, by kernel_rfl, by kernel_rfl⟩
theorem ht17 : HT.has 17 = true ∧ HT.ext 17 = none ∧ HT.tbl 17 = [] ∧ HT.live 17 = [] ∧ HT.keep 17 = some [[], []] := ⟨by kernel_rfl, by kernel_rfl, by kernel_rfl, by kernel_rfl, by kernel_rfl⟩
theorem ht18 : HT.has 18 = true ∧ HT.ext 18 = none ∧ HT.tbl 18 = [] ∧ HT.live 18 = [] ∧ HT.keep 18 = none := ⟨by kernel_rfl, by kernel_rfl, by kernel_rfl, by kernel_rfl, by kernel_rfl⟩
theorem ht19 : HT.has 19 = true ∧ HT.ext 19 = none ∧ HT.tbl 19 = T19 ∧ HT.live 19 = [] ∧ HT.keep 19 = none := ⟨by kernel_rfl, by kernel_rfl, by kernel_rfl, by kernel_rfl, by kernel_rfl⟩
theorem ht20 : HT.has 20 = true ∧ HT.ext 20 = none ∧ HT.tbl 20 = [] ∧ HT.live 20 = [] ∧ HT.keep 20 = none := ⟨by kernel_rfl, by kernel_rfl, by kernel_rfl, by kernel_rfl, by kernel_rfl⟩
theorem ht21 : HT.has 21 = true ∧ HT.ext 21 = none ∧ HT.tbl 21 = T21 ∧ HT.live 21 = [] ∧ HT.keep 21 = none := ⟨by kernel_rfl, by kernel_rfl, by kernel_rfl, by kernel_rfl, by kernel_rfl⟩
theorem ht22 : HT.has 22 = true ∧ HT.ext 22 = none ∧ HT.tbl 22 = T22 ∧ HT.live 22 = [] ∧ HT.keep 22 = some [[]] := ⟨by kernel_rfl, by kernel_rfl, by kernel_rfl, by kernel_rfl, by kernel_rfl⟩
theorem ht23 : HT.has 23 = true ∧ HT.ext 23 = none ∧ HT.tbl 23 = T23 ∧ HT.live 23 = L23 ∧ HT.keep 23 = none := ⟨by kernel_rfl, by kernel_rfl, by kernel_rfl, by kernel_rfl, by kernel_rfl⟩
theorem ht24 : HT.has 24 = true ∧ HT.ext 24 = none ∧ HT.tbl 24 = [] ∧ HT.live 24 = [] ∧ HT.keep 24 = none := ⟨by kernel_rfl, by kernel_rfl, by kernel_rfl, by kernel_rfl, by kernel_rfl⟩
theorem ht25 : HT.has 25 = true ∧ HT.ext 25 = none ∧ HT.tbl 25 = [] ∧ HT.live 25 = [] ∧ HT.keep 25 = none := ⟨by kernel_rfl, by kernel_rfl, by kernel_rfl, by kernel_rfl, by kernel_rfl⟩
theorem ht26 : HT.has 26 = true ∧ HT.ext 26 = none ∧ HT.tbl 26 = T26 ∧ HT.live 26 = L26 ∧ HT.keep 26 = none := ⟨by kernel_rfl, by kernel_rfl, by kernel_rfl, by kernel_rfl, by kernel_rfl⟩
theorem ht27 : HT.has 27 = true ∧ HT.ext 27 = none ∧ HT.tbl 27 = [] ∧ HT.live 27 = [] ∧ HT.keep 27 = none := ⟨by kernel_rfl, by kernel_rfl, by kernel_rfl, by kernel_rfl, by kernel_rfl⟩
theorem ht28 : HT.has 28 = true ∧ HT.ext 28 = none ∧ HT.tbl 28 = [] ∧ HT.live 28 = [] ∧ HT.keep 28 = none := ⟨by kernel_rfl, by kernel_rfl, by kernel_rfl, by kernel_rfl, by kernel_rfl⟩
theorem ht29 : HT.has 29 = true ∧ HT.ext 29 = none ∧ HT.tbl 29 = [] ∧ HT.live 29 = [] ∧ HT.keep 29 = none := ⟨by kernel_rfl, by kernel_rfl, by kernel_rfl, by kernel_rfl, by kernel_rfl⟩
theorem ht30 : HT.has 30 = true ∧ HT.ext 30 = none ∧ HT.tbl 30 = [] ∧ HT.live 30 = [] ∧ HT.keep 30 = none := ⟨by kernel_rfl, by kernel_rfl, by kernel_rfl, by kernel_rfl, by kernel_rfl⟩
theorem ht31 : HT.has 31 = true ∧ HT.ext 31 = none ∧ HT.tbl 31 = [] ∧ HT.live 31 = [] ∧ HT.keep 31 = none := ⟨by kernel_rfl, by kernel_rfl, by kernel_rfl, by kernel_rfl, by kernel_rfl⟩
theorem ht32 : HT.has 32 = true ∧ HT.ext 32 = none ∧ HT.tbl 32 = [] ∧ HT.live 32 = [] ∧ HT.keep 32 = none := ⟨by kernel_rfl, by kernel_rfl, by kernel_rfl, by kernel_rfl, by kernel_rfl⟩
theorem ht33 : HT.has 33 = true ∧ HT.ext 33 = none ∧ HT.tbl 33 = [] ∧ HT.live 33 = L33 ∧ HT.keep 33 = none := ⟨by kernel_rfl, by kernel_rfl, by kernel_rfl, by kernel_rfl, by kernel_rfl⟩
theorem ht34 : HT.has 34 = true ∧ HT.ext 34 = none ∧ HT.tbl 34 = [] ∧ HT.live 34 = [] ∧ HT.keep 34 = none := ⟨by kernel_rfl, by kernel_rfl, by kernel_rfl, by kernel_rfl, by kernel_rfl⟩
theorem ht35 : HT.has 35 = true ∧ HT.ext 35 = none ∧ HT.tbl 35 = [] ∧ HT.live 35 = [] ∧ HT.keep 35 = none := ⟨by kernel_rfl, by kernel_rfl, by kernel_rfl, by kernel_rfl, by kernel_rfl⟩
theorem ht36 : HT.has 36 = true ∧ HT.ext 36 = none ∧ HT.tbl 36 = [] ∧ HT.live 36 = [] ∧ HT.keep 36 = none := ⟨by kernel_rfl, by kernel_rfl, by kernel_rfl, by kernel_rfl, by kernel_rfl⟩
theorem ht37 : HT.has 37 = true ∧ HT.ext 37 = none ∧ HT.tbl 37 = [] ∧ HT.live 37 = [] ∧ HT.keep 37 = none := ⟨by kernel_rfl, by kernel_rfl, by kernel_rfl, by kernel_rfl, by kernel_rfl⟩
theorem ht38 : HT.has 38 = true ∧ HT.ext 38 = none ∧ HT.tbl 38 = [] ∧ HT.live 38 = [] ∧ HT.keep 38 = none := ⟨by kernel_rfl, by kernel_rfl, by kernel_rfl, by kernel_rfl, by kernel_rfl⟩
theorem ht39 : HT.has 39 = true ∧ HT.ext 39 = none ∧ HT.tbl 39 = [] ∧ HT.live 39 = L39 ∧ HT.keep 39 = none := ⟨by kernel_rfl, by kernel_rfl, by kernel_rfl, by kernel_rfl, by kernel_rfl⟩
theorem ht40 : HT.has 40 = true ∧ HT.ext 40 = none ∧ HT.tbl 40 = [] ∧ HT.live 40 = [] ∧ HT.keep 40 = some [[some 1]] := ⟨by kernel_rfl, by kernel_rfl, by kernel_rfl, by kernel_rfl, by kernel_rfl⟩
theorem ht41 : HT.has 41 = true ∧ HT.ext 41 = none ∧ HT.tbl 41 = [] ∧ HT.live 41 = [] ∧ HT.keep 41 = none := ⟨by kernel_rfl, by kernel_rfl, by kernel_rfl, by kernel_rfl, by kernel_rfl⟩
theorem ht42 : HT.has 42 = true ∧ HT.ext 42 = none ∧ HT.tbl 42 = [] ∧ HT.live 42 = [] ∧ HT.keep 42 = none := ⟨by kernel_rfl, by kernel_rfl, by kernel_rfl, by kernel_rfl, by kernel_rfl⟩
theorem ht44 : HT.has 44 = true ∧ HT.ext 44 = none ∧ HT.tbl 44 = [] ∧ HT.live 44 = [] ∧ HT.keep 44 = none := ⟨by kernel_rfl, by kernel_rfl, by kernel_rfl, by kernel_rfl, by kernel_rfl⟩
theorem ht45 : HT.has 45 = true ∧ HT.ext 45 = none ∧ HT.tbl 45 = [] ∧ HT.live 45 = [] ∧ HT.keep 45 = none := ⟨by kernel_rfl, by kernel_rfl, by kernel_rfl, by kernel_rfl, by kernel_rfl⟩
theorem ht46 : HT.has 46 = true ∧ HT.ext 46 = none ∧ HT.tbl 46 = [] ∧ HT.live 46 = [] ∧ HT.keep 46 = none := ⟨by kernel_rfl, by kernel_rfl, by kernel_rfl, by kernel_rfl, by kernel_rfl⟩
theorem ht47 : HT.has 47 = true ∧ HT.ext 47 = none ∧ HT.tbl 47 = [] ∧ HT.live 47 = L47 ∧ HT.keep 47 = none := ⟨by kernel_rfl, by kernel_rfl, by kernel_rfl, by kernel_rfl, by kernel_rfl⟩
theorem ht48 : HT.has 48 = true ∧ HT.ext 48 = none ∧ HT.tbl 48 = [] ∧ HT.live 48 = [] ∧ HT.keep 48 = none := ⟨by kernel_rfl, by kernel_rfl, by kernel_rfl, by kernel_rfl, by kernel_rfl⟩
theorem ht49 : HT.has 49 = true ∧ HT.ext 49 = none ∧ HT.tbl 49 = [] ∧ HT.live 49 = [] ∧ HT.keep 49 = none := ⟨by kernel_rfl, by kernel_rfl, by kernel_rfl, by kernel_rfl, by kernel_rfl⟩
theorem ht50 : HT.has 50 = true ∧ HT.ext 50 = none ∧ HT.tbl 50 = [] ∧ HT.live 50 = [] ∧ HT.keep 50 = none := ⟨by kernel_rfl, by kernel_rfl, by kernel_rfl, by kernel_rfl, by kernel_rfl⟩
theorem ht51 : HT.has 51 = true ∧ HT.ext 51 = none ∧ HT.tbl 51 = [] ∧ HT.live 51 = [] ∧ HT.keep 51 = none := ⟨by kernel_rfl, by kernel_rfl, by kernel_rfl, by kernel_rfl, by kernel_rfl⟩
theorem ht52 : HT.has 52 = true ∧ HT.ext 52 = none ∧ HT.tbl 52 = [] ∧ HT.live 52 = [] ∧ HT.keep 52 = none := ⟨by kernel_rfl, by kernel_rfl, by kernel_rfl, by kernel_rfl, by kernel_rfl⟩
theorem ht53 : HT.has 53 = true ∧ HT.ext 53 = none ∧ HT.tbl 53 = [] ∧ HT.live 53 = [] ∧ HT.keep 53 = none := ⟨by kernel_rfl, by kernel_rfl, by kernel_rfl, by kernel_rfl, by kernel_rfl⟩
theorem ht54 : HT.has 54 = true ∧ HT.ext 54 = none ∧ HT.tbl 54 = [] ∧ HT.live 54 = L54 ∧ HT.keep 54 = none := ⟨by kernel_rfl, by kernel_rfl, by kernel_rfl, by kernel_rfl, by kernel_rfl⟩
theorem ht55 : HT.has 55 = true ∧ HT.ext 55 = none ∧ HT.tbl 55 = [] ∧ HT.live 55 = L55 ∧ HT.keep 55 = none := ⟨by kernel_rfl, by kernel_rfl, by kernel_rfl, by kernel_rfl, by kernel_rfl⟩
theorem ht56 : HT.has 56 = true ∧ HT.ext 56 = none ∧ HT.tbl 56 = [] ∧ HT.live 56 = L56 ∧ HT.keep 56 = none := ⟨by kernel_rfl, by kernel_rfl, by kernel_rfl, by kernel_rfl, by kernel_rfl⟩
theorem ht57 : HT.has 57 = true ∧ HT.ext 57 = none ∧ HT.tbl 57 = [] ∧ HT.live 57 = [] ∧ HT.keep 57 = none := ⟨by kernel_rfl, by kernel_rfl, by kernel_rfl, by kernel_rfl, by kernel_rfl⟩
theorem ht58 : HT.has 58 = true ∧ HT.ext 58 = none ∧ HT.tbl 58 = [] ∧ HT.live 58 = [] ∧ HT.keep 58 = none := ⟨by kernel_rfl, by kernel_rfl, by kernel_rfl, by kernel_rfl, by kernel_rfl⟩
theorem o2 : HT.own 2 = [] := by kernel_rfl
theorem o3 : HT.own 3 = [] := by kernel_rfl
theorem o4 : HT.own 4 = [] := by kernel_rfl
theorem o5 : HT.own 5 = [] := by kernel_rfl
theorem o6 : HT.own 6 = [] := by kernel_rfl
theorem o7 : HT.own 7 = [] := by kernel_rfl
theorem o8 : HT.own 8 = [] := by kernel_rfl
theorem o9 : HT.own 9 = [] := by kernel_rfl
theorem o10 : HT.own 10 = [] := by kernel_rfl
theorem o11 : HT.own 11 = [] := by kernel_rfl
theorem o12 : HT.own 12 = [] := by kernel_rfl
theorem o13 : HT.own 13 = [] := by kernel_rfl
theorem o14 : HT.own 14 = [] := by kernel_rfl
theorem o15 : HT.own 15 = [] := by kernel_rfl
theorem o16 : HT.own 16 = [] := by kernel_rfl
theorem o17 : HT.own 17 = [] := by kernel_rfl
theorem o18 : HT.own 18 = [] := by kernel_rfl
theorem o19 : HT.own 19 = [] := by kernel_rfl
theorem o20 : HT.own 20 = [] := by kernel_rfl
theorem o21 : HT.own 21 = [] := by kernel_rfl
theorem o22 : HT.own 22 = [] := by kernel_rfl
theorem o23 : HT.own 23 = [] := by kernel_rfl
theorem o24 : HT.own 24 = [] := by kernel_rfl
theorem o25 : HT.own 25 = [] := by kernel_rfl
theorem o26 : HT.own 26 = [] := by kernel_rfl
theorem o27 : HT.own 27 = [] := by kernel_rfl
theorem o28 : HT.own 28 = [] := by kernel_rfl
theorem o29 : HT.own 29 = [] := by kernel_rfl
theorem o30 : HT.own 30 = [] := by kernel_rfl
theorem o31 : HT.own 31 = [] := by kernel_rfl
theorem o32 : HT.own 32 = [] := by kernel_rfl
theorem o33 : HT.own 33 = [] := by kernel_rfl
theorem o34 : HT.own 34 = [] := by kernel_rfl
theorem o35 : HT.own 35 = [] := by kernel_rfl
theorem o36 : HT.own 36 = [] := by kernel_rfl
theorem o37 : HT.own 37 = [] := by kernel_rfl
theorem o38 : HT.own 38 = [] := by kernel_rfl
theorem o39 : HT.own 39 = [] := by kernel_rfl
theorem o40 : HT.own 40 = [] := by kernel_rfl
theorem o41 : HT.own 41 = [] := by kernel_rfl
theorem o42 : HT.own 42 = [] := by kernel_rfl
theorem o43 : HT.own 43 = [] := by kernel_rfl
theorem o44 : HT.own 44 = [] := by kernel_rfl
theorem o45 : HT.own 45 = [] := by kernel_rfl
theorem o46 : HT.own 46 = [] := by kernel_rfl
theorem o47 : HT.own 47 = [] := by kernel_rfl
theorem o48 : HT.own 48 = [] := by kernel_rfl
theorem o49 : HT.own 49 = [] := by kernel_rfl
theorem o50 : HT.own 50 = [] := by kernel_rfl
theorem o51 : HT.own 51 = [] := by kernel_rfl
theorem o52 : HT.own 52 = [] := by kernel_rfl
theorem o53 : HT.own 53 = [] := by kernel_rfl
theorem o54 : HT.own 54 = [] := by kernel_rfl
theorem o55 : HT.own 55 = [] := by kernel_rfl
theorem o56 : HT.own 56 = [] := by kernel_rfl
theorem o57 : HT.own 57 = [] := by kernel_rfl
theorem o58 : HT.own 58 = [] := by kernel_rfl
attribute [simp] o2 o3 o4 o5 o6 o7 o8 o9 o10 o11 o12 o13 o14 o15 o16 o17 o18 o19 o20 o21 o22 o23 o24 o25 o26 o27 o28 o29 o30 o31 o32 o33 o34 o35 o36 o37 o38 o39 o40 o41 o42 o43 o44 o45 o46 o47 o48 o49 o50 o51 o52 o53 o54 o55 o56 o57 o58
theorem r3_0 : firstReg (lpc Try.prog 3 0) = some 10 := by kernel_rfl
theorem r3_1 : firstReg (lpc Try.prog 3 1) = some 18 := by kernel_rfl
theorem r4_0 : firstReg (lpc Try.prog 4 0) = some 11 := by kernel_rfl
theorem r5_0 : firstReg (lpc Try.prog 5 0) = some 12 := by kernel_rfl
theorem r5_1 : firstReg (lpc Try.prog 5 1) = some 27 := by kernel_rfl
theorem r6_0 : firstReg (lpc Try.prog 6 0) = some 8 := by kernel_rfl
theorem r11_0 : firstReg (lpc Try.prog 11 0) = some 3 := by kernel_rfl
theorem r23_0 : firstReg (lpc Try.prog 23 0) = some 3 := by kernel_rfl
theorem r26_0 : firstReg (lpc Try.prog 26 0) = some 4 := by kernel_rfl
theorem r33_0 : firstReg (lpc Try.prog 33 0) = some 1 := by kernel_rfl
theorem r39_0 : firstReg (lpc Try.prog 39 0) = some 3 := by kernel_rfl
theorem r47_0 : firstReg (lpc Try.prog 47 0) = some 35 := by kernel_rfl
theorem r54_0 : firstReg (lpc Try.prog 54 0) = some 2 := by kernel_rfl
theorem r55_0 : firstReg (lpc Try.prog 55 0) = some 4 := by kernel_rfl
theorem r56_0 : firstReg (lpc Try.prog 56 0) = some 3 := by kernel_rfl
attribute [simp] r3_0 r3_1 r4_0 r5_0 r5_1 r6_0 r11_0 r23_0 r26_0 r33_0 r39_0 r47_0 r54_0 r55_0 r56_0
attribute [simp] T3 T5 T9 T19 T21 T22 T23 T26 L3 L4 L5 L6 L11 L23 L26 L33 L39 L47 L54 L55 L56
theorem mixed : Try.prog.follows .mixedOrders = true := by kernel_rfl
theorem fns_ok : (List.range 76).all (fnsOkOf Try.prog HT) = true := by kernel_rfl
theorem funcs_size : Try.prog.funcs.size = 76 := by kernel_rfl
end Go.VL.Try
