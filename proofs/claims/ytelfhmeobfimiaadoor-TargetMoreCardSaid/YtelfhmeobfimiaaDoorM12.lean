import Derived.Test.YtelfhmeobfimiaaDoorM11

section
namespace Go.Proofs.YtelfhmeobfimiaaDoor
open Go.RowKit
def ef (op n m who : Int) (subs : List (List PD)) : List PD := [.int op, .int n, .int m, .int who, .list 5 subs]
def ab (w : Int) (cost : List Int) (tap : Bool) (target : Int) (e : List PD) : List PD := .int w :: (cost.map .int ++ (.bool tap :: .int target :: e))
def cd (kind col : Int) (fast : Bool) (cost : List Int) (p t s : Int) (abs : List (List PD)) : List PD := .int kind :: .int col :: .bool fast :: (cost.map .int ++ [.int p, .int t, .int s, .list 14 abs])
def irow (l : List Int) : List (List PD) := l.map fun n => [.int n]
def irows (l : List (List Int)) : PD := .list 1 (l.map fun r => [.list 1 (irow r)])

def magicR : List (List Int) := [[0, 2, 4, 0, 0],
  [4, 9, 0, 0, 2],
  [1, 10, -2, -2, 2],
  [3, 1, 2, 0, 2],
  [1, 10, 3, 3, 2],
  [1, 6, 0, 0, 2],
  [0, 4, 2, 0, 0],
  [2, 19, 1, 0, 2],
  [1, 1, 4, 0, 2],
  [1, 11, 2, 0, 2],
  [0, 20, 1, 0, 0, 10, 1, 1, 2],
  [5, 7, 0, 0, 2],
  [2, 3, 3, 0, 2],
  [1, 10, 3, 0, 2],
  [1, 23, 64, 0, 2],
  [5, 8, 0, 0, 2],
  [0, 17, 3, 0, 0],
  [0, 21, 0, 0, 0, 3, 2, 0, 1, 2, 2, 0, 0],
  [0, 20, 0, 0, 0, 1, 2, 0, 2],
  [0, 14, 2, 116, 0],
  [0, 21, 0, 0, 0, 2, 2, 0, 0, 4, 1, 0, 0],
  [1, 12, 0, 0, 2],
  [1, 6, 0, 0, 2],
  [0, 1, 3, 0, 4],
  [0, 15, 3, 4, 0],
  [0, 22, 0, 10, 0, 2, 8, 0, 0, 4, 1, 0, 0],
  [0, 21, 0, 0, 0, 4, 3, 0, 0, 19, 1, 0, 0],
  [0, 5, 4, 0, 4],
  [3, 21, 0, 0, 0, 1, 2, 0, 2, 4, 1, 0, 0],
  [0, 20, 1, 0, 0, 11, 1, 0, 2]]
def relicR : List (List Int) := [[5, -1, 0, 0, 20, 1, 0, 0, 10, 0, 2, 2],
  [5, -1, 0, 0, 20, 1, 0, 0, 23, 1, 0, 2],
  [5, -1, 0, 0, 20, 2, 0, 0, 10, -1, 0, 2],
  [5, -1, 0, 0, 20, 1, 0, 0, 10, 1, 0, 2],
  [5, -1, 0, 0, 20, 1, 0, 0, 10, 1, 1, 2],
  [4, -1, 0, 0, 2, 1, 0, 0],
  [4, -1, 0, 0, 17, 1, 0, 0],
  [4, -1, 0, 0, 3, 1, 0, 4],
  [4, -1, 0, 0, 1, 1, 0, 1],
  [4, -1, 0, 0, 15, 1, 4, 0],
  [1, 5, 1, 1, 10, 0, 1, 2],
  [1, 5, 1, 1, 12, 0, 0, 2],
  [1, 5, 1, 0, 3, 1, 0, 1],
  [1, 5, 1, 3, 1, 1, 0, 2],
  [1, 5, 1, 1, 13, 0, 0, 2],
  [5, -1, 0, 0, 20, 0, 0, 0, 25, 1, 0, 2],
  [1, 1, 0, 0, 13, 0, 0, 3],
  [5, -1, 0, 0, 20, 2, 0, 0, 24, 1, 1, 2],
  [3, -1, 0, 0, 1, 3, 0, 4],
  [2, -1, 0, 0, 14, 1, 119, 0]]
def specialR : List (List Int) := [[2, 1, 0, 0, 0, 0, 0, -1, 0, 0, 18, 0, 0, 0],
  [2, 2, 0, 0, 0, 0, 0, -1, 0, 0, 19, 2, 0, 1],
  [2, 1, 0, 0, 0, 0, 0, -1, 0, 0, 16, 3, 0, 1],
  [2, 1, 1, 0, 0, 0, 0, -1, 0, 0, 17, 2, 0, 1],
  [2, 2, 0, 0, 0, 0, 0, -1, 0, 0, 5, 3, 0, 4],
  [2, 3, 1, 0, 0, 0, 0, -1, 0, 4, 9, 0, 0, 2],
  [2, 2, 0, 0, 0, 0, 0, -1, 0, 0, 20, 0, 0, 0, 7, 0, 0, 2],
  [3, 2, 0, 0, 0, 0, 1, -1, 0, 0, 15, 1, 5, 0],
  [1, 2, 0, 1, 1, 0, 1, 5, 0, 0, 13, 0, 0, 3],
  [2, 3, 0, 0, 0, 0, 0, -1, 0, 0, 14, 2, 112, 0],
  [2, 4, 0, 0, 0, 0, 0, -1, 0, 0, 20, 0, 0, 0, 6, 0, 0, 2],
  [1, 3, 1, 2, 3, 5, 3, -1, 0, 0, 4, 1, 0, 0]]
def cards0 : List (List PD) := [cd 0 0 false [0, 0, 0, 0, 0, 0] 0 0 0 [ab 6 [0, 0, 0, 0, 0, 0] true 0 (ef 15 1 0 0 [])],
  cd 0 1 false [0, 0, 0, 0, 0, 0] 0 0 0 [ab 6 [0, 0, 0, 0, 0, 0] true 0 (ef 15 1 1 0 [])],
  cd 0 2 false [0, 0, 0, 0, 0, 0] 0 0 0 [ab 6 [0, 0, 0, 0, 0, 0] true 0 (ef 15 1 2 0 [])],
  cd 0 3 false [0, 0, 0, 0, 0, 0] 0 0 0 [ab 6 [0, 0, 0, 0, 0, 0] true 0 (ef 15 1 3 0 [])],
  cd 0 4 false [0, 0, 0, 0, 0, 0] 0 0 0 [ab 6 [0, 0, 0, 0, 0, 0] true 0 (ef 15 1 4 0 [])],
  cd 0 5 false [0, 0, 0, 0, 0, 0] 0 0 0 [ab 2 [0, 0, 0, 0, 0, 0] false 0 (ef 3 1 0 0 []), ab 6 [0, 0, 0, 0, 0, 0] true 0 (ef 15 1 5 0 [])],
  cd 0 5 false [0, 0, 0, 0, 0, 0] 0 0 0 [ab 2 [0, 0, 0, 0, 0, 0] false 0 (ef 3 2 0 0 []), ab 6 [0, 0, 0, 0, 0, 0] true 0 (ef 15 1 5 0 [])],
  cd 0 5 false [0, 0, 0, 0, 0, 0] 0 0 0 [ab 2 [0, 0, 0, 0, 0, 0] false 0 (ef 3 3 0 0 []), ab 6 [0, 0, 0, 0, 0, 0] true 0 (ef 15 2 5 0 [])],
  cd 0 5 false [0, 0, 0, 0, 0, 0] 0 0 0 [ab 2 [0, 0, 0, 0, 0, 0] false 0 (ef 3 4 0 0 []), ab 6 [0, 0, 0, 0, 0, 0] true 0 (ef 15 2 5 0 [])],
  cd 0 5 false [0, 0, 0, 0, 0, 0] 0 0 0 [ab 2 [0, 0, 0, 0, 0, 0] false 0 (ef 3 5 0 0 []), ab 6 [0, 0, 0, 0, 0, 0] true 0 (ef 15 3 5 0 [])]]
def cards10 : List (List PD) := [cd 1 0 false [1, 0, 0, 0, 0, 0] 1 1 1 [ab 2 [0, 0, 0, 0, 0, 0] false 0 (ef 2 1 0 0 [])],
  cd 1 1 false [0, 1, 0, 0, 0, 0] 1 1 1 [],
  cd 1 2 false [0, 0, 1, 0, 0, 0] 1 1 1 [ab 3 [0, 0, 0, 0, 0, 0] false 0 (ef 3 1 0 1 [])],
  cd 1 3 false [0, 0, 0, 1, 0, 0] 2 1 1 [ab 1 [0, 0, 0, 1, 0, 0] true 3 (ef 1 1 0 2 [])],
  cd 1 4 false [0, 0, 0, 0, 1, 0] 1 2 1 [ab 1 [0, 0, 0, 0, 1, 0] false 0 (ef 10 1 1 3 [])],
  cd 1 0 false [1, 0, 0, 0, 0, 1] 1 2 2 [ab 2 [0, 0, 0, 0, 0, 0] false 0 (ef 2 2 0 0 [])],
  cd 1 1 false [0, 1, 0, 0, 0, 1] 1 2 2 [ab 2 [0, 0, 0, 0, 0, 0] false 0 (ef 4 1 0 0 [])],
  cd 1 2 false [0, 0, 1, 0, 0, 1] 1 2 2 [ab 3 [0, 0, 0, 0, 0, 0] false 0 (ef 3 1 0 1 [])],
  cd 1 3 false [0, 0, 0, 1, 0, 1] 2 2 2 [ab 1 [0, 0, 0, 1, 0, 0] true 3 (ef 1 1 0 2 [])],
  cd 1 4 false [0, 0, 0, 0, 1, 1] 1 3 2 [ab 1 [0, 0, 0, 0, 1, 0] false 0 (ef 10 1 1 3 [])]]
def cards20 : List (List PD) := [cd 1 0 false [1, 0, 0, 0, 0, 2] 2 2 4 [ab 2 [0, 0, 0, 0, 0, 0] false 0 (ef 2 3 0 0 [])],
  cd 1 1 false [0, 1, 0, 0, 0, 2] 2 2 4 [],
  cd 1 2 false [0, 0, 1, 0, 0, 2] 2 2 4 [ab 3 [0, 0, 0, 0, 0, 0] false 0 (ef 3 2 0 1 [])],
  cd 1 3 false [0, 0, 0, 1, 0, 2] 3 2 4 [ab 1 [0, 0, 0, 1, 0, 0] true 3 (ef 1 1 0 2 [])],
  cd 1 4 false [0, 0, 0, 0, 1, 2] 2 3 4 [ab 1 [0, 0, 0, 0, 1, 0] false 0 (ef 10 1 1 3 [])],
  cd 1 0 false [1, 0, 0, 0, 0, 3] 2 3 8 [ab 2 [0, 0, 0, 0, 0, 0] false 0 (ef 2 4 0 0 [])],
  cd 1 1 false [0, 1, 0, 0, 0, 3] 2 3 8 [ab 2 [0, 0, 0, 0, 0, 0] false 0 (ef 4 1 0 0 [])],
  cd 1 2 false [0, 0, 1, 0, 0, 3] 2 3 8 [ab 3 [0, 0, 0, 0, 0, 0] false 0 (ef 3 2 0 1 [])],
  cd 1 3 false [0, 0, 0, 1, 0, 3] 3 3 8 [ab 1 [0, 0, 0, 1, 0, 0] true 3 (ef 1 1 0 2 [])],
  cd 1 4 false [0, 0, 0, 0, 1, 3] 2 4 8 [ab 1 [0, 0, 0, 0, 1, 0] false 0 (ef 10 1 1 3 [])]]
def cards30 : List (List PD) := [cd 1 0 false [2, 0, 0, 0, 0, 4] 3 3 16 [ab 2 [0, 0, 0, 0, 0, 0] false 0 (ef 2 5 0 0 [])],
  cd 1 1 false [0, 2, 0, 0, 0, 4] 3 3 16 [],
  cd 1 2 false [0, 0, 2, 0, 0, 4] 3 3 16 [ab 3 [0, 0, 0, 0, 0, 0] false 0 (ef 3 3 0 1 [])],
  cd 1 3 false [0, 0, 0, 2, 0, 4] 4 3 16 [ab 1 [0, 0, 0, 1, 0, 0] true 3 (ef 1 1 0 2 [])],
  cd 1 4 false [0, 0, 0, 0, 2, 4] 3 4 16 [ab 1 [0, 0, 0, 0, 1, 0] false 0 (ef 10 1 1 3 [])],
  cd 1 0 false [2, 0, 0, 0, 0, 5] 3 4 32 [ab 2 [0, 0, 0, 0, 0, 0] false 0 (ef 2 6 0 0 [])],
  cd 1 1 false [0, 2, 0, 0, 0, 5] 3 4 32 [ab 2 [0, 0, 0, 0, 0, 0] false 0 (ef 4 1 0 0 [])],
  cd 1 2 false [0, 0, 2, 0, 0, 5] 3 4 32 [ab 3 [0, 0, 0, 0, 0, 0] false 0 (ef 3 3 0 1 [])],
  cd 1 3 false [0, 0, 0, 2, 0, 5] 4 4 32 [ab 1 [0, 0, 0, 1, 0, 0] true 3 (ef 1 1 0 2 [])],
  cd 1 4 false [0, 0, 0, 0, 2, 5] 3 5 32 [ab 1 [0, 0, 0, 0, 1, 0] false 0 (ef 10 1 1 3 [])]]
def cards40 : List (List PD) := [cd 1 0 false [2, 0, 0, 0, 0, 6] 4 4 64 [ab 2 [0, 0, 0, 0, 0, 0] false 0 (ef 2 7 0 0 [])],
  cd 1 1 false [0, 2, 0, 0, 0, 6] 4 4 64 [],
  cd 1 2 false [0, 0, 2, 0, 0, 6] 4 4 64 [ab 3 [0, 0, 0, 0, 0, 0] false 0 (ef 3 4 0 1 [])],
  cd 1 3 false [0, 0, 0, 2, 0, 6] 5 4 64 [ab 1 [0, 0, 0, 1, 0, 0] true 3 (ef 1 1 0 2 [])],
  cd 1 4 false [0, 0, 0, 0, 2, 6] 4 5 64 [ab 1 [0, 0, 0, 0, 1, 0] false 0 (ef 10 1 1 3 [])],
  cd 1 0 false [2, 0, 0, 0, 0, 7] 4 5 128 [ab 2 [0, 0, 0, 0, 0, 0] false 0 (ef 2 8 0 0 [])],
  cd 1 1 false [0, 2, 0, 0, 0, 7] 4 5 128 [ab 2 [0, 0, 0, 0, 0, 0] false 0 (ef 4 1 0 0 [])],
  cd 1 2 false [0, 0, 2, 0, 0, 7] 4 5 128 [ab 3 [0, 0, 0, 0, 0, 0] false 0 (ef 3 4 0 1 [])],
  cd 1 3 false [0, 0, 0, 2, 0, 7] 5 5 128 [ab 1 [0, 0, 0, 1, 0, 0] true 3 (ef 1 1 0 2 [])],
  cd 1 4 false [0, 0, 0, 0, 2, 7] 4 6 128 [ab 1 [0, 0, 0, 0, 1, 0] false 0 (ef 10 1 1 3 [])]]
def cards50 : List (List PD) := [cd 2 0 true [1, 0, 0, 0, 0, 0] 0 0 0 [ab 0 [0, 0, 0, 0, 0, 0] false 0 (ef 2 4 0 0 [])],
  cd 2 1 true [0, 1, 0, 0, 0, 0] 0 0 0 [ab 0 [0, 0, 0, 0, 0, 0] false 4 (ef 9 0 0 2 [])],
  cd 2 2 true [0, 0, 1, 0, 0, 0] 0 0 0 [ab 0 [0, 0, 0, 0, 0, 0] false 1 (ef 10 (-2) (-2) 2 [])],
  cd 2 3 true [0, 0, 0, 1, 0, 0] 0 0 0 [ab 0 [0, 0, 0, 0, 0, 0] false 3 (ef 1 2 0 2 [])],
  cd 2 4 true [0, 0, 0, 0, 1, 0] 0 0 0 [ab 0 [0, 0, 0, 0, 0, 0] false 1 (ef 10 3 3 2 [])],
  cd 2 0 false [1, 0, 0, 0, 0, 1] 0 0 0 [ab 0 [0, 0, 0, 0, 0, 0] false 1 (ef 6 0 0 2 [])],
  cd 2 1 false [0, 1, 0, 0, 0, 1] 0 0 0 [ab 0 [0, 0, 0, 0, 0, 0] false 0 (ef 4 2 0 0 [])],
  cd 2 2 false [0, 0, 1, 0, 0, 1] 0 0 0 [ab 0 [0, 0, 0, 0, 0, 0] false 2 (ef 19 1 0 2 [])],
  cd 2 3 false [0, 0, 0, 1, 0, 1] 0 0 0 [ab 0 [0, 0, 0, 0, 0, 0] false 1 (ef 1 4 0 2 [])],
  cd 2 4 false [0, 0, 0, 0, 1, 1] 0 0 0 [ab 0 [0, 0, 0, 0, 0, 0] false 1 (ef 11 2 0 2 [])]]
def cards60 : List (List PD) := [cd 2 0 true [1, 0, 0, 0, 0, 2] 0 0 0 [ab 0 [0, 0, 0, 0, 0, 0] false 0 (ef 20 1 0 0 [ef 10 1 1 2 []])],
  cd 2 1 true [0, 1, 0, 0, 0, 2] 0 0 0 [ab 0 [0, 0, 0, 0, 0, 0] false 5 (ef 7 0 0 2 [])],
  cd 2 2 true [0, 0, 1, 0, 0, 2] 0 0 0 [ab 0 [0, 0, 0, 0, 0, 0] false 2 (ef 3 3 0 2 [])],
  cd 2 3 true [0, 0, 0, 1, 0, 2] 0 0 0 [ab 0 [0, 0, 0, 0, 0, 0] false 1 (ef 10 3 0 2 [])],
  cd 2 4 true [0, 0, 0, 0, 1, 2] 0 0 0 [ab 0 [0, 0, 0, 0, 0, 0] false 1 (ef 23 64 0 2 [])],
  cd 2 0 false [1, 0, 0, 0, 0, 3] 0 0 0 [ab 0 [0, 0, 0, 0, 0, 0] false 5 (ef 8 0 0 2 [])],
  cd 2 1 false [0, 1, 0, 0, 0, 3] 0 0 0 [ab 0 [0, 0, 0, 0, 0, 0] false 0 (ef 17 3 0 0 [])],
  cd 2 2 false [0, 0, 1, 0, 0, 3] 0 0 0 [ab 0 [0, 0, 0, 0, 0, 0] false 0 (ef 21 0 0 0 [ef 3 2 0 1 [], ef 2 2 0 0 []])],
  cd 2 3 false [0, 0, 0, 1, 0, 3] 0 0 0 [ab 0 [0, 0, 0, 0, 0, 0] false 0 (ef 20 0 0 0 [ef 1 2 0 2 []])],
  cd 2 4 false [0, 0, 0, 0, 1, 3] 0 0 0 [ab 0 [0, 0, 0, 0, 0, 0] false 0 (ef 14 2 116 0 [])]]
def cards70 : List (List PD) := [cd 2 0 true [1, 0, 0, 0, 0, 4] 0 0 0 [ab 0 [0, 0, 0, 0, 0, 0] false 0 (ef 21 0 0 0 [ef 2 2 0 0 [], ef 4 1 0 0 []])],
  cd 2 1 true [0, 1, 0, 0, 0, 4] 0 0 0 [ab 0 [0, 0, 0, 0, 0, 0] false 1 (ef 12 0 0 2 [])],
  cd 2 2 true [0, 0, 1, 0, 0, 4] 0 0 0 [ab 0 [0, 0, 0, 0, 0, 0] false 1 (ef 6 0 0 2 [])],
  cd 2 3 true [0, 0, 0, 1, 0, 4] 0 0 0 [ab 0 [0, 0, 0, 0, 0, 0] false 0 (ef 1 3 0 4 [])],
  cd 2 4 true [0, 0, 0, 0, 1, 4] 0 0 0 [ab 0 [0, 0, 0, 0, 0, 0] false 0 (ef 15 3 4 0 [])],
  cd 2 0 false [1, 0, 0, 0, 0, 5] 0 0 0 [ab 0 [0, 0, 0, 0, 0, 0] false 0 (ef 22 0 10 0 [ef 2 8 0 0 [], ef 4 1 0 0 []])],
  cd 2 1 false [0, 1, 0, 0, 0, 5] 0 0 0 [ab 0 [0, 0, 0, 0, 0, 0] false 0 (ef 21 0 0 0 [ef 4 3 0 0 [], ef 19 1 0 0 []])],
  cd 2 2 false [0, 0, 1, 0, 0, 5] 0 0 0 [ab 0 [0, 0, 0, 0, 0, 0] false 0 (ef 5 4 0 4 [])],
  cd 2 3 false [0, 0, 0, 1, 0, 5] 0 0 0 [ab 0 [0, 0, 0, 0, 0, 0] false 3 (ef 21 0 0 0 [ef 1 2 0 2 [], ef 4 1 0 0 []])],
  cd 2 4 false [0, 0, 0, 0, 1, 5] 0 0 0 [ab 0 [0, 0, 0, 0, 0, 0] false 0 (ef 20 1 0 0 [ef 11 1 0 2 []])]]
def cards80 : List (List PD) := [cd 3 0 false [1, 0, 0, 0, 0, 1] 0 0 0 [ab 5 [0, 0, 0, 0, 0, 0] false 0 (ef 20 1 0 0 [ef 10 0 2 2 []])],
  cd 3 1 false [0, 1, 0, 0, 0, 1] 0 0 0 [ab 5 [0, 0, 0, 0, 0, 0] false 0 (ef 20 1 0 0 [ef 23 1 0 2 []])],
  cd 3 2 false [0, 0, 1, 0, 0, 1] 0 0 0 [ab 5 [0, 0, 0, 0, 0, 0] false 0 (ef 20 2 0 0 [ef 10 (-1) 0 2 []])],
  cd 3 3 false [0, 0, 0, 1, 0, 1] 0 0 0 [ab 5 [0, 0, 0, 0, 0, 0] false 0 (ef 20 1 0 0 [ef 10 1 0 2 []])],
  cd 3 4 false [0, 0, 0, 0, 1, 1] 0 0 0 [ab 5 [0, 0, 0, 0, 0, 0] false 0 (ef 20 1 0 0 [ef 10 1 1 2 []])],
  cd 3 0 false [1, 0, 0, 0, 0, 2] 0 0 0 [ab 4 [0, 0, 0, 0, 0, 0] false 0 (ef 2 1 0 0 [])],
  cd 3 1 false [0, 1, 0, 0, 0, 2] 0 0 0 [ab 4 [0, 0, 0, 0, 0, 0] false 0 (ef 17 1 0 0 [])],
  cd 3 2 false [0, 0, 1, 0, 0, 2] 0 0 0 [ab 4 [0, 0, 0, 0, 0, 0] false 0 (ef 3 1 0 4 [])],
  cd 3 3 false [0, 0, 0, 1, 0, 2] 0 0 0 [ab 4 [0, 0, 0, 0, 0, 0] false 0 (ef 1 1 0 1 [])],
  cd 3 4 false [0, 0, 0, 0, 1, 2] 0 0 0 [ab 4 [0, 0, 0, 0, 0, 0] false 0 (ef 15 1 4 0 [])]]
def cards90 : List (List PD) := [cd 3 0 false [1, 0, 0, 0, 0, 3] 0 0 0 [ab 1 [0, 0, 0, 0, 0, 1] true 1 (ef 10 0 1 2 [])],
  cd 3 1 false [0, 1, 0, 0, 0, 3] 0 0 0 [ab 1 [0, 0, 0, 0, 0, 1] true 1 (ef 12 0 0 2 [])],
  cd 3 2 false [0, 0, 1, 0, 0, 3] 0 0 0 [ab 1 [0, 0, 0, 0, 0, 1] true 0 (ef 3 1 0 1 [])],
  cd 3 3 false [0, 0, 0, 1, 0, 3] 0 0 0 [ab 1 [0, 0, 0, 0, 0, 1] true 3 (ef 1 1 0 2 [])],
  cd 3 4 false [0, 0, 0, 0, 1, 3] 0 0 0 [ab 1 [0, 0, 0, 0, 0, 1] true 1 (ef 13 0 0 2 [])],
  cd 3 0 false [1, 0, 0, 0, 0, 4] 0 0 0 [ab 5 [0, 0, 0, 0, 0, 0] false 0 (ef 20 0 0 0 [ef 25 1 0 2 []])],
  cd 3 1 false [0, 1, 0, 0, 0, 4] 0 0 0 [ab 1 [0, 1, 0, 0, 0, 0] false 0 (ef 13 0 0 3 [])],
  cd 3 2 false [0, 0, 1, 0, 0, 4] 0 0 0 [ab 5 [0, 0, 0, 0, 0, 0] false 0 (ef 20 2 0 0 [ef 24 1 1 2 []])],
  cd 3 3 false [0, 0, 0, 1, 0, 4] 0 0 0 [ab 3 [0, 0, 0, 0, 0, 0] false 0 (ef 1 3 0 4 [])],
  cd 3 4 false [0, 0, 0, 0, 1, 4] 0 0 0 [ab 2 [0, 0, 0, 0, 0, 0] false 0 (ef 14 1 119 0 [])]]
def cards100 : List (List PD) := [cd 2 5 false [0, 0, 0, 0, 0, 1] 0 0 0 [ab 0 [0, 0, 0, 0, 0, 0] false 0 (ef 18 0 0 0 [])],
  cd 2 5 false [0, 0, 0, 0, 0, 2] 0 0 0 [ab 0 [0, 0, 0, 0, 0, 0] false 0 (ef 19 2 0 1 [])],
  cd 2 5 false [0, 0, 0, 0, 0, 1] 0 0 0 [ab 0 [0, 0, 0, 0, 0, 0] false 0 (ef 16 3 0 1 [])],
  cd 2 5 true [0, 0, 0, 0, 0, 1] 0 0 0 [ab 0 [0, 0, 0, 0, 0, 0] false 0 (ef 17 2 0 1 [])],
  cd 2 5 false [0, 0, 0, 0, 0, 2] 0 0 0 [ab 0 [0, 0, 0, 0, 0, 0] false 0 (ef 5 3 0 4 [])],
  cd 2 5 true [0, 0, 0, 0, 0, 3] 0 0 0 [ab 0 [0, 0, 0, 0, 0, 0] false 4 (ef 9 0 0 2 [])],
  cd 2 5 false [0, 0, 0, 0, 0, 2] 0 0 0 [ab 0 [0, 0, 0, 0, 0, 0] false 0 (ef 20 0 0 0 [ef 7 0 0 2 []])],
  cd 3 5 false [0, 0, 0, 0, 0, 2] 0 0 0 [ab 1 [0, 0, 0, 0, 0, 0] false 0 (ef 15 1 5 0 [])],
  cd 1 5 false [0, 0, 0, 0, 0, 2] 1 1 0 [ab 1 [0, 0, 0, 0, 0, 1] false 0 (ef 13 0 0 3 []), ab 6 [0, 0, 0, 0, 0, 0] true 0 (ef 15 2 5 0 [])],
  cd 2 5 false [0, 0, 0, 0, 0, 3] 0 0 0 [ab 0 [0, 0, 0, 0, 0, 0] false 0 (ef 14 2 112 0 [])]]
def cards110 : List (List PD) := [cd 2 5 false [0, 0, 0, 0, 0, 4] 0 0 0 [ab 0 [0, 0, 0, 0, 0, 0] false 0 (ef 20 0 0 0 [ef 6 0 0 2 []])],
  cd 1 5 true [0, 0, 0, 0, 0, 3] 2 3 5 [ab 3 [0, 0, 0, 0, 0, 0] false 0 (ef 4 1 0 0 [])],
  cd 1 5 false [0, 0, 0, 0, 0, 0] 1 1 0 [],
  cd 1 5 false [0, 0, 0, 0, 0, 0] 1 1 1 [],
  cd 1 5 false [0, 0, 0, 0, 0, 0] 2 2 0 [],
  cd 1 5 false [0, 0, 0, 0, 0, 0] 2 2 1 [],
  cd 1 5 false [0, 0, 0, 0, 0, 0] 3 3 0 [],
  cd 1 5 false [0, 0, 0, 0, 0, 0] 3 3 1 [],
  cd 1 5 false [0, 0, 0, 0, 0, 0] 4 4 0 [],
  cd 1 5 false [0, 0, 0, 0, 0, 0] 4 4 1 []]
def cardT : List (List PD) := cards0 ++ cards10 ++ cards20 ++ cards30 ++ cards40 ++ cards50 ++ cards60 ++ cards70 ++ cards80 ++ cards90 ++ cards100 ++ cards110
def cardP (n : Int) : List PD := cardT.getD n.toNat []
def whiteS : List PD := ((ab 0 [0, 0, 0, 0, 0, 0] false 0 (ef 2 4 0 0 []) : List PD) ++ (ab 0 [0, 0, 0, 0, 0, 0] false 1 (ef 6 0 0 2 []) : List PD) ++ (ab 0 [0, 0, 0, 0, 0, 0] false 0 (ef 20 1 0 0 [ef 10 1 1 2 []]) : List PD) ++ (ab 0 [0, 0, 0, 0, 0, 0] false 5 (ef 8 0 0 2 []) : List PD) ++ (ab 0 [0, 0, 0, 0, 0, 0] false 0 (ef 21 0 0 0 [ef 2 2 0 0 [], ef 4 1 0 0 []]) : List PD) ++ (ab 0 [0, 0, 0, 0, 0, 0] false 0 (ef 22 0 10 0 [ef 2 8 0 0 [], ef 4 1 0 0 []]) : List PD))
def whiteR : List PD := ((ab 5 [0, 0, 0, 0, 0, 0] false 0 (ef 20 1 0 0 [ef 10 0 2 2 []]) : List PD) ++ (ab 4 [0, 0, 0, 0, 0, 0] false 0 (ef 2 1 0 0 []) : List PD) ++ (ab 1 [0, 0, 0, 0, 0, 1] true 1 (ef 10 0 1 2 []) : List PD) ++ (ab 5 [0, 0, 0, 0, 0, 0] false 0 (ef 20 0 0 0 [ef 25 1 0 2 []]) : List PD))
def blueS : List PD := ((ab 0 [0, 0, 0, 0, 0, 0] false 4 (ef 9 0 0 2 []) : List PD) ++ (ab 0 [0, 0, 0, 0, 0, 0] false 0 (ef 4 2 0 0 []) : List PD) ++ (ab 0 [0, 0, 0, 0, 0, 0] false 5 (ef 7 0 0 2 []) : List PD) ++ (ab 0 [0, 0, 0, 0, 0, 0] false 0 (ef 17 3 0 0 []) : List PD) ++ (ab 0 [0, 0, 0, 0, 0, 0] false 1 (ef 12 0 0 2 []) : List PD) ++ (ab 0 [0, 0, 0, 0, 0, 0] false 0 (ef 21 0 0 0 [ef 4 3 0 0 [], ef 19 1 0 0 []]) : List PD))
def blueR : List PD := ((ab 5 [0, 0, 0, 0, 0, 0] false 0 (ef 20 1 0 0 [ef 23 1 0 2 []]) : List PD) ++ (ab 4 [0, 0, 0, 0, 0, 0] false 0 (ef 17 1 0 0 []) : List PD) ++ (ab 1 [0, 0, 0, 0, 0, 1] true 1 (ef 12 0 0 2 []) : List PD) ++ (ab 1 [0, 1, 0, 0, 0, 0] false 0 (ef 13 0 0 3 []) : List PD))
def blackS : List PD := ((ab 0 [0, 0, 0, 0, 0, 0] false 1 (ef 10 (-2) (-2) 2 []) : List PD) ++ (ab 0 [0, 0, 0, 0, 0, 0] false 2 (ef 19 1 0 2 []) : List PD) ++ (ab 0 [0, 0, 0, 0, 0, 0] false 2 (ef 3 3 0 2 []) : List PD) ++ (ab 0 [0, 0, 0, 0, 0, 0] false 0 (ef 21 0 0 0 [ef 3 2 0 1 [], ef 2 2 0 0 []]) : List PD) ++ (ab 0 [0, 0, 0, 0, 0, 0] false 1 (ef 6 0 0 2 []) : List PD) ++ (ab 0 [0, 0, 0, 0, 0, 0] false 0 (ef 5 4 0 4 []) : List PD))
def blackR : List PD := ((ab 5 [0, 0, 0, 0, 0, 0] false 0 (ef 20 2 0 0 [ef 10 (-1) 0 2 []]) : List PD) ++ (ab 4 [0, 0, 0, 0, 0, 0] false 0 (ef 3 1 0 4 []) : List PD) ++ (ab 1 [0, 0, 0, 0, 0, 1] true 0 (ef 3 1 0 1 []) : List PD) ++ (ab 5 [0, 0, 0, 0, 0, 0] false 0 (ef 20 2 0 0 [ef 24 1 1 2 []]) : List PD))
def redS : List PD := ((ab 0 [0, 0, 0, 0, 0, 0] false 3 (ef 1 2 0 2 []) : List PD) ++ (ab 0 [0, 0, 0, 0, 0, 0] false 1 (ef 1 4 0 2 []) : List PD) ++ (ab 0 [0, 0, 0, 0, 0, 0] false 1 (ef 10 3 0 2 []) : List PD) ++ (ab 0 [0, 0, 0, 0, 0, 0] false 0 (ef 20 0 0 0 [ef 1 2 0 2 []]) : List PD) ++ (ab 0 [0, 0, 0, 0, 0, 0] false 0 (ef 1 3 0 4 []) : List PD) ++ (ab 0 [0, 0, 0, 0, 0, 0] false 3 (ef 21 0 0 0 [ef 1 2 0 2 [], ef 4 1 0 0 []]) : List PD))
def redR : List PD := ((ab 5 [0, 0, 0, 0, 0, 0] false 0 (ef 20 1 0 0 [ef 10 1 0 2 []]) : List PD) ++ (ab 4 [0, 0, 0, 0, 0, 0] false 0 (ef 1 1 0 1 []) : List PD) ++ (ab 1 [0, 0, 0, 0, 0, 1] true 3 (ef 1 1 0 2 []) : List PD) ++ (ab 3 [0, 0, 0, 0, 0, 0] false 0 (ef 1 3 0 4 []) : List PD))
def greenS : List PD := ((ab 0 [0, 0, 0, 0, 0, 0] false 1 (ef 10 3 3 2 []) : List PD) ++ (ab 0 [0, 0, 0, 0, 0, 0] false 1 (ef 11 2 0 2 []) : List PD) ++ (ab 0 [0, 0, 0, 0, 0, 0] false 1 (ef 23 64 0 2 []) : List PD) ++ (ab 0 [0, 0, 0, 0, 0, 0] false 0 (ef 14 2 116 0 []) : List PD) ++ (ab 0 [0, 0, 0, 0, 0, 0] false 0 (ef 15 3 4 0 []) : List PD) ++ (ab 0 [0, 0, 0, 0, 0, 0] false 0 (ef 20 1 0 0 [ef 11 1 0 2 []]) : List PD))
def greenR : List PD := ((ab 5 [0, 0, 0, 0, 0, 0] false 0 (ef 20 1 0 0 [ef 10 1 1 2 []]) : List PD) ++ (ab 4 [0, 0, 0, 0, 0, 0] false 0 (ef 15 1 4 0 []) : List PD) ++ (ab 1 [0, 0, 0, 0, 0, 1] true 1 (ef 13 0 0 2 []) : List PD) ++ (ab 2 [0, 0, 0, 0, 0, 0] false 0 (ef 14 1 119 0 []) : List PD))
def earlyP : List (List PD) := [cd 2 5 false [0, 0, 0, 0, 0, 1] 0 0 0 [ab 0 [0, 0, 0, 0, 0, 0] false 0 (ef 18 0 0 0 [])],
  cd 2 5 false [0, 0, 0, 0, 0, 2] 0 0 0 [ab 0 [0, 0, 0, 0, 0, 0] false 0 (ef 19 2 0 1 [])],
  cd 2 5 false [0, 0, 0, 0, 0, 1] 0 0 0 [ab 0 [0, 0, 0, 0, 0, 0] false 0 (ef 16 3 0 1 [])],
  cd 2 5 true [0, 0, 0, 0, 0, 1] 0 0 0 [ab 0 [0, 0, 0, 0, 0, 0] false 0 (ef 17 2 0 1 [])],
  cd 2 5 false [0, 0, 0, 0, 0, 2] 0 0 0 [ab 0 [0, 0, 0, 0, 0, 0] false 0 (ef 5 3 0 4 [])],
  cd 2 5 true [0, 0, 0, 0, 0, 3] 0 0 0 [ab 0 [0, 0, 0, 0, 0, 0] false 4 (ef 9 0 0 2 [])]]
def lateP : List (List PD) := [cd 2 5 false [0, 0, 0, 0, 0, 2] 0 0 0 [ab 0 [0, 0, 0, 0, 0, 0] false 0 (ef 20 0 0 0 [ef 7 0 0 2 []])],
  cd 3 5 false [0, 0, 0, 0, 0, 2] 0 0 0 [ab 1 [0, 0, 0, 0, 0, 0] false 0 (ef 15 1 5 0 [])],
  cd 1 5 false [0, 0, 0, 0, 0, 2] 0 0 0 [ab 1 [0, 0, 0, 0, 0, 1] false 0 (ef 13 0 0 3 [])],
  cd 2 5 false [0, 0, 0, 0, 0, 3] 0 0 0 [ab 0 [0, 0, 0, 0, 0, 0] false 0 (ef 14 2 112 0 [])],
  cd 2 5 false [0, 0, 0, 0, 0, 4] 0 0 0 [ab 0 [0, 0, 0, 0, 0, 0] false 0 (ef 20 0 0 0 [ef 6 0 0 2 []])],
  cd 1 5 true [0, 0, 0, 0, 0, 3] 0 0 0 [ab 3 [0, 0, 0, 0, 0, 0] false 0 (ef 4 1 0 0 [])]]
end Go.Proofs.YtelfhmeobfimiaaDoor
end

section
namespace Go.Proofs.YtelfhmeobfimiaaDoor
open Go.RowKit
set_option linter.unusedVariables false
set_option linter.unusedSimpArgs false

def k_tcost : Nat := 73
def sg_tcost : Sig := ⟨[(false, [.int .i64]), (false, [.int .i64]), (false, [.int .i64])], [(true, List.replicate 6 (.int .i64))], false, true, true, false, false⟩
def tr_tcost : Tree := (.ob (.cmp .ge (.var 0) (.int .i64 0))
(.ob (.cmp .lt (.var 0) (.int .i64 6))
(.ret [(.ite (.cmp .eq (.var 0) (.int .i64 0)) (.var 1) (.int .i64 0)), (.ite (.cmp .eq (.var 0) (.int .i64 1)) (.var 1) (.int .i64 0)), (.ite (.cmp .eq (.var 0) (.int .i64 2)) (.var 1) (.int .i64 0)), (.ite (.cmp .eq (.var 0) (.int .i64 3)) (.var 1) (.int .i64 0)), (.ite (.cmp .eq (.var 0) (.int .i64 4)) (.var 1) (.int .i64 0)), (.ar .add .i64 (.ite (.cmp .eq (.var 0) (.int .i64 5)) (.var 1) (.int .i64 0)) (.var 2))])))
theorem wk_tcost : walk E0.cx (sgsN []) 0 73 sg_tcost = tr_tcost := by kernel_rfl
theorem bo_tcost : ∃ x, bodyOf E0.P 73 = some x := bo_of (by kernel_rfl)
noncomputable def tcost_g : List PD → Option (List PD) := fun ps => evL E0.Δ (pfun []) 0 [] tr_tcost ps
def tcost_s : Spec := psp tcost_g
theorem tcost_h : Holds E0 k_tcost sg_tcost tcost_s := con_ev wf0 mix0 g0 [] rfl wk_tcost rfl (fits_nil) 0
noncomputable def con_tcost : Con E0 := ⟨k_tcost, sg_tcost, tcost_s, rfl, bo_tcost, tcost_h⟩
def k_tmana : Nat := 101
def sg_tmana : Sig := ⟨[(false, [.int .i64]), (false, [.int .i64])], [(true, List.replicate 7 (.int .i64) ++ [.bool] ++ List.replicate 5 (.int .i64) ++ [.list 57])], false, false, true, false, false⟩
def tr_tmana : Tree := (.ret [(.int .i64 6), (.int .i64 0), (.int .i64 0), (.int .i64 0), (.int .i64 0), (.int .i64 0), (.int .i64 0), (.bool true), (.int .i64 0), (.int .i64 15), (.var 0), (.var 1), (.int .i64 0), (.nil 57)])
theorem wk_tmana : walk E0.cx (sgsN []) 0 101 sg_tmana = tr_tmana := by kernel_rfl
theorem bo_tmana : ∃ x, bodyOf E0.P 101 = some x := bo_of (by kernel_rfl)
noncomputable def tmana_g : List PD → Option (List PD) := fun ps => evL E0.Δ (pfun []) 0 [] tr_tmana ps
def tmana_s : Spec := psp tmana_g
theorem tmana_h : Holds E0 k_tmana sg_tmana tmana_s := con_ev wf0 mix0 g0 [] rfl wk_tmana rfl (fits_nil) 0
noncomputable def con_tmana : Con E0 := ⟨k_tmana, sg_tmana, tmana_s, rfl, bo_tmana, tmana_h⟩
def k_tevery : Nat := 139
def sg_tevery : Sig := ⟨[(false, [.int .i64]), (false, [.int .i64]), (false, [.int .i64]), (false, [.int .i64])], [(true, List.replicate 4 (.int .i64) ++ [.list 57])], false, false, true, false, false⟩
def tr_tevery : Tree := (.share 57 (.push .emp (.econs (.var 1) (.econs (.var 2) (.econs (.var 3) (.econs (.int .i64 2) (.econs (.nil 57) .enil))))))
(.ret [(.int .i64 20), (.var 0), (.int .i64 0), (.int .i64 0), (.var 4)]))
theorem wk_tevery : walk E0.cx (sgsN []) 0 139 sg_tevery = tr_tevery := by kernel_rfl
theorem bo_tevery : ∃ x, bodyOf E0.P 139 = some x := bo_of (by kernel_rfl)
noncomputable def tevery_g : List PD → Option (List PD) := fun ps => evL E0.Δ (pfun []) 0 [] tr_tevery ps
def tevery_s : Spec := psp tevery_g
theorem tevery_h : Holds E0 k_tevery sg_tevery tevery_s := con_ev wf0 mix0 g0 [] rfl wk_tevery rfl (fits_nil) 0
noncomputable def con_tevery : Con E0 := ⟨k_tevery, sg_tevery, tevery_s, rfl, bo_tevery, tevery_h⟩
def k_tdo : Nat := 103
def sg_tdo : Sig := ⟨[(false, [.int .i64]), (false, [.int .i64]), (false, [.int .i64]), (false, [.int .i64])], [(true, List.replicate 4 (.int .i64) ++ [.list 57])], false, false, true, false, false⟩
def tr_tdo : Tree := (.ret [(.var 0), (.var 1), (.var 2), (.var 3), (.nil 57)])
theorem wk_tdo : walk E0.cx (sgsN []) 0 103 sg_tdo = tr_tdo := by kernel_rfl
theorem bo_tdo : ∃ x, bodyOf E0.P 103 = some x := bo_of (by kernel_rfl)
noncomputable def tdo_g : List PD → Option (List PD) := fun ps => evL E0.Δ (pfun []) 0 [] tr_tdo ps
def tdo_s : Spec := psp tdo_g
theorem tdo_h : Holds E0 k_tdo sg_tdo tdo_s := con_ev wf0 mix0 g0 [] rfl wk_tdo rfl (fits_nil) 0
noncomputable def con_tdo : Con E0 := ⟨k_tdo, sg_tdo, tdo_s, rfl, bo_tdo, tdo_h⟩
def k_twhen : Nat := 102
def sg_twhen : Sig := ⟨[(false, [.int .i64]), (true, List.replicate 4 (.int .i64) ++ [.list 57])], [(true, List.replicate 7 (.int .i64) ++ [.bool] ++ List.replicate 5 (.int .i64) ++ [.list 57])], false, false, true, false, false⟩
def tr_twhen : Tree := (.ret [(.var 0), (.int .i64 0), (.int .i64 0), (.int .i64 0), (.int .i64 0), (.int .i64 0), (.int .i64 0), (.bool false), (.int .i64 0), (.var 1), (.var 2), (.var 3), (.var 4), (.var 5)])
theorem wk_twhen : walk E0.cx (sgsN []) 0 102 sg_twhen = tr_twhen := by kernel_rfl
theorem bo_twhen : ∃ x, bodyOf E0.P 102 = some x := bo_of (by kernel_rfl)
noncomputable def twhen_g : List PD → Option (List PD) := fun ps => evL E0.Δ (pfun []) 0 [] tr_twhen ps
def twhen_s : Spec := psp twhen_g
theorem twhen_h : Holds E0 k_twhen sg_twhen twhen_s := con_ev wf0 mix0 g0 [] rfl wk_twhen rfl (fits_nil) 0
noncomputable def con_twhen : Con E0 := ⟨k_twhen, sg_twhen, twhen_s, rfl, bo_twhen, twhen_h⟩
def k_tactive : Nat := 104
def sg_tactive : Sig := ⟨[(true, List.replicate 6 (.int .i64)), (false, [.bool]), (false, [.int .i64]), (true, List.replicate 4 (.int .i64) ++ [.list 57])], [(true, List.replicate 7 (.int .i64) ++ [.bool] ++ List.replicate 5 (.int .i64) ++ [.list 57])], false, false, true, false, false⟩
def tr_tactive : Tree := (.ret [(.int .i64 1), (.var 0), (.var 1), (.var 2), (.var 3), (.var 4), (.var 5), (.var 6), (.var 7), (.var 8), (.var 9), (.var 10), (.var 11), (.var 12)])
theorem wk_tactive : walk E0.cx (sgsN []) 0 104 sg_tactive = tr_tactive := by kernel_rfl
theorem bo_tactive : ∃ x, bodyOf E0.P 104 = some x := bo_of (by kernel_rfl)
noncomputable def tactive_g : List PD → Option (List PD) := fun ps => evL E0.Δ (pfun []) 0 [] tr_tactive ps
def tactive_s : Spec := psp tactive_g
theorem tactive_h : Holds E0 k_tactive sg_tactive tactive_s := con_ev wf0 mix0 g0 [] rfl wk_tactive rfl (fits_nil) 0
noncomputable def con_tactive : Con E0 := ⟨k_tactive, sg_tactive, tactive_s, rfl, bo_tactive, tactive_h⟩
def k_reffect : Nat := 66
def sg_reffect : Sig := ⟨[(false, [.list 3])], [(true, List.replicate 4 (.int .i64) ++ [.list 57])], false, false, true, false, false⟩
def tr_reffect : Tree := (.ob (.cmp .lt (.int .i64 0) (.len (.var 0)))
(.ob (.cmp .lt (.int .i64 1) (.len (.var 0)))
(.ob (.cmp .lt (.int .i64 2) (.len (.var 0)))
(.ob (.cmp .lt (.int .i64 3) (.len (.var 0)))
(.both (.loop [(.int .i64 4), .emp] [(.int .i64), (.rows 57)]
 (.ite (.cmp .lt (.var 1) (.len (.var 0)))
  (.ob (.cmp .ge (.var 1) (.int .i64 0))
  (.ob (.cmp .ge (.ar .add .i64 (.var 1) (.int .i64 1)) (.int .i64 0))
  (.ob (.cmp .lt (.ar .add .i64 (.var 1) (.int .i64 1)) (.len (.var 0)))
  (.ob (.cmp .ge (.ar .add .i64 (.var 1) (.int .i64 2)) (.int .i64 0))
  (.ob (.cmp .lt (.ar .add .i64 (.var 1) (.int .i64 2)) (.len (.var 0)))
  (.ob (.cmp .ge (.ar .add .i64 (.var 1) (.int .i64 3)) (.int .i64 0))
  (.ob (.cmp .lt (.ar .add .i64 (.var 1) (.int .i64 3)) (.len (.var 0)))
  (.both (.ob (.cmp .le (.len (.push (.var 2) (.econs (.elem (.var 0) (.var 1) 0 (.int .i64)) (.econs (.elem (.var 0) (.ar .add .i64 (.var 1) (.int .i64 1)) 0 (.int .i64)) (.econs (.elem (.var 0) (.ar .add .i64 (.var 1) (.int .i64 2)) 0 (.int .i64)) (.econs (.elem (.var 0) (.ar .add .i64 (.var 1) (.int .i64 3)) 0 (.int .i64)) (.econs (.nil 57) .enil))))))) (.int .i64 2513169434916))
  (.again 0 [(.ar .add .i64 (.var 1) (.int .i64 4)), (.push (.var 2) (.econs (.elem (.var 0) (.var 1) 0 (.int .i64)) (.econs (.elem (.var 0) (.ar .add .i64 (.var 1) (.int .i64 1)) 0 (.int .i64)) (.econs (.elem (.var 0) (.ar .add .i64 (.var 1) (.int .i64 2)) 0 (.int .i64)) (.econs (.elem (.var 0) (.ar .add .i64 (.var 1) (.int .i64 3)) 0 (.int .i64)) (.econs (.nil 57) .enil))))))])) (.both (.ob (.cmp .le (.len (.push (.var 2) (.econs (.elem (.var 0) (.var 1) 0 (.int .i64)) (.econs (.elem (.var 0) (.ar .add .i64 (.var 1) (.int .i64 1)) 0 (.int .i64)) (.econs (.elem (.var 0) (.ar .add .i64 (.var 1) (.int .i64 2)) 0 (.int .i64)) (.econs (.elem (.var 0) (.ar .add .i64 (.var 1) (.int .i64 3)) 0 (.int .i64)) (.econs (.nil 57) .enil))))))) (.int .i64 2513169434916))
  (.again 0 [(.ar .add .i64 (.var 1) (.int .i64 4)), (.push (.var 2) (.econs (.elem (.var 0) (.var 1) 0 (.int .i64)) (.econs (.elem (.var 0) (.ar .add .i64 (.var 1) (.int .i64 1)) 0 (.int .i64)) (.econs (.elem (.var 0) (.ar .add .i64 (.var 1) (.int .i64 2)) 0 (.int .i64)) (.econs (.elem (.var 0) (.ar .add .i64 (.var 1) (.int .i64 3)) 0 (.int .i64)) (.econs (.nil 57) .enil))))))])) (.ob (.cmp .le (.len (.push (.var 2) (.econs (.elem (.var 0) (.var 1) 0 (.int .i64)) (.econs (.elem (.var 0) (.ar .add .i64 (.var 1) (.int .i64 1)) 0 (.int .i64)) (.econs (.elem (.var 0) (.ar .add .i64 (.var 1) (.int .i64 2)) 0 (.int .i64)) (.econs (.elem (.var 0) (.ar .add .i64 (.var 1) (.int .i64 3)) 0 (.int .i64)) (.econs (.nil 57) .enil))))))) (.int .i64 2513169434916))
  (.again 0 [(.ar .add .i64 (.var 1) (.int .i64 4)), (.push (.var 2) (.econs (.elem (.var 0) (.var 1) 0 (.int .i64)) (.econs (.elem (.var 0) (.ar .add .i64 (.var 1) (.int .i64 1)) 0 (.int .i64)) (.econs (.elem (.var 0) (.ar .add .i64 (.var 1) (.int .i64 2)) 0 (.int .i64)) (.econs (.elem (.var 0) (.ar .add .i64 (.var 1) (.int .i64 3)) 0 (.int .i64)) (.econs (.nil 57) .enil))))))])))))))))))
  (.share 57 (.var 2)
  (.ret [(.elem (.var 0) (.int .i64 0) 0 (.int .i64)), (.elem (.var 0) (.int .i64 1) 0 (.int .i64)), (.elem (.var 0) (.int .i64 2) 0 (.int .i64)), (.elem (.var 0) (.int .i64 3) 0 (.int .i64)), (.var 3)])))) (.loop [(.int .i64 4), .emp] [(.int .i64), (.rows 57)]
 (.ite (.cmp .lt (.var 1) (.len (.var 0)))
  (.ob (.cmp .ge (.var 1) (.int .i64 0))
  (.ob (.cmp .ge (.ar .add .i64 (.var 1) (.int .i64 1)) (.int .i64 0))
  (.ob (.cmp .lt (.ar .add .i64 (.var 1) (.int .i64 1)) (.len (.var 0)))
  (.ob (.cmp .ge (.ar .add .i64 (.var 1) (.int .i64 2)) (.int .i64 0))
  (.ob (.cmp .lt (.ar .add .i64 (.var 1) (.int .i64 2)) (.len (.var 0)))
  (.ob (.cmp .ge (.ar .add .i64 (.var 1) (.int .i64 3)) (.int .i64 0))
  (.ob (.cmp .lt (.ar .add .i64 (.var 1) (.int .i64 3)) (.len (.var 0)))
  (.both (.ob (.cmp .le (.len (.push (.var 2) (.econs (.elem (.var 0) (.var 1) 0 (.int .i64)) (.econs (.elem (.var 0) (.ar .add .i64 (.var 1) (.int .i64 1)) 0 (.int .i64)) (.econs (.elem (.var 0) (.ar .add .i64 (.var 1) (.int .i64 2)) 0 (.int .i64)) (.econs (.elem (.var 0) (.ar .add .i64 (.var 1) (.int .i64 3)) 0 (.int .i64)) (.econs (.nil 57) .enil))))))) (.int .i64 2513169434916))
  (.again 0 [(.ar .add .i64 (.var 1) (.int .i64 4)), (.push (.var 2) (.econs (.elem (.var 0) (.var 1) 0 (.int .i64)) (.econs (.elem (.var 0) (.ar .add .i64 (.var 1) (.int .i64 1)) 0 (.int .i64)) (.econs (.elem (.var 0) (.ar .add .i64 (.var 1) (.int .i64 2)) 0 (.int .i64)) (.econs (.elem (.var 0) (.ar .add .i64 (.var 1) (.int .i64 3)) 0 (.int .i64)) (.econs (.nil 57) .enil))))))])) (.both (.ob (.cmp .le (.len (.push (.var 2) (.econs (.elem (.var 0) (.var 1) 0 (.int .i64)) (.econs (.elem (.var 0) (.ar .add .i64 (.var 1) (.int .i64 1)) 0 (.int .i64)) (.econs (.elem (.var 0) (.ar .add .i64 (.var 1) (.int .i64 2)) 0 (.int .i64)) (.econs (.elem (.var 0) (.ar .add .i64 (.var 1) (.int .i64 3)) 0 (.int .i64)) (.econs (.nil 57) .enil))))))) (.int .i64 2513169434916))
  (.again 0 [(.ar .add .i64 (.var 1) (.int .i64 4)), (.push (.var 2) (.econs (.elem (.var 0) (.var 1) 0 (.int .i64)) (.econs (.elem (.var 0) (.ar .add .i64 (.var 1) (.int .i64 1)) 0 (.int .i64)) (.econs (.elem (.var 0) (.ar .add .i64 (.var 1) (.int .i64 2)) 0 (.int .i64)) (.econs (.elem (.var 0) (.ar .add .i64 (.var 1) (.int .i64 3)) 0 (.int .i64)) (.econs (.nil 57) .enil))))))])) (.ob (.cmp .le (.len (.push (.var 2) (.econs (.elem (.var 0) (.var 1) 0 (.int .i64)) (.econs (.elem (.var 0) (.ar .add .i64 (.var 1) (.int .i64 1)) 0 (.int .i64)) (.econs (.elem (.var 0) (.ar .add .i64 (.var 1) (.int .i64 2)) 0 (.int .i64)) (.econs (.elem (.var 0) (.ar .add .i64 (.var 1) (.int .i64 3)) 0 (.int .i64)) (.econs (.nil 57) .enil))))))) (.int .i64 2513169434916))
  (.again 0 [(.ar .add .i64 (.var 1) (.int .i64 4)), (.push (.var 2) (.econs (.elem (.var 0) (.var 1) 0 (.int .i64)) (.econs (.elem (.var 0) (.ar .add .i64 (.var 1) (.int .i64 1)) 0 (.int .i64)) (.econs (.elem (.var 0) (.ar .add .i64 (.var 1) (.int .i64 2)) 0 (.int .i64)) (.econs (.elem (.var 0) (.ar .add .i64 (.var 1) (.int .i64 3)) 0 (.int .i64)) (.econs (.nil 57) .enil))))))])))))))))))
  (.share 57 (.var 2)
  (.ret [(.elem (.var 0) (.int .i64 0) 0 (.int .i64)), (.elem (.var 0) (.int .i64 1) 0 (.int .i64)), (.elem (.var 0) (.int .i64 2) 0 (.int .i64)), (.elem (.var 0) (.int .i64 3) 0 (.int .i64)), (.var 3)])))))))))
theorem wk_reffect : walk E0.cx (sgsN []) 0 66 sg_reffect = tr_reffect := by kernel_rfl
theorem bo_reffect : ∃ x, bodyOf E0.P 66 = some x := bo_of (by kernel_rfl)
noncomputable def reffect_g : List PD → Option (List PD) := fun ps => evL E0.Δ (pfun []) 20 [] tr_reffect ps
def reffect_s : Spec := psp reffect_g
theorem reffect_h : Holds E0 k_reffect sg_reffect reffect_s := con_ev wf0 mix0 g0 [] rfl wk_reffect rfl (fits_nil) 20
noncomputable def con_reffect : Con E0 := ⟨k_reffect, sg_reffect, reffect_s, rfl, bo_reffect, reffect_h⟩
def k_rability : Nat := 67
def sg_rability : Sig := ⟨[(false, [.list 3])], [(true, List.replicate 7 (.int .i64) ++ [.bool] ++ List.replicate 5 (.int .i64) ++ [.list 57])], false, false, true, false, false⟩
def tr_rability : Tree := (.ob (.cmp .lt (.int .i64 0) (.len (.var 0)))
(.ob (.cmp .lt (.int .i64 2) (.len (.var 0)))
(.ob (.cmp .lt (.int .i64 3) (.len (.var 0)))
(.ob (.cmp .le (.int .i64 4) (.len (.var 0)))
(.both (.call k_reffect [(.cut (.var 0) (.int .i64 4) (.len (.var 0)))] [(.int .i64), (.int .i64), (.int .i64), (.int .i64), (.list 57)]
(.both (.ob (.cmp .lt (.int .i64 1) (.len (.var 0)))
(.ob (.or (.not (.cmp .ge (.elem (.var 0) (.int .i64 1) 0 (.int .i64)) (.int .i64 0))) (.cmp .lt (.int .i64 1) (.len (.var 0))))
(.ob (.or (.not (.cmp .ge (.elem (.var 0) (.int .i64 1) 0 (.int .i64)) (.int .i64 0))) (.cmp .ge (.elem (.var 0) (.int .i64 1) 0 (.int .i64)) (.int .i64 0)))
(.ob (.or (.not (.cmp .ge (.elem (.var 0) (.int .i64 1) 0 (.int .i64)) (.int .i64 0))) (.cmp .lt (.elem (.var 0) (.int .i64 1) 0 (.int .i64)) (.int .i64 6)))
(.ret [(.elem (.var 0) (.int .i64 0) 0 (.int .i64)), (.ite (.cmp .ge (.elem (.var 0) (.int .i64 1) 0 (.int .i64)) (.int .i64 0)) (.ite (.cmp .eq (.elem (.var 0) (.int .i64 1) 0 (.int .i64)) (.int .i64 0)) (.int .i64 1) (.int .i64 0)) (.int .i64 0)), (.ite (.cmp .ge (.elem (.var 0) (.int .i64 1) 0 (.int .i64)) (.int .i64 0)) (.ite (.cmp .eq (.elem (.var 0) (.int .i64 1) 0 (.int .i64)) (.int .i64 1)) (.int .i64 1) (.int .i64 0)) (.int .i64 0)), (.ite (.cmp .ge (.elem (.var 0) (.int .i64 1) 0 (.int .i64)) (.int .i64 0)) (.ite (.cmp .eq (.elem (.var 0) (.int .i64 1) 0 (.int .i64)) (.int .i64 2)) (.int .i64 1) (.int .i64 0)) (.int .i64 0)), (.ite (.cmp .ge (.elem (.var 0) (.int .i64 1) 0 (.int .i64)) (.int .i64 0)) (.ite (.cmp .eq (.elem (.var 0) (.int .i64 1) 0 (.int .i64)) (.int .i64 3)) (.int .i64 1) (.int .i64 0)) (.int .i64 0)), (.ite (.cmp .ge (.elem (.var 0) (.int .i64 1) 0 (.int .i64)) (.int .i64 0)) (.ite (.cmp .eq (.elem (.var 0) (.int .i64 1) 0 (.int .i64)) (.int .i64 4)) (.int .i64 1) (.int .i64 0)) (.int .i64 0)), (.ite (.cmp .ge (.elem (.var 0) (.int .i64 1) 0 (.int .i64)) (.int .i64 0)) (.ite (.cmp .eq (.elem (.var 0) (.int .i64 1) 0 (.int .i64)) (.int .i64 5)) (.int .i64 1) (.int .i64 0)) (.int .i64 0)), (.cmp .eq (.elem (.var 0) (.int .i64 2) 0 (.int .i64)) (.int .i64 1)), (.elem (.var 0) (.int .i64 3) 0 (.int .i64)), (.var 1), (.var 2), (.var 3), (.var 4), (.var 5)]))))) (.ob (.cmp .lt (.int .i64 1) (.len (.var 0)))
(.ob (.or (.not (.cmp .ge (.elem (.var 0) (.int .i64 1) 0 (.int .i64)) (.int .i64 0))) (.cmp .lt (.int .i64 1) (.len (.var 0))))
(.ob (.or (.not (.cmp .ge (.elem (.var 0) (.int .i64 1) 0 (.int .i64)) (.int .i64 0))) (.cmp .ge (.elem (.var 0) (.int .i64 1) 0 (.int .i64)) (.int .i64 0)))
(.ob (.or (.not (.cmp .ge (.elem (.var 0) (.int .i64 1) 0 (.int .i64)) (.int .i64 0))) (.cmp .lt (.elem (.var 0) (.int .i64 1) 0 (.int .i64)) (.int .i64 6)))
(.ret [(.elem (.var 0) (.int .i64 0) 0 (.int .i64)), (.ite (.cmp .ge (.elem (.var 0) (.int .i64 1) 0 (.int .i64)) (.int .i64 0)) (.ite (.cmp .eq (.elem (.var 0) (.int .i64 1) 0 (.int .i64)) (.int .i64 0)) (.int .i64 1) (.int .i64 0)) (.int .i64 0)), (.ite (.cmp .ge (.elem (.var 0) (.int .i64 1) 0 (.int .i64)) (.int .i64 0)) (.ite (.cmp .eq (.elem (.var 0) (.int .i64 1) 0 (.int .i64)) (.int .i64 1)) (.int .i64 1) (.int .i64 0)) (.int .i64 0)), (.ite (.cmp .ge (.elem (.var 0) (.int .i64 1) 0 (.int .i64)) (.int .i64 0)) (.ite (.cmp .eq (.elem (.var 0) (.int .i64 1) 0 (.int .i64)) (.int .i64 2)) (.int .i64 1) (.int .i64 0)) (.int .i64 0)), (.ite (.cmp .ge (.elem (.var 0) (.int .i64 1) 0 (.int .i64)) (.int .i64 0)) (.ite (.cmp .eq (.elem (.var 0) (.int .i64 1) 0 (.int .i64)) (.int .i64 3)) (.int .i64 1) (.int .i64 0)) (.int .i64 0)), (.ite (.cmp .ge (.elem (.var 0) (.int .i64 1) 0 (.int .i64)) (.int .i64 0)) (.ite (.cmp .eq (.elem (.var 0) (.int .i64 1) 0 (.int .i64)) (.int .i64 4)) (.int .i64 1) (.int .i64 0)) (.int .i64 0)), (.ite (.cmp .ge (.elem (.var 0) (.int .i64 1) 0 (.int .i64)) (.int .i64 0)) (.ite (.cmp .eq (.elem (.var 0) (.int .i64 1) 0 (.int .i64)) (.int .i64 5)) (.int .i64 1) (.int .i64 0)) (.int .i64 0)), (.cmp .eq (.elem (.var 0) (.int .i64 2) 0 (.int .i64)) (.int .i64 1)), (.elem (.var 0) (.int .i64 3) 0 (.int .i64)), (.var 1), (.var 2), (.var 3), (.var 4), (.var 5)]))))))) (.call k_reffect [(.cut (.var 0) (.int .i64 4) (.len (.var 0)))] [(.int .i64), (.int .i64), (.int .i64), (.int .i64), (.list 57)]
(.ob (.cmp .lt (.int .i64 1) (.len (.var 0)))
(.ob (.or (.not (.cmp .ge (.elem (.var 0) (.int .i64 1) 0 (.int .i64)) (.int .i64 0))) (.cmp .lt (.int .i64 1) (.len (.var 0))))
(.ob (.or (.not (.cmp .ge (.elem (.var 0) (.int .i64 1) 0 (.int .i64)) (.int .i64 0))) (.cmp .ge (.elem (.var 0) (.int .i64 1) 0 (.int .i64)) (.int .i64 0)))
(.ob (.or (.not (.cmp .ge (.elem (.var 0) (.int .i64 1) 0 (.int .i64)) (.int .i64 0))) (.cmp .lt (.elem (.var 0) (.int .i64 1) 0 (.int .i64)) (.int .i64 6)))
(.ret [(.elem (.var 0) (.int .i64 0) 0 (.int .i64)), (.ite (.cmp .ge (.elem (.var 0) (.int .i64 1) 0 (.int .i64)) (.int .i64 0)) (.ite (.cmp .eq (.elem (.var 0) (.int .i64 1) 0 (.int .i64)) (.int .i64 0)) (.int .i64 1) (.int .i64 0)) (.int .i64 0)), (.ite (.cmp .ge (.elem (.var 0) (.int .i64 1) 0 (.int .i64)) (.int .i64 0)) (.ite (.cmp .eq (.elem (.var 0) (.int .i64 1) 0 (.int .i64)) (.int .i64 1)) (.int .i64 1) (.int .i64 0)) (.int .i64 0)), (.ite (.cmp .ge (.elem (.var 0) (.int .i64 1) 0 (.int .i64)) (.int .i64 0)) (.ite (.cmp .eq (.elem (.var 0) (.int .i64 1) 0 (.int .i64)) (.int .i64 2)) (.int .i64 1) (.int .i64 0)) (.int .i64 0)), (.ite (.cmp .ge (.elem (.var 0) (.int .i64 1) 0 (.int .i64)) (.int .i64 0)) (.ite (.cmp .eq (.elem (.var 0) (.int .i64 1) 0 (.int .i64)) (.int .i64 3)) (.int .i64 1) (.int .i64 0)) (.int .i64 0)), (.ite (.cmp .ge (.elem (.var 0) (.int .i64 1) 0 (.int .i64)) (.int .i64 0)) (.ite (.cmp .eq (.elem (.var 0) (.int .i64 1) 0 (.int .i64)) (.int .i64 4)) (.int .i64 1) (.int .i64 0)) (.int .i64 0)), (.ite (.cmp .ge (.elem (.var 0) (.int .i64 1) 0 (.int .i64)) (.int .i64 0)) (.ite (.cmp .eq (.elem (.var 0) (.int .i64 1) 0 (.int .i64)) (.int .i64 5)) (.int .i64 1) (.int .i64 0)) (.int .i64 0)), (.cmp .eq (.elem (.var 0) (.int .i64 2) 0 (.int .i64)) (.int .i64 1)), (.elem (.var 0) (.int .i64 3) 0 (.int .i64)), (.var 1), (.var 2), (.var 3), (.var 4), (.var 5)])))))))))))
theorem wk_rability : walk E0.cx (sgsN [(66, sg_reffect)]) 0 67 sg_rability = tr_rability := by kernel_rfl
theorem bo_rability : ∃ x, bodyOf E0.P 67 = some x := bo_of (by kernel_rfl)
theorem sp_rability_reffect : specC [con_reffect] k_reffect = reffect_s := rfl
noncomputable def rability_g : List PD → Option (List PD) := fun ps => evL E0.Δ (pfun [(k_reffect, reffect_g)]) 0 [] tr_rability ps
def rability_s : Spec := psp rability_g
theorem rability_h : Holds E0 k_rability sg_rability rability_s := con_ev wf0 mix0 g0 [con_reffect] rfl wk_rability rfl (fits_cons (k := k_reffect) (g := reffect_g) sp_rability_reffect (fits_nil)) 0
noncomputable def con_rability : Con E0 := ⟨k_rability, sg_rability, rability_s, rfl, bo_rability, rability_h⟩
def k_rmagic : Nat := 65
def sg_rmagic : Sig := ⟨[], [(false, [.list 23])], false, false, false, false, false⟩
noncomputable def tr_rmagic : Tree := walk E0.cx (sgsN []) 0 65 sg_rmagic
theorem wk_rmagic : walk E0.cx (sgsN []) 0 65 sg_rmagic = tr_rmagic := rfl
theorem bo_rmagic : ∃ x, bodyOf E0.P 65 = some x := bo_of (by kernel_rfl)
noncomputable def rmagic_g : List PD → Option (List PD) := fun ps => evL E0.Δ (pfun []) 0 [] tr_rmagic ps
def rmagic_s : Spec := psp rmagic_g
theorem rmagic_h : Holds E0 k_rmagic sg_rmagic rmagic_s := con_ev wf0 mix0 g0 [] rfl wk_rmagic rfl (fits_nil) 0
noncomputable def con_rmagic : Con E0 := ⟨k_rmagic, sg_rmagic, rmagic_s, rfl, bo_rmagic, rmagic_h⟩
def k_rrelic : Nat := 68
def sg_rrelic : Sig := ⟨[], [(false, [.list 23])], false, false, false, false, false⟩
noncomputable def tr_rrelic : Tree := walk E0.cx (sgsN []) 0 68 sg_rrelic
theorem wk_rrelic : walk E0.cx (sgsN []) 0 68 sg_rrelic = tr_rrelic := rfl
theorem bo_rrelic : ∃ x, bodyOf E0.P 68 = some x := bo_of (by kernel_rfl)
noncomputable def rrelic_g : List PD → Option (List PD) := fun ps => evL E0.Δ (pfun []) 0 [] tr_rrelic ps
def rrelic_s : Spec := psp rrelic_g
theorem rrelic_h : Holds E0 k_rrelic sg_rrelic rrelic_s := con_ev wf0 mix0 g0 [] rfl wk_rrelic rfl (fits_nil) 0
noncomputable def con_rrelic : Con E0 := ⟨k_rrelic, sg_rrelic, rrelic_s, rfl, bo_rrelic, rrelic_h⟩
def k_rspecial : Nat := 69
def sg_rspecial : Sig := ⟨[], [(false, [.list 23])], false, false, false, false, false⟩
noncomputable def tr_rspecial : Tree := walk E0.cx (sgsN []) 0 69 sg_rspecial
theorem wk_rspecial : walk E0.cx (sgsN []) 0 69 sg_rspecial = tr_rspecial := rfl
theorem bo_rspecial : ∃ x, bodyOf E0.P 69 = some x := bo_of (by kernel_rfl)
noncomputable def rspecial_g : List PD → Option (List PD) := fun ps => evL E0.Δ (pfun []) 0 [] tr_rspecial ps
def rspecial_s : Spec := psp rspecial_g
theorem rspecial_h : Holds E0 k_rspecial sg_rspecial rspecial_s := con_ev wf0 mix0 g0 [] rfl wk_rspecial rfl (fits_nil) 0
noncomputable def con_rspecial : Con E0 := ⟨k_rspecial, sg_rspecial, rspecial_s, rfl, bo_rspecial, rspecial_h⟩
theorem rmagic_ok : rmagic_g [] = some [irows magicR] := by kernel_rfl
theorem rrelic_ok : rrelic_g [] = some [irows relicR] := by kernel_rfl
theorem rspecial_ok : rspecial_g [] = some [irows specialR] := by kernel_rfl
theorem rability_ok : rability_g [.list 1 (irow [5, -1, 0, 0, 20, 1, 0, 0, 10, 0, 2, 2])] = some (ab 5 [0, 0, 0, 0, 0, 0] false 0 (ef 20 1 0 0 [ef 10 0 2 2 []])) := by kernel_rfl
end Go.Proofs.YtelfhmeobfimiaaDoor
end

section
namespace Go.Proofs.YtelfhmeobfimiaaDoor
open Go.RowKit
set_option linter.unusedVariables false
set_option linter.unusedSimpArgs false

def k_rgive : Nat := 64
def sg_rgive : Sig := ⟨[(false, [.int .i64]), (false, [.int .i64])], [(true, List.replicate 7 (.int .i64) ++ [.bool] ++ List.replicate 5 (.int .i64) ++ [.list 57])], false, false, true, false, false⟩
def tr_rgive : Tree := (.ret [(.int .i64 6), (.int .i64 0), (.int .i64 0), (.int .i64 0), (.int .i64 0), (.int .i64 0), (.int .i64 0), (.bool true), (.int .i64 0), (.int .i64 15), (.var 0), (.var 1), (.int .i64 0), (.nil 57)])
theorem wk_rgive : walk E0.cx (sgsN []) 0 64 sg_rgive = tr_rgive := by kernel_rfl
theorem bo_rgive : ∃ x, bodyOf E0.P 64 = some x := bo_of (by kernel_rfl)
noncomputable def rgive_g : List PD → Option (List PD) := fun ps => evL E0.Δ (pfun []) 0 [] tr_rgive ps
def rgive_s : Spec := psp rgive_g
theorem rgive_h : Holds E0 k_rgive sg_rgive rgive_s := con_ev wf0 mix0 g0 [] rfl wk_rgive rfl (fits_nil) 0
noncomputable def con_rgive : Con E0 := ⟨k_rgive, sg_rgive, rgive_s, rfl, bo_rgive, rgive_h⟩
def k_rcard : Nat := 29
def sg_rcard : Sig := ⟨[(false, [.int .i64])], [(true, [.int .i64, .int .i64] ++ [.bool] ++ List.replicate 9 (.int .i64) ++ [.list 59]), (false, [.bool])], false, true, true, false, false⟩
def tr_rcard_1 : Tree := (.ret [(.int .i64 1), (.ar .rem .i64 (.var 0) (.int .i64 5)), (.bool false), (.ite (.cmp .gt (.ar .quo .i64 (.ar .sub .i64 (.var 0) (.int .i64 10)) (.int .i64 5)) (.int .i64 3)) (.ite (.cmp .eq (.ar .rem .i64 (.var 0) (.int .i64 5)) (.int .i64 0)) (.int .i64 2) (.ite (.cmp .eq (.ar .rem .i64 (.var 0) (.int .i64 5)) (.int .i64 0)) (.int .i64 1) (.int .i64 0))) (.ite (.cmp .eq (.ar .rem .i64 (.var 0) (.int .i64 5)) (.int .i64 0)) (.int .i64 1) (.int .i64 0))), (.ite (.cmp .gt (.ar .quo .i64 (.ar .sub .i64 (.var 0) (.int .i64 10)) (.int .i64 5)) (.int .i64 3)) (.ite (.cmp .eq (.ar .rem .i64 (.var 0) (.int .i64 5)) (.int .i64 1)) (.int .i64 2) (.ite (.cmp .eq (.ar .rem .i64 (.var 0) (.int .i64 5)) (.int .i64 1)) (.int .i64 1) (.int .i64 0))) (.ite (.cmp .eq (.ar .rem .i64 (.var 0) (.int .i64 5)) (.int .i64 1)) (.int .i64 1) (.int .i64 0))), (.ite (.cmp .gt (.ar .quo .i64 (.ar .sub .i64 (.var 0) (.int .i64 10)) (.int .i64 5)) (.int .i64 3)) (.ite (.cmp .eq (.ar .rem .i64 (.var 0) (.int .i64 5)) (.int .i64 2)) (.int .i64 2) (.ite (.cmp .eq (.ar .rem .i64 (.var 0) (.int .i64 5)) (.int .i64 2)) (.int .i64 1) (.int .i64 0))) (.ite (.cmp .eq (.ar .rem .i64 (.var 0) (.int .i64 5)) (.int .i64 2)) (.int .i64 1) (.int .i64 0))), (.ite (.cmp .gt (.ar .quo .i64 (.ar .sub .i64 (.var 0) (.int .i64 10)) (.int .i64 5)) (.int .i64 3)) (.ite (.cmp .eq (.ar .rem .i64 (.var 0) (.int .i64 5)) (.int .i64 3)) (.int .i64 2) (.ite (.cmp .eq (.ar .rem .i64 (.var 0) (.int .i64 5)) (.int .i64 3)) (.int .i64 1) (.int .i64 0))) (.ite (.cmp .eq (.ar .rem .i64 (.var 0) (.int .i64 5)) (.int .i64 3)) (.int .i64 1) (.int .i64 0))), (.ite (.cmp .gt (.ar .quo .i64 (.ar .sub .i64 (.var 0) (.int .i64 10)) (.int .i64 5)) (.int .i64 3)) (.ite (.cmp .eq (.ar .rem .i64 (.var 0) (.int .i64 5)) (.int .i64 4)) (.int .i64 2) (.ite (.cmp .eq (.ar .rem .i64 (.var 0) (.int .i64 5)) (.int .i64 4)) (.int .i64 1) (.int .i64 0))) (.ite (.cmp .eq (.ar .rem .i64 (.var 0) (.int .i64 5)) (.int .i64 4)) (.int .i64 1) (.int .i64 0))), (.ar .quo .i64 (.ar .sub .i64 (.var 0) (.int .i64 10)) (.int .i64 5)), (.elem (.push (.push (.push (.push (.push (.push (.push (.push .emp (.econs (.int .i64 1) .enil)) (.econs (.int .i64 1) .enil)) (.econs (.int .i64 2) .enil)) (.econs (.int .i64 2) .enil)) (.econs (.int .i64 3) .enil)) (.econs (.int .i64 3) .enil)) (.econs (.int .i64 4) .enil)) (.econs (.int .i64 4) .enil)) (.ar .quo .i64 (.ar .sub .i64 (.var 0) (.int .i64 10)) (.int .i64 5)) 0 (.int .i64)), (.elem (.push (.push (.push (.push (.push (.push (.push (.push .emp (.econs (.int .i64 1) .enil)) (.econs (.int .i64 2) .enil)) (.econs (.int .i64 2) .enil)) (.econs (.int .i64 3) .enil)) (.econs (.int .i64 3) .enil)) (.econs (.int .i64 4) .enil)) (.econs (.int .i64 4) .enil)) (.econs (.int .i64 5) .enil)) (.ar .quo .i64 (.ar .sub .i64 (.var 0) (.int .i64 10)) (.int .i64 5)) 0 (.int .i64)), (.elem (.push (.push (.push (.push (.push (.push (.push (.push .emp (.econs (.int .i64 1) .enil)) (.econs (.int .i64 2) .enil)) (.econs (.int .i64 4) .enil)) (.econs (.int .i64 8) .enil)) (.econs (.int .i64 16) .enil)) (.econs (.int .i64 32) .enil)) (.econs (.int .i64 64) .enil)) (.econs (.int .i64 128) .enil)) (.ar .quo .i64 (.ar .sub .i64 (.var 0) (.int .i64 10)) (.int .i64 5)) 0 (.int .i64)), (.var 1), (.bool true)])
def tr_rcard_2 : Tree := (.ob (.cmp .ge (.ar .quo .i64 (.ar .sub .i64 (.var 0) (.int .i64 10)) (.int .i64 5)) (.int .i64 0)) (.ob (.cmp .lt (.ar .quo .i64 (.ar .sub .i64 (.var 0) (.int .i64 10)) (.int .i64 5)) (.int .i64 8)) (.ite (.cmp .eq (.ar .rem .i64 (.var 0) (.int .i64 5)) (.int .i64 0)) (.share 59 (.push .emp (.econs (.int .i64 2) (.econs (.int .i64 0) (.econs (.int .i64 0) (.econs (.int .i64 0) (.econs (.int .i64 0) (.econs (.int .i64 0) (.econs (.int .i64 0) (.econs (.bool false) (.econs (.int .i64 0) (.econs (.int .i64 2) (.econs (.ar .add .i64 (.ar .quo .i64 (.ar .sub .i64 (.var 0) (.int .i64 10)) (.int .i64 5)) (.int .i64 1)) (.econs (.int .i64 0) (.econs (.int .i64 0) (.econs (.nil 57) .enil))))))))))))))) tr_rcard_1) (.ite (.cmp .eq (.ar .rem .i64 (.var 0) (.int .i64 5)) (.int .i64 1)) (.ite (.cmp .eq (.ar .rem .i64 (.ar .quo .i64 (.ar .sub .i64 (.var 0) (.int .i64 10)) (.int .i64 5)) (.int .i64 2)) (.int .i64 0)) (.ret [(.int .i64 1), (.ar .rem .i64 (.var 0) (.int .i64 5)), (.bool false), (.ite (.cmp .gt (.ar .quo .i64 (.ar .sub .i64 (.var 0) (.int .i64 10)) (.int .i64 5)) (.int .i64 3)) (.ite (.cmp .eq (.ar .rem .i64 (.var 0) (.int .i64 5)) (.int .i64 0)) (.int .i64 2) (.ite (.cmp .eq (.ar .rem .i64 (.var 0) (.int .i64 5)) (.int .i64 0)) (.int .i64 1) (.int .i64 0))) (.ite (.cmp .eq (.ar .rem .i64 (.var 0) (.int .i64 5)) (.int .i64 0)) (.int .i64 1) (.int .i64 0))), (.ite (.cmp .gt (.ar .quo .i64 (.ar .sub .i64 (.var 0) (.int .i64 10)) (.int .i64 5)) (.int .i64 3)) (.ite (.cmp .eq (.ar .rem .i64 (.var 0) (.int .i64 5)) (.int .i64 1)) (.int .i64 2) (.ite (.cmp .eq (.ar .rem .i64 (.var 0) (.int .i64 5)) (.int .i64 1)) (.int .i64 1) (.int .i64 0))) (.ite (.cmp .eq (.ar .rem .i64 (.var 0) (.int .i64 5)) (.int .i64 1)) (.int .i64 1) (.int .i64 0))), (.ite (.cmp .gt (.ar .quo .i64 (.ar .sub .i64 (.var 0) (.int .i64 10)) (.int .i64 5)) (.int .i64 3)) (.ite (.cmp .eq (.ar .rem .i64 (.var 0) (.int .i64 5)) (.int .i64 2)) (.int .i64 2) (.ite (.cmp .eq (.ar .rem .i64 (.var 0) (.int .i64 5)) (.int .i64 2)) (.int .i64 1) (.int .i64 0))) (.ite (.cmp .eq (.ar .rem .i64 (.var 0) (.int .i64 5)) (.int .i64 2)) (.int .i64 1) (.int .i64 0))), (.ite (.cmp .gt (.ar .quo .i64 (.ar .sub .i64 (.var 0) (.int .i64 10)) (.int .i64 5)) (.int .i64 3)) (.ite (.cmp .eq (.ar .rem .i64 (.var 0) (.int .i64 5)) (.int .i64 3)) (.int .i64 2) (.ite (.cmp .eq (.ar .rem .i64 (.var 0) (.int .i64 5)) (.int .i64 3)) (.int .i64 1) (.int .i64 0))) (.ite (.cmp .eq (.ar .rem .i64 (.var 0) (.int .i64 5)) (.int .i64 3)) (.int .i64 1) (.int .i64 0))), (.ite (.cmp .gt (.ar .quo .i64 (.ar .sub .i64 (.var 0) (.int .i64 10)) (.int .i64 5)) (.int .i64 3)) (.ite (.cmp .eq (.ar .rem .i64 (.var 0) (.int .i64 5)) (.int .i64 4)) (.int .i64 2) (.ite (.cmp .eq (.ar .rem .i64 (.var 0) (.int .i64 5)) (.int .i64 4)) (.int .i64 1) (.int .i64 0))) (.ite (.cmp .eq (.ar .rem .i64 (.var 0) (.int .i64 5)) (.int .i64 4)) (.int .i64 1) (.int .i64 0))), (.ar .quo .i64 (.ar .sub .i64 (.var 0) (.int .i64 10)) (.int .i64 5)), (.elem (.push (.push (.push (.push (.push (.push (.push (.push .emp (.econs (.int .i64 1) .enil)) (.econs (.int .i64 1) .enil)) (.econs (.int .i64 2) .enil)) (.econs (.int .i64 2) .enil)) (.econs (.int .i64 3) .enil)) (.econs (.int .i64 3) .enil)) (.econs (.int .i64 4) .enil)) (.econs (.int .i64 4) .enil)) (.ar .quo .i64 (.ar .sub .i64 (.var 0) (.int .i64 10)) (.int .i64 5)) 0 (.int .i64)), (.elem (.push (.push (.push (.push (.push (.push (.push (.push .emp (.econs (.int .i64 1) .enil)) (.econs (.int .i64 2) .enil)) (.econs (.int .i64 2) .enil)) (.econs (.int .i64 3) .enil)) (.econs (.int .i64 3) .enil)) (.econs (.int .i64 4) .enil)) (.econs (.int .i64 4) .enil)) (.econs (.int .i64 5) .enil)) (.ar .quo .i64 (.ar .sub .i64 (.var 0) (.int .i64 10)) (.int .i64 5)) 0 (.int .i64)), (.elem (.push (.push (.push (.push (.push (.push (.push (.push .emp (.econs (.int .i64 1) .enil)) (.econs (.int .i64 2) .enil)) (.econs (.int .i64 4) .enil)) (.econs (.int .i64 8) .enil)) (.econs (.int .i64 16) .enil)) (.econs (.int .i64 32) .enil)) (.econs (.int .i64 64) .enil)) (.econs (.int .i64 128) .enil)) (.ar .quo .i64 (.ar .sub .i64 (.var 0) (.int .i64 10)) (.int .i64 5)) 0 (.int .i64)), (.nil 59), (.bool true)]) (.share 59 (.push .emp (.econs (.int .i64 2) (.econs (.int .i64 0) (.econs (.int .i64 0) (.econs (.int .i64 0) (.econs (.int .i64 0) (.econs (.int .i64 0) (.econs (.int .i64 0) (.econs (.bool false) (.econs (.int .i64 0) (.econs (.int .i64 4) (.econs (.int .i64 1) (.econs (.int .i64 0) (.econs (.int .i64 0) (.econs (.nil 57) .enil))))))))))))))) tr_rcard_1)) (.ite (.cmp .eq (.ar .rem .i64 (.var 0) (.int .i64 5)) (.int .i64 2)) (.ob (.cmp .ge (.ar .quo .i64 (.ar .sub .i64 (.var 0) (.int .i64 10)) (.int .i64 5)) (.int .i64 0)) (.ob (.cmp .lt (.ar .quo .i64 (.ar .sub .i64 (.var 0) (.int .i64 10)) (.int .i64 5)) (.int .i64 8)) (.share 59 (.push .emp (.econs (.int .i64 3) (.econs (.int .i64 0) (.econs (.int .i64 0) (.econs (.int .i64 0) (.econs (.int .i64 0) (.econs (.int .i64 0) (.econs (.int .i64 0) (.econs (.bool false) (.econs (.int .i64 0) (.econs (.int .i64 3) (.econs (.elem (.push (.push (.push (.push (.push (.push (.push (.push .emp (.econs (.int .i64 1) .enil)) (.econs (.int .i64 1) .enil)) (.econs (.int .i64 2) .enil)) (.econs (.int .i64 2) .enil)) (.econs (.int .i64 3) .enil)) (.econs (.int .i64 3) .enil)) (.econs (.int .i64 4) .enil)) (.econs (.int .i64 4) .enil)) (.ar .quo .i64 (.ar .sub .i64 (.var 0) (.int .i64 10)) (.int .i64 5)) 0 (.int .i64)) (.econs (.int .i64 0) (.econs (.int .i64 1) (.econs (.nil 57) .enil))))))))))))))) tr_rcard_1))) (.share 59 (.push .emp (.econs (.int .i64 1) (.econs (.int .i64 0) (.econs (.int .i64 0) (.econs (.int .i64 0) (.econs (.ite (.cmp .eq (.ar .rem .i64 (.var 0) (.int .i64 5)) (.int .i64 3)) (.int .i64 1) (.int .i64 0)) (.econs (.ite (.cmp .eq (.ar .rem .i64 (.var 0) (.int .i64 5)) (.int .i64 3)) (.int .i64 0) (.int .i64 1)) (.econs (.int .i64 0) (.econs (.cmp .eq (.ar .rem .i64 (.var 0) (.int .i64 5)) (.int .i64 3)) (.econs (.ite (.cmp .eq (.ar .rem .i64 (.var 0) (.int .i64 5)) (.int .i64 3)) (.int .i64 3) (.int .i64 0)) (.econs (.ite (.cmp .eq (.ar .rem .i64 (.var 0) (.int .i64 5)) (.int .i64 3)) (.int .i64 1) (.int .i64 10)) (.econs (.int .i64 1) (.econs (.ite (.cmp .eq (.ar .rem .i64 (.var 0) (.int .i64 5)) (.int .i64 3)) (.int .i64 0) (.int .i64 1)) (.econs (.ite (.cmp .eq (.ar .rem .i64 (.var 0) (.int .i64 5)) (.int .i64 3)) (.int .i64 2) (.int .i64 3)) (.econs (.nil 57) .enil))))))))))))))) (.ret [(.int .i64 1), (.ar .rem .i64 (.var 0) (.int .i64 5)), (.bool false), (.ite (.cmp .gt (.ar .quo .i64 (.ar .sub .i64 (.var 0) (.int .i64 10)) (.int .i64 5)) (.int .i64 3)) (.ite (.cmp .eq (.ar .rem .i64 (.var 0) (.int .i64 5)) (.int .i64 0)) (.int .i64 2) (.ite (.cmp .eq (.ar .rem .i64 (.var 0) (.int .i64 5)) (.int .i64 0)) (.int .i64 1) (.int .i64 0))) (.ite (.cmp .eq (.ar .rem .i64 (.var 0) (.int .i64 5)) (.int .i64 0)) (.int .i64 1) (.int .i64 0))), (.ite (.cmp .gt (.ar .quo .i64 (.ar .sub .i64 (.var 0) (.int .i64 10)) (.int .i64 5)) (.int .i64 3)) (.ite (.cmp .eq (.ar .rem .i64 (.var 0) (.int .i64 5)) (.int .i64 1)) (.int .i64 2) (.ite (.cmp .eq (.ar .rem .i64 (.var 0) (.int .i64 5)) (.int .i64 1)) (.int .i64 1) (.int .i64 0))) (.ite (.cmp .eq (.ar .rem .i64 (.var 0) (.int .i64 5)) (.int .i64 1)) (.int .i64 1) (.int .i64 0))), (.ite (.cmp .gt (.ar .quo .i64 (.ar .sub .i64 (.var 0) (.int .i64 10)) (.int .i64 5)) (.int .i64 3)) (.ite (.cmp .eq (.ar .rem .i64 (.var 0) (.int .i64 5)) (.int .i64 2)) (.int .i64 2) (.ite (.cmp .eq (.ar .rem .i64 (.var 0) (.int .i64 5)) (.int .i64 2)) (.int .i64 1) (.int .i64 0))) (.ite (.cmp .eq (.ar .rem .i64 (.var 0) (.int .i64 5)) (.int .i64 2)) (.int .i64 1) (.int .i64 0))), (.ite (.cmp .gt (.ar .quo .i64 (.ar .sub .i64 (.var 0) (.int .i64 10)) (.int .i64 5)) (.int .i64 3)) (.ite (.cmp .eq (.ar .rem .i64 (.var 0) (.int .i64 5)) (.int .i64 3)) (.int .i64 2) (.ite (.cmp .eq (.ar .rem .i64 (.var 0) (.int .i64 5)) (.int .i64 3)) (.int .i64 1) (.int .i64 0))) (.ite (.cmp .eq (.ar .rem .i64 (.var 0) (.int .i64 5)) (.int .i64 3)) (.int .i64 1) (.int .i64 0))), (.ite (.cmp .gt (.ar .quo .i64 (.ar .sub .i64 (.var 0) (.int .i64 10)) (.int .i64 5)) (.int .i64 3)) (.ite (.cmp .eq (.ar .rem .i64 (.var 0) (.int .i64 5)) (.int .i64 4)) (.int .i64 2) (.ite (.cmp .eq (.ar .rem .i64 (.var 0) (.int .i64 5)) (.int .i64 4)) (.int .i64 1) (.int .i64 0))) (.ite (.cmp .eq (.ar .rem .i64 (.var 0) (.int .i64 5)) (.int .i64 4)) (.int .i64 1) (.int .i64 0))), (.ar .quo .i64 (.ar .sub .i64 (.var 0) (.int .i64 10)) (.int .i64 5)), (.ite (.cmp .eq (.ar .rem .i64 (.var 0) (.int .i64 5)) (.int .i64 3)) (.ar .add .i64 (.elem (.push (.push (.push (.push (.push (.push (.push (.push .emp (.econs (.int .i64 1) .enil)) (.econs (.int .i64 1) .enil)) (.econs (.int .i64 2) .enil)) (.econs (.int .i64 2) .enil)) (.econs (.int .i64 3) .enil)) (.econs (.int .i64 3) .enil)) (.econs (.int .i64 4) .enil)) (.econs (.int .i64 4) .enil)) (.ar .quo .i64 (.ar .sub .i64 (.var 0) (.int .i64 10)) (.int .i64 5)) 0 (.int .i64)) (.int .i64 1)) (.elem (.push (.push (.push (.push (.push (.push (.push (.push .emp (.econs (.int .i64 1) .enil)) (.econs (.int .i64 1) .enil)) (.econs (.int .i64 2) .enil)) (.econs (.int .i64 2) .enil)) (.econs (.int .i64 3) .enil)) (.econs (.int .i64 3) .enil)) (.econs (.int .i64 4) .enil)) (.econs (.int .i64 4) .enil)) (.ar .quo .i64 (.ar .sub .i64 (.var 0) (.int .i64 10)) (.int .i64 5)) 0 (.int .i64))), (.ite (.cmp .eq (.ar .rem .i64 (.var 0) (.int .i64 5)) (.int .i64 3)) (.elem (.push (.push (.push (.push (.push (.push (.push (.push .emp (.econs (.int .i64 1) .enil)) (.econs (.int .i64 2) .enil)) (.econs (.int .i64 2) .enil)) (.econs (.int .i64 3) .enil)) (.econs (.int .i64 3) .enil)) (.econs (.int .i64 4) .enil)) (.econs (.int .i64 4) .enil)) (.econs (.int .i64 5) .enil)) (.ar .quo .i64 (.ar .sub .i64 (.var 0) (.int .i64 10)) (.int .i64 5)) 0 (.int .i64)) (.ar .add .i64 (.elem (.push (.push (.push (.push (.push (.push (.push (.push .emp (.econs (.int .i64 1) .enil)) (.econs (.int .i64 2) .enil)) (.econs (.int .i64 2) .enil)) (.econs (.int .i64 3) .enil)) (.econs (.int .i64 3) .enil)) (.econs (.int .i64 4) .enil)) (.econs (.int .i64 4) .enil)) (.econs (.int .i64 5) .enil)) (.ar .quo .i64 (.ar .sub .i64 (.var 0) (.int .i64 10)) (.int .i64 5)) 0 (.int .i64)) (.int .i64 1))), (.elem (.push (.push (.push (.push (.push (.push (.push (.push .emp (.econs (.int .i64 1) .enil)) (.econs (.int .i64 2) .enil)) (.econs (.int .i64 4) .enil)) (.econs (.int .i64 8) .enil)) (.econs (.int .i64 16) .enil)) (.econs (.int .i64 32) .enil)) (.econs (.int .i64 64) .enil)) (.econs (.int .i64 128) .enil)) (.ar .quo .i64 (.ar .sub .i64 (.var 0) (.int .i64 10)) (.int .i64 5)) 0 (.int .i64)), (.var 1), (.bool true)])))))))
def tr_rcard_3 : Tree := (.ob (.cmp .ge (.ar .quo .i64 (.ar .sub .i64 (.var 0) (.int .i64 10)) (.int .i64 5)) (.int .i64 0)) (.ob (.cmp .lt (.ar .quo .i64 (.ar .sub .i64 (.var 0) (.int .i64 10)) (.int .i64 5)) (.int .i64 8)) tr_rcard_2))
def tr_rcard_4 : Tree := (.ob (.cmp .ge (.ar .quo .i64 (.ar .sub .i64 (.var 0) (.int .i64 10)) (.int .i64 5)) (.int .i64 0)) (.ob (.cmp .lt (.ar .quo .i64 (.ar .sub .i64 (.var 0) (.int .i64 10)) (.int .i64 5)) (.int .i64 8)) (.both (.both tr_rcard_2 tr_rcard_2) tr_rcard_2)))
def tr_rcard_5 : Tree := (.ob (.cmp .le (.len (.push (.push .emp (.econs (.var 2) (.econs (.var 3) (.econs (.var 4) (.econs (.var 5) (.econs (.var 6) (.econs (.var 7) (.econs (.var 8) (.econs (.var 9) (.econs (.var 10) (.econs (.var 11) (.econs (.var 12) (.econs (.var 13) (.econs (.var 14) (.econs (.var 15) .enil))))))))))))))) (.econs (.var 16) (.econs (.var 17) (.econs (.var 18) (.econs (.var 19) (.econs (.var 20) (.econs (.var 21) (.econs (.var 22) (.econs (.var 23) (.econs (.var 24) (.econs (.var 25) (.econs (.var 26) (.econs (.var 27) (.econs (.var 28) (.econs (.var 29) .enil)))))))))))))))) (.int .i64 1099511627776)) (.share 59 (.push (.push .emp (.econs (.var 2) (.econs (.var 3) (.econs (.var 4) (.econs (.var 5) (.econs (.var 6) (.econs (.var 7) (.econs (.var 8) (.econs (.var 9) (.econs (.var 10) (.econs (.var 11) (.econs (.var 12) (.econs (.var 13) (.econs (.var 14) (.econs (.var 15) .enil))))))))))))))) (.econs (.var 16) (.econs (.var 17) (.econs (.var 18) (.econs (.var 19) (.econs (.var 20) (.econs (.var 21) (.econs (.var 22) (.econs (.var 23) (.econs (.var 24) (.econs (.var 25) (.econs (.var 26) (.econs (.var 27) (.econs (.var 28) (.econs (.var 29) .enil))))))))))))))) (.ret [(.elem (.elem (.var 1) (.ar .sub .i64 (.var 0) (.int .i64 100)) 0 (.list 3)) (.int .i64 0) 0 (.int .i64)), (.int .i64 5), (.cmp .eq (.elem (.elem (.var 1) (.ar .sub .i64 (.var 0) (.int .i64 100)) 0 (.list 3)) (.int .i64 2) 0 (.int .i64)) (.int .i64 1)), (.int .i64 0), (.int .i64 0), (.int .i64 0), (.int .i64 0), (.int .i64 0), (.elem (.elem (.var 1) (.ar .sub .i64 (.var 0) (.int .i64 100)) 0 (.list 3)) (.int .i64 1) 0 (.int .i64)), (.elem (.elem (.var 1) (.ar .sub .i64 (.var 0) (.int .i64 100)) 0 (.list 3)) (.int .i64 3) 0 (.int .i64)), (.elem (.elem (.var 1) (.ar .sub .i64 (.var 0) (.int .i64 100)) 0 (.list 3)) (.int .i64 4) 0 (.int .i64)), (.elem (.elem (.var 1) (.ar .sub .i64 (.var 0) (.int .i64 100)) 0 (.list 3)) (.int .i64 5) 0 (.int .i64)), (.var 30), (.bool true)])))
def tr_rcard : Tree := (.ite (.or (.cmp .lt (.var 0) (.int .i64 0)) (.cmp .gt (.var 0) (.int .i64 119))) (.ret [(.int .i64 0), (.int .i64 0), (.bool false), (.int .i64 0), (.int .i64 0), (.int .i64 0), (.int .i64 0), (.int .i64 0), (.int .i64 0), (.int .i64 0), (.int .i64 0), (.int .i64 0), (.nil 59), (.bool false)]) (.ite (.cmp .lt (.var 0) (.int .i64 5)) (.call k_rgive [(.int .i64 1), (.var 0)] [(.int .i64), (.int .i64), (.int .i64), (.int .i64), (.int .i64), (.int .i64), (.int .i64), .bool, (.int .i64), (.int .i64), (.int .i64), (.int .i64), (.int .i64), (.list 57)] (.share 59 (.push .emp (.econs (.var 1) (.econs (.var 2) (.econs (.var 3) (.econs (.var 4) (.econs (.var 5) (.econs (.var 6) (.econs (.var 7) (.econs (.var 8) (.econs (.var 9) (.econs (.var 10) (.econs (.var 11) (.econs (.var 12) (.econs (.var 13) (.econs (.var 14) .enil))))))))))))))) (.ret [(.int .i64 0), (.var 0), (.bool false), (.int .i64 0), (.int .i64 0), (.int .i64 0), (.int .i64 0), (.int .i64 0), (.int .i64 0), (.int .i64 0), (.int .i64 0), (.int .i64 0), (.var 15), (.bool true)]))) (.ite (.cmp .lt (.var 0) (.int .i64 10)) (.ob (.cmp .ge (.ar .sub .i64 (.var 0) (.int .i64 5)) (.int .i64 0)) (.ob (.cmp .lt (.ar .sub .i64 (.var 0) (.int .i64 5)) (.int .i64 5)) (.call k_rgive [(.elem (.push (.push (.push (.push (.push .emp (.econs (.int .i64 1) .enil)) (.econs (.int .i64 1) .enil)) (.econs (.int .i64 2) .enil)) (.econs (.int .i64 2) .enil)) (.econs (.int .i64 3) .enil)) (.ar .sub .i64 (.var 0) (.int .i64 5)) 0 (.int .i64)), (.int .i64 5)] [(.int .i64), (.int .i64), (.int .i64), (.int .i64), (.int .i64), (.int .i64), (.int .i64), .bool, (.int .i64), (.int .i64), (.int .i64), (.int .i64), (.int .i64), (.list 57)] (.share 59 (.push (.push .emp (.econs (.int .i64 2) (.econs (.int .i64 0) (.econs (.int .i64 0) (.econs (.int .i64 0) (.econs (.int .i64 0) (.econs (.int .i64 0) (.econs (.int .i64 0) (.econs (.bool false) (.econs (.int .i64 0) (.econs (.int .i64 3) (.econs (.ar .sub .i64 (.var 0) (.int .i64 4)) (.econs (.int .i64 0) (.econs (.int .i64 0) (.econs (.nil 57) .enil))))))))))))))) (.econs (.var 1) (.econs (.var 2) (.econs (.var 3) (.econs (.var 4) (.econs (.var 5) (.econs (.var 6) (.econs (.var 7) (.econs (.var 8) (.econs (.var 9) (.econs (.var 10) (.econs (.var 11) (.econs (.var 12) (.econs (.var 13) (.econs (.var 14) .enil))))))))))))))) (.ret [(.int .i64 0), (.int .i64 5), (.bool false), (.int .i64 0), (.int .i64 0), (.int .i64 0), (.int .i64 0), (.int .i64 0), (.int .i64 0), (.int .i64 0), (.int .i64 0), (.int .i64 0), (.var 15), (.bool true)]))))) (.ite (.cmp .lt (.var 0) (.int .i64 50)) (.ob (.cmp .ge (.ar .rem .i64 (.var 0) (.int .i64 5)) (.int .i64 0)) (.ob (.cmp .lt (.ar .rem .i64 (.var 0) (.int .i64 5)) (.int .i64 6)) (.ob (.or (.not (.cmp .gt (.ar .quo .i64 (.ar .sub .i64 (.var 0) (.int .i64 10)) (.int .i64 5)) (.int .i64 3))) (.cmp .ge (.ar .rem .i64 (.var 0) (.int .i64 5)) (.int .i64 0))) (.ob (.or (.not (.cmp .gt (.ar .quo .i64 (.ar .sub .i64 (.var 0) (.int .i64 10)) (.int .i64 5)) (.int .i64 3))) (.cmp .lt (.ar .rem .i64 (.var 0) (.int .i64 5)) (.int .i64 6))) (.both (.ob (.cmp .ge (.ar .quo .i64 (.ar .sub .i64 (.var 0) (.int .i64 10)) (.int .i64 5)) (.int .i64 0)) (.ob (.cmp .lt (.ar .quo .i64 (.ar .sub .i64 (.var 0) (.int .i64 10)) (.int .i64 5)) (.int .i64 8)) (.both (.both (.ob (.cmp .ge (.ar .quo .i64 (.ar .sub .i64 (.var 0) (.int .i64 10)) (.int .i64 5)) (.int .i64 0)) (.ob (.cmp .lt (.ar .quo .i64 (.ar .sub .i64 (.var 0) (.int .i64 10)) (.int .i64 5)) (.int .i64 8)) (.both tr_rcard_2 tr_rcard_2))) tr_rcard_3) tr_rcard_4))) (.ob (.cmp .ge (.ar .quo .i64 (.ar .sub .i64 (.var 0) (.int .i64 10)) (.int .i64 5)) (.int .i64 0)) (.ob (.cmp .lt (.ar .quo .i64 (.ar .sub .i64 (.var 0) (.int .i64 10)) (.int .i64 5)) (.int .i64 8)) (.both tr_rcard_4 tr_rcard_3)))))))) (.ite (.cmp .lt (.var 0) (.int .i64 80)) (.call k_rmagic [] [(.list 23)] (.ob (.cmp .ge (.ar .sub .i64 (.var 0) (.int .i64 50)) (.int .i64 0)) (.ob (.cmp .lt (.ar .sub .i64 (.var 0) (.int .i64 50)) (.len (.var 1))) (.ob (.cmp .ge (.ar .rem .i64 (.var 0) (.int .i64 5)) (.int .i64 0)) (.ob (.cmp .lt (.ar .rem .i64 (.var 0) (.int .i64 5)) (.int .i64 6)) (.ob (.cmp .lt (.int .i64 0) (.len (.elem (.var 1) (.ar .sub .i64 (.var 0) (.int .i64 50)) 0 (.list 3)))) (.ob (.cmp .le (.int .i64 1) (.len (.elem (.var 1) (.ar .sub .i64 (.var 0) (.int .i64 50)) 0 (.list 3)))) (.call k_reffect [(.cut (.elem (.var 1) (.ar .sub .i64 (.var 0) (.int .i64 50)) 0 (.list 3)) (.int .i64 1) (.len (.elem (.var 1) (.ar .sub .i64 (.var 0) (.int .i64 50)) 0 (.list 3))))] [(.int .i64), (.int .i64), (.int .i64), (.int .i64), (.list 57)] (.share 59 (.push .emp (.econs (.int .i64 0) (.econs (.int .i64 0) (.econs (.int .i64 0) (.econs (.int .i64 0) (.econs (.int .i64 0) (.econs (.int .i64 0) (.econs (.int .i64 0) (.econs (.bool false) (.econs (.elem (.elem (.var 1) (.ar .sub .i64 (.var 0) (.int .i64 50)) 0 (.list 3)) (.int .i64 0) 0 (.int .i64)) (.econs (.var 2) (.econs (.var 3) (.econs (.var 4) (.econs (.var 5) (.econs (.var 6) .enil))))))))))))))) (.ret [(.int .i64 2), (.ar .rem .i64 (.var 0) (.int .i64 5)), (.cmp .eq (.ar .rem .i64 (.ar .quo .i64 (.ar .sub .i64 (.var 0) (.int .i64 50)) (.int .i64 5)) (.int .i64 2)) (.int .i64 0)), (.ite (.cmp .eq (.ar .rem .i64 (.var 0) (.int .i64 5)) (.int .i64 0)) (.int .i64 1) (.int .i64 0)), (.ite (.cmp .eq (.ar .rem .i64 (.var 0) (.int .i64 5)) (.int .i64 1)) (.int .i64 1) (.int .i64 0)), (.ite (.cmp .eq (.ar .rem .i64 (.var 0) (.int .i64 5)) (.int .i64 2)) (.int .i64 1) (.int .i64 0)), (.ite (.cmp .eq (.ar .rem .i64 (.var 0) (.int .i64 5)) (.int .i64 3)) (.int .i64 1) (.int .i64 0)), (.ite (.cmp .eq (.ar .rem .i64 (.var 0) (.int .i64 5)) (.int .i64 4)) (.int .i64 1) (.int .i64 0)), (.ar .quo .i64 (.ar .sub .i64 (.var 0) (.int .i64 50)) (.int .i64 5)), (.int .i64 0), (.int .i64 0), (.int .i64 0), (.var 7), (.bool true)])))))))))) (.ite (.cmp .lt (.var 0) (.int .i64 100)) (.ob (.cmp .ge (.ar .rem .i64 (.var 0) (.int .i64 5)) (.int .i64 0)) (.ob (.cmp .lt (.ar .rem .i64 (.var 0) (.int .i64 5)) (.int .i64 6)) (.call k_rrelic [] [(.list 23)] (.ob (.cmp .ge (.ar .sub .i64 (.var 0) (.int .i64 80)) (.int .i64 0)) (.ob (.cmp .lt (.ar .sub .i64 (.var 0) (.int .i64 80)) (.len (.var 1))) (.call k_rability [(.elem (.var 1) (.ar .sub .i64 (.var 0) (.int .i64 80)) 0 (.list 3))] [(.int .i64), (.int .i64), (.int .i64), (.int .i64), (.int .i64), (.int .i64), (.int .i64), .bool, (.int .i64), (.int .i64), (.int .i64), (.int .i64), (.int .i64), (.list 57)] (.share 59 (.push .emp (.econs (.var 2) (.econs (.var 3) (.econs (.var 4) (.econs (.var 5) (.econs (.var 6) (.econs (.var 7) (.econs (.var 8) (.econs (.var 9) (.econs (.var 10) (.econs (.var 11) (.econs (.var 12) (.econs (.var 13) (.econs (.var 14) (.econs (.var 15) .enil))))))))))))))) (.ret [(.int .i64 3), (.ar .rem .i64 (.var 0) (.int .i64 5)), (.bool false), (.ite (.cmp .eq (.ar .rem .i64 (.var 0) (.int .i64 5)) (.int .i64 0)) (.int .i64 1) (.int .i64 0)), (.ite (.cmp .eq (.ar .rem .i64 (.var 0) (.int .i64 5)) (.int .i64 1)) (.int .i64 1) (.int .i64 0)), (.ite (.cmp .eq (.ar .rem .i64 (.var 0) (.int .i64 5)) (.int .i64 2)) (.int .i64 1) (.int .i64 0)), (.ite (.cmp .eq (.ar .rem .i64 (.var 0) (.int .i64 5)) (.int .i64 3)) (.int .i64 1) (.int .i64 0)), (.ite (.cmp .eq (.ar .rem .i64 (.var 0) (.int .i64 5)) (.int .i64 4)) (.int .i64 1) (.int .i64 0)), (.ar .add .i64 (.ar .quo .i64 (.ar .sub .i64 (.var 0) (.int .i64 80)) (.int .i64 5)) (.int .i64 1)), (.int .i64 0), (.int .i64 0), (.int .i64 0), (.var 16), (.bool true)])))))))) (.ite (.cmp .lt (.var 0) (.int .i64 112)) (.call k_rspecial [] [(.list 23)] (.ob (.cmp .ge (.ar .sub .i64 (.var 0) (.int .i64 100)) (.int .i64 0)) (.ob (.cmp .lt (.ar .sub .i64 (.var 0) (.int .i64 100)) (.len (.var 1))) (.ob (.cmp .lt (.int .i64 0) (.len (.elem (.var 1) (.ar .sub .i64 (.var 0) (.int .i64 100)) 0 (.list 3)))) (.ob (.cmp .lt (.int .i64 2) (.len (.elem (.var 1) (.ar .sub .i64 (.var 0) (.int .i64 100)) 0 (.list 3)))) (.ob (.cmp .lt (.int .i64 3) (.len (.elem (.var 1) (.ar .sub .i64 (.var 0) (.int .i64 100)) 0 (.list 3)))) (.ob (.cmp .lt (.int .i64 4) (.len (.elem (.var 1) (.ar .sub .i64 (.var 0) (.int .i64 100)) 0 (.list 3)))) (.ob (.cmp .lt (.int .i64 5) (.len (.elem (.var 1) (.ar .sub .i64 (.var 0) (.int .i64 100)) 0 (.list 3)))) (.ob (.cmp .lt (.int .i64 1) (.len (.elem (.var 1) (.ar .sub .i64 (.var 0) (.int .i64 100)) 0 (.list 3)))) (.ob (.cmp .le (.int .i64 6) (.len (.elem (.var 1) (.ar .sub .i64 (.var 0) (.int .i64 100)) 0 (.list 3)))) (.call k_rability [(.cut (.elem (.var 1) (.ar .sub .i64 (.var 0) (.int .i64 100)) 0 (.list 3)) (.int .i64 6) (.len (.elem (.var 1) (.ar .sub .i64 (.var 0) (.int .i64 100)) 0 (.list 3))))] [(.int .i64), (.int .i64), (.int .i64), (.int .i64), (.int .i64), (.int .i64), (.int .i64), .bool, (.int .i64), (.int .i64), (.int .i64), (.int .i64), (.int .i64), (.list 57)] (.ite (.cmp .eq (.var 0) (.int .i64 108)) (.both (.call k_rgive [(.int .i64 2), (.int .i64 5)] [(.int .i64), (.int .i64), (.int .i64), (.int .i64), (.int .i64), (.int .i64), (.int .i64), .bool, (.int .i64), (.int .i64), (.int .i64), (.int .i64), (.int .i64), (.list 57)] tr_rcard_5) (.call k_rgive [(.int .i64 2), (.int .i64 5)] [(.int .i64), (.int .i64), (.int .i64), (.int .i64), (.int .i64), (.int .i64), (.int .i64), .bool, (.int .i64), (.int .i64), (.int .i64), (.int .i64), (.int .i64), (.list 57)] (.both tr_rcard_5 tr_rcard_5))) (.share 59 (.push .emp (.econs (.var 2) (.econs (.var 3) (.econs (.var 4) (.econs (.var 5) (.econs (.var 6) (.econs (.var 7) (.econs (.var 8) (.econs (.var 9) (.econs (.var 10) (.econs (.var 11) (.econs (.var 12) (.econs (.var 13) (.econs (.var 14) (.econs (.var 15) .enil))))))))))))))) (.ret [(.elem (.elem (.var 1) (.ar .sub .i64 (.var 0) (.int .i64 100)) 0 (.list 3)) (.int .i64 0) 0 (.int .i64)), (.int .i64 5), (.cmp .eq (.elem (.elem (.var 1) (.ar .sub .i64 (.var 0) (.int .i64 100)) 0 (.list 3)) (.int .i64 2) 0 (.int .i64)) (.int .i64 1)), (.int .i64 0), (.int .i64 0), (.int .i64 0), (.int .i64 0), (.int .i64 0), (.elem (.elem (.var 1) (.ar .sub .i64 (.var 0) (.int .i64 100)) 0 (.list 3)) (.int .i64 1) 0 (.int .i64)), (.elem (.elem (.var 1) (.ar .sub .i64 (.var 0) (.int .i64 100)) 0 (.list 3)) (.int .i64 3) 0 (.int .i64)), (.elem (.elem (.var 1) (.ar .sub .i64 (.var 0) (.int .i64 100)) 0 (.list 3)) (.int .i64 4) 0 (.int .i64)), (.elem (.elem (.var 1) (.ar .sub .i64 (.var 0) (.int .i64 100)) 0 (.list 3)) (.int .i64 5) 0 (.int .i64)), (.var 16), (.bool true)])))))))))))))) (.ob (.cmp .ge (.ar .sub .i64 (.var 0) (.int .i64 112)) (.int .i64 0)) (.ob (.cmp .lt (.ar .sub .i64 (.var 0) (.int .i64 112)) (.int .i64 8)) (.ret [(.int .i64 1), (.int .i64 5), (.bool false), (.int .i64 0), (.int .i64 0), (.int .i64 0), (.int .i64 0), (.int .i64 0), (.int .i64 0), (.elem (.push (.push (.push (.push (.push (.push (.push (.push .emp (.econs (.int .i64 1) .enil)) (.econs (.int .i64 1) .enil)) (.econs (.int .i64 2) .enil)) (.econs (.int .i64 2) .enil)) (.econs (.int .i64 3) .enil)) (.econs (.int .i64 3) .enil)) (.econs (.int .i64 4) .enil)) (.econs (.int .i64 4) .enil)) (.ar .sub .i64 (.var 0) (.int .i64 112)) 0 (.int .i64)), (.elem (.push (.push (.push (.push (.push (.push (.push (.push .emp (.econs (.int .i64 1) .enil)) (.econs (.int .i64 1) .enil)) (.econs (.int .i64 2) .enil)) (.econs (.int .i64 2) .enil)) (.econs (.int .i64 3) .enil)) (.econs (.int .i64 3) .enil)) (.econs (.int .i64 4) .enil)) (.econs (.int .i64 4) .enil)) (.ar .sub .i64 (.var 0) (.int .i64 112)) 0 (.int .i64)), (.ar .rem .i64 (.var 0) (.int .i64 2)), (.nil 59), (.bool true)]))))))))))
theorem wk_rcard : walk E0.cx (sgsN [(65, sg_rmagic), (68, sg_rrelic), (69, sg_rspecial), (66, sg_reffect), (67, sg_rability), (64, sg_rgive)]) 0 29 sg_rcard = tr_rcard := by kernel_rfl
theorem bo_rcard : ∃ x, bodyOf E0.P 29 = some x := bo_of (by kernel_rfl)
theorem sp_rcard_rmagic : specC [con_rmagic, con_rrelic, con_rspecial, con_reffect, con_rability, con_rgive] k_rmagic = rmagic_s := rfl
theorem sp_rcard_rrelic : specC [con_rmagic, con_rrelic, con_rspecial, con_reffect, con_rability, con_rgive] k_rrelic = rrelic_s := rfl
theorem sp_rcard_rspecial : specC [con_rmagic, con_rrelic, con_rspecial, con_reffect, con_rability, con_rgive] k_rspecial = rspecial_s := rfl
theorem sp_rcard_reffect : specC [con_rmagic, con_rrelic, con_rspecial, con_reffect, con_rability, con_rgive] k_reffect = reffect_s := rfl
theorem sp_rcard_rability : specC [con_rmagic, con_rrelic, con_rspecial, con_reffect, con_rability, con_rgive] k_rability = rability_s := rfl
theorem sp_rcard_rgive : specC [con_rmagic, con_rrelic, con_rspecial, con_reffect, con_rability, con_rgive] k_rgive = rgive_s := rfl
noncomputable def rcard_g : List PD → Option (List PD) := fun ps => evL E0.Δ (pfun [(k_rmagic, rmagic_g), (k_rrelic, rrelic_g), (k_rspecial, rspecial_g), (k_reffect, reffect_g), (k_rability, rability_g), (k_rgive, rgive_g)]) 0 [] tr_rcard ps
def rcard_s : Spec := psp rcard_g
theorem rcard_h : Holds E0 k_rcard sg_rcard rcard_s := con_ev wf0 mix0 g0 [con_rmagic, con_rrelic, con_rspecial, con_reffect, con_rability, con_rgive] rfl wk_rcard rfl (fits_cons (k := k_rmagic) (g := rmagic_g) sp_rcard_rmagic (fits_cons (k := k_rrelic) (g := rrelic_g) sp_rcard_rrelic (fits_cons (k := k_rspecial) (g := rspecial_g) sp_rcard_rspecial (fits_cons (k := k_reffect) (g := reffect_g) sp_rcard_reffect (fits_cons (k := k_rability) (g := rability_g) sp_rcard_rability (fits_cons (k := k_rgive) (g := rgive_g) sp_rcard_rgive (fits_nil))))))) 0
noncomputable def con_rcard : Con E0 := ⟨k_rcard, sg_rcard, rcard_s, rfl, bo_rcard, rcard_h⟩
noncomputable def rchk (n : Nat) : Bool := match rcard_g [.int n] with
  | some l => sameR l (cardP n ++ [.bool true])
  | none => false
theorem rchk_all : (List.range 120).all rchk = true := by kernel_rfl
theorem rcard_in {n : Int} (h0 : 0 ≤ n) (h1 : n < 120) : rcard_g [.int n] = some (cardP n ++ [.bool true]) := by
  obtain ⟨k, rfl⟩ := Int.eq_ofNat_of_zero_le h0
  have h := List.all_eq_true.1 rchk_all k (List.mem_range.2 (by omega))
  unfold rchk at h
  split at h
  · rename_i l hl
    rw [hl, sameR_ok h]
  · cases h
end Go.Proofs.YtelfhmeobfimiaaDoor
end
