/- printed by a program of ours: the machine's code of the functions that this seat's laws reach; no statement is proved here -/
import Derived.Test.YtoipeoafcjjaeaaDamA
namespace Go.Dam.S
open Go Go.Dam

-- (*fingerpost/grove.Grove).Leaf
def f84r0 : List AOper := [
  ⟨(some 4), .alloc 62, none⟩,
  ⟨(some 5), .move (.c (.int .i64 0)), none⟩]
def f84r1 : List AOper := [
  ⟨(some 7), .move (.t 0), none⟩,
  ⟨(some 8), .eqv false .ptr (.t 7) (.c .nilp), none⟩,
  ⟨(some 6), .move (.t 8), none⟩]
def f84r2 : List AOper := [
  ⟨(some 9), .build 62 [], none⟩,
  ⟨none, .store 62 (.agg 62) (.t 4) (.t 9), none⟩,
  ⟨(some 5), .move (.c (.int .i64 2)), none⟩]
def f84r3 : List AOper := [
  ⟨(some 11), .move (.t 1), none⟩,
  ⟨(some 12), .bin .lss (.t 11) (.c (.int .i64 0)), none⟩,
  ⟨(some 13), .move (.t 12), none⟩,
  ⟨(some 14), .move (.t 1), some ((some 13), false)⟩,
  ⟨(some 15), .move (.t 0), some ((some 13), false)⟩,
  ⟨(some 16), .nilCheck (.t 15), some ((some 13), false)⟩,
  ⟨(some 17), .fieldAddr 176 2 175 (.t 16), some ((some 13), false)⟩,
  ⟨(some 18), .load 175 (.t 17), some ((some 13), false)⟩,
  ⟨(some 19), .idxS 57 (.t 18) (.c (.int .i64 0)), some ((some 13), false)⟩,
  ⟨(some 20), .load 57 (.t 19), some ((some 13), false)⟩,
  ⟨(some 21), .lenS (.t 20), some ((some 13), false)⟩,
  ⟨(some 22), .bin .geq (.t 14) (.t 21), some ((some 13), false)⟩,
  ⟨(some 23), .pick (.t 13) (.c (.bool true)) (.t 22), none⟩,
  ⟨(some 10), .move (.t 23), none⟩]
def f84r4 : List AOper := [
  ⟨(some 24), .build 62 [], none⟩,
  ⟨none, .store 62 (.agg 62) (.t 4) (.t 24), none⟩,
  ⟨(some 5), .move (.c (.int .i64 1)), none⟩]
def f84r5 : List AOper := [
  ⟨(some 25), .move (.t 0), none⟩,
  ⟨(some 26), .nilCheck (.t 25), none⟩,
  ⟨(some 27), .fieldAddr 176 2 175 (.t 26), none⟩,
  ⟨(some 28), .load 175 (.t 27), none⟩,
  ⟨(some 29), .idxS 57 (.t 28) (.c (.int .i64 0)), none⟩,
  ⟨(some 30), .load 57 (.t 29), none⟩,
  ⟨(some 31), .move (.t 1), none⟩,
  ⟨(some 32), .idxS 62 (.t 30) (.t 31), none⟩,
  ⟨(some 33), .load 62 (.t 32), none⟩,
  ⟨none, .store 62 (.agg 62) (.t 4) (.t 33), none⟩,
  ⟨(some 5), .move (.c (.int .i64 0)), none⟩]
def f84 : AFunc := ⟨[.cell 4 62, .tmp 5], (.seq (.reg f84r0) (.seq (.block 0 (.seq (.reg f84r1) (.cond (.t 6) (.seq (.reg f84r2) .ret) (.seq (.reg f84r3) (.cond (.t 10) (.seq (.reg f84r4) .ret) .skip))))) (.seq (.reg f84r5) .ret)))⟩

-- (*fingerpost/toll.Toll).Tick
def f85r0 : List AOper := [
  ⟨(some 4), .move (.c (.int .i64 0)), none⟩]
def f85r1 : List AOper := [
  ⟨(some 6), .move (.t 0), none⟩,
  ⟨(some 7), .eqv false .ptr (.t 6) (.c .nilp), none⟩,
  ⟨(some 5), .move (.t 7), none⟩]
def f85r2 : List AOper := [
  ⟨(some 4), .move (.c (.int .i64 2)), none⟩]
def f85r3 : List AOper := [
  ⟨(some 9), .move (.t 1), none⟩,
  ⟨(some 10), .bin .lss (.t 9) (.c (.int .i64 0)), none⟩,
  ⟨(some 8), .move (.t 10), none⟩]
def f85r4 : List AOper := [
  ⟨(some 4), .move (.c (.int .i64 1)), none⟩]
def f85r5 : List (AOper × List Nat) := [
  (⟨(some 11), .move (.t 0), none⟩, []),
  (⟨(some 12), .move (.t 0), none⟩, []),
  (⟨(some 13), .nilCheck (.t 12), none⟩, []),
  (⟨(some 14), .fieldAddr 182 1 3 (.t 13), none⟩, []),
  (⟨(some 15), .load 3 (.t 14), none⟩, []),
  (⟨(some 16), .move (.t 0), none⟩, []),
  (⟨(some 17), .nilCheck (.t 16), none⟩, []),
  (⟨(some 18), .fieldAddr 182 0 73 (.t 17), none⟩, []),
  (⟨(some 19), .fieldAddr 73 1 3 (.t 18), none⟩, []),
  (⟨(some 20), .load 3 (.t 19), none⟩, []),
  (⟨(some 21), .move (.t 0), none⟩, []),
  (⟨(some 22), .nilCheck (.t 21), none⟩, []),
  (⟨(some 23), .fieldAddr 182 0 73 (.t 22), none⟩, []),
  (⟨(some 24), .fieldAddr 73 0 3 (.t 23), none⟩, []),
  (⟨(some 25), .load 3 (.t 24), none⟩, []),
  (⟨(some 26), .move (.t 1), none⟩, []),
  (⟨(some 27), .call 137 [(.t 15), (.t 20), (.t 25), (.t 26)], none⟩, []),
  (⟨(some 28), .nilCheck (.t 11), none⟩, []),
  (⟨(some 29), .fieldAddr 182 1 3 (.t 28), none⟩, []),
  (⟨none, .store 3 (.int .i64) (.t 29) (.t 27), none⟩, [])]
def f85r6 : List (AOper × List Nat) := [
  (⟨(some 30), .move (.t 0), none⟩, []),
  (⟨(some 31), .move (.t 0), none⟩, []),
  (⟨(some 32), .nilCheck (.t 31), none⟩, []),
  (⟨(some 33), .fieldAddr 182 2 3 (.t 32), none⟩, []),
  (⟨(some 34), .load 3 (.t 33), none⟩, []),
  (⟨(some 35), .move (.t 0), none⟩, []),
  (⟨(some 36), .nilCheck (.t 35), none⟩, []),
  (⟨(some 37), .fieldAddr 182 0 73 (.t 36), none⟩, []),
  (⟨(some 38), .fieldAddr 73 3 3 (.t 37), none⟩, []),
  (⟨(some 39), .load 3 (.t 38), none⟩, []),
  (⟨(some 40), .move (.t 0), none⟩, []),
  (⟨(some 41), .nilCheck (.t 40), none⟩, []),
  (⟨(some 42), .fieldAddr 182 0 73 (.t 41), none⟩, []),
  (⟨(some 43), .fieldAddr 73 2 3 (.t 42), none⟩, []),
  (⟨(some 44), .load 3 (.t 43), none⟩, []),
  (⟨(some 45), .move (.t 1), none⟩, []),
  (⟨(some 46), .call 137 [(.t 34), (.t 39), (.t 44), (.t 45)], none⟩, []),
  (⟨(some 47), .nilCheck (.t 30), none⟩, []),
  (⟨(some 48), .fieldAddr 182 2 3 (.t 47), none⟩, []),
  (⟨none, .store 3 (.int .i64) (.t 48) (.t 46), none⟩, [])]
def f85r7 : List AOper := [
  ⟨(some 4), .move (.c (.int .i64 0)), none⟩]
def f85 : AFunc := ⟨[.tmp 4], (.seq (.reg f85r0) (.seq (.block 0 (.seq (.reg f85r1) (.cond (.t 5) (.seq (.reg f85r2) .ret) (.seq (.reg f85r3) (.cond (.t 8) (.seq (.reg f85r4) .ret) .skip))))) (.seq (.draw f85r5) (.seq (.draw f85r6) (.seq (.reg f85r7) .ret)))))⟩

-- (*fingerpost/toll.Toll).Hold
def f86r0 : List AOper := [
  ⟨(some 4), .move (.c (.int .i64 0)), none⟩]
def f86r1 : List AOper := [
  ⟨(some 6), .move (.t 0), none⟩,
  ⟨(some 7), .eqv false .ptr (.t 6) (.c .nilp), none⟩,
  ⟨(some 5), .move (.t 7), none⟩]
def f86r2 : List AOper := [
  ⟨(some 4), .move (.c (.int .i64 2)), none⟩]
def f86r3 : List AOper := [
  ⟨(some 9), .move (.t 1), none⟩,
  ⟨(some 10), .bin .lss (.t 9) (.c (.int .i64 0)), none⟩,
  ⟨(some 8), .move (.t 10), none⟩]
def f86r4 : List AOper := [
  ⟨(some 4), .move (.c (.int .i64 1)), none⟩]
def f86r5 : List AOper := [
  ⟨(some 12), .move (.t 0), none⟩,
  ⟨(some 13), .nilCheck (.t 12), none⟩,
  ⟨(some 14), .fieldAddr 182 2 3 (.t 13), none⟩,
  ⟨(some 15), .load 3 (.t 14), none⟩,
  ⟨(some 16), .move (.t 1), none⟩,
  ⟨(some 17), .bin .lss (.t 15) (.t 16), none⟩,
  ⟨(some 11), .move (.t 17), none⟩]
def f86r6 : List AOper := [
  ⟨(some 4), .move (.c (.int .i64 26)), none⟩]
def f86r7 : List AOper := [
  ⟨(some 18), .move (.t 0), none⟩,
  ⟨(some 19), .nilCheck (.t 18), none⟩,
  ⟨(some 20), .fieldAddr 182 2 3 (.t 19), none⟩,
  ⟨(some 21), .load 3 (.t 20), none⟩,
  ⟨(some 22), .move (.t 1), none⟩,
  ⟨(some 23), .bin .sub (.t 21) (.t 22), none⟩,
  ⟨(some 24), .nilCheck (.t 18), none⟩,
  ⟨(some 25), .fieldAddr 182 2 3 (.t 24), none⟩,
  ⟨none, .store 3 (.int .i64) (.t 25) (.t 23), none⟩]
def f86r8 : List AOper := [
  ⟨(some 26), .move (.t 0), none⟩,
  ⟨(some 27), .nilCheck (.t 26), none⟩,
  ⟨(some 28), .fieldAddr 182 3 3 (.t 27), none⟩,
  ⟨(some 29), .load 3 (.t 28), none⟩,
  ⟨(some 30), .move (.t 1), none⟩,
  ⟨(some 31), .bin .add (.t 29) (.t 30), none⟩,
  ⟨(some 32), .nilCheck (.t 26), none⟩,
  ⟨(some 33), .fieldAddr 182 3 3 (.t 32), none⟩,
  ⟨none, .store 3 (.int .i64) (.t 33) (.t 31), none⟩]
def f86r9 : List AOper := [
  ⟨(some 4), .move (.c (.int .i64 0)), none⟩]
def f86 : AFunc := ⟨[.tmp 4], (.seq (.reg f86r0) (.seq (.block 0 (.seq (.reg f86r1) (.cond (.t 5) (.seq (.reg f86r2) .ret) (.seq (.reg f86r3) (.cond (.t 8) (.seq (.reg f86r4) .ret) (.seq (.reg f86r5) (.cond (.t 11) (.seq (.reg f86r6) .ret) .skip))))))) (.seq (.reg f86r7) (.seq (.reg f86r8) (.seq (.reg f86r9) .ret)))))⟩

-- (*fingerpost/toll.Toll).Settle
def f87r0 : List AOper := [
  ⟨(some 4), .move (.c (.int .i64 0)), none⟩]
def f87r1 : List AOper := [
  ⟨(some 6), .move (.t 0), none⟩,
  ⟨(some 7), .eqv false .ptr (.t 6) (.c .nilp), none⟩,
  ⟨(some 5), .move (.t 7), none⟩]
def f87r2 : List AOper := [
  ⟨(some 4), .move (.c (.int .i64 2)), none⟩]
def f87r3 : List AOper := [
  ⟨(some 9), .move (.t 1), none⟩,
  ⟨(some 10), .bin .lss (.t 9) (.c (.int .i64 0)), none⟩,
  ⟨(some 11), .move (.t 10), none⟩,
  ⟨(some 12), .move (.t 1), some ((some 11), false)⟩,
  ⟨(some 13), .move (.t 0), some ((some 11), false)⟩,
  ⟨(some 14), .nilCheck (.t 13), some ((some 11), false)⟩,
  ⟨(some 15), .fieldAddr 182 3 3 (.t 14), some ((some 11), false)⟩,
  ⟨(some 16), .load 3 (.t 15), some ((some 11), false)⟩,
  ⟨(some 17), .bin .gtr (.t 12) (.t 16), some ((some 11), false)⟩,
  ⟨(some 18), .pick (.t 11) (.c (.bool true)) (.t 17), none⟩,
  ⟨(some 8), .move (.t 18), none⟩]
def f87r4 : List AOper := [
  ⟨(some 4), .move (.c (.int .i64 1)), none⟩]
def f87r5 : List (AOper × List Nat) := [
  (⟨(some 19), .move (.t 0), none⟩, []),
  (⟨(some 20), .move (.t 0), none⟩, []),
  (⟨(some 21), .nilCheck (.t 20), none⟩, []),
  (⟨(some 22), .fieldAddr 182 0 73 (.t 21), none⟩, []),
  (⟨(some 23), .fieldAddr 73 2 3 (.t 22), none⟩, []),
  (⟨(some 24), .load 3 (.t 23), none⟩, []),
  (⟨(some 25), .move (.t 0), none⟩, []),
  (⟨(some 26), .nilCheck (.t 25), none⟩, []),
  (⟨(some 27), .fieldAddr 182 2 3 (.t 26), none⟩, []),
  (⟨(some 28), .load 3 (.t 27), none⟩, []),
  (⟨(some 29), .move (.t 0), none⟩, []),
  (⟨(some 30), .nilCheck (.t 29), none⟩, []),
  (⟨(some 31), .fieldAddr 182 3 3 (.t 30), none⟩, []),
  (⟨(some 32), .load 3 (.t 31), none⟩, []),
  (⟨(some 33), .bin .add (.t 28) (.t 32), none⟩, []),
  (⟨(some 34), .move (.t 1), none⟩, []),
  (⟨(some 35), .bin .sub (.t 33) (.t 34), none⟩, []),
  (⟨(some 36), .minmax false (.t 24) (.t 35), none⟩, []),
  (⟨(some 37), .nilCheck (.t 19), none⟩, []),
  (⟨(some 38), .fieldAddr 182 2 3 (.t 37), none⟩, []),
  (⟨none, .store 3 (.int .i64) (.t 38) (.t 36), none⟩, [])]
def f87r6 : List AOper := [
  ⟨(some 39), .move (.t 0), none⟩,
  ⟨(some 40), .nilCheck (.t 39), none⟩,
  ⟨(some 41), .fieldAddr 182 3 3 (.t 40), none⟩,
  ⟨none, .store 3 (.int .i64) (.t 41) (.c (.int .i64 0)), none⟩]
def f87r7 : List AOper := [
  ⟨(some 4), .move (.c (.int .i64 0)), none⟩]
def f87 : AFunc := ⟨[.tmp 4], (.seq (.reg f87r0) (.seq (.block 0 (.seq (.reg f87r1) (.cond (.t 5) (.seq (.reg f87r2) .ret) (.seq (.reg f87r3) (.cond (.t 8) (.seq (.reg f87r4) .ret) .skip))))) (.seq (.draw f87r5) (.seq (.reg f87r6) (.seq (.reg f87r7) .ret)))))⟩

-- slices.IndexFunc[[]fingerpost/piece.Piece,fingerpost/piece.Piece]
def f88r0 : List AOper := [
  ⟨(some 4), .move (.c (.int .i64 0)), none⟩]
def f88r1 : List AOper := [
  ⟨(some 6), .move (.t 0), none⟩,
  ⟨(some 7), .lenS (.t 6), none⟩,
  ⟨(some 8), .move (.c (.int .i64 0)), none⟩]
def f88r2 : List AOper := [
  ⟨(some 9), .bin .lss (.t 8) (.t 7), none⟩]
def f88r3 : List AOper := [
  ⟨(some 10), .move (.t 8), none⟩,
  ⟨(some 5), .move (.t 10), none⟩]
def f88r4 : List AOper := [
  ⟨(some 11), .move (.t 1), none⟩,
  ⟨(some 12), .move (.t 0), none⟩,
  ⟨(some 13), .move (.t 5), none⟩,
  ⟨(some 14), .idxS 91 (.t 12) (.t 13), none⟩,
  ⟨(some 15), .load 91 (.t 14), none⟩,
  ⟨(some 16), .callv (.t 11) [(.t 15)], none⟩]
def f88r5 : List AOper := [
  ⟨(some 17), .move (.t 5), none⟩,
  ⟨(some 4), .move (.t 17), none⟩]
def f88r6 : List AOper := [
  ⟨(some 18), .bin .add (.t 8) (.c (.int .i64 1)), none⟩,
  ⟨(some 8), .move (.t 18), none⟩]
def f88r7 : List AOper := [
  ⟨(some 4), .move (.c (.int .i64 (-1))), none⟩]
def f88 : AFunc := ⟨[.tmp 4], (.seq (.reg f88r0) (.seq (.seq (.reg f88r1) (.block 0 (.loop (.seq (.reg f88r2) (.seq (.cond (.t 9) .skip (.exit 0)) (.seq (.block 1 (.seq (.reg f88r3) (.seq (.reg f88r4) (.cond (.t 16) (.seq (.reg f88r5) .ret) .skip)))) (.reg f88r6))))))) (.seq (.reg f88r7) .ret)))⟩

-- fingerpost/piece.right
def f89r0 : List AOper := [
  ⟨(some 1), .box 91 (.agg 91) (.t 0), none⟩,
  ⟨(some 2), .move (.c (.bool false)), none⟩]
def f89r1 : List AOper := [
  ⟨(some 3), .fieldAddr 91 2 3 (.t 1), none⟩,
  ⟨(some 4), .load 3 (.t 3), none⟩,
  ⟨(some 5), .bin .geq (.t 4) (.c (.int .i64 1)), none⟩,
  ⟨(some 6), .move (.t 5), none⟩,
  ⟨(some 7), .fieldAddr 91 2 3 (.t 1), some ((some 6), true)⟩,
  ⟨(some 8), .load 3 (.t 7), some ((some 6), true)⟩,
  ⟨(some 9), .bin .leq (.t 8) (.c (.int .i64 32)), some ((some 6), true)⟩,
  ⟨(some 10), .pick (.t 6) (.t 9) (.c (.bool false)), none⟩,
  ⟨(some 11), .move (.t 10), none⟩,
  ⟨(some 12), .fieldAddr 91 1 3 (.t 1), some ((some 11), true)⟩,
  ⟨(some 13), .load 3 (.t 12), some ((some 11), true)⟩,
  ⟨(some 14), .bin .geq (.t 13) (.c (.int .i64 0)), some ((some 11), true)⟩,
  ⟨(some 15), .pick (.t 11) (.t 14) (.c (.bool false)), none⟩,
  ⟨(some 16), .move (.t 15), none⟩,
  ⟨(some 17), .fieldAddr 91 1 3 (.t 1), some ((some 16), true)⟩,
  ⟨(some 18), .load 3 (.t 17), some ((some 16), true)⟩,
  ⟨(some 19), .fieldAddr 91 2 3 (.t 1), some ((some 16), true)⟩,
  ⟨(some 20), .load 3 (.t 19), some ((some 16), true)⟩,
  ⟨(some 21), .bin .lss (.t 18) (.t 20), some ((some 16), true)⟩,
  ⟨(some 22), .pick (.t 16) (.t 21) (.c (.bool false)), none⟩,
  ⟨(some 23), .move (.t 22), none⟩,
  ⟨(some 24), .fieldAddr 91 3 39 (.t 1), some ((some 23), true)⟩,
  ⟨(some 25), .load 39 (.t 24), some ((some 23), true)⟩,
  ⟨(some 26), .lenS (.t 25), some ((some 23), true)⟩,
  ⟨(some 27), .bin .leq (.t 26) (.c (.int .i64 4096)), some ((some 23), true)⟩,
  ⟨(some 28), .pick (.t 23) (.t 27) (.c (.bool false)), none⟩,
  ⟨(some 2), .move (.t 28), none⟩]
def f89 : AFunc := ⟨[.tmp 2], (.seq (.reg f89r0) (.seq (.reg f89r1) .ret))⟩

-- (*fingerpost/piece.Joiner).begin
def f90r0 : List AOper := [
  ⟨(some 3), .box 91 (.agg 91) (.t 1), none⟩]
def f90r1 : List (AOper × List Nat) := [
  (⟨(some 4), .move (.t 0), none⟩, []),
  (⟨(some 5), .fieldAddr 91 0 23 (.t 3), none⟩, []),
  (⟨(some 6), .load 23 (.t 5), none⟩, []),
  (⟨(some 7), .fieldAddr 91 2 3 (.t 3), none⟩, []),
  (⟨(some 8), .load 3 (.t 7), none⟩, []),
  (⟨(some 9), .fieldAddr 91 2 3 (.t 3), none⟩, []),
  (⟨(some 10), .load 3 (.t 9), none⟩, []),
  (⟨(some 11), .mkSlice 39 703687441776 (.t 10) (.t 10), none⟩, []),
  (⟨(some 12), .fieldAddr 91 2 3 (.t 3), none⟩, []),
  (⟨(some 13), .load 3 (.t 12), none⟩, []),
  (⟨(some 14), .mkSlice 4 8796093022208 (.t 13) (.t 13), none⟩, []),
  (⟨(some 15), .build 185 [(0, (.t 6)), (1, (.t 8)), (4, (.t 11)), (5, (.t 14)), (6, (.c (.bool true)))], none⟩, []),
  (⟨(some 16), .nilCheck (.t 4), none⟩, []),
  (⟨none, .store 185 (.agg 185) (.t 16) (.t 15), none⟩, [])]
def f90 : AFunc := ⟨[], (.seq (.reg f90r0) (.draw f90r1))⟩

-- fingerpost/rib.Right
def f91r0 : List AOper := [
  ⟨(some 1), .box 99 (.agg 99) (.t 0), none⟩,
  ⟨(some 2), .move (.c (.bool false)), none⟩]
def f91r1 : List AOper := [
  ⟨(some 3), .fieldAddr 99 0 3 (.t 1), none⟩,
  ⟨(some 4), .load 3 (.t 3), none⟩,
  ⟨(some 5), .bin .geq (.t 4) (.c (.int .i64 0)), none⟩,
  ⟨(some 6), .move (.t 5), none⟩,
  ⟨(some 7), .fieldAddr 99 0 3 (.t 1), some ((some 6), true)⟩,
  ⟨(some 8), .load 3 (.t 7), some ((some 6), true)⟩,
  ⟨(some 9), .bin .leq (.t 8) (.c (.int .i64 1048576)), some ((some 6), true)⟩,
  ⟨(some 10), .pick (.t 6) (.t 9) (.c (.bool false)), none⟩,
  ⟨(some 11), .move (.t 10), none⟩,
  ⟨(some 12), .fieldAddr 99 1 3 (.t 1), some ((some 11), true)⟩,
  ⟨(some 13), .load 3 (.t 12), some ((some 11), true)⟩,
  ⟨(some 14), .bin .geq (.t 13) (.c (.int .i64 1)), some ((some 11), true)⟩,
  ⟨(some 15), .pick (.t 11) (.t 14) (.c (.bool false)), none⟩,
  ⟨(some 16), .move (.t 15), none⟩,
  ⟨(some 17), .fieldAddr 99 1 3 (.t 1), some ((some 16), true)⟩,
  ⟨(some 18), .load 3 (.t 17), some ((some 16), true)⟩,
  ⟨(some 19), .bin .leq (.t 18) (.c (.int .i64 1048576)), some ((some 16), true)⟩,
  ⟨(some 20), .pick (.t 16) (.t 19) (.c (.bool false)), none⟩,
  ⟨(some 2), .move (.t 20), none⟩]
def f91 : AFunc := ⟨[.tmp 2], (.seq (.reg f91r0) (.seq (.reg f91r1) .ret))⟩

-- fingerpost/rib.time
def f92r0 : List AOper := [
  ⟨(some 2), .move (.c (.bool false)), none⟩]
def f92r1 : List AOper := [
  ⟨(some 3), .move (.t 0), none⟩,
  ⟨(some 4), .bin .geq (.t 3) (.c (.int .i64 0)), none⟩,
  ⟨(some 5), .move (.t 4), none⟩,
  ⟨(some 6), .move (.t 0), some ((some 5), true)⟩,
  ⟨(some 7), .bin .leq (.t 6) (.c (.int .i64 1099511627776)), some ((some 5), true)⟩,
  ⟨(some 8), .pick (.t 5) (.t 7) (.c (.bool false)), none⟩,
  ⟨(some 2), .move (.t 8), none⟩]
def f92 : AFunc := ⟨[.tmp 2], (.seq (.reg f92r0) (.seq (.reg f92r1) .ret))⟩

-- (*fingerpost/rib.Table).drop
def f93r0 : List AOper := [
  ⟨(some 9), .move (.t 0), none⟩,
  ⟨(some 10), .move (.t 1), none⟩,
  ⟨(some 11), .move (.t 2), none⟩,
  ⟨(some 12), .nilCheck (.t 9), none⟩,
  ⟨(some 13), .fieldAddr 195 2 193 (.t 12), none⟩,
  ⟨(some 14), .idxA 8 193 192 (.t 13) (.t 10), none⟩,
  ⟨(some 15), .idxA 8 192 190 (.t 14) (.t 11), none⟩,
  ⟨(some 8), .move (.t 15), none⟩]
def f93r1 : List (AOper × List Nat) := [
  (⟨(some 16), .move (.t 8), none⟩, []),
  (⟨(some 17), .move (.t 3), none⟩, []),
  (⟨(some 18), .move (.t 0), none⟩, []),
  (⟨(some 19), .nilCheck (.t 18), none⟩, []),
  (⟨(some 20), .fieldAddr 195 1 99 (.t 19), none⟩, []),
  (⟨(some 21), .fieldAddr 99 0 3 (.t 20), none⟩, []),
  (⟨(some 22), .load 3 (.t 21), none⟩, []),
  (⟨(some 23), .bin .add (.t 17) (.t 22), none⟩, []),
  (⟨(some 24), .move (.t 8), none⟩, []),
  (⟨(some 25), .nilCheck (.t 24), none⟩, []),
  (⟨(some 26), .fieldAddr 190 1 106 (.t 25), none⟩, []),
  (⟨(some 27), .load 106 (.t 26), none⟩, []),
  (⟨(some 28), .build 190 [(4, (.c (.bool true))), (5, (.t 23)), (6, (.t 27))], none⟩, []),
  (⟨(some 29), .nilCheck (.t 16), none⟩, []),
  (⟨none, .store 190 (.agg 190) (.t 29) (.t 28), none⟩, [])]
def f93 : AFunc := ⟨[], (.seq (.reg f93r0) (.draw f93r1))⟩

-- (*fingerpost/rib.Table).choose
def f94r0 : List AOper := [
  ⟨(some 4), .move (.c (.int .i64 (-1))), none⟩]
def f94r1 : List AOper := [
  ⟨(some 7), .move (.t 0), none⟩,
  ⟨(some 8), .move (.t 1), none⟩,
  ⟨(some 9), .nilCheck (.t 7), none⟩,
  ⟨(some 10), .fieldAddr 195 2 193 (.t 9), none⟩,
  ⟨(some 11), .idxA 8 193 192 (.t 10) (.t 8), none⟩,
  ⟨(some 12), .load 192 (.t 11), none⟩,
  ⟨(some 13), .move (.c (.int .i64 0)), none⟩]
def f94r2 : List AOper := [
  ⟨(some 14), .bin .lss (.t 13) (.c (.int .i64 8)), none⟩]
def f94r3 : List AOper := [
  ⟨(some 15), .move (.t 13), none⟩,
  ⟨(some 16), .idxV 8 192 (.t 12) (.t 13), none⟩,
  ⟨(some 6), .alloc 190, none⟩,
  ⟨(some 5), .move (.t 15), none⟩,
  ⟨none, .store 190 (.agg 190) (.t 6) (.t 16), none⟩]
def f94r4 : List AOper := [
  ⟨(some 18), .fieldAddr 190 0 4 (.t 6), none⟩,
  ⟨(some 19), .load 4 (.t 18), none⟩,
  ⟨(some 20), .un .not (.t 19), none⟩,
  ⟨(some 17), .move (.t 20), none⟩]
def f94r5 : List (AOper × List Nat) := [
  (⟨(some 22), .move (.t 4), none⟩, []),
  (⟨(some 23), .bin .lss (.t 22) (.c (.int .i64 0)), none⟩, []),
  (⟨(some 24), .move (.t 23), none⟩, []),
  (⟨(some 25), .fieldAddr 190 1 106 (.t 6), some ((some 24), false)⟩, []),
  (⟨(some 26), .load 106 (.t 25), some ((some 24), false)⟩, []),
  (⟨(some 27), .move (.t 0), some ((some 24), false)⟩, []),
  (⟨(some 28), .move (.t 1), some ((some 24), false)⟩, []),
  (⟨(some 29), .move (.t 4), some ((some 24), false)⟩, []),
  (⟨(some 30), .nilCheck (.t 27), some ((some 24), false)⟩, []),
  (⟨(some 31), .fieldAddr 195 2 193 (.t 30), some ((some 24), false)⟩, []),
  (⟨(some 32), .idxA 8 193 192 (.t 31) (.t 28), some ((some 24), false)⟩, []),
  (⟨(some 33), .idxA 8 192 190 (.t 32) (.t 29), some ((some 24), false)⟩, []),
  (⟨(some 34), .fieldAddr 190 1 106 (.t 33), some ((some 24), false)⟩, []),
  (⟨(some 35), .load 106 (.t 34), some ((some 24), false)⟩, []),
  (⟨(some 36), .call 125 [(.t 26), (.t 35)], some ((some 24), false)⟩, []),
  (⟨(some 37), .bin .gtr (.t 36) (.c (.int .i64 0)), some ((some 24), false)⟩, []),
  (⟨(some 38), .pick (.t 24) (.c (.bool true)) (.t 37), none⟩, []),
  (⟨(some 21), .move (.t 38), none⟩, [])]
def f94r6 : List AOper := [
  ⟨(some 39), .move (.t 5), none⟩,
  ⟨(some 4), .move (.t 39), none⟩]
def f94r7 : List (AOper × List Nat) := [
  (⟨(some 41), .fieldAddr 190 1 106 (.t 6), none⟩, []),
  (⟨(some 42), .load 106 (.t 41), none⟩, []),
  (⟨(some 43), .move (.t 0), none⟩, []),
  (⟨(some 44), .move (.t 1), none⟩, []),
  (⟨(some 45), .move (.t 4), none⟩, []),
  (⟨(some 46), .nilCheck (.t 43), none⟩, []),
  (⟨(some 47), .fieldAddr 195 2 193 (.t 46), none⟩, []),
  (⟨(some 48), .idxA 8 193 192 (.t 47) (.t 44), none⟩, []),
  (⟨(some 49), .idxA 8 192 190 (.t 48) (.t 45), none⟩, []),
  (⟨(some 50), .fieldAddr 190 1 106 (.t 49), none⟩, []),
  (⟨(some 51), .load 106 (.t 50), none⟩, []),
  (⟨(some 52), .call 125 [(.t 42), (.t 51)], none⟩, []),
  (⟨(some 53), .bin .eql (.t 52) (.c (.int .i64 0)), none⟩, []),
  (⟨(some 54), .move (.t 53), none⟩, []),
  (⟨(some 55), .move (.t 5), some ((some 54), true)⟩, []),
  (⟨(some 56), .move (.t 0), some ((some 54), true)⟩, []),
  (⟨(some 57), .move (.t 1), some ((some 54), true)⟩, []),
  (⟨(some 58), .nilCheck (.t 56), some ((some 54), true)⟩, []),
  (⟨(some 59), .fieldAddr 195 3 194 (.t 58), some ((some 54), true)⟩, []),
  (⟨(some 60), .idxA 8 194 3 (.t 59) (.t 57), some ((some 54), true)⟩, []),
  (⟨(some 61), .load 3 (.t 60), some ((some 54), true)⟩, []),
  (⟨(some 62), .bin .eql (.t 55) (.t 61), some ((some 54), true)⟩, []),
  (⟨(some 63), .pick (.t 54) (.t 62) (.c (.bool false)), none⟩, []),
  (⟨(some 40), .move (.t 63), none⟩, [])]
def f94r8 : List AOper := [
  ⟨(some 64), .move (.t 5), none⟩,
  ⟨(some 4), .move (.t 64), none⟩]
def f94r9 : List AOper := [
  ⟨(some 65), .bin .add (.t 13) (.c (.int .i64 1)), none⟩,
  ⟨(some 13), .move (.t 65), none⟩]
def f94r10 : List AOper := [
  ⟨(some 66), .move (.t 0), none⟩,
  ⟨(some 67), .move (.t 1), none⟩,
  ⟨(some 68), .move (.t 4), none⟩,
  ⟨(some 69), .nilCheck (.t 66), none⟩,
  ⟨(some 70), .fieldAddr 195 3 194 (.t 69), none⟩,
  ⟨(some 71), .idxA 8 194 3 (.t 70) (.t 67), none⟩,
  ⟨none, .store 3 (.int .i64) (.t 71) (.t 68), none⟩]
def f94 : AFunc := ⟨[], (.seq (.reg f94r0) (.seq (.seq (.reg f94r1) (.block 0 (.loop (.seq (.reg f94r2) (.seq (.cond (.t 14) .skip (.exit 0)) (.seq (.block 1 (.seq (.reg f94r3) (.block 2 (.seq (.reg f94r4) (.cond (.t 17) (.exit 1) (.seq (.draw f94r5) (.cond (.t 21) (.reg f94r6) (.seq (.draw f94r7) (.cond (.t 40) (.reg f94r8) .skip))))))))) (.reg f94r9))))))) (.reg f94r10)))⟩

-- (*fingerpost/rib.Table).Expire
def f95r0 : List AOper := [
  ⟨(some 4), .move (.c .nils), none⟩]
def f95r1 : List AOper := [
  ⟨(some 10), .move (.t 0), none⟩,
  ⟨(some 11), .eqv false .ptr (.t 10) (.c .nilp), none⟩,
  ⟨(some 12), .move (.t 11), none⟩,
  ⟨(some 13), .move (.t 1), some ((some 12), false)⟩,
  ⟨(some 14), .call 92 [(.t 13)], some ((some 12), false)⟩,
  ⟨(some 15), .un .not (.t 14), some ((some 12), false)⟩,
  ⟨(some 16), .pick (.t 12) (.c (.bool true)) (.t 15), none⟩]
def f95r2 : List AOper := [
  ⟨(some 4), .move (.c .nils), none⟩]
def f95r3 : List AOper := [
  ⟨(some 5), .move (.c .nils), none⟩]
def f95r4 : List AOper := [
  ⟨(some 17), .move (.c (.int .i64 0)), none⟩]
def f95r5 : List AOper := [
  ⟨(some 18), .bin .lss (.t 17) (.c (.int .i64 8)), none⟩]
def f95r6 : List AOper := [
  ⟨(some 19), .move (.t 17), none⟩,
  ⟨(some 6), .move (.t 19), none⟩]
def f95r7 : List AOper := [
  ⟨(some 7), .move (.c (.bool false)), none⟩]
def f95r8 : List AOper := [
  ⟨(some 20), .move (.c (.int .i64 0)), none⟩]
def f95r9 : List AOper := [
  ⟨(some 21), .bin .lss (.t 20) (.c (.int .i64 8)), none⟩]
def f95r10 : List AOper := [
  ⟨(some 22), .move (.t 20), none⟩,
  ⟨(some 8), .move (.t 22), none⟩]
def f95r11 : List AOper := [
  ⟨(some 23), .move (.t 0), none⟩,
  ⟨(some 24), .move (.t 6), none⟩,
  ⟨(some 25), .move (.t 8), none⟩,
  ⟨(some 26), .nilCheck (.t 23), none⟩,
  ⟨(some 27), .fieldAddr 195 2 193 (.t 26), none⟩,
  ⟨(some 28), .idxA 8 193 192 (.t 27) (.t 24), none⟩,
  ⟨(some 29), .idxA 8 192 190 (.t 28) (.t 25), none⟩,
  ⟨(some 30), .load 190 (.t 29), none⟩,
  ⟨(some 9), .alloc 190, none⟩,
  ⟨none, .store 190 (.agg 190) (.t 9) (.t 30), none⟩]
def f95r12 : List (AOper × List Nat) := [
  (⟨(some 31), .fieldAddr 190 0 4 (.t 9), none⟩, []),
  (⟨(some 32), .load 4 (.t 31), none⟩, []),
  (⟨(some 33), .move (.t 32), none⟩, []),
  (⟨(some 34), .move (.t 1), some ((some 33), true)⟩, []),
  (⟨(some 35), .fieldAddr 190 2 2 (.t 9), some ((some 33), true)⟩, []),
  (⟨(some 36), .load 2 (.t 35), some ((some 33), true)⟩, []),
  (⟨(some 37), .bin .sub (.t 34) (.t 36), some ((some 33), true)⟩, []),
  (⟨(some 38), .move (.t 0), some ((some 33), true)⟩, []),
  (⟨(some 39), .nilCheck (.t 38), some ((some 33), true)⟩, []),
  (⟨(some 40), .fieldAddr 195 1 99 (.t 39), some ((some 33), true)⟩, []),
  (⟨(some 41), .fieldAddr 99 1 3 (.t 40), some ((some 33), true)⟩, []),
  (⟨(some 42), .load 3 (.t 41), some ((some 33), true)⟩, []),
  (⟨(some 43), .bin .geq (.t 37) (.t 42), some ((some 33), true)⟩, []),
  (⟨(some 44), .pick (.t 33) (.t 43) (.c (.bool false)), none⟩, [])]
def f95r13 : List AOper := [
  ⟨(some 45), .move (.t 0), none⟩,
  ⟨(some 46), .move (.t 6), none⟩,
  ⟨(some 47), .move (.t 8), none⟩,
  ⟨(some 48), .move (.t 1), none⟩,
  ⟨(some 49), .call 93 [(.t 45), (.t 46), (.t 47), (.t 48)], none⟩]
def f95r14 : List AOper := [
  ⟨(some 50), .move (.t 7), none⟩,
  ⟨(some 51), .move (.t 50), none⟩,
  ⟨(some 52), .move (.t 0), some ((some 51), false)⟩,
  ⟨(some 53), .move (.t 6), some ((some 51), false)⟩,
  ⟨(some 54), .nilCheck (.t 52), some ((some 51), false)⟩,
  ⟨(some 55), .fieldAddr 195 3 194 (.t 54), some ((some 51), false)⟩,
  ⟨(some 56), .idxA 8 194 3 (.t 55) (.t 53), some ((some 51), false)⟩,
  ⟨(some 57), .load 3 (.t 56), some ((some 51), false)⟩,
  ⟨(some 58), .move (.t 8), some ((some 51), false)⟩,
  ⟨(some 59), .bin .eql (.t 57) (.t 58), some ((some 51), false)⟩,
  ⟨(some 60), .pick (.t 51) (.c (.bool true)) (.t 59), none⟩,
  ⟨(some 7), .move (.t 60), none⟩]
def f95r15 : List AOper := [
  ⟨(some 61), .bin .add (.t 20) (.c (.int .i64 1)), none⟩,
  ⟨(some 20), .move (.t 61), none⟩]
def f95r16 : List AOper := [
  ⟨(some 62), .move (.t 7), none⟩]
def f95r17 : List AOper := [
  ⟨(some 63), .move (.t 5), none⟩,
  ⟨(some 64), .move (.t 6), none⟩,
  ⟨(some 65), .buildSlice 3 1 [(0, (.t 64))], none⟩,
  ⟨(some 66), .append 3 false 1954687338268 (.t 63) (.t 65), none⟩,
  ⟨(some 5), .move (.t 66), none⟩]
def f95r18 : List AOper := [
  ⟨(some 67), .move (.t 0), none⟩,
  ⟨(some 68), .move (.t 6), none⟩,
  ⟨(some 69), .call 94 [(.t 67), (.t 68)], none⟩]
def f95r19 : List AOper := [
  ⟨(some 70), .bin .add (.t 17) (.c (.int .i64 1)), none⟩,
  ⟨(some 17), .move (.t 70), none⟩]
def f95r20 : List AOper := [
  ⟨(some 71), .move (.t 5), none⟩,
  ⟨(some 4), .move (.t 71), none⟩]
def f95 : AFunc := ⟨[.tmp 4], (.seq (.reg f95r0) (.seq (.seq (.reg f95r1) (.cond (.t 16) (.seq (.reg f95r2) .ret) .skip)) (.seq (.reg f95r3) (.seq (.seq (.reg f95r4) (.block 0 (.loop (.seq (.reg f95r5) (.seq (.cond (.t 18) .skip (.exit 0)) (.seq (.block 1 (.seq (.reg f95r6) (.seq (.reg f95r7) (.seq (.seq (.reg f95r8) (.block 2 (.loop (.seq (.reg f95r9) (.seq (.cond (.t 21) .skip (.exit 2)) (.seq (.block 3 (.seq (.reg f95r10) (.seq (.reg f95r11) (.seq (.draw f95r12) (.cond (.t 44) (.seq (.reg f95r13) (.reg f95r14)) .skip))))) (.reg f95r15))))))) (.seq (.seq (.reg f95r16) (.cond (.t 62) (.reg f95r17) .skip)) (.reg f95r18)))))) (.reg f95r19))))))) (.seq (.reg f95r20) .ret)))))⟩

-- (*fingerpost/rib.Table).Prune
def f96r0 : List AOper := [
  ⟨(some 5), .box 106 (.agg 106) (.t 2), none⟩,
  ⟨(some 6), .move (.c (.int .i64 0)), none⟩]
def f96r1 : List AOper := [
  ⟨(some 10), .move (.t 0), none⟩,
  ⟨(some 11), .eqv false .ptr (.t 10) (.c .nilp), none⟩,
  ⟨(some 9), .move (.t 11), none⟩]
def f96r2 : List AOper := [
  ⟨(some 6), .move (.c (.int .i64 2)), none⟩]
def f96r3 : List AOper := [
  ⟨(some 13), .move (.t 0), none⟩,
  ⟨(some 14), .move (.t 1), none⟩,
  ⟨(some 15), .call 123 [(.t 13), (.t 14)], none⟩,
  ⟨(some 16), .un .not (.t 15), none⟩,
  ⟨(some 17), .move (.t 16), none⟩,
  ⟨(some 18), .load 106 (.t 5), some ((some 17), false)⟩,
  ⟨(some 19), .call 124 [(.t 18)], some ((some 17), false)⟩,
  ⟨(some 20), .un .not (.t 19), some ((some 17), false)⟩,
  ⟨(some 21), .pick (.t 17) (.c (.bool true)) (.t 20), none⟩,
  ⟨(some 12), .move (.t 21), none⟩]
def f96r4 : List AOper := [
  ⟨(some 6), .move (.c (.int .i64 1)), none⟩]
def f96r5 : List AOper := [
  ⟨(some 22), .move (.c (.int .i64 0)), none⟩]
def f96r6 : List AOper := [
  ⟨(some 23), .bin .lss (.t 22) (.c (.int .i64 8)), none⟩]
def f96r7 : List AOper := [
  ⟨(some 24), .move (.t 22), none⟩,
  ⟨(some 7), .move (.t 24), none⟩]
def f96r8 : List AOper := [
  ⟨(some 25), .move (.t 0), none⟩,
  ⟨(some 26), .move (.t 1), none⟩,
  ⟨(some 27), .move (.t 7), none⟩,
  ⟨(some 28), .nilCheck (.t 25), none⟩,
  ⟨(some 29), .fieldAddr 195 2 193 (.t 28), none⟩,
  ⟨(some 30), .idxA 8 193 192 (.t 29) (.t 26), none⟩,
  ⟨(some 31), .idxA 8 192 190 (.t 30) (.t 27), none⟩,
  ⟨(some 8), .move (.t 31), none⟩]
def f96r9 : List (AOper × List Nat) := [
  (⟨(some 32), .move (.t 8), none⟩, []),
  (⟨(some 33), .nilCheck (.t 32), none⟩, []),
  (⟨(some 34), .fieldAddr 190 0 4 (.t 33), none⟩, []),
  (⟨(some 35), .load 4 (.t 34), none⟩, []),
  (⟨(some 36), .move (.t 35), none⟩, []),
  (⟨(some 37), .move (.t 8), some ((some 36), true)⟩, []),
  (⟨(some 38), .nilCheck (.t 37), some ((some 36), true)⟩, []),
  (⟨(some 39), .fieldAddr 190 1 106 (.t 38), some ((some 36), true)⟩, []),
  (⟨(some 40), .load 106 (.t 39), some ((some 36), true)⟩, []),
  (⟨(some 41), .load 106 (.t 5), some ((some 36), true)⟩, []),
  (⟨(some 42), .call 125 [(.t 40), (.t 41)], some ((some 36), true)⟩, []),
  (⟨(some 43), .bin .lss (.t 42) (.c (.int .i64 0)), some ((some 36), true)⟩, []),
  (⟨(some 44), .pick (.t 36) (.t 43) (.c (.bool false)), none⟩, [])]
def f96r10 : List AOper := [
  ⟨(some 45), .move (.t 8), none⟩,
  ⟨(some 46), .build 190 [], none⟩,
  ⟨(some 47), .nilCheck (.t 45), none⟩,
  ⟨none, .store 190 (.agg 190) (.t 47) (.t 46), none⟩]
def f96r11 : List AOper := [
  ⟨(some 48), .bin .add (.t 22) (.c (.int .i64 1)), none⟩,
  ⟨(some 22), .move (.t 48), none⟩]
def f96r12 : List AOper := [
  ⟨(some 49), .move (.t 0), none⟩,
  ⟨(some 50), .move (.t 1), none⟩,
  ⟨(some 51), .call 94 [(.t 49), (.t 50)], none⟩]
def f96r13 : List AOper := [
  ⟨(some 6), .move (.c (.int .i64 0)), none⟩]
def f96 : AFunc := ⟨[.tmp 6], (.seq (.reg f96r0) (.seq (.block 0 (.seq (.reg f96r1) (.cond (.t 9) (.seq (.reg f96r2) .ret) (.seq (.reg f96r3) (.cond (.t 12) (.seq (.reg f96r4) .ret) .skip))))) (.seq (.seq (.reg f96r5) (.block 1 (.loop (.seq (.reg f96r6) (.seq (.cond (.t 23) .skip (.exit 1)) (.seq (.block 2 (.seq (.reg f96r7) (.seq (.reg f96r8) (.seq (.draw f96r9) (.cond (.t 44) (.reg f96r10) .skip))))) (.reg f96r11))))))) (.seq (.reg f96r12) (.seq (.reg f96r13) .ret)))))⟩

-- fingerpost/fingerposttop.plainly$1
def f97r0 : List AOper := [
  ⟨(some 2), .move (.c (.int .i64 0)), none⟩]
def f97r1 : List AOper := [
  ⟨(some 3), .move (.t 0), none⟩,
  ⟨(some 2), .move (.t 3), none⟩]
def f97 : AFunc := ⟨[.tmp 2], (.seq (.reg f97r0) (.seq (.reg f97r1) .ret))⟩

-- (*fingerpost/rib.Table).Valid
def f98r0 : List AOper := [
  ⟨(some 2), .move (.c .nils), none⟩]
def f98r1 : List AOper := [
  ⟨(some 3), .move (.c .nils), none⟩]
def f98r2 : List AOper := [
  ⟨(some 7), .move (.c (.int .i64 0)), none⟩]
def f98r3 : List AOper := [
  ⟨(some 8), .bin .lss (.t 7) (.c (.int .i64 8)), none⟩]
def f98r4 : List AOper := [
  ⟨(some 9), .move (.t 7), none⟩,
  ⟨(some 4), .move (.t 9), none⟩]
def f98r5 : List AOper := [
  ⟨(some 11), .move (.t 0), none⟩,
  ⟨(some 12), .move (.t 4), none⟩,
  ⟨(some 13), .call 99 [(.t 11), (.t 12)], none⟩,
  ⟨(some 10), .move (.t 13), none⟩,
  ⟨(some 14), .extract 0 (.t 10), none⟩,
  ⟨(some 15), .extract 1 (.t 10), none⟩,
  ⟨(some 5), .alloc 204, none⟩,
  ⟨none, .store 204 (.agg 204) (.t 5) (.t 14), none⟩,
  ⟨(some 6), .move (.t 15), none⟩]
def f98r6 : List AOper := [
  ⟨(some 16), .move (.t 6), none⟩]
def f98r7 : List AOper := [
  ⟨(some 17), .move (.t 3), none⟩,
  ⟨(some 18), .load 204 (.t 5), none⟩,
  ⟨(some 19), .buildSlice 204 1 [(0, (.t 18))], none⟩,
  ⟨(some 20), .append 204 false 155683062339 (.t 17) (.t 19), none⟩,
  ⟨(some 3), .move (.t 20), none⟩]
def f98r8 : List AOper := [
  ⟨(some 21), .bin .add (.t 7) (.c (.int .i64 1)), none⟩,
  ⟨(some 7), .move (.t 21), none⟩]
def f98r9 : List AOper := [
  ⟨(some 22), .move (.t 3), none⟩,
  ⟨(some 2), .move (.t 22), none⟩]
def f98 : AFunc := ⟨[.tmp 2], (.seq (.reg f98r0) (.seq (.reg f98r1) (.seq (.seq (.reg f98r2) (.block 0 (.loop (.seq (.reg f98r3) (.seq (.cond (.t 8) .skip (.exit 0)) (.seq (.block 1 (.seq (.reg f98r4) (.seq (.reg f98r5) (.seq (.reg f98r6) (.cond (.t 16) (.reg f98r7) .skip))))) (.reg f98r8))))))) (.seq (.reg f98r9) .ret))))⟩

-- (*fingerpost/rib.Table).Get
def f99r0 : List AOper := [
  ⟨(some 4), .alloc 204, none⟩,
  ⟨(some 5), .move (.c (.bool false)), none⟩]
def f99r1 : List AOper := [
  ⟨(some 7), .move (.t 0), none⟩,
  ⟨(some 8), .eqv false .ptr (.t 7) (.c .nilp), none⟩,
  ⟨(some 9), .move (.t 8), none⟩,
  ⟨(some 10), .move (.t 1), some ((some 9), false)⟩,
  ⟨(some 11), .bin .lss (.t 10) (.c (.int .i64 0)), some ((some 9), false)⟩,
  ⟨(some 12), .pick (.t 9) (.c (.bool true)) (.t 11), none⟩,
  ⟨(some 13), .move (.t 12), none⟩,
  ⟨(some 14), .move (.t 1), some ((some 13), false)⟩,
  ⟨(some 15), .bin .geq (.t 14) (.c (.int .i64 8)), some ((some 13), false)⟩,
  ⟨(some 16), .pick (.t 13) (.c (.bool true)) (.t 15), none⟩,
  ⟨(some 17), .move (.t 16), none⟩,
  ⟨(some 18), .move (.t 0), some ((some 17), false)⟩,
  ⟨(some 19), .move (.t 1), some ((some 17), false)⟩,
  ⟨(some 20), .nilCheck (.t 18), some ((some 17), false)⟩,
  ⟨(some 21), .fieldAddr 195 3 194 (.t 20), some ((some 17), false)⟩,
  ⟨(some 22), .idxA 8 194 3 (.t 21) (.t 19), some ((some 17), false)⟩,
  ⟨(some 23), .load 3 (.t 22), some ((some 17), false)⟩,
  ⟨(some 24), .bin .lss (.t 23) (.c (.int .i64 0)), some ((some 17), false)⟩,
  ⟨(some 25), .pick (.t 17) (.c (.bool true)) (.t 24), none⟩]
def f99r2 : List AOper := [
  ⟨(some 26), .build 204 [], none⟩,
  ⟨none, .store 204 (.agg 204) (.t 4) (.t 26), none⟩,
  ⟨(some 5), .move (.c (.bool false)), none⟩]
def f99r3 : List (AOper × List Nat) := [
  (⟨(some 27), .move (.t 0), none⟩, []),
  (⟨(some 28), .move (.t 1), none⟩, []),
  (⟨(some 29), .move (.t 0), none⟩, []),
  (⟨(some 30), .move (.t 1), none⟩, []),
  (⟨(some 31), .nilCheck (.t 29), none⟩, []),
  (⟨(some 32), .fieldAddr 195 3 194 (.t 31), none⟩, []),
  (⟨(some 33), .idxA 8 194 3 (.t 32) (.t 30), none⟩, []),
  (⟨(some 34), .load 3 (.t 33), none⟩, []),
  (⟨(some 35), .nilCheck (.t 27), none⟩, []),
  (⟨(some 36), .fieldAddr 195 2 193 (.t 35), none⟩, []),
  (⟨(some 37), .idxA 8 193 192 (.t 36) (.t 28), none⟩, []),
  (⟨(some 38), .idxA 8 192 190 (.t 37) (.t 34), none⟩, []),
  (⟨(some 39), .load 190 (.t 38), none⟩, []),
  (⟨(some 6), .alloc 190, none⟩, []),
  (⟨none, .store 190 (.agg 190) (.t 6) (.t 39), none⟩, [])]
def f99r4 : List (AOper × List Nat) := [
  (⟨(some 40), .move (.t 1), none⟩, []),
  (⟨(some 41), .fieldAddr 190 1 106 (.t 6), none⟩, []),
  (⟨(some 42), .load 106 (.t 41), none⟩, []),
  (⟨(some 43), .move (.t 0), none⟩, []),
  (⟨(some 44), .move (.t 1), none⟩, []),
  (⟨(some 45), .nilCheck (.t 43), none⟩, []),
  (⟨(some 46), .fieldAddr 195 3 194 (.t 45), none⟩, []),
  (⟨(some 47), .idxA 8 194 3 (.t 46) (.t 44), none⟩, []),
  (⟨(some 48), .load 3 (.t 47), none⟩, []),
  (⟨(some 49), .fieldAddr 190 2 2 (.t 6), none⟩, []),
  (⟨(some 50), .load 2 (.t 49), none⟩, []),
  (⟨(some 51), .fieldAddr 190 3 154 (.t 6), none⟩, []),
  (⟨(some 52), .load 154 (.t 51), none⟩, []),
  (⟨(some 53), .call 127 [(.t 52)], none⟩, [2, 8, 10]),
  (⟨(some 54), .build 204 [(0, (.t 40)), (1, (.t 42)), (2, (.t 48)), (3, (.c (.bool true))), (4, (.t 50)), (5, (.t 53))], none⟩, []),
  (⟨none, .store 204 (.agg 204) (.t 4) (.t 54), none⟩, []),
  (⟨(some 5), .move (.c (.bool true)), none⟩, [])]
def f99 : AFunc := ⟨[.cell 4 204, .tmp 5], (.seq (.reg f99r0) (.seq (.seq (.reg f99r1) (.cond (.t 25) (.seq (.reg f99r2) .ret) .skip)) (.seq (.draw f99r3) (.seq (.draw f99r4) .ret))))⟩

-- (*fingerpost/rib.Table).Lookup
def f100r0 : List AOper := [
  ⟨(some 4), .move (.c (.int .i64 0)), none⟩,
  ⟨(some 5), .move (.c (.bool false)), none⟩]
def f100r1 : List AOper := [
  ⟨(some 9), .move (.t 0), none⟩,
  ⟨(some 10), .move (.t 1), none⟩,
  ⟨(some 11), .call 99 [(.t 9), (.t 10)], none⟩,
  ⟨(some 8), .move (.t 11), none⟩,
  ⟨(some 12), .extract 0 (.t 8), none⟩,
  ⟨(some 13), .extract 1 (.t 8), none⟩,
  ⟨(some 6), .alloc 204, none⟩,
  ⟨none, .store 204 (.agg 204) (.t 6) (.t 12), none⟩,
  ⟨(some 7), .move (.t 13), none⟩]
def f100r2 : List AOper := [
  ⟨(some 14), .fieldAddr 204 2 3 (.t 6), none⟩,
  ⟨(some 15), .load 3 (.t 14), none⟩,
  ⟨(some 16), .move (.t 7), none⟩,
  ⟨(some 4), .move (.t 15), none⟩,
  ⟨(some 5), .move (.t 16), none⟩]
def f100 : AFunc := ⟨[.tmp 4, .tmp 5], (.seq (.reg f100r0) (.seq (.reg f100r1) (.seq (.reg f100r2) .ret)))⟩

-- (*fingerpost/rib.Table).Offers
def f101r0 : List AOper := [
  ⟨(some 4), .move (.c (.int .i64 0)), none⟩]
def f101r1 : List AOper := [
  ⟨(some 8), .move (.t 0), none⟩,
  ⟨(some 9), .eqv false .ptr (.t 8) (.c .nilp), none⟩,
  ⟨(some 10), .move (.t 9), none⟩,
  ⟨(some 11), .move (.t 1), some ((some 10), false)⟩,
  ⟨(some 12), .bin .lss (.t 11) (.c (.int .i64 0)), some ((some 10), false)⟩,
  ⟨(some 13), .pick (.t 10) (.c (.bool true)) (.t 12), none⟩,
  ⟨(some 14), .move (.t 13), none⟩,
  ⟨(some 15), .move (.t 1), some ((some 14), false)⟩,
  ⟨(some 16), .bin .geq (.t 15) (.c (.int .i64 8)), some ((some 14), false)⟩,
  ⟨(some 17), .pick (.t 14) (.c (.bool true)) (.t 16), none⟩]
def f101r2 : List AOper := [
  ⟨(some 4), .move (.c (.int .i64 0)), none⟩]
def f101r3 : List AOper := [
  ⟨(some 5), .move (.c (.int .i64 0)), none⟩]
def f101r4 : List AOper := [
  ⟨(some 18), .move (.t 0), none⟩,
  ⟨(some 19), .move (.t 1), none⟩,
  ⟨(some 20), .nilCheck (.t 18), none⟩,
  ⟨(some 21), .fieldAddr 195 2 193 (.t 20), none⟩,
  ⟨(some 22), .idxA 8 193 192 (.t 21) (.t 19), none⟩,
  ⟨(some 23), .load 192 (.t 22), none⟩,
  ⟨(some 24), .move (.c (.int .i64 0)), none⟩]
def f101r5 : List AOper := [
  ⟨(some 25), .bin .lss (.t 24) (.c (.int .i64 8)), none⟩]
def f101r6 : List AOper := [
  ⟨(some 26), .idxV 8 192 (.t 23) (.t 24), none⟩,
  ⟨(some 7), .alloc 190, none⟩,
  ⟨none, .store 190 (.agg 190) (.t 7) (.t 26), none⟩]
def f101r7 : List AOper := [
  ⟨(some 27), .fieldAddr 190 0 4 (.t 7), none⟩,
  ⟨(some 28), .load 4 (.t 27), none⟩]
def f101r8 : List AOper := [
  ⟨(some 29), .move (.t 5), none⟩,
  ⟨(some 30), .bin .add (.t 29) (.c (.int .i64 1)), none⟩,
  ⟨(some 5), .move (.t 30), none⟩]
def f101r9 : List AOper := [
  ⟨(some 31), .bin .add (.t 24) (.c (.int .i64 1)), none⟩,
  ⟨(some 24), .move (.t 31), none⟩]
def f101r10 : List AOper := [
  ⟨(some 32), .move (.t 5), none⟩,
  ⟨(some 4), .move (.t 32), none⟩]
def f101 : AFunc := ⟨[.tmp 4], (.seq (.reg f101r0) (.seq (.seq (.reg f101r1) (.cond (.t 17) (.seq (.reg f101r2) .ret) .skip)) (.seq (.reg f101r3) (.seq (.seq (.reg f101r4) (.block 0 (.loop (.seq (.reg f101r5) (.seq (.cond (.t 25) .skip (.exit 0)) (.seq (.block 1 (.seq (.reg f101r6) (.seq (.reg f101r7) (.cond (.t 28) (.reg f101r8) .skip)))) (.reg f101r9))))))) (.seq (.reg f101r10) .ret)))))⟩

-- (fingerpost/fingerposttop.turn).key
def f102r0 : List AOper := [
  ⟨(some 2), .box 114 (.agg 114) (.t 0), none⟩,
  ⟨(some 3), .box 106 (.agg 106) (.t 1), none⟩,
  ⟨(some 4), .alloc 106, none⟩]
def f102r1 : List AOper := [
  ⟨(some 5), .fieldAddr 106 0 23 (.t 3), none⟩,
  ⟨(some 6), .load 23 (.t 5), none⟩,
  ⟨(some 7), .fieldAddr 114 2 23 (.t 2), none⟩,
  ⟨(some 8), .load 23 (.t 7), none⟩,
  ⟨(some 9), .bin .add (.t 6) (.t 8), none⟩,
  ⟨(some 10), .fieldAddr 106 0 23 (.t 3), none⟩,
  ⟨none, .store 23 (.int .u32) (.t 10) (.t 9), none⟩]
def f102r2 : List AOper := [
  ⟨(some 11), .load 106 (.t 3), none⟩,
  ⟨none, .store 106 (.agg 106) (.t 4) (.t 11), none⟩]
def f102 : AFunc := ⟨[.cell 4 106], (.seq (.reg f102r0) (.seq (.reg f102r1) (.seq (.reg f102r2) .ret)))⟩

-- slices.IndexFunc[[]fingerpost/fingerposttop.Part,fingerpost/fingerposttop.Part]
def f103r0 : List AOper := [
  ⟨(some 4), .move (.c (.int .i64 0)), none⟩]
def f103r1 : List AOper := [
  ⟨(some 6), .move (.t 0), none⟩,
  ⟨(some 7), .lenS (.t 6), none⟩,
  ⟨(some 8), .move (.c (.int .i64 0)), none⟩]
def f103r2 : List AOper := [
  ⟨(some 9), .bin .lss (.t 8) (.t 7), none⟩]
def f103r3 : List AOper := [
  ⟨(some 10), .move (.t 8), none⟩,
  ⟨(some 5), .move (.t 10), none⟩]
def f103r4 : List AOper := [
  ⟨(some 11), .move (.t 1), none⟩,
  ⟨(some 12), .move (.t 0), none⟩,
  ⟨(some 13), .move (.t 5), none⟩,
  ⟨(some 14), .idxS 120 (.t 12) (.t 13), none⟩,
  ⟨(some 15), .load 120 (.t 14), none⟩,
  ⟨(some 16), .callv (.t 11) [(.t 15)], none⟩]
def f103r5 : List AOper := [
  ⟨(some 17), .move (.t 5), none⟩,
  ⟨(some 4), .move (.t 17), none⟩]
def f103r6 : List AOper := [
  ⟨(some 18), .bin .add (.t 8) (.c (.int .i64 1)), none⟩,
  ⟨(some 8), .move (.t 18), none⟩]
def f103r7 : List AOper := [
  ⟨(some 4), .move (.c (.int .i64 (-1))), none⟩]
def f103 : AFunc := ⟨[.tmp 4], (.seq (.reg f103r0) (.seq (.seq (.reg f103r1) (.block 0 (.loop (.seq (.reg f103r2) (.seq (.cond (.t 9) .skip (.exit 0)) (.seq (.block 1 (.seq (.reg f103r3) (.seq (.reg f103r4) (.cond (.t 16) (.seq (.reg f103r5) .ret) .skip)))) (.reg f103r6))))))) (.seq (.reg f103r7) .ret)))⟩

-- (*fingerpost/field.Out).U8
def f104r0 : List AOper := [
  ⟨(some 4), .move (.t 0), none⟩,
  ⟨(some 5), .move (.t 1), none⟩,
  ⟨(some 6), .call 132 [(.t 4), (.t 5), (.c (.int .i64 1))], none⟩]
def f104 : AFunc := ⟨[], (.reg f104r0)⟩

-- (*fingerpost/field.Out).U32
def f105r0 : List AOper := [
  ⟨(some 4), .move (.t 0), none⟩,
  ⟨(some 5), .move (.t 1), none⟩,
  ⟨(some 6), .call 132 [(.t 4), (.t 5), (.c (.int .i64 4))], none⟩]
def f105 : AFunc := ⟨[], (.reg f105r0)⟩

-- (*fingerpost/field.Out).U64
def f106r0 : List AOper := [
  ⟨(some 4), .move (.t 0), none⟩,
  ⟨(some 5), .move (.t 1), none⟩,
  ⟨(some 6), .call 132 [(.t 4), (.t 5), (.c (.int .i64 8))], none⟩]
def f106 : AFunc := ⟨[], (.reg f106r0)⟩

-- (*fingerpost/field.Out).Sum
def f107r0 : List AOper := [
  ⟨(some 3), .box 62 (.agg 62) (.t 1), none⟩]
def f107r1 : List AOper := [
  ⟨(some 4), .move (.t 0), none⟩,
  ⟨(some 5), .eqv true .ptr (.t 4) (.c .nilp), none⟩]
def f107r2 : List (AOper × List Nat) := [
  (⟨(some 6), .move (.t 0), none⟩, []),
  (⟨(some 7), .move (.t 0), none⟩, []),
  (⟨(some 8), .nilCheck (.t 7), none⟩, []),
  (⟨(some 9), .fieldAddr 212 0 39 (.t 8), none⟩, []),
  (⟨(some 10), .load 39 (.t 9), none⟩, []),
  (⟨(some 11), .sliceA 16 62 5 (.t 3) none none, none⟩, []),
  (⟨(some 12), .append 5 false 8796093022208 (.t 10) (.t 11), none⟩, []),
  (⟨(some 13), .nilCheck (.t 6), none⟩, []),
  (⟨(some 14), .fieldAddr 212 0 39 (.t 13), none⟩, []),
  (⟨none, .store 39 .slice (.t 14) (.t 12), none⟩, [])]
def f107 : AFunc := ⟨[], (.seq (.reg f107r0) (.seq (.reg f107r1) (.cond (.t 5) (.draw f107r2) .skip)))⟩

-- (*fingerpost/field.Out).Sums
def f108r0 : List AOper := [
  ⟨(some 6), .move (.t 0), none⟩,
  ⟨(some 7), .move (.t 1), none⟩,
  ⟨(some 8), .lenS (.t 7), none⟩,
  ⟨(some 9), .conv .u64 (.t 8), none⟩,
  ⟨(some 10), .call 104 [(.t 6), (.t 9)], none⟩]
def f108r1 : List AOper := [
  ⟨(some 11), .move (.t 1), none⟩,
  ⟨(some 12), .lenS (.t 11), none⟩,
  ⟨(some 13), .move (.c (.int .i64 0)), none⟩]
def f108r2 : List AOper := [
  ⟨(some 14), .bin .lss (.t 13) (.t 12), none⟩]
def f108r3 : List AOper := [
  ⟨(some 15), .idxS 62 (.t 11) (.t 13), none⟩,
  ⟨(some 16), .load 62 (.t 15), none⟩,
  ⟨(some 5), .alloc 62, none⟩,
  ⟨none, .store 62 (.agg 62) (.t 5) (.t 16), none⟩]
def f108r4 : List AOper := [
  ⟨(some 17), .move (.t 0), none⟩,
  ⟨(some 18), .load 62 (.t 5), none⟩,
  ⟨(some 19), .call 107 [(.t 17), (.t 18)], none⟩]
def f108r5 : List AOper := [
  ⟨(some 20), .bin .add (.t 13) (.c (.int .i64 1)), none⟩,
  ⟨(some 13), .move (.t 20), none⟩]
def f108 : AFunc := ⟨[], (.seq (.reg f108r0) (.seq (.reg f108r1) (.block 0 (.loop (.seq (.reg f108r2) (.seq (.cond (.t 14) .skip (.exit 0)) (.seq (.block 1 (.seq (.reg f108r3) (.reg f108r4))) (.reg f108r5))))))))⟩

-- (*fingerpost/field.In).U8
def f109r0 : List AOper := [
  ⟨(some 2), .move (.c (.int .u64 0)), none⟩]
def f109r1 : List AOper := [
  ⟨(some 3), .move (.t 0), none⟩,
  ⟨(some 4), .call 138 [(.t 3), (.c (.int .i64 1))], none⟩,
  ⟨(some 2), .move (.t 4), none⟩]
def f109 : AFunc := ⟨[.tmp 2], (.seq (.reg f109r0) (.seq (.reg f109r1) .ret))⟩

-- (*fingerpost/field.In).U16
def f110r0 : List AOper := [
  ⟨(some 2), .move (.c (.int .u64 0)), none⟩]
def f110r1 : List AOper := [
  ⟨(some 3), .move (.t 0), none⟩,
  ⟨(some 4), .call 138 [(.t 3), (.c (.int .i64 2))], none⟩,
  ⟨(some 2), .move (.t 4), none⟩]
def f110 : AFunc := ⟨[.tmp 2], (.seq (.reg f110r0) (.seq (.reg f110r1) .ret))⟩

-- (*fingerpost/field.In).U32
def f111r0 : List AOper := [
  ⟨(some 2), .move (.c (.int .u64 0)), none⟩]
def f111r1 : List AOper := [
  ⟨(some 3), .move (.t 0), none⟩,
  ⟨(some 4), .call 138 [(.t 3), (.c (.int .i64 4))], none⟩,
  ⟨(some 2), .move (.t 4), none⟩]
def f111 : AFunc := ⟨[.tmp 2], (.seq (.reg f111r0) (.seq (.reg f111r1) .ret))⟩

-- (*fingerpost/field.In).U64
def f112r0 : List AOper := [
  ⟨(some 2), .move (.c (.int .u64 0)), none⟩]
def f112r1 : List AOper := [
  ⟨(some 3), .move (.t 0), none⟩,
  ⟨(some 4), .call 138 [(.t 3), (.c (.int .i64 8))], none⟩,
  ⟨(some 2), .move (.t 4), none⟩]
def f112 : AFunc := ⟨[.tmp 2], (.seq (.reg f112r0) (.seq (.reg f112r1) .ret))⟩

-- (*fingerpost/field.In).Sum
def f113r0 : List AOper := [
  ⟨(some 2), .alloc 62, none⟩]
def f113r1 : List AOper := [
  ⟨(some 3), .alloc 62, none⟩]
def f113r2 : List (AOper × List Nat) := [
  (⟨(some 4), .sliceA 16 62 5 (.t 3) none none, none⟩, []),
  (⟨(some 5), .move (.t 0), none⟩, []),
  (⟨(some 6), .call 139 [(.t 5), (.c (.int .i64 16))], none⟩, []),
  (⟨(some 7), .copy 5 false (.t 4) (.t 6), none⟩, [])]
def f113r3 : List AOper := [
  ⟨(some 8), .load 62 (.t 3), none⟩,
  ⟨none, .store 62 (.agg 62) (.t 2) (.t 8), none⟩]
def f113 : AFunc := ⟨[.cell 2 62], (.seq (.reg f113r0) (.seq (.reg f113r1) (.seq (.draw f113r2) (.seq (.reg f113r3) .ret))))⟩

-- (*fingerpost/field.In).Sums
def f114r0 : List AOper := [
  ⟨(some 4), .move (.c .nils), none⟩]
def f114r1 : List AOper := [
  ⟨(some 7), .move (.t 0), none⟩,
  ⟨(some 8), .call 109 [(.t 7)], none⟩,
  ⟨(some 5), .move (.t 8), none⟩]
def f114r2 : List AOper := [
  ⟨(some 9), .move (.t 5), none⟩,
  ⟨(some 10), .move (.t 1), none⟩,
  ⟨(some 11), .minmax true (.t 10) (.c (.int .i64 0)), none⟩,
  ⟨(some 12), .conv .u64 (.t 11), none⟩,
  ⟨(some 13), .bin .gtr (.t 9) (.t 12), none⟩]
def f114r3 : List AOper := [
  ⟨(some 14), .move (.t 0), none⟩,
  ⟨(some 15), .call 116 [(.t 14), (.c (.int .i64 8))], none⟩]
def f114r4 : List AOper := [
  ⟨(some 6), .move (.c .nils), none⟩]
def f114r5 : List AOper := [
  ⟨(some 16), .move (.t 5), none⟩,
  ⟨(some 17), .bin .gtr (.t 16) (.c (.int .u64 0)), none⟩,
  ⟨(some 18), .move (.t 17), none⟩,
  ⟨(some 19), .move (.t 0), some ((some 18), true)⟩,
  ⟨(some 20), .call 62 [(.t 19)], some ((some 18), true)⟩,
  ⟨(some 21), .bin .eql (.t 20) (.c (.int .i64 0)), some ((some 18), true)⟩,
  ⟨(some 22), .pick (.t 18) (.t 21) (.c (.bool false)), none⟩]
def f114r6 : List AOper := [
  ⟨(some 25), .move (.t 6), none⟩,
  ⟨(some 26), .move (.t 0), none⟩,
  ⟨(some 27), .call 113 [(.t 26)], none⟩,
  ⟨(some 28), .buildSlice 62 1 [(0, (.t 27))], none⟩,
  ⟨(some 29), .append 62 false 1034834473200 (.t 25) (.t 28), none⟩,
  ⟨(some 6), .move (.t 29), none⟩]
def f114r7 : List AOper := [
  ⟨(some 23), .move (.t 5), none⟩,
  ⟨(some 24), .bin .sub (.t 23) (.c (.int .u64 1)), none⟩,
  ⟨(some 5), .move (.t 24), none⟩]
def f114r8 : List AOper := [
  ⟨(some 30), .move (.t 0), none⟩,
  ⟨(some 31), .call 62 [(.t 30)], none⟩,
  ⟨(some 32), .bin .neq (.t 31) (.c (.int .i64 0)), none⟩]
def f114r9 : List AOper := [
  ⟨(some 4), .move (.c .nils), none⟩]
def f114r10 : List AOper := [
  ⟨(some 33), .move (.t 6), none⟩,
  ⟨(some 4), .move (.t 33), none⟩]
def f114 : AFunc := ⟨[.tmp 4], (.seq (.reg f114r0) (.seq (.reg f114r1) (.seq (.seq (.reg f114r2) (.cond (.t 13) (.reg f114r3) .skip)) (.seq (.reg f114r4) (.seq (.block 0 (.loop (.seq (.seq (.reg f114r5) (.cond (.t 22) .skip (.exit 0))) (.seq (.block 1 (.reg f114r6)) (.reg f114r7))))) (.seq (.seq (.reg f114r8) (.cond (.t 32) (.seq (.reg f114r9) .ret) .skip)) (.seq (.reg f114r10) .ret)))))))⟩

-- (*fingerpost/field.In).Blob
def f115r0 : List AOper := [
  ⟨(some 4), .move (.c .nils), none⟩]
def f115r1 : List AOper := [
  ⟨(some 6), .move (.t 0), none⟩,
  ⟨(some 7), .call 110 [(.t 6)], none⟩,
  ⟨(some 5), .move (.t 7), none⟩]
def f115r2 : List AOper := [
  ⟨(some 8), .move (.t 5), none⟩,
  ⟨(some 9), .move (.t 1), none⟩,
  ⟨(some 10), .minmax false (.t 9) (.c (.int .i64 4096)), none⟩,
  ⟨(some 11), .minmax true (.t 10) (.c (.int .i64 0)), none⟩,
  ⟨(some 12), .conv .u64 (.t 11), none⟩,
  ⟨(some 13), .bin .gtr (.t 8) (.t 12), none⟩]
def f115r3 : List AOper := [
  ⟨(some 14), .move (.t 0), none⟩,
  ⟨(some 15), .call 116 [(.t 14), (.c (.int .i64 8))], none⟩]
def f115r4 : List AOper := [
  ⟨(some 16), .buildSlice 5 0 [], none⟩,
  ⟨(some 17), .move (.t 0), none⟩,
  ⟨(some 18), .move (.t 5), none⟩,
  ⟨(some 19), .conv .i64 (.t 18), none⟩,
  ⟨(some 20), .call 139 [(.t 17), (.t 19)], none⟩,
  ⟨(some 21), .append 5 false 8796093022208 (.t 16) (.t 20), none⟩,
  ⟨(some 4), .move (.t 21), none⟩]
def f115 : AFunc := ⟨[.tmp 4], (.seq (.reg f115r0) (.seq (.reg f115r1) (.seq (.seq (.reg f115r2) (.cond (.t 13) (.reg f115r3) .skip)) (.seq (.reg f115r4) .ret))))⟩

-- (*fingerpost/field.In).Fail
def f116r0 : List AOper := [
  ⟨(some 4), .move (.t 0), none⟩,
  ⟨(some 5), .eqv true .ptr (.t 4) (.c .nilp), none⟩,
  ⟨(some 6), .move (.t 5), none⟩,
  ⟨(some 7), .move (.t 0), some ((some 6), true)⟩,
  ⟨(some 8), .nilCheck (.t 7), some ((some 6), true)⟩,
  ⟨(some 9), .fieldAddr 216 1 3 (.t 8), some ((some 6), true)⟩,
  ⟨(some 10), .load 3 (.t 9), some ((some 6), true)⟩,
  ⟨(some 11), .bin .eql (.t 10) (.c (.int .i64 0)), some ((some 6), true)⟩,
  ⟨(some 12), .pick (.t 6) (.t 11) (.c (.bool false)), none⟩,
  ⟨(some 13), .move (.t 12), none⟩,
  ⟨(some 14), .move (.t 1), some ((some 13), true)⟩,
  ⟨(some 15), .bin .neq (.t 14) (.c (.int .i64 0)), some ((some 13), true)⟩,
  ⟨(some 16), .pick (.t 13) (.t 15) (.c (.bool false)), none⟩]
def f116r1 : List AOper := [
  ⟨(some 17), .move (.t 0), none⟩,
  ⟨(some 18), .move (.t 0), none⟩,
  ⟨(some 19), .move (.t 1), none⟩,
  ⟨(some 20), .nilCheck (.t 17), none⟩,
  ⟨(some 21), .fieldAddr 216 1 3 (.t 20), none⟩,
  ⟨none, .store 3 (.int .i64) (.t 21) (.t 19), none⟩,
  ⟨(some 22), .nilCheck (.t 18), none⟩,
  ⟨(some 23), .fieldAddr 216 0 39 (.t 22), none⟩,
  ⟨none, .store 39 .slice (.t 23) (.c .nils), none⟩]
def f116 : AFunc := ⟨[], (.seq (.reg f116r0) (.cond (.t 16) (.reg f116r1) .skip))⟩

-- slices.IndexFunc[[][]byte,[]byte]
def f117r0 : List AOper := [
  ⟨(some 4), .move (.c (.int .i64 0)), none⟩]
def f117r1 : List AOper := [
  ⟨(some 6), .move (.t 0), none⟩,
  ⟨(some 7), .lenS (.t 6), none⟩,
  ⟨(some 8), .move (.c (.int .i64 0)), none⟩]
def f117r2 : List AOper := [
  ⟨(some 9), .bin .lss (.t 8) (.t 7), none⟩]
def f117r3 : List AOper := [
  ⟨(some 10), .move (.t 8), none⟩,
  ⟨(some 5), .move (.t 10), none⟩]
def f117r4 : List AOper := [
  ⟨(some 11), .move (.t 1), none⟩,
  ⟨(some 12), .move (.t 0), none⟩,
  ⟨(some 13), .move (.t 5), none⟩,
  ⟨(some 14), .idxS 39 (.t 12) (.t 13), none⟩,
  ⟨(some 15), .load 39 (.t 14), none⟩,
  ⟨(some 16), .callv (.t 11) [(.t 15)], none⟩]
def f117r5 : List AOper := [
  ⟨(some 17), .move (.t 5), none⟩,
  ⟨(some 4), .move (.t 17), none⟩]
def f117r6 : List AOper := [
  ⟨(some 18), .bin .add (.t 8) (.c (.int .i64 1)), none⟩,
  ⟨(some 8), .move (.t 18), none⟩]
def f117r7 : List AOper := [
  ⟨(some 4), .move (.c (.int .i64 (-1))), none⟩]
def f117 : AFunc := ⟨[.tmp 4], (.seq (.reg f117r0) (.seq (.seq (.reg f117r1) (.block 0 (.loop (.seq (.reg f117r2) (.seq (.cond (.t 9) .skip (.exit 0)) (.seq (.block 1 (.seq (.reg f117r3) (.seq (.reg f117r4) (.cond (.t 16) (.seq (.reg f117r5) .ret) .skip)))) (.reg f117r6))))))) (.seq (.reg f117r7) .ret)))⟩

-- (*fingerpost/diary.Diary).put
def f118r0 : List AOper := [
  ⟨(some 6), .move (.c (.int .i64 0)), none⟩]
def f118r1 : List AOper := [
  ⟨(some 13), .move (.t 1), none⟩,
  ⟨(some 14), .lenS (.t 13), none⟩,
  ⟨(some 15), .bin .gtr (.t 14) (.c (.int .i64 2048)), none⟩]
def f118r2 : List AOper := [
  ⟨(some 6), .move (.c (.int .i64 8)), none⟩]
def f118r3 : List (AOper × List Nat) := [
  (⟨(some 17), .move (.t 0), none⟩, []),
  (⟨(some 18), .nilCheck (.t 17), none⟩, []),
  (⟨(some 19), .fieldAddr 223 0 40 (.t 18), none⟩, []),
  (⟨(some 20), .load 40 (.t 19), none⟩, []),
  (⟨(some 21), .move (.t 0), none⟩, []),
  (⟨(some 22), .nilCheck (.t 21), none⟩, []),
  (⟨(some 23), .fieldAddr 223 1 23 (.t 22), none⟩, []),
  (⟨(some 24), .load 23 (.t 23), none⟩, []),
  (⟨(some 25), .call 119 [(.t 20), (.t 24)], none⟩, []),
  (⟨(some 16), .move (.t 25), none⟩, []),
  (⟨(some 26), .extract 0 (.t 16), none⟩, []),
  (⟨(some 27), .extract 1 (.t 16), none⟩, []),
  (⟨(some 7), .move (.t 26), none⟩, []),
  (⟨(some 8), .move (.t 27), none⟩, [])]
def f118r4 : List (AOper × List Nat) := [
  (⟨(some 28), .move (.t 0), none⟩, []),
  (⟨(some 29), .nilCheck (.t 28), none⟩, []),
  (⟨(some 30), .fieldAddr 223 1 23 (.t 29), none⟩, []),
  (⟨(some 31), .load 23 (.t 30), none⟩, []),
  (⟨(some 32), .move (.t 0), none⟩, []),
  (⟨(some 33), .nilCheck (.t 32), none⟩, []),
  (⟨(some 34), .fieldAddr 223 2 3 (.t 33), none⟩, []),
  (⟨(some 35), .load 3 (.t 34), none⟩, []),
  (⟨(some 36), .move (.t 2), none⟩, []),
  (⟨(some 37), .move (.t 1), none⟩, []),
  (⟨(some 38), .call 140 [(.t 31), (.t 35), (.t 36), (.t 37)], none⟩, []),
  (⟨(some 9), .move (.t 38), none⟩, [])]
def f118r5 : List AOper := [
  ⟨(some 39), .move (.t 9), none⟩,
  ⟨(some 40), .lenS (.t 39), none⟩,
  ⟨(some 41), .move (.t 8), none⟩,
  ⟨(some 42), .move (.t 0), none⟩,
  ⟨(some 43), .nilCheck (.t 42), none⟩,
  ⟨(some 44), .fieldAddr 223 2 3 (.t 43), none⟩,
  ⟨(some 45), .load 3 (.t 44), none⟩,
  ⟨(some 46), .bin .sub (.t 41) (.t 45), none⟩,
  ⟨(some 47), .bin .gtr (.t 40) (.t 46), none⟩]
def f118r6 : List AOper := [
  ⟨(some 6), .move (.c (.int .i64 4)), none⟩]
def f118r7 : List AOper := [
  ⟨(some 48), .move (.t 9), none⟩,
  ⟨(some 49), .lenS (.t 48), none⟩,
  ⟨(some 50), .move (.c (.int .i64 0)), none⟩]
def f118r8 : List AOper := [
  ⟨(some 51), .bin .lss (.t 50) (.t 49), none⟩]
def f118r9 : List AOper := [
  ⟨(some 52), .move (.t 50), none⟩,
  ⟨(some 53), .idxS 47 (.t 48) (.t 50), none⟩,
  ⟨(some 54), .load 47 (.t 53), none⟩,
  ⟨(some 11), .alloc 47, none⟩,
  ⟨(some 10), .move (.t 52), none⟩,
  ⟨none, .store 47 (.agg 47) (.t 11) (.t 54), none⟩]
def f118r10 : List (AOper × List Nat) := [
  (⟨(some 55), .move (.t 0), none⟩, []),
  (⟨(some 56), .nilCheck (.t 55), none⟩, []),
  (⟨(some 57), .fieldAddr 223 0 40 (.t 56), none⟩, []),
  (⟨(some 58), .load 40 (.t 57), none⟩, []),
  (⟨(some 59), .move (.t 7), none⟩, []),
  (⟨(some 60), .move (.t 0), none⟩, []),
  (⟨(some 61), .nilCheck (.t 60), none⟩, []),
  (⟨(some 62), .fieldAddr 223 2 3 (.t 61), none⟩, []),
  (⟨(some 63), .load 3 (.t 62), none⟩, []),
  (⟨(some 64), .bin .add (.t 59) (.t 63), none⟩, []),
  (⟨(some 65), .move (.t 10), none⟩, []),
  (⟨(some 66), .bin .add (.t 64) (.t 65), none⟩, []),
  (⟨(some 67), .load 47 (.t 11), none⟩, []),
  (⟨(some 68), .call 20 [(.t 58), (.t 66), (.t 67)], none⟩, []),
  (⟨(some 12), .move (.t 68), none⟩, [])]
def f118r11 : List AOper := [
  ⟨(some 69), .move (.t 12), none⟩,
  ⟨(some 70), .bin .neq (.t 69) (.c (.int .i64 0)), none⟩]
def f118r12 : List AOper := [
  ⟨(some 71), .move (.t 12), none⟩,
  ⟨(some 6), .move (.t 71), none⟩]
def f118r13 : List AOper := [
  ⟨(some 72), .bin .add (.t 50) (.c (.int .i64 1)), none⟩,
  ⟨(some 50), .move (.t 72), none⟩]
def f118r14 : List AOper := [
  ⟨(some 73), .move (.t 0), none⟩,
  ⟨(some 74), .nilCheck (.t 73), none⟩,
  ⟨(some 75), .fieldAddr 223 2 3 (.t 74), none⟩,
  ⟨(some 76), .load 3 (.t 75), none⟩,
  ⟨(some 77), .move (.t 9), none⟩,
  ⟨(some 78), .lenS (.t 77), none⟩,
  ⟨(some 79), .bin .add (.t 76) (.t 78), none⟩,
  ⟨(some 80), .nilCheck (.t 73), none⟩,
  ⟨(some 81), .fieldAddr 223 2 3 (.t 80), none⟩,
  ⟨none, .store 3 (.int .i64) (.t 81) (.t 79), none⟩]
def f118r15 : List AOper := [
  ⟨(some 6), .move (.c (.int .i64 0)), none⟩]
def f118 : AFunc := ⟨[.tmp 6], (.seq (.reg f118r0) (.seq (.seq (.reg f118r1) (.cond (.t 15) (.seq (.reg f118r2) .ret) .skip)) (.seq (.draw f118r3) (.seq (.draw f118r4) (.seq (.seq (.reg f118r5) (.cond (.t 47) (.seq (.reg f118r6) .ret) .skip)) (.seq (.seq (.reg f118r7) (.block 0 (.loop (.seq (.reg f118r8) (.seq (.cond (.t 51) .skip (.exit 0)) (.seq (.block 1 (.seq (.reg f118r9) (.seq (.draw f118r10) (.seq (.reg f118r11) (.cond (.t 70) (.seq (.reg f118r12) .ret) .skip))))) (.reg f118r13))))))) (.seq (.reg f118r14) (.seq (.reg f118r15) .ret))))))))⟩

-- fingerpost/diary.half
def f119r0 : List AOper := [
  ⟨(some 4), .move (.c (.int .i64 0)), none⟩,
  ⟨(some 5), .move (.c (.int .i64 0)), none⟩]
def f119r1 : List AOper := [
  ⟨(some 6), .move (.t 0), none⟩,
  ⟨(some 7), .call 25 [(.t 6)], none⟩,
  ⟨(some 8), .bin .quo (.t 7) (.c (.int .i64 2)), none⟩,
  ⟨(some 5), .move (.t 8), none⟩]
def f119r2 : List AOper := [
  ⟨(some 9), .move (.t 1), none⟩,
  ⟨(some 10), .bin .rem (.t 9) (.c (.int .u32 2)), none⟩,
  ⟨(some 11), .conv .i64 (.t 10), none⟩,
  ⟨(some 12), .move (.t 5), none⟩,
  ⟨(some 13), .bin .mul (.t 11) (.t 12), none⟩,
  ⟨(some 14), .move (.t 5), none⟩,
  ⟨(some 4), .move (.t 13), none⟩,
  ⟨(some 5), .move (.t 14), none⟩]
def f119 : AFunc := ⟨[.tmp 4, .tmp 5], (.seq (.reg f119r0) (.seq (.reg f119r1) (.seq (.reg f119r2) .ret)))⟩

-- fingerpost/diary.read
def f120r0 : List AOper := [
  ⟨(some 6), .alloc 226, none⟩,
  ⟨(some 7), .move (.c (.int .i64 0)), none⟩]
def f120r1 : List AOper := [
  ⟨(some 8), .alloc 226, none⟩]
def f120r2 : List AOper := [
  ⟨(some 9), .move (.c .nils), none⟩]
def f120r3 : List AOper := [
  ⟨(some 10), .move (.c (.bool false)), none⟩]
def f120r4 : List AOper := [
  ⟨(some 15), .move (.t 2), none⟩,
  ⟨(some 16), .move (.c (.int .i64 0)), none⟩]
def f120r5 : List AOper := [
  ⟨(some 17), .bin .lss (.t 16) (.t 15), none⟩]
def f120r6 : List AOper := [
  ⟨(some 18), .move (.t 16), none⟩,
  ⟨(some 11), .move (.t 18), none⟩]
def f120r7 : List AOper := [
  ⟨(some 20), .move (.t 0), none⟩,
  ⟨(some 21), .move (.t 1), none⟩,
  ⟨(some 22), .move (.t 11), none⟩,
  ⟨(some 23), .bin .add (.t 21) (.t 22), none⟩,
  ⟨(some 24), .call 22 [(.t 20), (.t 23)], none⟩,
  ⟨(some 19), .move (.t 24), none⟩,
  ⟨(some 25), .extract 0 (.t 19), none⟩,
  ⟨(some 26), .extract 1 (.t 19), none⟩,
  ⟨(some 12), .alloc 47, none⟩,
  ⟨none, .store 47 (.agg 47) (.t 12) (.t 25), none⟩,
  ⟨(some 13), .move (.t 26), none⟩]
def f120r8 : List AOper := [
  ⟨(some 27), .move (.t 13), none⟩,
  ⟨(some 28), .bin .neq (.t 27) (.c (.int .i64 0)), none⟩]
def f120r9 : List AOper := [
  ⟨(some 29), .build 226 [], none⟩,
  ⟨(some 30), .move (.t 13), none⟩,
  ⟨none, .store 226 (.agg 226) (.t 6) (.t 29), none⟩,
  ⟨(some 7), .move (.t 30), none⟩]
def f120r10 : List AOper := [
  ⟨(some 31), .move (.t 11), none⟩,
  ⟨(some 32), .bin .eql (.t 31) (.c (.int .i64 0)), none⟩]
def f120r11 : List AOper := [
  ⟨(some 33), .sliceA 64 47 5 (.t 12) none none, none⟩,
  ⟨(some 34), .call 141 [(.t 33)], none⟩,
  ⟨(some 35), .fieldAddr 226 0 23 (.t 8), none⟩,
  ⟨none, .store 23 (.int .u32) (.t 35) (.t 34), none⟩]
def f120r12 : List (AOper × List Nat) := [
  (⟨(some 36), .fieldAddr 226 0 23 (.t 8), none⟩, []),
  (⟨(some 37), .load 23 (.t 36), none⟩, []),
  (⟨(some 38), .bin .eql (.t 37) (.c (.int .u32 0)), none⟩, []),
  (⟨(some 39), .move (.t 38), none⟩, []),
  (⟨(some 40), .sliceA 64 47 5 (.t 12) (some (.c (.int .i64 60))) none, some ((some 39), false)⟩, []),
  (⟨(some 41), .call 141 [(.t 40)], some ((some 39), false)⟩, []),
  (⟨(some 42), .fieldAddr 226 0 23 (.t 8), some ((some 39), false)⟩, []),
  (⟨(some 43), .load 23 (.t 42), some ((some 39), false)⟩, [5]),
  (⟨(some 44), .bin .neq (.t 41) (.t 43), some ((some 39), false)⟩, []),
  (⟨(some 45), .pick (.t 39) (.c (.bool true)) (.t 44), none⟩, []),
  (⟨(some 46), .move (.t 45), none⟩, []),
  (⟨(some 47), .fieldAddr 226 0 23 (.t 8), some ((some 46), false)⟩, []),
  (⟨(some 48), .load 23 (.t 47), some ((some 46), false)⟩, []),
  (⟨(some 49), .bin .rem (.t 48) (.c (.int .u32 2)), some ((some 46), false)⟩, []),
  (⟨(some 50), .conv .i64 (.t 49), some ((some 46), false)⟩, []),
  (⟨(some 51), .move (.t 1), some ((some 46), false)⟩, []),
  (⟨(some 52), .move (.t 2), some ((some 46), false)⟩, []),
  (⟨(some 53), .minmax true (.t 52) (.c (.int .i64 1)), some ((some 46), false)⟩, []),
  (⟨(some 54), .bin .quo (.t 51) (.t 53), some ((some 46), false)⟩, []),
  (⟨(some 55), .bin .neq (.t 50) (.t 54), some ((some 46), false)⟩, []),
  (⟨(some 56), .pick (.t 46) (.c (.bool true)) (.t 55), none⟩, [])]
def f120r13 : List AOper := [
  ⟨(some 57), .build 226 [], none⟩,
  ⟨none, .store 226 (.agg 226) (.t 6) (.t 57), none⟩,
  ⟨(some 7), .move (.c (.int .i64 0)), none⟩]
def f120r14 : List AOper := [
  ⟨(some 58), .load 47 (.t 12), none⟩,
  ⟨(some 59), .fieldAddr 226 0 23 (.t 8), none⟩,
  ⟨(some 60), .load 23 (.t 59), none⟩,
  ⟨(some 61), .move (.t 11), none⟩,
  ⟨(some 62), .call 142 [(.t 58), (.t 60), (.t 61)], none⟩]
def f120r15 : List AOper := [
  ⟨(some 64), .bin .eql (.t 62) (.c (.int .i64 1)), none⟩,
  ⟨(some 63), .move (.t 64), none⟩]
def f120r16 : List AOper := [
  ⟨(some 66), .bin .eql (.t 62) (.c (.int .i64 2)), none⟩,
  ⟨(some 65), .move (.t 66), none⟩]
def f120r17 : List AOper := [
  ⟨(some 67), .build 226 [], none⟩,
  ⟨none, .store 226 (.agg 226) (.t 6) (.t 67), none⟩,
  ⟨(some 7), .move (.c (.int .i64 31)), none⟩]
def f120r18 : List AOper := [
  ⟨(some 68), .idxA 64 47 5 (.t 12) (.c (.int .i64 6)), none⟩,
  ⟨(some 69), .load 5 (.t 68), none⟩,
  ⟨(some 14), .move (.t 69), none⟩]
def f120r19 : List AOper := [
  ⟨(some 70), .move (.t 14), none⟩,
  ⟨(some 71), .bin .and (.t 70) (.c (.int .u8 1)), none⟩,
  ⟨(some 72), .bin .neq (.t 71) (.c (.int .u8 0)), none⟩,
  ⟨(some 73), .move (.t 10), none⟩,
  ⟨(some 74), .eqv false .bool (.t 72) (.t 73), none⟩]
def f120r20 : List AOper := [
  ⟨(some 75), .build 226 [], none⟩,
  ⟨none, .store 226 (.agg 226) (.t 6) (.t 75), none⟩,
  ⟨(some 7), .move (.c (.int .i64 31)), none⟩]
def f120r21 : List AOper := [
  ⟨(some 76), .move (.t 9), none⟩,
  ⟨(some 77), .idxA 64 47 5 (.t 12) (.c (.int .i64 7)), none⟩,
  ⟨(some 78), .load 5 (.t 77), none⟩,
  ⟨(some 79), .conv .i64 (.t 78), none⟩,
  ⟨(some 80), .bin .add (.c (.int .i64 8)) (.t 79), none⟩,
  ⟨(some 81), .sliceA 64 47 5 (.t 12) (some (.c (.int .i64 8))) (some (.t 80)), none⟩,
  ⟨(some 82), .append 5 false 8796093022208 (.t 76) (.t 81), none⟩,
  ⟨(some 83), .move (.t 14), none⟩,
  ⟨(some 84), .bin .and (.t 83) (.c (.int .u8 2)), none⟩,
  ⟨(some 85), .bin .eql (.t 84) (.c (.int .u8 0)), none⟩,
  ⟨(some 9), .move (.t 82), none⟩,
  ⟨(some 10), .move (.t 85), none⟩]
def f120r22 : List AOper := [
  ⟨(some 93), .move (.t 10), none⟩,
  ⟨(some 92), .move (.t 93), none⟩]
def f120r23 : List AOper := [
  ⟨(some 95), .move (.t 14), none⟩,
  ⟨(some 96), .bin .and (.t 95) (.c (.int .u8 4)), none⟩,
  ⟨(some 97), .bin .neq (.t 96) (.c (.int .u8 0)), none⟩,
  ⟨(some 98), .move (.t 97), none⟩,
  ⟨(some 99), .fieldAddr 226 2 4 (.t 8), some ((some 98), true)⟩,
  ⟨(some 100), .load 4 (.t 99), some ((some 98), true)⟩,
  ⟨(some 101), .pick (.t 98) (.t 100) (.c (.bool false)), none⟩,
  ⟨(some 94), .move (.t 101), none⟩]
def f120r24 : List AOper := [
  ⟨(some 102), .build 226 [], none⟩,
  ⟨none, .store 226 (.agg 226) (.t 6) (.t 102), none⟩,
  ⟨(some 7), .move (.c (.int .i64 31)), none⟩]
def f120r25 : List AOper := [
  ⟨(some 104), .move (.t 14), none⟩,
  ⟨(some 105), .bin .and (.t 104) (.c (.int .u8 4)), none⟩,
  ⟨(some 106), .bin .neq (.t 105) (.c (.int .u8 0)), none⟩,
  ⟨(some 103), .move (.t 106), none⟩]
def f120r26 : List AOper := [
  ⟨(some 107), .fieldAddr 226 2 4 (.t 8), none⟩,
  ⟨none, .store 4 .bool (.t 107) (.c (.bool true)), none⟩,
  ⟨(some 9), .move (.c .nils), none⟩]
def f120r27 : List AOper := [
  ⟨(some 86), .fieldAddr 226 1 135 (.t 8), none⟩,
  ⟨(some 87), .load 135 (.t 86), none⟩,
  ⟨(some 88), .move (.t 9), none⟩,
  ⟨(some 89), .buildSlice 39 1 [(0, (.t 88))], none⟩,
  ⟨(some 90), .append 39 false 703687441776 (.t 87) (.t 89), none⟩,
  ⟨(some 91), .fieldAddr 226 1 135 (.t 8), none⟩,
  ⟨none, .store 135 .slice (.t 91) (.t 90), none⟩,
  ⟨(some 9), .move (.c .nils), none⟩]
def f120r28 : List AOper := [
  ⟨(some 108), .bin .add (.t 16) (.c (.int .i64 1)), none⟩,
  ⟨(some 16), .move (.t 108), none⟩]
def f120r29 : List AOper := [
  ⟨(some 109), .load 226 (.t 8), none⟩,
  ⟨none, .store 226 (.agg 226) (.t 6) (.t 109), none⟩,
  ⟨(some 7), .move (.c (.int .i64 0)), none⟩]
def f120 : AFunc := ⟨[.cell 6 226, .tmp 7], (.seq (.reg f120r0) (.scope (.seq (.reg f120r1) (.seq (.reg f120r2) (.seq (.reg f120r3) (.seq .skip (.seq (.seq (.reg f120r4) (.block 0 (.loop (.seq (.reg f120r5) (.seq (.cond (.t 17) .skip (.exit 0)) (.seq (.block 1 (.seq (.reg f120r6) (.seq (.reg f120r7) (.seq (.seq (.reg f120r8) (.cond (.t 28) (.seq (.reg f120r9) .ret) .skip)) (.seq (.seq (.reg f120r10) (.cond (.t 32) (.seq (.reg f120r11) (.seq (.draw f120r12) (.cond (.t 56) (.seq (.reg f120r13) .ret) .skip))) .skip)) (.seq (.seq (.reg f120r14) (.block 2 (.seq (.reg f120r15) (.cond (.t 63) (.exit 0) (.seq (.reg f120r16) (.cond (.t 65) (.seq (.reg f120r17) .ret) .skip)))))) (.seq (.reg f120r18) (.seq (.seq (.reg f120r19) (.cond (.t 74) (.seq (.reg f120r20) .ret) .skip)) (.seq (.reg f120r21) (.block 3 (.seq (.reg f120r22) (.cond (.t 92) .skip (.seq (.reg f120r23) (.cond (.t 94) (.seq (.reg f120r24) .ret) (.seq (.reg f120r25) (.cond (.t 103) (.reg f120r26) (.reg f120r27))))))))))))))))) (.reg f120r28))))))) (.seq (.reg f120r29) .ret))))))))⟩

-- fingerpost/diary.next
def f121r0 : List AOper := [
  ⟨(some 4), .move (.c (.int .u32 0)), none⟩]
def f121r1 : List AOper := [
  ⟨(some 5), .move (.t 1), none⟩,
  ⟨(some 6), .move (.t 0), none⟩,
  ⟨(some 7), .bin .gtr (.t 5) (.t 6), none⟩]
def f121r2 : List AOper := [
  ⟨(some 8), .move (.t 1), none⟩,
  ⟨(some 9), .bin .add (.t 8) (.c (.int .u32 2)), none⟩,
  ⟨(some 4), .move (.t 9), none⟩]
def f121r3 : List AOper := [
  ⟨(some 10), .move (.t 0), none⟩,
  ⟨(some 11), .bin .add (.t 10) (.c (.int .u32 1)), none⟩,
  ⟨(some 4), .move (.t 11), none⟩]
def f121 : AFunc := ⟨[.tmp 4], (.seq (.reg f121r0) (.seq (.seq (.reg f121r1) (.cond (.t 7) (.seq (.reg f121r2) .ret) .skip)) (.seq (.reg f121r3) .ret)))⟩

-- fingerpost/settle.Right
def f122r0 : List AOper := [
  ⟨(some 1), .box 150 (.agg 150) (.t 0), none⟩,
  ⟨(some 2), .move (.c (.bool false)), none⟩]
def f122r1 : List AOper := [
  ⟨(some 3), .fieldAddr 150 0 3 (.t 1), none⟩,
  ⟨(some 4), .load 3 (.t 3), none⟩,
  ⟨(some 5), .bin .geq (.t 4) (.c (.int .i64 1)), none⟩,
  ⟨(some 6), .move (.t 5), none⟩,
  ⟨(some 7), .fieldAddr 150 0 3 (.t 1), some ((some 6), true)⟩,
  ⟨(some 8), .load 3 (.t 7), some ((some 6), true)⟩,
  ⟨(some 9), .bin .leq (.t 8) (.c (.int .i64 1048576)), some ((some 6), true)⟩,
  ⟨(some 10), .pick (.t 6) (.t 9) (.c (.bool false)), none⟩,
  ⟨(some 11), .move (.t 10), none⟩,
  ⟨(some 12), .fieldAddr 150 1 3 (.t 1), some ((some 11), true)⟩,
  ⟨(some 13), .load 3 (.t 12), some ((some 11), true)⟩,
  ⟨(some 14), .bin .geq (.t 13) (.c (.int .i64 0)), some ((some 11), true)⟩,
  ⟨(some 15), .pick (.t 11) (.t 14) (.c (.bool false)), none⟩,
  ⟨(some 16), .move (.t 15), none⟩,
  ⟨(some 17), .fieldAddr 150 1 3 (.t 1), some ((some 16), true)⟩,
  ⟨(some 18), .load 3 (.t 17), some ((some 16), true)⟩,
  ⟨(some 19), .bin .leq (.t 18) (.c (.int .i64 1048576)), some ((some 16), true)⟩,
  ⟨(some 20), .pick (.t 16) (.t 19) (.c (.bool false)), none⟩,
  ⟨(some 2), .move (.t 20), none⟩]
def f122 : AFunc := ⟨[.tmp 2], (.seq (.reg f122r0) (.seq (.reg f122r1) .ret))⟩

-- (*fingerpost/rib.Table).node
def f123r0 : List AOper := [
  ⟨(some 4), .move (.c (.bool false)), none⟩]
def f123r1 : List AOper := [
  ⟨(some 5), .move (.t 1), none⟩,
  ⟨(some 6), .bin .geq (.t 5) (.c (.int .i64 0)), none⟩,
  ⟨(some 7), .move (.t 6), none⟩,
  ⟨(some 8), .move (.t 1), some ((some 7), true)⟩,
  ⟨(some 9), .bin .lss (.t 8) (.c (.int .i64 8)), some ((some 7), true)⟩,
  ⟨(some 10), .pick (.t 7) (.t 9) (.c (.bool false)), none⟩,
  ⟨(some 11), .move (.t 10), none⟩,
  ⟨(some 12), .move (.t 1), some ((some 11), true)⟩,
  ⟨(some 13), .move (.t 0), some ((some 11), true)⟩,
  ⟨(some 14), .nilCheck (.t 13), some ((some 11), true)⟩,
  ⟨(some 15), .fieldAddr 195 0 3 (.t 14), some ((some 11), true)⟩,
  ⟨(some 16), .load 3 (.t 15), some ((some 11), true)⟩,
  ⟨(some 17), .bin .neq (.t 12) (.t 16), some ((some 11), true)⟩,
  ⟨(some 18), .pick (.t 11) (.t 17) (.c (.bool false)), none⟩,
  ⟨(some 4), .move (.t 18), none⟩]
def f123 : AFunc := ⟨[.tmp 4], (.seq (.reg f123r0) (.seq (.reg f123r1) .ret))⟩

-- fingerpost/rank.Right
def f124r0 : List AOper := [
  ⟨(some 1), .box 106 (.agg 106) (.t 0), none⟩,
  ⟨(some 2), .move (.c (.bool false)), none⟩]
def f124r1 : List AOper := [
  ⟨(some 3), .fieldAddr 106 0 23 (.t 1), none⟩,
  ⟨(some 4), .load 23 (.t 3), none⟩,
  ⟨(some 5), .bin .leq (.t 4) (.c (.int .u32 65536)), none⟩,
  ⟨(some 6), .move (.t 5), none⟩,
  ⟨(some 7), .fieldAddr 106 1 23 (.t 1), some ((some 6), true)⟩,
  ⟨(some 8), .load 23 (.t 7), some ((some 6), true)⟩,
  ⟨(some 9), .bin .lss (.t 8) (.c (.int .u32 64)), some ((some 6), true)⟩,
  ⟨(some 10), .pick (.t 6) (.t 9) (.c (.bool false)), none⟩,
  ⟨(some 11), .move (.t 10), none⟩,
  ⟨(some 12), .fieldAddr 106 2 3 (.t 1), some ((some 11), true)⟩,
  ⟨(some 13), .load 3 (.t 12), some ((some 11), true)⟩,
  ⟨(some 14), .bin .geq (.t 13) (.c (.int .i64 0)), some ((some 11), true)⟩,
  ⟨(some 15), .pick (.t 11) (.t 14) (.c (.bool false)), none⟩,
  ⟨(some 16), .move (.t 15), none⟩,
  ⟨(some 17), .fieldAddr 106 2 3 (.t 1), some ((some 16), true)⟩,
  ⟨(some 18), .load 3 (.t 17), some ((some 16), true)⟩,
  ⟨(some 19), .bin .leq (.t 18) (.c (.int .i64 15)), some ((some 16), true)⟩,
  ⟨(some 20), .pick (.t 16) (.t 19) (.c (.bool false)), none⟩,
  ⟨(some 2), .move (.t 20), none⟩]
def f124 : AFunc := ⟨[.tmp 2], (.seq (.reg f124r0) (.seq (.reg f124r1) .ret))⟩

-- fingerpost/rank.Compare
def f125r0 : List AOper := [
  ⟨(some 2), .box 106 (.agg 106) (.t 0), none⟩,
  ⟨(some 3), .box 106 (.agg 106) (.t 1), none⟩,
  ⟨(some 4), .move (.c (.int .i64 0)), none⟩]
def f125r1 : List AOper := [
  ⟨(some 6), .fieldAddr 106 0 23 (.t 2), none⟩,
  ⟨(some 7), .load 23 (.t 6), none⟩,
  ⟨(some 8), .fieldAddr 106 0 23 (.t 3), none⟩,
  ⟨(some 9), .load 23 (.t 8), none⟩,
  ⟨(some 10), .bin .neq (.t 7) (.t 9), none⟩,
  ⟨(some 5), .move (.t 10), none⟩]
def f125r2 : List AOper := [
  ⟨(some 11), .fieldAddr 106 0 23 (.t 2), none⟩,
  ⟨(some 12), .load 23 (.t 11), none⟩,
  ⟨(some 13), .fieldAddr 106 0 23 (.t 3), none⟩,
  ⟨(some 14), .load 23 (.t 13), none⟩,
  ⟨(some 15), .bin .gtr (.t 12) (.t 14), none⟩,
  ⟨(some 16), .call 143 [(.t 15)], none⟩,
  ⟨(some 4), .move (.t 16), none⟩]
def f125r3 : List AOper := [
  ⟨(some 18), .fieldAddr 106 1 23 (.t 2), none⟩,
  ⟨(some 19), .load 23 (.t 18), none⟩,
  ⟨(some 20), .fieldAddr 106 1 23 (.t 3), none⟩,
  ⟨(some 21), .load 23 (.t 20), none⟩,
  ⟨(some 22), .bin .neq (.t 19) (.t 21), none⟩,
  ⟨(some 17), .move (.t 22), none⟩]
def f125r4 : List AOper := [
  ⟨(some 23), .fieldAddr 106 1 23 (.t 2), none⟩,
  ⟨(some 24), .load 23 (.t 23), none⟩,
  ⟨(some 25), .fieldAddr 106 1 23 (.t 3), none⟩,
  ⟨(some 26), .load 23 (.t 25), none⟩,
  ⟨(some 27), .bin .gtr (.t 24) (.t 26), none⟩,
  ⟨(some 28), .call 143 [(.t 27)], none⟩,
  ⟨(some 4), .move (.t 28), none⟩]
def f125r5 : List AOper := [
  ⟨(some 30), .fieldAddr 106 2 3 (.t 2), none⟩,
  ⟨(some 31), .load 3 (.t 30), none⟩,
  ⟨(some 32), .fieldAddr 106 2 3 (.t 3), none⟩,
  ⟨(some 33), .load 3 (.t 32), none⟩,
  ⟨(some 34), .bin .neq (.t 31) (.t 33), none⟩,
  ⟨(some 29), .move (.t 34), none⟩]
def f125r6 : List AOper := [
  ⟨(some 35), .fieldAddr 106 2 3 (.t 2), none⟩,
  ⟨(some 36), .load 3 (.t 35), none⟩,
  ⟨(some 37), .fieldAddr 106 2 3 (.t 3), none⟩,
  ⟨(some 38), .load 3 (.t 37), none⟩,
  ⟨(some 39), .bin .lss (.t 36) (.t 38), none⟩,
  ⟨(some 40), .call 143 [(.t 39)], none⟩,
  ⟨(some 4), .move (.t 40), none⟩]
def f125r7 : List AOper := [
  ⟨(some 4), .move (.c (.int .i64 0)), none⟩]
def f125 : AFunc := ⟨[.tmp 4], (.seq (.reg f125r0) (.seq (.block 0 (.seq (.reg f125r1) (.cond (.t 5) (.seq (.reg f125r2) .ret) (.seq (.reg f125r3) (.cond (.t 17) (.seq (.reg f125r4) .ret) (.seq (.reg f125r5) (.cond (.t 29) (.seq (.reg f125r6) .ret) .skip))))))) (.seq (.reg f125r7) .ret)))⟩

-- fingerpost/rank.Newer
def f126r0 : List AOper := [
  ⟨(some 2), .box 106 (.agg 106) (.t 0), none⟩,
  ⟨(some 3), .box 106 (.agg 106) (.t 1), none⟩,
  ⟨(some 4), .move (.c (.bool false)), none⟩]
def f126r1 : List AOper := [
  ⟨(some 5), .fieldAddr 106 2 3 (.t 2), none⟩,
  ⟨none, .store 3 (.int .i64) (.t 5) (.c (.int .i64 0)), none⟩,
  ⟨(some 6), .fieldAddr 106 2 3 (.t 3), none⟩,
  ⟨none, .store 3 (.int .i64) (.t 6) (.c (.int .i64 0)), none⟩]
def f126r2 : List AOper := [
  ⟨(some 7), .load 106 (.t 2), none⟩,
  ⟨(some 8), .load 106 (.t 3), none⟩,
  ⟨(some 9), .call 125 [(.t 7), (.t 8)], none⟩,
  ⟨(some 10), .bin .gtr (.t 9) (.c (.int .i64 0)), none⟩,
  ⟨(some 4), .move (.t 10), none⟩]
def f126 : AFunc := ⟨[.tmp 4], (.seq (.reg f126r0) (.seq (.reg f126r1) (.seq (.reg f126r2) .ret)))⟩

-- fingerpost/rib.twin
def f127r0 : List AOper := [
  ⟨(some 1), .box 154 (.agg 154) (.t 0), none⟩,
  ⟨(some 2), .alloc 154, none⟩]
def f127r1 : List AOper := [
  ⟨(some 3), .buildSlice 62 0 [], none⟩,
  ⟨(some 4), .fieldAddr 154 3 57 (.t 1), none⟩,
  ⟨(some 5), .load 57 (.t 4), none⟩,
  ⟨(some 6), .append 62 false 1034834473200 (.t 3) (.t 5), none⟩,
  ⟨(some 7), .fieldAddr 154 3 57 (.t 1), none⟩,
  ⟨none, .store 57 .slice (.t 7) (.t 6), none⟩]
def f127r2 : List AOper := [
  ⟨(some 8), .load 154 (.t 1), none⟩,
  ⟨none, .store 154 (.agg 154) (.t 2) (.t 8), none⟩]
def f127 : AFunc := ⟨[.cell 2 154], (.seq (.reg f127r0) (.seq (.reg f127r1) (.seq (.reg f127r2) .ret)))⟩

-- fingerpost/settle.time
def f128r0 : List AOper := [
  ⟨(some 2), .move (.c (.bool false)), none⟩]
def f128r1 : List AOper := [
  ⟨(some 3), .move (.t 0), none⟩,
  ⟨(some 4), .bin .geq (.t 3) (.c (.int .i64 0)), none⟩,
  ⟨(some 5), .move (.t 4), none⟩,
  ⟨(some 6), .move (.t 0), some ((some 5), true)⟩,
  ⟨(some 7), .bin .leq (.t 6) (.c (.int .i64 1099511627776)), some ((some 5), true)⟩,
  ⟨(some 8), .pick (.t 5) (.t 7) (.c (.bool false)), none⟩,
  ⟨(some 2), .move (.t 8), none⟩]
def f128 : AFunc := ⟨[.tmp 2], (.seq (.reg f128r0) (.seq (.reg f128r1) .ret))⟩

-- (*fingerpost/settle.Plan).settled
def f129r0 : List AOper := [
  ⟨(some 5), .box 234 (.agg 234) (.t 2), none⟩,
  ⟨(some 6), .move (.c (.bool false)), none⟩]
def f129r1 : List (AOper × List Nat) := [
  (⟨(some 7), .fieldAddr 234 3 4 (.t 5), none⟩, []),
  (⟨(some 8), .load 4 (.t 7), none⟩, []),
  (⟨(some 9), .move (.t 8), none⟩, []),
  (⟨(some 10), .fieldAddr 234 4 4 (.t 5), some ((some 9), true)⟩, []),
  (⟨(some 11), .load 4 (.t 10), some ((some 9), true)⟩, []),
  (⟨(some 12), .move (.t 11), some ((some 9), true)⟩, []),
  (⟨(some 13), .move (.t 1), some ((some 12), false)⟩, []),
  (⟨(some 14), .fieldAddr 234 2 2 (.t 5), some ((some 12), false)⟩, []),
  (⟨(some 15), .load 2 (.t 14), some ((some 12), false)⟩, []),
  (⟨(some 16), .bin .sub (.t 13) (.t 15), some ((some 12), false)⟩, []),
  (⟨(some 17), .move (.t 0), some ((some 12), false)⟩, []),
  (⟨(some 18), .nilCheck (.t 17), some ((some 12), false)⟩, []),
  (⟨(some 19), .fieldAddr 237 0 150 (.t 18), some ((some 12), false)⟩, []),
  (⟨(some 20), .fieldAddr 150 1 3 (.t 19), some ((some 12), false)⟩, []),
  (⟨(some 21), .load 3 (.t 20), some ((some 12), false)⟩, []),
  (⟨(some 22), .bin .geq (.t 16) (.t 21), some ((some 12), false)⟩, []),
  (⟨(some 23), .pick (.t 12) (.c (.bool true)) (.t 22), some ((some 9), true)⟩, []),
  (⟨(some 24), .pick (.t 9) (.t 23) (.c (.bool false)), none⟩, []),
  (⟨(some 6), .move (.t 24), none⟩, [])]
def f129 : AFunc := ⟨[.tmp 6], (.seq (.reg f129r0) (.seq (.draw f129r1) .ret))⟩

-- slices.Contains[[]int,int]
def f130r0 : List AOper := [
  ⟨(some 4), .move (.c (.bool false)), none⟩]
def f130r1 : List AOper := [
  ⟨(some 5), .move (.t 0), none⟩,
  ⟨(some 6), .move (.t 1), none⟩,
  ⟨(some 7), .call 144 [(.t 5), (.t 6)], none⟩,
  ⟨(some 8), .bin .geq (.t 7) (.c (.int .i64 0)), none⟩,
  ⟨(some 4), .move (.t 8), none⟩]
def f130 : AFunc := ⟨[.tmp 4], (.seq (.reg f130r0) (.seq (.reg f130r1) .ret))⟩

-- fingerpost/fib.Lookup
def f131r0 : List AOper := [
  ⟨(some 4), .move (.c (.int .i64 0)), none⟩]
def f131r1 : List AOper := [
  ⟨(some 8), .move (.t 0), none⟩,
  ⟨(some 9), .move (.t 1), none⟩,
  ⟨(some 10), .call 145 [(.t 8), (.t 9), (.c (.fn 146 [] []))], none⟩,
  ⟨(some 7), .move (.t 10), none⟩,
  ⟨(some 11), .extract 0 (.t 7), none⟩,
  ⟨(some 12), .extract 1 (.t 7), none⟩,
  ⟨(some 5), .move (.t 11), none⟩,
  ⟨(some 6), .move (.t 12), none⟩]
def f131r2 : List AOper := [
  ⟨(some 13), .move (.t 6), none⟩,
  ⟨(some 14), .un .not (.t 13), none⟩]
def f131r3 : List AOper := [
  ⟨(some 4), .move (.c (.int .i64 (-1))), none⟩]
def f131r4 : List AOper := [
  ⟨(some 15), .move (.t 0), none⟩,
  ⟨(some 16), .move (.t 5), none⟩,
  ⟨(some 17), .idxS 160 (.t 15) (.t 16), none⟩,
  ⟨(some 18), .fieldAddr 160 1 3 (.t 17), none⟩,
  ⟨(some 19), .load 3 (.t 18), none⟩,
  ⟨(some 4), .move (.t 19), none⟩]
def f131 : AFunc := ⟨[.tmp 4], (.seq (.reg f131r0) (.seq (.reg f131r1) (.seq (.seq (.reg f131r2) (.cond (.t 14) (.seq (.reg f131r3) .ret) .skip)) (.seq (.reg f131r4) .ret))))⟩

-- (*fingerpost/field.Out).put
def f132r0 : List AOper := [
  ⟨(some 6), .move (.t 0), none⟩,
  ⟨(some 7), .eqv false .ptr (.t 6) (.c .nilp), none⟩]
def f132r1 : List AOper := [
  ⟨(some 8), .move (.t 2), none⟩,
  ⟨(some 9), .bin .lss (.t 8) (.c (.int .i64 8)), none⟩,
  ⟨(some 10), .move (.t 9), none⟩,
  ⟨(some 11), .move (.t 1), some ((some 10), true)⟩,
  ⟨(some 12), .move (.t 2), some ((some 10), true)⟩,
  ⟨(some 13), .bin .mul (.c (.int .i64 8)) (.t 12), some ((some 10), true)⟩,
  ⟨(some 14), .bin .shr (.t 11) (.t 13), some ((some 10), true)⟩,
  ⟨(some 15), .bin .neq (.t 14) (.c (.int .u64 0)), some ((some 10), true)⟩,
  ⟨(some 16), .pick (.t 10) (.t 15) (.c (.bool false)), none⟩]
def f132r2 : List AOper := [
  ⟨(some 17), .move (.t 0), none⟩,
  ⟨(some 18), .nilCheck (.t 17), none⟩,
  ⟨(some 19), .fieldAddr 212 1 4 (.t 18), none⟩,
  ⟨none, .store 4 .bool (.t 19) (.c (.bool true)), none⟩]
def f132r3 : List AOper := [
  ⟨(some 20), .move (.t 2), none⟩,
  ⟨(some 21), .bin .sub (.t 20) (.c (.int .i64 1)), none⟩,
  ⟨(some 2), .move (.t 21), none⟩]
def f132r4 : List AOper := [
  ⟨(some 22), .move (.t 2), none⟩,
  ⟨(some 23), .bin .geq (.t 22) (.c (.int .i64 0)), none⟩]
def f132r5 : List (AOper × List Nat) := [
  (⟨(some 26), .move (.t 0), none⟩, []),
  (⟨(some 27), .move (.t 0), none⟩, []),
  (⟨(some 28), .nilCheck (.t 27), none⟩, []),
  (⟨(some 29), .fieldAddr 212 0 39 (.t 28), none⟩, []),
  (⟨(some 30), .load 39 (.t 29), none⟩, []),
  (⟨(some 31), .move (.t 1), none⟩, []),
  (⟨(some 32), .move (.t 2), none⟩, []),
  (⟨(some 33), .bin .mul (.c (.int .i64 8)) (.t 32), none⟩, []),
  (⟨(some 34), .bin .shr (.t 31) (.t 33), none⟩, []),
  (⟨(some 35), .conv .u8 (.t 34), none⟩, []),
  (⟨(some 36), .buildSlice 5 1 [(0, (.t 35))], none⟩, []),
  (⟨(some 37), .append 5 false 8796093022208 (.t 30) (.t 36), none⟩, []),
  (⟨(some 38), .nilCheck (.t 26), none⟩, []),
  (⟨(some 39), .fieldAddr 212 0 39 (.t 38), none⟩, []),
  (⟨none, .store 39 .slice (.t 39) (.t 37), none⟩, [])]
def f132r6 : List AOper := [
  ⟨(some 24), .move (.t 2), none⟩,
  ⟨(some 25), .bin .sub (.t 24) (.c (.int .i64 1)), none⟩,
  ⟨(some 2), .move (.t 25), none⟩]
def f132 : AFunc := ⟨[], (.seq (.seq (.reg f132r0) (.cond (.t 7) .ret .skip)) (.seq (.seq (.reg f132r1) (.cond (.t 16) (.seq (.reg f132r2) .ret) .skip)) (.seq (.reg f132r3) (.block 0 (.loop (.seq (.seq (.reg f132r4) (.cond (.t 23) .skip (.exit 0))) (.seq (.block 1 (.draw f132r5)) (.reg f132r6))))))))⟩

-- fingerpost/sha.New
def f133r0 : List AOper := [
  ⟨(some 0), .move (.c .nilp), none⟩]
def f133r1 : List AOper := [
  ⟨(some 1), .build 265 [(0, (.c (.int .u32 1779033703))), (1, (.c (.int .u32 3144134277))), (2, (.c (.int .u32 1013904242))), (3, (.c (.int .u32 2773480762))), (4, (.c (.int .u32 1359893119))), (5, (.c (.int .u32 2600822924))), (6, (.c (.int .u32 528734635))), (7, (.c (.int .u32 1541459225)))], none⟩,
  ⟨(some 2), .build 266 [(0, (.t 1))], none⟩,
  ⟨(some 3), .box 266 (.agg 266) (.t 2), none⟩,
  ⟨(some 0), .move (.t 3), none⟩]
def f133 : AFunc := ⟨[.tmp 0], (.seq (.reg f133r0) (.seq (.reg f133r1) .ret))⟩

-- (*fingerpost/sha.Hash).Write
def f134r0 : List AOper := [
  ⟨(some 4), .move (.t 0), none⟩,
  ⟨(some 5), .eqv false .ptr (.t 4) (.c .nilp), none⟩]
def f134r1 : List AOper := [
  ⟨(some 6), .move (.t 0), none⟩,
  ⟨(some 7), .nilCheck (.t 6), none⟩,
  ⟨(some 8), .fieldAddr 266 2 29 (.t 7), none⟩,
  ⟨(some 9), .load 29 (.t 8), none⟩,
  ⟨(some 10), .move (.t 1), none⟩,
  ⟨(some 11), .lenS (.t 10), none⟩,
  ⟨(some 12), .conv .u64 (.t 11), none⟩,
  ⟨(some 13), .bin .add (.t 9) (.t 12), none⟩,
  ⟨(some 14), .nilCheck (.t 6), none⟩,
  ⟨(some 15), .fieldAddr 266 2 29 (.t 14), none⟩,
  ⟨none, .store 29 (.int .u64) (.t 15) (.t 13), none⟩]
def f134r2 : List AOper := [
  ⟨(some 16), .move (.t 0), none⟩,
  ⟨(some 17), .move (.t 0), none⟩,
  ⟨(some 18), .nilCheck (.t 17), none⟩,
  ⟨(some 19), .fieldAddr 266 1 39 (.t 18), none⟩,
  ⟨(some 20), .load 39 (.t 19), none⟩,
  ⟨(some 21), .move (.t 1), none⟩,
  ⟨(some 22), .append 5 false 8796093022208 (.t 20) (.t 21), none⟩,
  ⟨(some 23), .nilCheck (.t 16), none⟩,
  ⟨(some 24), .fieldAddr 266 1 39 (.t 23), none⟩,
  ⟨none, .store 39 .slice (.t 24) (.t 22), none⟩]
def f134r3 : List AOper := [
  ⟨(some 25), .move (.t 0), none⟩,
  ⟨(some 26), .nilCheck (.t 25), none⟩,
  ⟨(some 27), .fieldAddr 266 1 39 (.t 26), none⟩,
  ⟨(some 28), .load 39 (.t 27), none⟩,
  ⟨(some 29), .lenS (.t 28), none⟩,
  ⟨(some 30), .bin .geq (.t 29) (.c (.int .i64 64)), none⟩]
def f134r4 : List (AOper × List Nat) := [
  (⟨(some 31), .move (.t 0), none⟩, []),
  (⟨(some 32), .move (.t 0), none⟩, []),
  (⟨(some 33), .nilCheck (.t 32), none⟩, []),
  (⟨(some 34), .fieldAddr 266 0 265 (.t 33), none⟩, []),
  (⟨(some 35), .load 265 (.t 34), none⟩, []),
  (⟨(some 36), .move (.t 0), none⟩, []),
  (⟨(some 37), .nilCheck (.t 36), none⟩, []),
  (⟨(some 38), .fieldAddr 266 1 39 (.t 37), none⟩, []),
  (⟨(some 39), .load 39 (.t 38), none⟩, []),
  (⟨(some 40), .call 148 [(.t 35), (.t 39)], none⟩, []),
  (⟨(some 41), .nilCheck (.t 31), none⟩, []),
  (⟨(some 42), .fieldAddr 266 0 265 (.t 41), none⟩, []),
  (⟨none, .store 265 (.agg 265) (.t 42) (.t 40), none⟩, [])]
def f134r5 : List AOper := [
  ⟨(some 43), .move (.t 0), none⟩,
  ⟨(some 44), .buildSlice 5 0 [], none⟩,
  ⟨(some 45), .move (.t 0), none⟩,
  ⟨(some 46), .nilCheck (.t 45), none⟩,
  ⟨(some 47), .fieldAddr 266 1 39 (.t 46), none⟩,
  ⟨(some 48), .load 39 (.t 47), none⟩,
  ⟨(some 49), .sliceS 5 (.t 48) (some (.c (.int .i64 64))) none, none⟩,
  ⟨(some 50), .append 5 false 8796093022208 (.t 44) (.t 49), none⟩,
  ⟨(some 51), .nilCheck (.t 43), none⟩,
  ⟨(some 52), .fieldAddr 266 1 39 (.t 51), none⟩,
  ⟨none, .store 39 .slice (.t 52) (.t 50), none⟩]
def f134r6 : List AOper := [
  ⟨(some 53), .move (.t 0), none⟩,
  ⟨(some 54), .nilCheck (.t 53), none⟩,
  ⟨(some 55), .fieldAddr 266 3 3 (.t 54), none⟩,
  ⟨(some 56), .load 3 (.t 55), none⟩,
  ⟨(some 57), .bin .add (.t 56) (.c (.int .i64 1)), none⟩,
  ⟨(some 58), .nilCheck (.t 53), none⟩,
  ⟨(some 59), .fieldAddr 266 3 3 (.t 58), none⟩,
  ⟨none, .store 3 (.int .i64) (.t 59) (.t 57), none⟩]
def f134 : AFunc := ⟨[], (.seq (.seq (.reg f134r0) (.cond (.t 5) .ret .skip)) (.seq (.reg f134r1) (.seq (.reg f134r2) (.block 0 (.loop (.seq (.seq (.reg f134r3) (.cond (.t 30) .skip (.exit 0))) (.block 1 (.seq (.draw f134r4) (.seq (.reg f134r5) (.reg f134r6))))))))))⟩

-- fingerpost/mac.first
def f135r0 : List AOper := [
  ⟨(some 1), .box 252 (.agg 252) (.t 0), none⟩,
  ⟨(some 2), .alloc 62, none⟩]
def f135r1 : List AOper := [
  ⟨(some 3), .alloc 62, none⟩]
def f135r2 : List (AOper × List Nat) := [
  (⟨(some 4), .sliceA 16 62 5 (.t 3) none none, none⟩, []),
  (⟨(some 5), .sliceA 32 252 5 (.t 1) none none, none⟩, []),
  (⟨(some 6), .copy 5 false (.t 4) (.t 5), none⟩, [])]
def f135r3 : List AOper := [
  ⟨(some 7), .load 62 (.t 3), none⟩,
  ⟨none, .store 62 (.agg 62) (.t 2) (.t 7), none⟩]
def f135 : AFunc := ⟨[.cell 2 62], (.seq (.reg f135r0) (.seq (.reg f135r1) (.seq (.draw f135r2) (.seq (.reg f135r3) .ret))))⟩

-- (*fingerpost/sha.Hash).Sum
def f136r0 : List AOper := [
  ⟨(some 2), .alloc 252, none⟩]
def f136r1 : List AOper := [
  ⟨(some 3), .alloc 252, none⟩]
def f136r2 : List AOper := [
  ⟨(some 9), .move (.t 0), none⟩,
  ⟨(some 10), .eqv false .ptr (.t 9) (.c .nilp), none⟩]
def f136r3 : List AOper := [
  ⟨(some 11), .load 252 (.t 3), none⟩,
  ⟨none, .store 252 (.agg 252) (.t 2) (.t 11), none⟩]
def f136r4 : List AOper := [
  ⟨(some 12), .buildSlice 5 0 [], none⟩,
  ⟨(some 13), .move (.t 0), none⟩,
  ⟨(some 14), .nilCheck (.t 13), none⟩,
  ⟨(some 15), .fieldAddr 266 1 39 (.t 14), none⟩,
  ⟨(some 16), .load 39 (.t 15), none⟩,
  ⟨(some 17), .append 5 false 8796093022208 (.t 12) (.t 16), none⟩,
  ⟨(some 18), .buildSlice 5 1 [(0, (.c (.int .u8 128)))], none⟩,
  ⟨(some 19), .append 5 false 8796093022208 (.t 17) (.t 18), none⟩,
  ⟨(some 4), .move (.t 19), none⟩]
def f136r5 : List AOper := [
  ⟨(some 20), .move (.t 4), none⟩,
  ⟨(some 21), .lenS (.t 20), none⟩,
  ⟨(some 22), .bin .rem (.t 21) (.c (.int .i64 64)), none⟩,
  ⟨(some 23), .bin .neq (.t 22) (.c (.int .i64 56)), none⟩]
def f136r6 : List AOper := [
  ⟨(some 24), .move (.t 4), none⟩,
  ⟨(some 25), .buildSlice 5 1 [(0, (.c (.int .u8 0)))], none⟩,
  ⟨(some 26), .append 5 false 8796093022208 (.t 24) (.t 25), none⟩,
  ⟨(some 4), .move (.t 26), none⟩]
def f136r7 : List AOper := [
  ⟨(some 5), .move (.c (.int .i64 56)), none⟩]
def f136r8 : List AOper := [
  ⟨(some 27), .move (.t 5), none⟩,
  ⟨(some 28), .bin .geq (.t 27) (.c (.int .i64 0)), none⟩]
def f136r9 : List AOper := [
  ⟨(some 31), .move (.t 4), none⟩,
  ⟨(some 32), .move (.t 0), none⟩,
  ⟨(some 33), .nilCheck (.t 32), none⟩,
  ⟨(some 34), .fieldAddr 266 2 29 (.t 33), none⟩,
  ⟨(some 35), .load 29 (.t 34), none⟩,
  ⟨(some 36), .bin .mul (.t 35) (.c (.int .u64 8)), none⟩,
  ⟨(some 37), .move (.t 5), none⟩,
  ⟨(some 38), .bin .shr (.t 36) (.t 37), none⟩,
  ⟨(some 39), .conv .u8 (.t 38), none⟩,
  ⟨(some 40), .buildSlice 5 1 [(0, (.t 39))], none⟩,
  ⟨(some 41), .append 5 false 8796093022208 (.t 31) (.t 40), none⟩,
  ⟨(some 4), .move (.t 41), none⟩]
def f136r10 : List AOper := [
  ⟨(some 29), .move (.t 5), none⟩,
  ⟨(some 30), .bin .sub (.t 29) (.c (.int .i64 8)), none⟩,
  ⟨(some 5), .move (.t 30), none⟩]
def f136r11 : List AOper := [
  ⟨(some 42), .move (.t 0), none⟩,
  ⟨(some 43), .nilCheck (.t 42), none⟩,
  ⟨(some 44), .fieldAddr 266 0 265 (.t 43), none⟩,
  ⟨(some 45), .load 265 (.t 44), none⟩,
  ⟨(some 6), .alloc 265, none⟩,
  ⟨none, .store 265 (.agg 265) (.t 6) (.t 45), none⟩]
def f136r12 : List AOper := [
  ⟨(some 46), .move (.t 4), none⟩,
  ⟨(some 47), .lenS (.t 46), none⟩,
  ⟨(some 48), .bin .gtr (.t 47) (.c (.int .i64 0)), none⟩]
def f136r13 : List AOper := [
  ⟨(some 51), .load 265 (.t 6), none⟩,
  ⟨(some 52), .move (.t 4), none⟩,
  ⟨(some 53), .call 148 [(.t 51), (.t 52)], none⟩,
  ⟨none, .store 265 (.agg 265) (.t 6) (.t 53), none⟩]
def f136r14 : List AOper := [
  ⟨(some 49), .move (.t 4), none⟩,
  ⟨(some 50), .sliceS 5 (.t 49) (some (.c (.int .i64 64))) none, none⟩,
  ⟨(some 4), .move (.t 50), none⟩]
def f136r15 : List AOper := [
  ⟨(some 54), .load 265 (.t 6), none⟩,
  ⟨(some 55), .move (.c (.int .i64 0)), none⟩]
def f136r16 : List AOper := [
  ⟨(some 56), .bin .lss (.t 55) (.c (.int .i64 8)), none⟩]
def f136r17 : List AOper := [
  ⟨(some 57), .move (.t 55), none⟩,
  ⟨(some 58), .idxV 8 265 (.t 54) (.t 55), none⟩,
  ⟨(some 7), .move (.t 57), none⟩,
  ⟨(some 8), .move (.t 58), none⟩]
def f136r18 : List AOper := [
  ⟨(some 59), .move (.t 7), none⟩,
  ⟨(some 60), .bin .mul (.c (.int .i64 4)) (.t 59), none⟩,
  ⟨(some 61), .move (.t 7), none⟩,
  ⟨(some 62), .bin .mul (.c (.int .i64 4)) (.t 61), none⟩,
  ⟨(some 63), .bin .add (.t 62) (.c (.int .i64 1)), none⟩,
  ⟨(some 64), .move (.t 7), none⟩,
  ⟨(some 65), .bin .mul (.c (.int .i64 4)) (.t 64), none⟩,
  ⟨(some 66), .bin .add (.t 65) (.c (.int .i64 2)), none⟩,
  ⟨(some 67), .move (.t 7), none⟩,
  ⟨(some 68), .bin .mul (.c (.int .i64 4)) (.t 67), none⟩,
  ⟨(some 69), .bin .add (.t 68) (.c (.int .i64 3)), none⟩,
  ⟨(some 70), .move (.t 8), none⟩,
  ⟨(some 71), .bin .shr (.t 70) (.c (.int .u64 24)), none⟩,
  ⟨(some 72), .conv .u8 (.t 71), none⟩,
  ⟨(some 73), .move (.t 8), none⟩,
  ⟨(some 74), .bin .shr (.t 73) (.c (.int .u64 16)), none⟩,
  ⟨(some 75), .conv .u8 (.t 74), none⟩,
  ⟨(some 76), .move (.t 8), none⟩,
  ⟨(some 77), .bin .shr (.t 76) (.c (.int .u64 8)), none⟩,
  ⟨(some 78), .conv .u8 (.t 77), none⟩,
  ⟨(some 79), .move (.t 8), none⟩,
  ⟨(some 80), .conv .u8 (.t 79), none⟩,
  ⟨(some 81), .idxA 32 252 5 (.t 3) (.t 60), none⟩,
  ⟨none, .store 5 (.int .u8) (.t 81) (.t 72), none⟩,
  ⟨(some 82), .idxA 32 252 5 (.t 3) (.t 63), none⟩,
  ⟨none, .store 5 (.int .u8) (.t 82) (.t 75), none⟩,
  ⟨(some 83), .idxA 32 252 5 (.t 3) (.t 66), none⟩,
  ⟨none, .store 5 (.int .u8) (.t 83) (.t 78), none⟩,
  ⟨(some 84), .idxA 32 252 5 (.t 3) (.t 69), none⟩,
  ⟨none, .store 5 (.int .u8) (.t 84) (.t 80), none⟩]
def f136r19 : List AOper := [
  ⟨(some 85), .bin .add (.t 55) (.c (.int .i64 1)), none⟩,
  ⟨(some 55), .move (.t 85), none⟩]
def f136r20 : List AOper := [
  ⟨(some 86), .load 252 (.t 3), none⟩,
  ⟨none, .store 252 (.agg 252) (.t 2) (.t 86), none⟩]
def f136 : AFunc := ⟨[.cell 2 252], (.seq (.reg f136r0) (.seq (.reg f136r1) (.seq (.seq (.reg f136r2) (.cond (.t 10) (.seq (.reg f136r3) .ret) .skip)) (.seq (.reg f136r4) (.seq (.block 0 (.loop (.seq (.seq (.reg f136r5) (.cond (.t 23) .skip (.exit 0))) (.block 1 (.reg f136r6))))) (.seq (.seq (.reg f136r7) (.block 2 (.loop (.seq (.seq (.reg f136r8) (.cond (.t 28) .skip (.exit 2))) (.seq (.block 3 (.reg f136r9)) (.reg f136r10)))))) (.seq (.reg f136r11) (.seq (.block 4 (.loop (.seq (.seq (.reg f136r12) (.cond (.t 48) .skip (.exit 4))) (.seq (.block 5 (.reg f136r13)) (.reg f136r14))))) (.seq (.seq (.reg f136r15) (.block 6 (.loop (.seq (.reg f136r16) (.seq (.cond (.t 56) .skip (.exit 6)) (.seq (.block 7 (.seq (.reg f136r17) (.reg f136r18))) (.reg f136r19))))))) (.seq (.reg f136r20) .ret))))))))))⟩

-- fingerpost/toll.fill
def f137r0 : List AOper := [
  ⟨(some 8), .move (.c (.int .i64 0)), none⟩]
def f137r1 : List AOper := [
  ⟨(some 9), .move (.t 1), none⟩,
  ⟨(some 10), .bin .gtr (.t 9) (.c (.int .i64 0)), none⟩,
  ⟨(some 11), .move (.t 10), none⟩,
  ⟨(some 12), .move (.t 3), some ((some 11), true)⟩,
  ⟨(some 13), .move (.t 2), some ((some 11), true)⟩,
  ⟨(some 14), .move (.t 0), some ((some 11), true)⟩,
  ⟨(some 15), .bin .sub (.t 13) (.t 14), some ((some 11), true)⟩,
  ⟨(some 16), .move (.t 1), some ((some 11), true)⟩,
  ⟨(some 17), .bin .add (.t 15) (.t 16), some ((some 11), true)⟩,
  ⟨(some 18), .bin .sub (.t 17) (.c (.int .i64 1)), some ((some 11), true)⟩,
  ⟨(some 19), .move (.t 1), some ((some 11), true)⟩,
  ⟨(some 20), .bin .quo (.t 18) (.t 19), some ((some 11), true)⟩,
  ⟨(some 21), .bin .geq (.t 12) (.t 20), some ((some 11), true)⟩,
  ⟨(some 22), .pick (.t 11) (.t 21) (.c (.bool false)), none⟩]
def f137r2 : List AOper := [
  ⟨(some 23), .move (.t 2), none⟩,
  ⟨(some 8), .move (.t 23), none⟩]
def f137r3 : List AOper := [
  ⟨(some 24), .move (.t 0), none⟩,
  ⟨(some 25), .move (.t 1), none⟩,
  ⟨(some 26), .move (.t 3), none⟩,
  ⟨(some 27), .bin .mul (.t 25) (.t 26), none⟩,
  ⟨(some 28), .bin .add (.t 24) (.t 27), none⟩,
  ⟨(some 8), .move (.t 28), none⟩]
def f137 : AFunc := ⟨[.tmp 8], (.seq (.reg f137r0) (.seq (.seq (.reg f137r1) (.cond (.t 22) (.seq (.reg f137r2) .ret) .skip)) (.seq (.reg f137r3) .ret)))⟩

-- (*fingerpost/field.In).num
def f138r0 : List AOper := [
  ⟨(some 4), .move (.c (.int .u64 0)), none⟩]
def f138r1 : List AOper := [
  ⟨(some 5), .move (.c (.int .u64 0)), none⟩]
def f138r2 : List AOper := [
  ⟨(some 8), .move (.t 0), none⟩,
  ⟨(some 9), .move (.t 1), none⟩,
  ⟨(some 10), .call 139 [(.t 8), (.t 9)], none⟩,
  ⟨(some 11), .lenS (.t 10), none⟩,
  ⟨(some 12), .move (.c (.int .i64 0)), none⟩]
def f138r3 : List AOper := [
  ⟨(some 13), .bin .lss (.t 12) (.t 11), none⟩]
def f138r4 : List AOper := [
  ⟨(some 14), .idxS 5 (.t 10) (.t 12), none⟩,
  ⟨(some 15), .load 5 (.t 14), none⟩,
  ⟨(some 7), .move (.t 15), none⟩]
def f138r5 : List AOper := [
  ⟨(some 16), .move (.t 5), none⟩,
  ⟨(some 17), .bin .shl (.t 16) (.c (.int .u64 8)), none⟩,
  ⟨(some 18), .move (.t 7), none⟩,
  ⟨(some 19), .conv .u64 (.t 18), none⟩,
  ⟨(some 20), .bin .or (.t 17) (.t 19), none⟩,
  ⟨(some 5), .move (.t 20), none⟩]
def f138r6 : List AOper := [
  ⟨(some 21), .bin .add (.t 12) (.c (.int .i64 1)), none⟩,
  ⟨(some 12), .move (.t 21), none⟩]
def f138r7 : List AOper := [
  ⟨(some 22), .move (.t 5), none⟩,
  ⟨(some 4), .move (.t 22), none⟩]
def f138 : AFunc := ⟨[.tmp 4], (.seq (.reg f138r0) (.seq (.reg f138r1) (.seq (.seq (.reg f138r2) (.block 0 (.loop (.seq (.reg f138r3) (.seq (.cond (.t 13) .skip (.exit 0)) (.seq (.block 1 (.seq (.reg f138r4) (.reg f138r5))) (.reg f138r6))))))) (.seq (.reg f138r7) .ret))))⟩

-- (*fingerpost/field.In).next
def f139r0 : List AOper := [
  ⟨(some 4), .move (.c .nils), none⟩]
def f139r1 : List AOper := [
  ⟨(some 6), .move (.t 0), none⟩,
  ⟨(some 7), .eqv false .ptr (.t 6) (.c .nilp), none⟩,
  ⟨(some 8), .move (.t 7), none⟩,
  ⟨(some 9), .move (.t 0), some ((some 8), false)⟩,
  ⟨(some 10), .nilCheck (.t 9), some ((some 8), false)⟩,
  ⟨(some 11), .fieldAddr 216 1 3 (.t 10), some ((some 8), false)⟩,
  ⟨(some 12), .load 3 (.t 11), some ((some 8), false)⟩,
  ⟨(some 13), .bin .neq (.t 12) (.c (.int .i64 0)), some ((some 8), false)⟩,
  ⟨(some 14), .pick (.t 8) (.c (.bool true)) (.t 13), none⟩]
def f139r2 : List AOper := [
  ⟨(some 4), .move (.c .nils), none⟩]
def f139r3 : List AOper := [
  ⟨(some 15), .move (.t 0), none⟩,
  ⟨(some 16), .nilCheck (.t 15), none⟩,
  ⟨(some 17), .fieldAddr 216 0 39 (.t 16), none⟩,
  ⟨(some 18), .load 39 (.t 17), none⟩,
  ⟨(some 19), .lenS (.t 18), none⟩,
  ⟨(some 20), .move (.t 1), none⟩,
  ⟨(some 21), .bin .lss (.t 19) (.t 20), none⟩]
def f139r4 : List AOper := [
  ⟨(some 22), .move (.t 0), none⟩,
  ⟨(some 23), .call 116 [(.t 22), (.c (.int .i64 9))], none⟩]
def f139r5 : List AOper := [
  ⟨(some 4), .move (.c .nils), none⟩]
def f139r6 : List AOper := [
  ⟨(some 24), .move (.t 0), none⟩,
  ⟨(some 25), .nilCheck (.t 24), none⟩,
  ⟨(some 26), .fieldAddr 216 0 39 (.t 25), none⟩,
  ⟨(some 27), .load 39 (.t 26), none⟩,
  ⟨(some 28), .move (.t 1), none⟩,
  ⟨(some 29), .sliceS 5 (.t 27) none (some (.t 28)), none⟩,
  ⟨(some 5), .move (.t 29), none⟩]
def f139r7 : List AOper := [
  ⟨(some 30), .move (.t 0), none⟩,
  ⟨(some 31), .move (.t 0), none⟩,
  ⟨(some 32), .nilCheck (.t 31), none⟩,
  ⟨(some 33), .fieldAddr 216 0 39 (.t 32), none⟩,
  ⟨(some 34), .load 39 (.t 33), none⟩,
  ⟨(some 35), .move (.t 1), none⟩,
  ⟨(some 36), .sliceS 5 (.t 34) (some (.t 35)) none, none⟩,
  ⟨(some 37), .nilCheck (.t 30), none⟩,
  ⟨(some 38), .fieldAddr 216 0 39 (.t 37), none⟩,
  ⟨none, .store 39 .slice (.t 38) (.t 36), none⟩]
def f139r8 : List AOper := [
  ⟨(some 39), .move (.t 5), none⟩,
  ⟨(some 4), .move (.t 39), none⟩]
def f139 : AFunc := ⟨[.tmp 4], (.seq (.reg f139r0) (.seq (.seq (.reg f139r1) (.cond (.t 14) (.seq (.reg f139r2) .ret) .skip)) (.seq (.seq (.reg f139r3) (.cond (.t 21) (.seq (.reg f139r4) (.seq (.reg f139r5) .ret)) .skip)) (.seq (.reg f139r6) (.seq (.reg f139r7) (.seq (.reg f139r8) .ret))))))⟩

-- fingerpost/diary.sectors
def f140r0 : List AOper := [
  ⟨(some 8), .move (.c .nils), none⟩]
def f140r1 : List AOper := [
  ⟨(some 9), .move (.c .nils), none⟩]
def f140r2 : List AOper := [
  ⟨(some 10), .move (.c (.int .u8 1)), none⟩]
def f140r3 : List AOper := [
  ⟨(some 12), .move (.t 3), none⟩,
  ⟨(some 13), .lenS (.t 12), none⟩,
  ⟨(some 14), .minmax false (.t 13) (.c (.int .i64 50)), none⟩,
  ⟨(some 11), .move (.t 14), none⟩]
def f140r4 : List AOper := [
  ⟨(some 15), .move (.t 11), none⟩,
  ⟨(some 16), .move (.t 3), none⟩,
  ⟨(some 17), .lenS (.t 16), none⟩,
  ⟨(some 18), .bin .eql (.t 15) (.t 17), none⟩]
def f140r5 : List AOper := [
  ⟨(some 19), .move (.t 10), none⟩,
  ⟨(some 20), .bin .or (.t 19) (.c (.int .u8 2)), none⟩,
  ⟨(some 10), .move (.t 20), none⟩]
def f140r6 : List AOper := [
  ⟨(some 21), .move (.t 9), none⟩,
  ⟨(some 22), .move (.t 0), none⟩,
  ⟨(some 23), .move (.t 1), none⟩,
  ⟨(some 24), .move (.t 9), none⟩,
  ⟨(some 25), .lenS (.t 24), none⟩,
  ⟨(some 26), .bin .add (.t 23) (.t 25), none⟩,
  ⟨(some 27), .move (.t 10), none⟩,
  ⟨(some 28), .move (.t 2), none⟩,
  ⟨(some 29), .bin .or (.t 27) (.t 28), none⟩,
  ⟨(some 30), .move (.t 3), none⟩,
  ⟨(some 31), .move (.t 11), none⟩,
  ⟨(some 32), .sliceS 5 (.t 30) none (some (.t 31)), none⟩,
  ⟨(some 33), .call 149 [(.t 22), (.t 26), (.t 29), (.t 32)], none⟩,
  ⟨(some 34), .buildSlice 47 1 [(0, (.t 33))], none⟩,
  ⟨(some 35), .append 47 false 270649016067 (.t 21) (.t 34), none⟩,
  ⟨(some 9), .move (.t 35), none⟩]
def f140r7 : List AOper := [
  ⟨(some 36), .move (.t 3), none⟩,
  ⟨(some 37), .move (.t 11), none⟩,
  ⟨(some 38), .sliceS 5 (.t 36) (some (.t 37)) none, none⟩,
  ⟨(some 3), .move (.t 38), none⟩]
def f140r8 : List AOper := [
  ⟨(some 39), .move (.t 10), none⟩,
  ⟨(some 40), .bin .and (.t 39) (.c (.int .u8 2)), none⟩,
  ⟨(some 41), .bin .neq (.t 40) (.c (.int .u8 0)), none⟩]
def f140r9 : List AOper := [
  ⟨(some 42), .move (.t 9), none⟩,
  ⟨(some 8), .move (.t 42), none⟩]
def f140r10 : List AOper := [
  ⟨(some 10), .move (.c (.int .u8 0)), none⟩]
def f140 : AFunc := ⟨[.tmp 8], (.seq (.reg f140r0) (.seq (.reg f140r1) (.seq (.reg f140r2) (.block 0 (.loop (.seq (.block 1 (.seq (.reg f140r3) (.seq (.seq (.reg f140r4) (.cond (.t 18) (.reg f140r5) .skip)) (.seq (.reg f140r6) (.seq (.reg f140r7) (.seq (.reg f140r8) (.cond (.t 41) (.seq (.reg f140r9) .ret) .skip))))))) (.reg f140r10)))))))⟩

-- fingerpost/diary.get32
def f141r0 : List AOper := [
  ⟨(some 2), .move (.c (.int .u32 0)), none⟩]
def f141r1 : List (AOper × List Nat) := [
  (⟨(some 3), .move (.t 0), none⟩, []),
  (⟨(some 4), .idxS 5 (.t 3) (.c (.int .i64 0)), none⟩, []),
  (⟨(some 5), .load 5 (.t 4), none⟩, []),
  (⟨(some 6), .conv .u32 (.t 5), none⟩, []),
  (⟨(some 7), .bin .shl (.t 6) (.c (.int .u64 24)), none⟩, []),
  (⟨(some 8), .move (.t 0), none⟩, []),
  (⟨(some 9), .idxS 5 (.t 8) (.c (.int .i64 1)), none⟩, []),
  (⟨(some 10), .load 5 (.t 9), none⟩, []),
  (⟨(some 11), .conv .u32 (.t 10), none⟩, []),
  (⟨(some 12), .bin .shl (.t 11) (.c (.int .u64 16)), none⟩, []),
  (⟨(some 13), .bin .or (.t 7) (.t 12), none⟩, []),
  (⟨(some 14), .move (.t 0), none⟩, []),
  (⟨(some 15), .idxS 5 (.t 14) (.c (.int .i64 2)), none⟩, []),
  (⟨(some 16), .load 5 (.t 15), none⟩, []),
  (⟨(some 17), .conv .u32 (.t 16), none⟩, []),
  (⟨(some 18), .bin .shl (.t 17) (.c (.int .u64 8)), none⟩, []),
  (⟨(some 19), .bin .or (.t 13) (.t 18), none⟩, []),
  (⟨(some 20), .move (.t 0), none⟩, []),
  (⟨(some 21), .idxS 5 (.t 20) (.c (.int .i64 3)), none⟩, []),
  (⟨(some 22), .load 5 (.t 21), none⟩, []),
  (⟨(some 23), .conv .u32 (.t 22), none⟩, []),
  (⟨(some 24), .bin .or (.t 19) (.t 23), none⟩, []),
  (⟨(some 2), .move (.t 24), none⟩, [])]
def f141 : AFunc := ⟨[.tmp 2], (.seq (.reg f141r0) (.seq (.draw f141r1) .ret))⟩

-- fingerpost/diary.look
def f142r0 : List AOper := [
  ⟨(some 3), .box 47 (.agg 47) (.t 0), none⟩,
  ⟨(some 6), .move (.c (.int .i64 0)), none⟩]
def f142r1 : List AOper := [
  ⟨(some 8), .sliceA 64 47 5 (.t 3) none none, none⟩,
  ⟨(some 9), .call 141 [(.t 8)], none⟩,
  ⟨(some 10), .move (.t 1), none⟩,
  ⟨(some 11), .bin .neq (.t 9) (.t 10), none⟩,
  ⟨(some 12), .move (.t 11), none⟩,
  ⟨(some 13), .sliceA 64 47 5 (.t 3) (some (.c (.int .i64 60))) none, some ((some 12), false)⟩,
  ⟨(some 14), .call 141 [(.t 13)], some ((some 12), false)⟩,
  ⟨(some 15), .move (.t 1), some ((some 12), false)⟩,
  ⟨(some 16), .bin .neq (.t 14) (.t 15), some ((some 12), false)⟩,
  ⟨(some 17), .pick (.t 12) (.c (.bool true)) (.t 16), none⟩]
def f142r2 : List AOper := [
  ⟨(some 6), .move (.c (.int .i64 1)), none⟩]
def f142r3 : List AOper := [
  ⟨(some 18), .load 47 (.t 3), none⟩,
  ⟨(some 19), .call 150 [(.t 18)], none⟩,
  ⟨(some 7), .move (.t 19), none⟩]
def f142r4 : List AOper := [
  ⟨(some 20), .idxA 64 47 5 (.t 3) (.c (.int .i64 58)), none⟩,
  ⟨(some 21), .load 5 (.t 20), none⟩,
  ⟨(some 22), .move (.t 7), none⟩,
  ⟨(some 23), .bin .shr (.t 22) (.c (.int .u64 8)), none⟩,
  ⟨(some 24), .conv .u8 (.t 23), none⟩,
  ⟨(some 25), .bin .neq (.t 21) (.t 24), none⟩,
  ⟨(some 26), .move (.t 25), none⟩,
  ⟨(some 27), .idxA 64 47 5 (.t 3) (.c (.int .i64 59)), some ((some 26), false)⟩,
  ⟨(some 28), .load 5 (.t 27), some ((some 26), false)⟩,
  ⟨(some 29), .move (.t 7), some ((some 26), false)⟩,
  ⟨(some 30), .conv .u8 (.t 29), some ((some 26), false)⟩,
  ⟨(some 31), .bin .neq (.t 28) (.t 30), some ((some 26), false)⟩,
  ⟨(some 32), .pick (.t 26) (.c (.bool true)) (.t 31), none⟩,
  ⟨(some 33), .move (.t 32), none⟩,
  ⟨(some 34), .idxA 64 47 5 (.t 3) (.c (.int .i64 4)), some ((some 33), false)⟩,
  ⟨(some 35), .load 5 (.t 34), some ((some 33), false)⟩,
  ⟨(some 36), .move (.t 2), some ((some 33), false)⟩,
  ⟨(some 37), .bin .shr (.t 36) (.c (.int .u64 8)), some ((some 33), false)⟩,
  ⟨(some 38), .conv .u8 (.t 37), some ((some 33), false)⟩,
  ⟨(some 39), .bin .neq (.t 35) (.t 38), some ((some 33), false)⟩,
  ⟨(some 40), .pick (.t 33) (.c (.bool true)) (.t 39), none⟩,
  ⟨(some 41), .move (.t 40), none⟩,
  ⟨(some 42), .idxA 64 47 5 (.t 3) (.c (.int .i64 5)), some ((some 41), false)⟩,
  ⟨(some 43), .load 5 (.t 42), some ((some 41), false)⟩,
  ⟨(some 44), .move (.t 2), some ((some 41), false)⟩,
  ⟨(some 45), .conv .u8 (.t 44), some ((some 41), false)⟩,
  ⟨(some 46), .bin .neq (.t 43) (.t 45), some ((some 41), false)⟩,
  ⟨(some 47), .pick (.t 41) (.c (.bool true)) (.t 46), none⟩,
  ⟨(some 48), .move (.t 47), none⟩,
  ⟨(some 49), .idxA 64 47 5 (.t 3) (.c (.int .i64 7)), some ((some 48), false)⟩,
  ⟨(some 50), .load 5 (.t 49), some ((some 48), false)⟩,
  ⟨(some 51), .bin .gtr (.t 50) (.c (.int .u8 50)), some ((some 48), false)⟩,
  ⟨(some 52), .pick (.t 48) (.c (.bool true)) (.t 51), none⟩]
def f142r5 : List AOper := [
  ⟨(some 6), .move (.c (.int .i64 2)), none⟩]
def f142r6 : List AOper := [
  ⟨(some 6), .move (.c (.int .i64 0)), none⟩]
def f142 : AFunc := ⟨[.tmp 6], (.seq (.reg f142r0) (.seq (.seq (.reg f142r1) (.cond (.t 17) (.seq (.reg f142r2) .ret) .skip)) (.seq (.reg f142r3) (.seq (.seq (.reg f142r4) (.cond (.t 52) (.seq (.reg f142r5) .ret) .skip)) (.seq (.reg f142r6) .ret)))))⟩

-- fingerpost/rank.sign
def f143r0 : List AOper := [
  ⟨(some 2), .move (.c (.int .i64 0)), none⟩]
def f143r1 : List AOper := [
  ⟨(some 3), .move (.t 0), none⟩]
def f143r2 : List AOper := [
  ⟨(some 2), .move (.c (.int .i64 1)), none⟩]
def f143r3 : List AOper := [
  ⟨(some 2), .move (.c (.int .i64 (-1))), none⟩]
def f143 : AFunc := ⟨[.tmp 2], (.seq (.reg f143r0) (.seq (.seq (.reg f143r1) (.cond (.t 3) (.seq (.reg f143r2) .ret) .skip)) (.seq (.reg f143r3) .ret)))⟩

-- slices.Index[[]int,int]
def f144r0 : List AOper := [
  ⟨(some 4), .move (.c (.int .i64 0)), none⟩]
def f144r1 : List AOper := [
  ⟨(some 6), .move (.t 0), none⟩,
  ⟨(some 7), .lenS (.t 6), none⟩,
  ⟨(some 8), .move (.c (.int .i64 0)), none⟩]
def f144r2 : List AOper := [
  ⟨(some 9), .bin .lss (.t 8) (.t 7), none⟩]
def f144r3 : List AOper := [
  ⟨(some 10), .move (.t 8), none⟩,
  ⟨(some 5), .move (.t 10), none⟩]
def f144r4 : List AOper := [
  ⟨(some 11), .move (.t 1), none⟩,
  ⟨(some 12), .move (.t 0), none⟩,
  ⟨(some 13), .move (.t 5), none⟩,
  ⟨(some 14), .idxS 3 (.t 12) (.t 13), none⟩,
  ⟨(some 15), .load 3 (.t 14), none⟩,
  ⟨(some 16), .bin .eql (.t 11) (.t 15), none⟩]
def f144r5 : List AOper := [
  ⟨(some 17), .move (.t 5), none⟩,
  ⟨(some 4), .move (.t 17), none⟩]
def f144r6 : List AOper := [
  ⟨(some 18), .bin .add (.t 8) (.c (.int .i64 1)), none⟩,
  ⟨(some 8), .move (.t 18), none⟩]
def f144r7 : List AOper := [
  ⟨(some 4), .move (.c (.int .i64 (-1))), none⟩]
def f144 : AFunc := ⟨[.tmp 4], (.seq (.reg f144r0) (.seq (.seq (.reg f144r1) (.block 0 (.loop (.seq (.reg f144r2) (.seq (.cond (.t 9) .skip (.exit 0)) (.seq (.block 1 (.seq (.reg f144r3) (.seq (.reg f144r4) (.cond (.t 16) (.seq (.reg f144r5) .ret) .skip)))) (.reg f144r6))))))) (.seq (.reg f144r7) .ret)))⟩

-- slices.BinarySearchFunc[[]fingerpost/fib.Hop,fingerpost/fib.Hop,int]
def f145r0 : List AOper := [
  ⟨(some 6), .move (.c (.int .i64 0)), none⟩,
  ⟨(some 7), .move (.c (.bool false)), none⟩]
def f145r1 : List AOper := [
  ⟨(some 12), .move (.t 0), none⟩,
  ⟨(some 13), .lenS (.t 12), none⟩,
  ⟨(some 8), .move (.t 13), none⟩]
def f145r2 : List AOper := [
  ⟨(some 14), .move (.t 8), none⟩,
  ⟨(some 9), .move (.c (.int .i64 0)), none⟩,
  ⟨(some 10), .move (.t 14), none⟩]
def f145r3 : List AOper := [
  ⟨(some 15), .move (.t 9), none⟩,
  ⟨(some 16), .move (.t 10), none⟩,
  ⟨(some 17), .bin .lss (.t 15) (.t 16), none⟩]
def f145r4 : List AOper := [
  ⟨(some 18), .move (.t 9), none⟩,
  ⟨(some 19), .move (.t 10), none⟩,
  ⟨(some 20), .bin .add (.t 18) (.t 19), none⟩,
  ⟨(some 21), .conv .u64 (.t 20), none⟩,
  ⟨(some 22), .bin .shr (.t 21) (.c (.int .u64 1)), none⟩,
  ⟨(some 23), .conv .i64 (.t 22), none⟩,
  ⟨(some 11), .move (.t 23), none⟩]
def f145r5 : List AOper := [
  ⟨(some 24), .move (.t 2), none⟩,
  ⟨(some 25), .move (.t 0), none⟩,
  ⟨(some 26), .move (.t 11), none⟩,
  ⟨(some 27), .idxS 160 (.t 25) (.t 26), none⟩,
  ⟨(some 28), .load 160 (.t 27), none⟩,
  ⟨(some 29), .move (.t 1), none⟩,
  ⟨(some 30), .callv (.t 24) [(.t 28), (.t 29)], none⟩,
  ⟨(some 31), .bin .lss (.t 30) (.c (.int .i64 0)), none⟩]
def f145r6 : List AOper := [
  ⟨(some 32), .move (.t 11), none⟩,
  ⟨(some 33), .bin .add (.t 32) (.c (.int .i64 1)), none⟩,
  ⟨(some 9), .move (.t 33), none⟩]
def f145r7 : List AOper := [
  ⟨(some 34), .move (.t 11), none⟩,
  ⟨(some 10), .move (.t 34), none⟩]
def f145r8 : List AOper := [
  ⟨(some 35), .move (.t 9), none⟩,
  ⟨(some 36), .move (.t 9), none⟩,
  ⟨(some 37), .move (.t 8), none⟩,
  ⟨(some 38), .bin .lss (.t 36) (.t 37), none⟩,
  ⟨(some 39), .move (.t 38), none⟩,
  ⟨(some 40), .move (.t 2), some ((some 39), true)⟩,
  ⟨(some 41), .move (.t 0), some ((some 39), true)⟩,
  ⟨(some 42), .move (.t 9), some ((some 39), true)⟩,
  ⟨(some 43), .idxS 160 (.t 41) (.t 42), some ((some 39), true)⟩,
  ⟨(some 44), .load 160 (.t 43), some ((some 39), true)⟩,
  ⟨(some 45), .move (.t 1), some ((some 39), true)⟩,
  ⟨(some 46), .callv (.t 40) [(.t 44), (.t 45)], some ((some 39), true)⟩,
  ⟨(some 47), .bin .eql (.t 46) (.c (.int .i64 0)), some ((some 39), true)⟩,
  ⟨(some 48), .pick (.t 39) (.t 47) (.c (.bool false)), none⟩,
  ⟨(some 6), .move (.t 35), none⟩,
  ⟨(some 7), .move (.t 48), none⟩]
def f145 : AFunc := ⟨[.tmp 6, .tmp 7], (.seq (.reg f145r0) (.seq (.reg f145r1) (.seq (.reg f145r2) (.seq (.block 0 (.loop (.seq (.seq (.reg f145r3) (.cond (.t 17) .skip (.exit 0))) (.block 1 (.seq (.reg f145r4) (.seq (.reg f145r5) (.cond (.t 31) (.reg f145r6) (.reg f145r7)))))))) (.seq (.reg f145r8) .ret)))))⟩

-- fingerpost/fib.Lookup$1
def f146r0 : List AOper := [
  ⟨(some 2), .box 160 (.agg 160) (.t 0), none⟩,
  ⟨(some 4), .move (.c (.int .i64 0)), none⟩]
def f146r1 : List AOper := [
  ⟨(some 5), .fieldAddr 160 0 3 (.t 2), none⟩,
  ⟨(some 6), .load 3 (.t 5), none⟩,
  ⟨(some 7), .move (.t 1), none⟩,
  ⟨(some 8), .call 147 [(.t 6), (.t 7)], none⟩,
  ⟨(some 4), .move (.t 8), none⟩]
def f146 : AFunc := ⟨[.tmp 4], (.seq (.reg f146r0) (.seq (.reg f146r1) .ret))⟩

-- cmp.Compare[int]
def f147r0 : List AOper := [
  ⟨(some 4), .move (.c (.int .i64 0)), none⟩]
def f147r1 : List AOper := [
  ⟨(some 7), .move (.t 0), none⟩,
  ⟨(some 8), .call 151 [(.t 7)], none⟩,
  ⟨(some 5), .move (.t 8), none⟩]
def f147r2 : List AOper := [
  ⟨(some 9), .move (.t 1), none⟩,
  ⟨(some 10), .call 151 [(.t 9)], none⟩,
  ⟨(some 6), .move (.t 10), none⟩]
def f147r3 : List AOper := [
  ⟨(some 11), .move (.t 5), none⟩]
def f147r4 : List AOper := [
  ⟨(some 12), .move (.t 6), none⟩]
def f147r5 : List AOper := [
  ⟨(some 4), .move (.c (.int .i64 0)), none⟩]
def f147r6 : List AOper := [
  ⟨(some 4), .move (.c (.int .i64 (-1))), none⟩]
def f147r7 : List AOper := [
  ⟨(some 13), .move (.t 6), none⟩]
def f147r8 : List AOper := [
  ⟨(some 4), .move (.c (.int .i64 1)), none⟩]
def f147r9 : List AOper := [
  ⟨(some 14), .move (.t 0), none⟩,
  ⟨(some 15), .move (.t 1), none⟩,
  ⟨(some 16), .bin .lss (.t 14) (.t 15), none⟩]
def f147r10 : List AOper := [
  ⟨(some 4), .move (.c (.int .i64 (-1))), none⟩]
def f147r11 : List AOper := [
  ⟨(some 17), .move (.t 0), none⟩,
  ⟨(some 18), .move (.t 1), none⟩,
  ⟨(some 19), .bin .gtr (.t 17) (.t 18), none⟩]
def f147r12 : List AOper := [
  ⟨(some 4), .move (.c (.int .i64 1)), none⟩]
def f147r13 : List AOper := [
  ⟨(some 4), .move (.c (.int .i64 0)), none⟩]
def f147 : AFunc := ⟨[.tmp 4], (.seq (.reg f147r0) (.seq (.reg f147r1) (.seq (.reg f147r2) (.seq (.seq (.reg f147r3) (.cond (.t 11) (.seq (.seq (.reg f147r4) (.cond (.t 12) (.seq (.reg f147r5) .ret) .skip)) (.seq (.reg f147r6) .ret)) .skip)) (.seq (.seq (.reg f147r7) (.cond (.t 13) (.seq (.reg f147r8) .ret) .skip)) (.seq (.seq (.reg f147r9) (.cond (.t 16) (.seq (.reg f147r10) .ret) .skip)) (.seq (.seq (.reg f147r11) (.cond (.t 19) (.seq (.reg f147r12) .ret) .skip)) (.seq (.reg f147r13) .ret))))))))⟩

-- fingerpost/sha.mix
def f148r0 : List AOper := [
  ⟨(some 2), .box 265 (.agg 265) (.t 0), none⟩,
  ⟨(some 4), .alloc 265, none⟩]
def f148r1 : List AOper := [
  ⟨(some 5), .alloc 272, none⟩]
def f148r2 : List AOper := [
  ⟨(some 24), .move (.c (.int .i64 0)), none⟩]
def f148r3 : List AOper := [
  ⟨(some 25), .bin .lss (.t 24) (.c (.int .i64 16)), none⟩]
def f148r4 : List AOper := [
  ⟨(some 26), .move (.t 24), none⟩,
  ⟨(some 6), .move (.t 26), none⟩]
def f148r5 : List (AOper × List Nat) := [
  (⟨(some 27), .move (.t 6), none⟩, []),
  (⟨(some 28), .move (.t 1), none⟩, []),
  (⟨(some 29), .move (.t 6), none⟩, []),
  (⟨(some 30), .bin .mul (.c (.int .i64 4)) (.t 29), none⟩, []),
  (⟨(some 31), .idxS 5 (.t 28) (.t 30), none⟩, []),
  (⟨(some 32), .load 5 (.t 31), none⟩, []),
  (⟨(some 33), .conv .u32 (.t 32), none⟩, []),
  (⟨(some 34), .bin .shl (.t 33) (.c (.int .u64 24)), none⟩, []),
  (⟨(some 35), .move (.t 1), none⟩, []),
  (⟨(some 36), .move (.t 6), none⟩, []),
  (⟨(some 37), .bin .mul (.c (.int .i64 4)) (.t 36), none⟩, []),
  (⟨(some 38), .bin .add (.t 37) (.c (.int .i64 1)), none⟩, []),
  (⟨(some 39), .idxS 5 (.t 35) (.t 38), none⟩, []),
  (⟨(some 40), .load 5 (.t 39), none⟩, []),
  (⟨(some 41), .conv .u32 (.t 40), none⟩, []),
  (⟨(some 42), .bin .shl (.t 41) (.c (.int .u64 16)), none⟩, []),
  (⟨(some 43), .bin .or (.t 34) (.t 42), none⟩, []),
  (⟨(some 44), .move (.t 1), none⟩, []),
  (⟨(some 45), .move (.t 6), none⟩, []),
  (⟨(some 46), .bin .mul (.c (.int .i64 4)) (.t 45), none⟩, []),
  (⟨(some 47), .bin .add (.t 46) (.c (.int .i64 2)), none⟩, []),
  (⟨(some 48), .idxS 5 (.t 44) (.t 47), none⟩, []),
  (⟨(some 49), .load 5 (.t 48), none⟩, []),
  (⟨(some 50), .conv .u32 (.t 49), none⟩, []),
  (⟨(some 51), .bin .shl (.t 50) (.c (.int .u64 8)), none⟩, []),
  (⟨(some 52), .bin .or (.t 43) (.t 51), none⟩, []),
  (⟨(some 53), .move (.t 1), none⟩, []),
  (⟨(some 54), .move (.t 6), none⟩, []),
  (⟨(some 55), .bin .mul (.c (.int .i64 4)) (.t 54), none⟩, []),
  (⟨(some 56), .bin .add (.t 55) (.c (.int .i64 3)), none⟩, []),
  (⟨(some 57), .idxS 5 (.t 53) (.t 56), none⟩, []),
  (⟨(some 58), .load 5 (.t 57), none⟩, []),
  (⟨(some 59), .conv .u32 (.t 58), none⟩, []),
  (⟨(some 60), .bin .or (.t 52) (.t 59), none⟩, []),
  (⟨(some 61), .idxA 64 272 23 (.t 5) (.t 27), none⟩, []),
  (⟨none, .store 23 (.int .u32) (.t 61) (.t 60), none⟩, [])]
def f148r6 : List AOper := [
  ⟨(some 62), .bin .add (.t 24) (.c (.int .i64 1)), none⟩,
  ⟨(some 24), .move (.t 62), none⟩]
def f148r7 : List AOper := [
  ⟨(some 7), .move (.c (.int .i64 16)), none⟩]
def f148r8 : List AOper := [
  ⟨(some 63), .move (.t 7), none⟩,
  ⟨(some 64), .bin .lss (.t 63) (.c (.int .i64 64)), none⟩]
def f148r9 : List (AOper × List Nat) := [
  (⟨(some 67), .move (.t 7), none⟩, []),
  (⟨(some 68), .bin .sub (.t 67) (.c (.int .i64 15)), none⟩, []),
  (⟨(some 69), .idxA 64 272 23 (.t 5) (.t 68), none⟩, []),
  (⟨(some 70), .load 23 (.t 69), none⟩, []),
  (⟨(some 71), .move (.t 7), none⟩, []),
  (⟨(some 72), .bin .sub (.t 71) (.c (.int .i64 2)), none⟩, []),
  (⟨(some 73), .idxA 64 272 23 (.t 5) (.t 72), none⟩, []),
  (⟨(some 74), .load 23 (.t 73), none⟩, []),
  (⟨(some 8), .move (.t 70), none⟩, []),
  (⟨(some 9), .move (.t 74), none⟩, [])]
def f148r10 : List AOper := [
  ⟨(some 75), .move (.t 8), none⟩,
  ⟨(some 76), .call 152 [(.t 75), (.c (.int .i64 7))], none⟩,
  ⟨(some 77), .move (.t 8), none⟩,
  ⟨(some 78), .call 152 [(.t 77), (.c (.int .i64 18))], none⟩,
  ⟨(some 79), .bin .xor (.t 76) (.t 78), none⟩,
  ⟨(some 80), .move (.t 8), none⟩,
  ⟨(some 81), .bin .shr (.t 80) (.c (.int .u64 3)), none⟩,
  ⟨(some 82), .bin .xor (.t 79) (.t 81), none⟩,
  ⟨(some 8), .move (.t 82), none⟩]
def f148r11 : List AOper := [
  ⟨(some 83), .move (.t 9), none⟩,
  ⟨(some 84), .call 152 [(.t 83), (.c (.int .i64 17))], none⟩,
  ⟨(some 85), .move (.t 9), none⟩,
  ⟨(some 86), .call 152 [(.t 85), (.c (.int .i64 19))], none⟩,
  ⟨(some 87), .bin .xor (.t 84) (.t 86), none⟩,
  ⟨(some 88), .move (.t 9), none⟩,
  ⟨(some 89), .bin .shr (.t 88) (.c (.int .u64 10)), none⟩,
  ⟨(some 90), .bin .xor (.t 87) (.t 89), none⟩,
  ⟨(some 9), .move (.t 90), none⟩]
def f148r12 : List (AOper × List Nat) := [
  (⟨(some 91), .move (.t 7), none⟩, []),
  (⟨(some 92), .move (.t 7), none⟩, []),
  (⟨(some 93), .bin .sub (.t 92) (.c (.int .i64 16)), none⟩, []),
  (⟨(some 94), .idxA 64 272 23 (.t 5) (.t 93), none⟩, []),
  (⟨(some 95), .load 23 (.t 94), none⟩, []),
  (⟨(some 96), .move (.t 8), none⟩, []),
  (⟨(some 97), .bin .add (.t 95) (.t 96), none⟩, []),
  (⟨(some 98), .move (.t 7), none⟩, []),
  (⟨(some 99), .bin .sub (.t 98) (.c (.int .i64 7)), none⟩, []),
  (⟨(some 100), .idxA 64 272 23 (.t 5) (.t 99), none⟩, []),
  (⟨(some 101), .load 23 (.t 100), none⟩, []),
  (⟨(some 102), .bin .add (.t 97) (.t 101), none⟩, []),
  (⟨(some 103), .move (.t 9), none⟩, []),
  (⟨(some 104), .bin .add (.t 102) (.t 103), none⟩, []),
  (⟨(some 105), .idxA 64 272 23 (.t 5) (.t 91), none⟩, []),
  (⟨none, .store 23 (.int .u32) (.t 105) (.t 104), none⟩, [])]
def f148r13 : List AOper := [
  ⟨(some 65), .move (.t 7), none⟩,
  ⟨(some 66), .bin .add (.t 65) (.c (.int .i64 1)), none⟩,
  ⟨(some 7), .move (.t 66), none⟩]
def f148r14 : List AOper := [
  ⟨(some 106), .call 153 [], none⟩,
  ⟨(some 10), .alloc 272, none⟩,
  ⟨none, .store 272 (.agg 272) (.t 10) (.t 106), none⟩]
def f148r15 : List (AOper × List Nat) := [
  (⟨(some 107), .idxA 8 265 23 (.t 2) (.c (.int .i64 0)), none⟩, []),
  (⟨(some 108), .load 23 (.t 107), none⟩, []),
  (⟨(some 109), .idxA 8 265 23 (.t 2) (.c (.int .i64 1)), none⟩, []),
  (⟨(some 110), .load 23 (.t 109), none⟩, []),
  (⟨(some 111), .idxA 8 265 23 (.t 2) (.c (.int .i64 2)), none⟩, []),
  (⟨(some 112), .load 23 (.t 111), none⟩, []),
  (⟨(some 113), .idxA 8 265 23 (.t 2) (.c (.int .i64 3)), none⟩, []),
  (⟨(some 114), .load 23 (.t 113), none⟩, []),
  (⟨(some 115), .idxA 8 265 23 (.t 2) (.c (.int .i64 4)), none⟩, []),
  (⟨(some 116), .load 23 (.t 115), none⟩, []),
  (⟨(some 117), .idxA 8 265 23 (.t 2) (.c (.int .i64 5)), none⟩, []),
  (⟨(some 118), .load 23 (.t 117), none⟩, []),
  (⟨(some 119), .idxA 8 265 23 (.t 2) (.c (.int .i64 6)), none⟩, []),
  (⟨(some 120), .load 23 (.t 119), none⟩, []),
  (⟨(some 121), .idxA 8 265 23 (.t 2) (.c (.int .i64 7)), none⟩, []),
  (⟨(some 122), .load 23 (.t 121), none⟩, []),
  (⟨(some 11), .move (.t 108), none⟩, []),
  (⟨(some 12), .move (.t 110), none⟩, []),
  (⟨(some 13), .move (.t 112), none⟩, []),
  (⟨(some 14), .move (.t 114), none⟩, []),
  (⟨(some 15), .move (.t 116), none⟩, []),
  (⟨(some 16), .move (.t 118), none⟩, []),
  (⟨(some 17), .move (.t 120), none⟩, []),
  (⟨(some 18), .move (.t 122), none⟩, [])]
def f148r16 : List AOper := [
  ⟨(some 123), .move (.c (.int .i64 0)), none⟩]
def f148r17 : List AOper := [
  ⟨(some 124), .bin .lss (.t 123) (.c (.int .i64 64)), none⟩]
def f148r18 : List AOper := [
  ⟨(some 125), .move (.t 123), none⟩,
  ⟨(some 19), .move (.t 125), none⟩]
def f148r19 : List AOper := [
  ⟨(some 126), .move (.t 15), none⟩,
  ⟨(some 127), .call 152 [(.t 126), (.c (.int .i64 6))], none⟩,
  ⟨(some 128), .move (.t 15), none⟩,
  ⟨(some 129), .call 152 [(.t 128), (.c (.int .i64 11))], none⟩,
  ⟨(some 130), .bin .xor (.t 127) (.t 129), none⟩,
  ⟨(some 131), .move (.t 15), none⟩,
  ⟨(some 132), .call 152 [(.t 131), (.c (.int .i64 25))], none⟩,
  ⟨(some 133), .bin .xor (.t 130) (.t 132), none⟩,
  ⟨(some 20), .move (.t 133), none⟩]
def f148r20 : List (AOper × List Nat) := [
  (⟨(some 134), .move (.t 18), none⟩, []),
  (⟨(some 135), .move (.t 20), none⟩, []),
  (⟨(some 136), .bin .add (.t 134) (.t 135), none⟩, []),
  (⟨(some 137), .move (.t 15), none⟩, []),
  (⟨(some 138), .move (.t 16), none⟩, []),
  (⟨(some 139), .bin .and (.t 137) (.t 138), none⟩, []),
  (⟨(some 140), .move (.t 15), none⟩, []),
  (⟨(some 141), .un .xor (.t 140), none⟩, []),
  (⟨(some 142), .move (.t 17), none⟩, []),
  (⟨(some 143), .bin .and (.t 141) (.t 142), none⟩, []),
  (⟨(some 144), .bin .xor (.t 139) (.t 143), none⟩, []),
  (⟨(some 145), .bin .add (.t 136) (.t 144), none⟩, []),
  (⟨(some 146), .move (.t 19), none⟩, []),
  (⟨(some 147), .idxA 64 272 23 (.t 10) (.t 146), none⟩, []),
  (⟨(some 148), .load 23 (.t 147), none⟩, []),
  (⟨(some 149), .bin .add (.t 145) (.t 148), none⟩, []),
  (⟨(some 150), .move (.t 19), none⟩, []),
  (⟨(some 151), .idxA 64 272 23 (.t 5) (.t 150), none⟩, []),
  (⟨(some 152), .load 23 (.t 151), none⟩, []),
  (⟨(some 153), .bin .add (.t 149) (.t 152), none⟩, []),
  (⟨(some 21), .move (.t 153), none⟩, [])]
def f148r21 : List AOper := [
  ⟨(some 154), .move (.t 11), none⟩,
  ⟨(some 155), .call 152 [(.t 154), (.c (.int .i64 2))], none⟩,
  ⟨(some 156), .move (.t 11), none⟩,
  ⟨(some 157), .call 152 [(.t 156), (.c (.int .i64 13))], none⟩,
  ⟨(some 158), .bin .xor (.t 155) (.t 157), none⟩,
  ⟨(some 159), .move (.t 11), none⟩,
  ⟨(some 160), .call 152 [(.t 159), (.c (.int .i64 22))], none⟩,
  ⟨(some 161), .bin .xor (.t 158) (.t 160), none⟩,
  ⟨(some 22), .move (.t 161), none⟩]
def f148r22 : List AOper := [
  ⟨(some 162), .move (.t 22), none⟩,
  ⟨(some 163), .move (.t 11), none⟩,
  ⟨(some 164), .move (.t 12), none⟩,
  ⟨(some 165), .bin .and (.t 163) (.t 164), none⟩,
  ⟨(some 166), .move (.t 11), none⟩,
  ⟨(some 167), .move (.t 13), none⟩,
  ⟨(some 168), .bin .and (.t 166) (.t 167), none⟩,
  ⟨(some 169), .bin .xor (.t 165) (.t 168), none⟩,
  ⟨(some 170), .move (.t 12), none⟩,
  ⟨(some 171), .move (.t 13), none⟩,
  ⟨(some 172), .bin .and (.t 170) (.t 171), none⟩,
  ⟨(some 173), .bin .xor (.t 169) (.t 172), none⟩,
  ⟨(some 174), .bin .add (.t 162) (.t 173), none⟩,
  ⟨(some 23), .move (.t 174), none⟩]
def f148r23 : List AOper := [
  ⟨(some 175), .move (.t 21), none⟩,
  ⟨(some 176), .move (.t 23), none⟩,
  ⟨(some 177), .bin .add (.t 175) (.t 176), none⟩,
  ⟨(some 178), .move (.t 11), none⟩,
  ⟨(some 179), .move (.t 12), none⟩,
  ⟨(some 180), .move (.t 13), none⟩,
  ⟨(some 181), .move (.t 14), none⟩,
  ⟨(some 182), .move (.t 21), none⟩,
  ⟨(some 183), .bin .add (.t 181) (.t 182), none⟩,
  ⟨(some 184), .move (.t 15), none⟩,
  ⟨(some 185), .move (.t 16), none⟩,
  ⟨(some 186), .move (.t 17), none⟩,
  ⟨(some 11), .move (.t 177), none⟩,
  ⟨(some 12), .move (.t 178), none⟩,
  ⟨(some 13), .move (.t 179), none⟩,
  ⟨(some 14), .move (.t 180), none⟩,
  ⟨(some 15), .move (.t 183), none⟩,
  ⟨(some 16), .move (.t 184), none⟩,
  ⟨(some 17), .move (.t 185), none⟩,
  ⟨(some 18), .move (.t 186), none⟩]
def f148r24 : List AOper := [
  ⟨(some 187), .bin .add (.t 123) (.c (.int .i64 1)), none⟩,
  ⟨(some 123), .move (.t 187), none⟩]
def f148r25 : List AOper := [
  ⟨(some 188), .idxA 8 265 23 (.t 2) (.c (.int .i64 0)), none⟩,
  ⟨(some 189), .load 23 (.t 188), none⟩,
  ⟨(some 190), .move (.t 11), none⟩,
  ⟨(some 191), .bin .add (.t 189) (.t 190), none⟩,
  ⟨(some 192), .idxA 8 265 23 (.t 2) (.c (.int .i64 1)), none⟩,
  ⟨(some 193), .load 23 (.t 192), none⟩,
  ⟨(some 194), .move (.t 12), none⟩,
  ⟨(some 195), .bin .add (.t 193) (.t 194), none⟩,
  ⟨(some 196), .idxA 8 265 23 (.t 2) (.c (.int .i64 2)), none⟩,
  ⟨(some 197), .load 23 (.t 196), none⟩,
  ⟨(some 198), .move (.t 13), none⟩,
  ⟨(some 199), .bin .add (.t 197) (.t 198), none⟩,
  ⟨(some 200), .idxA 8 265 23 (.t 2) (.c (.int .i64 3)), none⟩,
  ⟨(some 201), .load 23 (.t 200), none⟩,
  ⟨(some 202), .move (.t 14), none⟩,
  ⟨(some 203), .bin .add (.t 201) (.t 202), none⟩,
  ⟨(some 204), .idxA 8 265 23 (.t 2) (.c (.int .i64 4)), none⟩,
  ⟨(some 205), .load 23 (.t 204), none⟩,
  ⟨(some 206), .move (.t 15), none⟩,
  ⟨(some 207), .bin .add (.t 205) (.t 206), none⟩,
  ⟨(some 208), .idxA 8 265 23 (.t 2) (.c (.int .i64 5)), none⟩,
  ⟨(some 209), .load 23 (.t 208), none⟩,
  ⟨(some 210), .move (.t 16), none⟩,
  ⟨(some 211), .bin .add (.t 209) (.t 210), none⟩,
  ⟨(some 212), .idxA 8 265 23 (.t 2) (.c (.int .i64 6)), none⟩,
  ⟨(some 213), .load 23 (.t 212), none⟩,
  ⟨(some 214), .move (.t 17), none⟩,
  ⟨(some 215), .bin .add (.t 213) (.t 214), none⟩,
  ⟨(some 216), .idxA 8 265 23 (.t 2) (.c (.int .i64 7)), none⟩,
  ⟨(some 217), .load 23 (.t 216), none⟩,
  ⟨(some 218), .move (.t 18), none⟩,
  ⟨(some 219), .bin .add (.t 217) (.t 218), none⟩,
  ⟨(some 220), .build 265 [(0, (.t 191)), (1, (.t 195)), (2, (.t 199)), (3, (.t 203)), (4, (.t 207)), (5, (.t 211)), (6, (.t 215)), (7, (.t 219))], none⟩,
  ⟨none, .store 265 (.agg 265) (.t 4) (.t 220), none⟩]
def f148 : AFunc := ⟨[.cell 4 265], (.seq (.reg f148r0) (.seq (.reg f148r1) (.seq (.seq (.reg f148r2) (.block 0 (.loop (.seq (.reg f148r3) (.seq (.cond (.t 25) .skip (.exit 0)) (.seq (.block 1 (.seq (.reg f148r4) (.draw f148r5))) (.reg f148r6))))))) (.seq (.seq (.reg f148r7) (.block 2 (.loop (.seq (.seq (.reg f148r8) (.cond (.t 64) .skip (.exit 2))) (.seq (.block 3 (.seq (.draw f148r9) (.seq (.reg f148r10) (.seq (.reg f148r11) (.draw f148r12))))) (.reg f148r13)))))) (.seq (.reg f148r14) (.seq (.draw f148r15) (.seq (.seq (.reg f148r16) (.block 4 (.loop (.seq (.reg f148r17) (.seq (.cond (.t 124) .skip (.exit 4)) (.seq (.block 5 (.seq (.reg f148r18) (.seq (.reg f148r19) (.seq (.draw f148r20) (.seq (.reg f148r21) (.seq (.reg f148r22) (.reg f148r23))))))) (.reg f148r24))))))) (.seq (.reg f148r25) .ret))))))))⟩

-- fingerpost/diary.lay
def f149r0 : List AOper := [
  ⟨(some 8), .alloc 47, none⟩]
def f149r1 : List AOper := [
  ⟨(some 9), .alloc 47, none⟩]
def f149r2 : List AOper := [
  ⟨(some 11), .sliceA 64 47 5 (.t 9) none none, none⟩,
  ⟨(some 12), .move (.t 0), none⟩,
  ⟨(some 13), .call 154 [(.t 11), (.t 12)], none⟩]
def f149r3 : List AOper := [
  ⟨(some 14), .move (.t 1), none⟩,
  ⟨(some 15), .bin .shr (.t 14) (.c (.int .u64 8)), none⟩,
  ⟨(some 16), .conv .u8 (.t 15), none⟩,
  ⟨(some 17), .move (.t 1), none⟩,
  ⟨(some 18), .conv .u8 (.t 17), none⟩,
  ⟨(some 19), .move (.t 2), none⟩,
  ⟨(some 20), .move (.t 3), none⟩,
  ⟨(some 21), .lenS (.t 20), none⟩,
  ⟨(some 22), .conv .u8 (.t 21), none⟩,
  ⟨(some 23), .idxA 64 47 5 (.t 9) (.c (.int .i64 4)), none⟩,
  ⟨none, .store 5 (.int .u8) (.t 23) (.t 16), none⟩,
  ⟨(some 24), .idxA 64 47 5 (.t 9) (.c (.int .i64 5)), none⟩,
  ⟨none, .store 5 (.int .u8) (.t 24) (.t 18), none⟩,
  ⟨(some 25), .idxA 64 47 5 (.t 9) (.c (.int .i64 6)), none⟩,
  ⟨none, .store 5 (.int .u8) (.t 25) (.t 19), none⟩,
  ⟨(some 26), .idxA 64 47 5 (.t 9) (.c (.int .i64 7)), none⟩,
  ⟨none, .store 5 (.int .u8) (.t 26) (.t 22), none⟩]
def f149r4 : List AOper := [
  ⟨(some 27), .sliceA 64 47 5 (.t 9) (some (.c (.int .i64 8))) none, none⟩,
  ⟨(some 28), .move (.t 3), none⟩,
  ⟨(some 29), .copy 5 false (.t 27) (.t 28), none⟩]
def f149r5 : List AOper := [
  ⟨(some 30), .load 47 (.t 9), none⟩,
  ⟨(some 31), .call 150 [(.t 30)], none⟩,
  ⟨(some 10), .move (.t 31), none⟩]
def f149r6 : List AOper := [
  ⟨(some 32), .move (.t 10), none⟩,
  ⟨(some 33), .bin .shr (.t 32) (.c (.int .u64 8)), none⟩,
  ⟨(some 34), .conv .u8 (.t 33), none⟩,
  ⟨(some 35), .move (.t 10), none⟩,
  ⟨(some 36), .conv .u8 (.t 35), none⟩,
  ⟨(some 37), .idxA 64 47 5 (.t 9) (.c (.int .i64 58)), none⟩,
  ⟨none, .store 5 (.int .u8) (.t 37) (.t 34), none⟩,
  ⟨(some 38), .idxA 64 47 5 (.t 9) (.c (.int .i64 59)), none⟩,
  ⟨none, .store 5 (.int .u8) (.t 38) (.t 36), none⟩]
def f149r7 : List AOper := [
  ⟨(some 39), .sliceA 64 47 5 (.t 9) (some (.c (.int .i64 60))) none, none⟩,
  ⟨(some 40), .move (.t 0), none⟩,
  ⟨(some 41), .call 154 [(.t 39), (.t 40)], none⟩]
def f149r8 : List AOper := [
  ⟨(some 42), .load 47 (.t 9), none⟩,
  ⟨none, .store 47 (.agg 47) (.t 8) (.t 42), none⟩]
def f149 : AFunc := ⟨[.cell 8 47], (.seq (.reg f149r0) (.seq (.reg f149r1) (.seq (.reg f149r2) (.seq (.reg f149r3) (.seq (.reg f149r4) (.seq (.reg f149r5) (.seq (.reg f149r6) (.seq (.reg f149r7) (.seq (.reg f149r8) .ret)))))))))⟩

-- fingerpost/diary.sum
def f150r0 : List AOper := [
  ⟨(some 1), .box 47 (.agg 47) (.t 0), none⟩,
  ⟨(some 2), .move (.c (.int .u16 0)), none⟩]
def f150r1 : List AOper := [
  ⟨(some 3), .move (.c (.int .u16 0)), none⟩]
def f150r2 : List AOper := [
  ⟨(some 6), .sliceA 64 47 5 (.t 1) none (some (.c (.int .i64 58))), none⟩,
  ⟨(some 7), .lenS (.t 6), none⟩,
  ⟨(some 8), .move (.c (.int .i64 0)), none⟩]
def f150r3 : List AOper := [
  ⟨(some 9), .bin .lss (.t 8) (.t 7), none⟩]
def f150r4 : List AOper := [
  ⟨(some 10), .idxS 5 (.t 6) (.t 8), none⟩,
  ⟨(some 11), .load 5 (.t 10), none⟩,
  ⟨(some 5), .move (.t 11), none⟩]
def f150r5 : List AOper := [
  ⟨(some 12), .move (.t 3), none⟩,
  ⟨(some 13), .move (.t 5), none⟩,
  ⟨(some 14), .conv .u16 (.t 13), none⟩,
  ⟨(some 15), .bin .add (.t 12) (.t 14), none⟩,
  ⟨(some 3), .move (.t 15), none⟩]
def f150r6 : List AOper := [
  ⟨(some 16), .bin .add (.t 8) (.c (.int .i64 1)), none⟩,
  ⟨(some 8), .move (.t 16), none⟩]
def f150r7 : List AOper := [
  ⟨(some 17), .move (.t 3), none⟩,
  ⟨(some 2), .move (.t 17), none⟩]
def f150 : AFunc := ⟨[.tmp 2], (.seq (.reg f150r0) (.seq (.reg f150r1) (.seq (.seq (.reg f150r2) (.block 0 (.loop (.seq (.reg f150r3) (.seq (.cond (.t 9) .skip (.exit 0)) (.seq (.block 1 (.seq (.reg f150r4) (.reg f150r5))) (.reg f150r6))))))) (.seq (.reg f150r7) .ret))))⟩

-- cmp.isNaN[int]
def f151r0 : List AOper := [
  ⟨(some 2), .move (.c (.bool false)), none⟩]
def f151r1 : List AOper := [
  ⟨(some 3), .move (.t 0), none⟩,
  ⟨(some 4), .move (.t 0), none⟩,
  ⟨(some 5), .bin .neq (.t 3) (.t 4), none⟩,
  ⟨(some 2), .move (.t 5), none⟩]
def f151 : AFunc := ⟨[.tmp 2], (.seq (.reg f151r0) (.seq (.reg f151r1) .ret))⟩

-- fingerpost/sha.turn
def f152r0 : List AOper := [
  ⟨(some 4), .move (.c (.int .u32 0)), none⟩]
def f152r1 : List (AOper × List Nat) := [
  (⟨(some 5), .move (.t 0), none⟩, []),
  (⟨(some 6), .move (.t 1), none⟩, []),
  (⟨(some 7), .bin .shr (.t 5) (.t 6), none⟩, []),
  (⟨(some 8), .move (.t 0), none⟩, []),
  (⟨(some 9), .move (.t 1), none⟩, []),
  (⟨(some 10), .bin .sub (.c (.int .i64 32)) (.t 9), none⟩, []),
  (⟨(some 11), .bin .shl (.t 8) (.t 10), none⟩, []),
  (⟨(some 12), .bin .or (.t 7) (.t 11), none⟩, []),
  (⟨(some 4), .move (.t 12), none⟩, [])]
def f152 : AFunc := ⟨[.tmp 4], (.seq (.reg f152r0) (.seq (.draw f152r1) .ret))⟩

-- fingerpost/sha.words
def f153r0 : List AOper := [
  ⟨(some 0), .alloc 272, none⟩]
def f153r1 : List AOper := [
  ⟨(some 1), .build 272 [(0, (.c (.int .u32 1116352408))), (1, (.c (.int .u32 1899447441))), (2, (.c (.int .u32 3049323471))), (3, (.c (.int .u32 3921009573))), (4, (.c (.int .u32 961987163))), (5, (.c (.int .u32 1508970993))), (6, (.c (.int .u32 2453635748))), (7, (.c (.int .u32 2870763221))), (8, (.c (.int .u32 3624381080))), (9, (.c (.int .u32 310598401))), (10, (.c (.int .u32 607225278))), (11, (.c (.int .u32 1426881987))), (12, (.c (.int .u32 1925078388))), (13, (.c (.int .u32 2162078206))), (14, (.c (.int .u32 2614888103))), (15, (.c (.int .u32 3248222580))), (16, (.c (.int .u32 3835390401))), (17, (.c (.int .u32 4022224774))), (18, (.c (.int .u32 264347078))), (19, (.c (.int .u32 604807628))), (20, (.c (.int .u32 770255983))), (21, (.c (.int .u32 1249150122))), (22, (.c (.int .u32 1555081692))), (23, (.c (.int .u32 1996064986))), (24, (.c (.int .u32 2554220882))), (25, (.c (.int .u32 2821834349))), (26, (.c (.int .u32 2952996808))), (27, (.c (.int .u32 3210313671))), (28, (.c (.int .u32 3336571891))), (29, (.c (.int .u32 3584528711))), (30, (.c (.int .u32 113926993))), (31, (.c (.int .u32 338241895))), (32, (.c (.int .u32 666307205))), (33, (.c (.int .u32 773529912))), (34, (.c (.int .u32 1294757372))), (35, (.c (.int .u32 1396182291))), (36, (.c (.int .u32 1695183700))), (37, (.c (.int .u32 1986661051))), (38, (.c (.int .u32 2177026350))), (39, (.c (.int .u32 2456956037))), (40, (.c (.int .u32 2730485921))), (41, (.c (.int .u32 2820302411))), (42, (.c (.int .u32 3259730800))), (43, (.c (.int .u32 3345764771))), (44, (.c (.int .u32 3516065817))), (45, (.c (.int .u32 3600352804))), (46, (.c (.int .u32 4094571909))), (47, (.c (.int .u32 275423344))), (48, (.c (.int .u32 430227734))), (49, (.c (.int .u32 506948616))), (50, (.c (.int .u32 659060556))), (51, (.c (.int .u32 883997877))), (52, (.c (.int .u32 958139571))), (53, (.c (.int .u32 1322822218))), (54, (.c (.int .u32 1537002063))), (55, (.c (.int .u32 1747873779))), (56, (.c (.int .u32 1955562222))), (57, (.c (.int .u32 2024104815))), (58, (.c (.int .u32 2227730452))), (59, (.c (.int .u32 2361852424))), (60, (.c (.int .u32 2428436474))), (61, (.c (.int .u32 2756734187))), (62, (.c (.int .u32 3204031479))), (63, (.c (.int .u32 3329325298)))], none⟩,
  ⟨none, .store 272 (.agg 272) (.t 0) (.t 1), none⟩]
def f153 : AFunc := ⟨[.cell 0 272], (.seq (.reg f153r0) (.seq (.reg f153r1) .ret))⟩

-- fingerpost/diary.put32
def f154r0 : List AOper := [
  ⟨(some 4), .move (.t 0), none⟩,
  ⟨(some 5), .move (.t 0), none⟩,
  ⟨(some 6), .move (.t 0), none⟩,
  ⟨(some 7), .move (.t 0), none⟩,
  ⟨(some 8), .move (.t 1), none⟩,
  ⟨(some 9), .bin .shr (.t 8) (.c (.int .u64 24)), none⟩,
  ⟨(some 10), .conv .u8 (.t 9), none⟩,
  ⟨(some 11), .move (.t 1), none⟩,
  ⟨(some 12), .bin .shr (.t 11) (.c (.int .u64 16)), none⟩,
  ⟨(some 13), .conv .u8 (.t 12), none⟩,
  ⟨(some 14), .move (.t 1), none⟩,
  ⟨(some 15), .bin .shr (.t 14) (.c (.int .u64 8)), none⟩,
  ⟨(some 16), .conv .u8 (.t 15), none⟩,
  ⟨(some 17), .move (.t 1), none⟩,
  ⟨(some 18), .conv .u8 (.t 17), none⟩,
  ⟨(some 19), .idxS 5 (.t 4) (.c (.int .i64 0)), none⟩,
  ⟨none, .store 5 (.int .u8) (.t 19) (.t 10), none⟩,
  ⟨(some 20), .idxS 5 (.t 5) (.c (.int .i64 1)), none⟩,
  ⟨none, .store 5 (.int .u8) (.t 20) (.t 13), none⟩,
  ⟨(some 21), .idxS 5 (.t 6) (.c (.int .i64 2)), none⟩,
  ⟨none, .store 5 (.int .u8) (.t 21) (.t 16), none⟩,
  ⟨(some 22), .idxS 5 (.t 7) (.c (.int .i64 3)), none⟩,
  ⟨none, .store 5 (.int .u8) (.t 22) (.t 18), none⟩]
def f154 : AFunc := ⟨[], (.reg f154r0)⟩


end Go.Dam.S
