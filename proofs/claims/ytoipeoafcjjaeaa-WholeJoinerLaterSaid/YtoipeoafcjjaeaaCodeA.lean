/- printed by a program of ours: the machine's code of the functions that this seat's laws reach; no statement is proved here -/
import Derived.Test.YtoipeoafcjjaeaaDamA
namespace Go.Dam.S
open Go Go.Dam

-- fingerpost/fingerposttop.WholeNumbersLater
def f3r0 : List AOper := [
  ⟨(some 5), .box 23 (.int .u32) (.t 2), none⟩,
  ⟨(some 6), .move (.c (.bool false)), none⟩]
def f3r1 : List AOper := [
  ⟨(some 17), .call 11 [], none⟩,
  ⟨(some 18), .un .not (.t 17), none⟩]
def f3r2 : List AOper := [
  ⟨(some 6), .move (.c (.bool false)), none⟩]
def f3r3 : List AOper := [
  ⟨(some 20), .move (.t 0), none⟩,
  ⟨(some 21), .call 12 [(.t 20)], none⟩,
  ⟨(some 19), .move (.t 21), none⟩,
  ⟨(some 22), .extract 0 (.t 19), none⟩,
  ⟨(some 23), .extract 1 (.t 19), none⟩,
  ⟨(some 7), .move (.t 22), none⟩,
  ⟨(some 8), .move (.t 23), none⟩]
def f3r4 : List AOper := [
  ⟨(some 25), .move (.t 0), none⟩,
  ⟨(some 26), .call 12 [(.t 25)], none⟩,
  ⟨(some 24), .move (.t 26), none⟩,
  ⟨(some 27), .extract 0 (.t 24), none⟩,
  ⟨(some 28), .extract 1 (.t 24), none⟩,
  ⟨(some 9), .move (.t 27), none⟩,
  ⟨(some 10), .move (.t 28), none⟩]
def f3r5 : List AOper := [
  ⟨(some 29), .move (.t 8), none⟩,
  ⟨(some 30), .move (.t 10), none⟩,
  ⟨(some 31), .bin .neq (.t 29) (.t 30), none⟩,
  ⟨(some 32), .move (.t 31), none⟩,
  ⟨(some 33), .move (.t 8), some ((some 32), false)⟩,
  ⟨(some 34), .bin .neq (.t 33) (.c (.int .i64 0)), some ((some 32), false)⟩,
  ⟨(some 35), .pick (.t 32) (.c (.bool true)) (.t 34), none⟩,
  ⟨(some 36), .move (.t 35), none⟩,
  ⟨(some 37), .move (.t 1), some ((some 36), false)⟩,
  ⟨(some 38), .lenS (.t 37), some ((some 36), false)⟩,
  ⟨(some 39), .bin .gtr (.t 38) (.c (.int .i64 100)), some ((some 36), false)⟩,
  ⟨(some 40), .pick (.t 36) (.c (.bool true)) (.t 39), none⟩]
def f3r6 : List AOper := [
  ⟨(some 41), .move (.t 8), none⟩,
  ⟨(some 42), .move (.t 10), none⟩,
  ⟨(some 43), .bin .eql (.t 41) (.t 42), none⟩,
  ⟨(some 6), .move (.t 43), none⟩]
def f3r7 : List AOper := [
  ⟨(some 44), .mkFn 13 [] [(.t 5)], none⟩,
  ⟨(some 11), .move (.t 44), none⟩]
def f3r8 : List AOper := [
  ⟨(some 45), .move (.t 1), none⟩,
  ⟨(some 46), .lenS (.t 45), none⟩,
  ⟨(some 47), .move (.c (.int .i64 0)), none⟩]
def f3r9 : List AOper := [
  ⟨(some 48), .bin .lss (.t 47) (.t 46), none⟩]
def f3r10 : List AOper := [
  ⟨(some 49), .idxS 30 (.t 45) (.t 47), none⟩,
  ⟨(some 50), .load 30 (.t 49), none⟩,
  ⟨(some 13), .alloc 30, none⟩,
  ⟨none, .store 30 (.agg 30) (.t 13) (.t 50), none⟩]
def f3r11 : List AOper := [
  ⟨(some 51), .fieldAddr 30 0 29 (.t 13), none⟩,
  ⟨(some 52), .load 29 (.t 51), none⟩,
  ⟨(some 53), .bin .gtr (.t 52) (.c (.int .u64 4611686018427387904)), none⟩,
  ⟨(some 54), .move (.t 53), none⟩,
  ⟨(some 55), .fieldAddr 30 1 29 (.t 13), some ((some 54), false)⟩,
  ⟨(some 56), .load 29 (.t 55), some ((some 54), false)⟩,
  ⟨(some 57), .bin .gtr (.t 56) (.c (.int .u64 4611686018427387904)), some ((some 54), false)⟩,
  ⟨(some 58), .pick (.t 54) (.c (.bool true)) (.t 57), none⟩]
def f3r12 : List AOper := [
  ⟨(some 59), .move (.t 11), none⟩,
  ⟨(some 60), .load 30 (.t 13), none⟩,
  ⟨(some 61), .callv (.t 59) [(.t 60)], none⟩,
  ⟨(some 14), .alloc 30, none⟩,
  ⟨none, .store 30 (.agg 30) (.t 14) (.t 61), none⟩]
def f3r13 : List (AOper × List Nat) := [
  (⟨(some 62), .move (.t 7), none⟩, []),
  (⟨(some 63), .fieldAddr 30 0 29 (.t 13), none⟩, []),
  (⟨(some 64), .load 29 (.t 63), none⟩, []),
  (⟨(some 65), .fieldAddr 30 1 29 (.t 13), none⟩, []),
  (⟨(some 66), .load 29 (.t 65), none⟩, []),
  (⟨(some 67), .call 14 [(.t 62), (.t 64), (.t 66)], none⟩, []),
  (⟨(some 68), .move (.t 9), none⟩, []),
  (⟨(some 69), .fieldAddr 30 0 29 (.t 14), none⟩, []),
  (⟨(some 70), .load 29 (.t 69), none⟩, [5]),
  (⟨(some 71), .fieldAddr 30 1 29 (.t 14), none⟩, []),
  (⟨(some 72), .load 29 (.t 71), none⟩, [5]),
  (⟨(some 73), .call 14 [(.t 68), (.t 70), (.t 72)], none⟩, []),
  (⟨(some 74), .eqv true .bool (.t 67) (.t 73), none⟩, []),
  (⟨(some 75), .move (.t 74), none⟩, []),
  (⟨(some 76), .move (.t 7), some ((some 75), false)⟩, []),
  (⟨(some 77), .fieldAddr 30 0 29 (.t 13), some ((some 75), false)⟩, []),
  (⟨(some 78), .load 29 (.t 77), some ((some 75), false)⟩, []),
  (⟨(some 79), .fieldAddr 30 1 29 (.t 13), some ((some 75), false)⟩, []),
  (⟨(some 80), .load 29 (.t 79), some ((some 75), false)⟩, []),
  (⟨(some 81), .call 15 [(.t 76), (.t 78), (.t 80)], some ((some 75), false)⟩, []),
  (⟨(some 82), .move (.t 9), some ((some 75), false)⟩, []),
  (⟨(some 83), .fieldAddr 30 0 29 (.t 14), some ((some 75), false)⟩, []),
  (⟨(some 84), .load 29 (.t 83), some ((some 75), false)⟩, [19]),
  (⟨(some 85), .fieldAddr 30 1 29 (.t 14), some ((some 75), false)⟩, []),
  (⟨(some 86), .load 29 (.t 85), some ((some 75), false)⟩, [19]),
  (⟨(some 87), .call 15 [(.t 82), (.t 84), (.t 86)], some ((some 75), false)⟩, []),
  (⟨(some 88), .bin .neq (.t 81) (.t 87), some ((some 75), false)⟩, []),
  (⟨(some 89), .pick (.t 75) (.c (.bool true)) (.t 88), none⟩, [])]
def f3r14 : List AOper := [
  ⟨(some 6), .move (.c (.bool false)), none⟩]
def f3r15 : List AOper := [
  ⟨(some 15), .alloc 30, none⟩,
  ⟨(some 16), .alloc 30, none⟩]
def f3r16 : List AOper := [
  ⟨(some 91), .move (.t 7), none⟩,
  ⟨(some 92), .call 16 [(.t 91)], none⟩,
  ⟨(some 90), .move (.t 92), none⟩,
  ⟨(some 93), .extract 0 (.t 90), none⟩,
  ⟨(some 94), .extract 1 (.t 90), none⟩,
  ⟨(some 95), .fieldAddr 30 0 29 (.t 15), none⟩,
  ⟨none, .store 29 (.int .u64) (.t 95) (.t 93), none⟩,
  ⟨(some 96), .fieldAddr 30 1 29 (.t 15), none⟩,
  ⟨none, .store 29 (.int .u64) (.t 96) (.t 94), none⟩]
def f3r17 : List AOper := [
  ⟨(some 98), .move (.t 9), none⟩,
  ⟨(some 99), .call 16 [(.t 98)], none⟩,
  ⟨(some 97), .move (.t 99), none⟩,
  ⟨(some 100), .extract 0 (.t 97), none⟩,
  ⟨(some 101), .extract 1 (.t 97), none⟩,
  ⟨(some 102), .fieldAddr 30 0 29 (.t 16), none⟩,
  ⟨none, .store 29 (.int .u64) (.t 102) (.t 100), none⟩,
  ⟨(some 103), .fieldAddr 30 1 29 (.t 16), none⟩,
  ⟨none, .store 29 (.int .u64) (.t 103) (.t 101), none⟩]
def f3r18 : List (AOper × List Nat) := [
  (⟨(some 104), .move (.t 11), none⟩, []),
  (⟨(some 105), .load 30 (.t 15), none⟩, []),
  (⟨(some 106), .callv (.t 104) [(.t 105)], none⟩, []),
  (⟨(some 107), .load 30 (.t 16), none⟩, [2]),
  (⟨(some 108), .eqv true (.agg 30) (.t 106) (.t 107), none⟩, [])]
def f3r19 : List AOper := [
  ⟨(some 6), .move (.c (.bool false)), none⟩]
def f3r20 : List AOper := [
  ⟨(some 109), .bin .add (.t 47) (.c (.int .i64 1)), none⟩,
  ⟨(some 47), .move (.t 109), none⟩]
def f3r21 : List AOper := [
  ⟨(some 6), .move (.c (.bool true)), none⟩]
def f3 : AFunc := ⟨[.tmp 6], (.seq (.reg f3r0) (.seq (.seq (.reg f3r1) (.cond (.t 18) (.seq (.reg f3r2) .ret) .skip)) (.seq (.reg f3r3) (.seq (.reg f3r4) (.seq (.seq (.reg f3r5) (.cond (.t 40) (.seq (.reg f3r6) .ret) .skip)) (.seq (.reg f3r7) (.seq (.seq (.reg f3r8) (.block 0 (.loop (.seq (.reg f3r9) (.seq (.cond (.t 48) .skip (.exit 0)) (.seq (.block 1 (.seq (.reg f3r10) (.seq (.seq (.reg f3r11) (.cond (.t 58) (.exit 1) .skip)) (.seq (.reg f3r12) (.seq (.seq (.draw f3r13) (.cond (.t 89) (.seq (.reg f3r14) .ret) .skip)) (.seq (.reg f3r15) (.seq (.reg f3r16) (.seq (.reg f3r17) (.seq (.draw f3r18) (.cond (.t 108) (.seq (.reg f3r19) .ret) .skip)))))))))) (.reg f3r20))))))) (.seq (.reg f3r21) .ret))))))))⟩

-- fingerpost/fingerposttop.WholeSectorsExchanged
def f4r0 : List AOper := [
  ⟨(some 3), .box 3 (.int .i64) (.t 0), none⟩,
  ⟨(some 6), .move (.c (.bool false)), none⟩]
def f4r1 : List AOper := [
  ⟨(some 25), .call 11 [], none⟩,
  ⟨(some 26), .un .not (.t 25), none⟩]
def f4r2 : List AOper := [
  ⟨(some 6), .move (.c (.bool false)), none⟩]
def f4r3 : List AOper := [
  ⟨(some 28), .load 3 (.t 3), none⟩,
  ⟨(some 29), .call 17 [(.t 28)], none⟩,
  ⟨(some 27), .move (.t 29), none⟩,
  ⟨(some 30), .extract 0 (.t 27), none⟩,
  ⟨(some 31), .extract 1 (.t 27), none⟩,
  ⟨(some 7), .alloc 40, none⟩,
  ⟨none, .store 40 .ptr (.t 7) (.t 30), none⟩,
  ⟨(some 8), .move (.t 31), none⟩]
def f4r4 : List AOper := [
  ⟨(some 33), .load 3 (.t 3), none⟩,
  ⟨(some 34), .call 17 [(.t 33)], none⟩,
  ⟨(some 32), .move (.t 34), none⟩,
  ⟨(some 35), .extract 0 (.t 32), none⟩,
  ⟨(some 36), .extract 1 (.t 32), none⟩,
  ⟨(some 9), .alloc 40, none⟩,
  ⟨none, .store 40 .ptr (.t 9) (.t 35), none⟩,
  ⟨(some 10), .move (.t 36), none⟩]
def f4r5 : List AOper := [
  ⟨(some 37), .move (.t 8), none⟩,
  ⟨(some 38), .move (.t 10), none⟩,
  ⟨(some 39), .bin .neq (.t 37) (.t 38), none⟩,
  ⟨(some 40), .move (.t 39), none⟩,
  ⟨(some 41), .move (.t 8), some ((some 40), false)⟩,
  ⟨(some 42), .bin .neq (.t 41) (.c (.int .i64 0)), some ((some 40), false)⟩,
  ⟨(some 43), .pick (.t 40) (.c (.bool true)) (.t 42), none⟩,
  ⟨(some 44), .move (.t 43), none⟩,
  ⟨(some 45), .move (.t 1), some ((some 44), false)⟩,
  ⟨(some 46), .lenS (.t 45), some ((some 44), false)⟩,
  ⟨(some 47), .bin .gtr (.t 46) (.c (.int .i64 100)), some ((some 44), false)⟩,
  ⟨(some 48), .pick (.t 44) (.c (.bool true)) (.t 47), none⟩,
  ⟨(some 49), .move (.t 48), none⟩,
  ⟨(some 50), .move (.t 2), some ((some 49), false)⟩,
  ⟨(some 51), .lenS (.t 50), some ((some 49), false)⟩,
  ⟨(some 52), .bin .gtr (.t 51) (.c (.int .i64 100)), some ((some 49), false)⟩,
  ⟨(some 53), .pick (.t 49) (.c (.bool true)) (.t 52), none⟩,
  ⟨(some 54), .move (.t 53), none⟩,
  ⟨(some 55), .load 3 (.t 3), some ((some 54), false)⟩,
  ⟨(some 56), .bin .gtr (.t 55) (.c (.int .i64 300)), some ((some 54), false)⟩,
  ⟨(some 57), .pick (.t 54) (.c (.bool true)) (.t 56), none⟩]
def f4r6 : List AOper := [
  ⟨(some 58), .move (.t 8), none⟩,
  ⟨(some 59), .move (.t 10), none⟩,
  ⟨(some 60), .bin .eql (.t 58) (.t 59), none⟩,
  ⟨(some 6), .move (.t 60), none⟩]
def f4r7 : List AOper := [
  ⟨(some 61), .move (.t 1), none⟩,
  ⟨(some 62), .lenS (.t 61), none⟩,
  ⟨(some 63), .mkSlice 3 1954687338268 (.t 62) (.t 62), none⟩,
  ⟨(some 11), .move (.t 63), none⟩]
def f4r8 : List AOper := [
  ⟨(some 64), .move (.t 11), none⟩,
  ⟨(some 65), .lenS (.t 64), none⟩,
  ⟨(some 66), .move (.c (.int .i64 0)), none⟩]
def f4r9 : List AOper := [
  ⟨(some 67), .bin .lss (.t 66) (.t 65), none⟩]
def f4r10 : List AOper := [
  ⟨(some 68), .move (.t 66), none⟩,
  ⟨(some 12), .move (.t 68), none⟩]
def f4r11 : List AOper := [
  ⟨(some 69), .move (.t 11), none⟩,
  ⟨(some 70), .move (.t 12), none⟩,
  ⟨(some 71), .move (.t 12), none⟩,
  ⟨(some 72), .idxS 3 (.t 69) (.t 70), none⟩,
  ⟨none, .store 3 (.int .i64) (.t 72) (.t 71), none⟩]
def f4r12 : List AOper := [
  ⟨(some 73), .bin .add (.t 66) (.c (.int .i64 1)), none⟩,
  ⟨(some 66), .move (.t 73), none⟩]
def f4r13 : List AOper := [
  ⟨(some 74), .move (.t 2), none⟩,
  ⟨(some 75), .lenS (.t 74), none⟩,
  ⟨(some 76), .move (.c (.int .i64 0)), none⟩]
def f4r14 : List AOper := [
  ⟨(some 77), .bin .lss (.t 76) (.t 75), none⟩]
def f4r15 : List AOper := [
  ⟨(some 78), .idxS 5 (.t 74) (.t 76), none⟩,
  ⟨(some 79), .load 5 (.t 78), none⟩,
  ⟨(some 14), .move (.t 79), none⟩]
def f4r16 : List AOper := [
  ⟨(some 80), .move (.t 1), none⟩,
  ⟨(some 81), .lenS (.t 80), none⟩,
  ⟨(some 82), .bin .lss (.t 81) (.c (.int .i64 2)), none⟩]
def f4r17 : List AOper := [
  ⟨(some 83), .move (.t 14), none⟩,
  ⟨(some 84), .conv .i64 (.t 83), none⟩,
  ⟨(some 85), .move (.t 1), none⟩,
  ⟨(some 86), .lenS (.t 85), none⟩,
  ⟨(some 87), .bin .sub (.t 86) (.c (.int .i64 1)), none⟩,
  ⟨(some 88), .bin .rem (.t 84) (.t 87), none⟩,
  ⟨(some 15), .move (.t 88), none⟩]
def f4r18 : List (AOper × List Nat) := [
  (⟨(some 89), .move (.t 1), none⟩, []),
  (⟨(some 90), .move (.t 11), none⟩, []),
  (⟨(some 91), .move (.t 15), none⟩, []),
  (⟨(some 92), .idxS 3 (.t 90) (.t 91), none⟩, []),
  (⟨(some 93), .load 3 (.t 92), none⟩, []),
  (⟨(some 94), .idxS 44 (.t 89) (.t 93), none⟩, []),
  (⟨(some 95), .load 44 (.t 94), none⟩, []),
  (⟨(some 96), .move (.t 1), none⟩, []),
  (⟨(some 97), .move (.t 11), none⟩, []),
  (⟨(some 98), .move (.t 15), none⟩, []),
  (⟨(some 99), .bin .add (.t 98) (.c (.int .i64 1)), none⟩, []),
  (⟨(some 100), .idxS 3 (.t 97) (.t 99), none⟩, []),
  (⟨(some 101), .load 3 (.t 100), none⟩, []),
  (⟨(some 102), .idxS 44 (.t 96) (.t 101), none⟩, []),
  (⟨(some 103), .load 44 (.t 102), none⟩, []),
  (⟨(some 16), .alloc 44, none⟩, []),
  (⟨(some 17), .alloc 44, none⟩, []),
  (⟨none, .store 44 (.agg 44) (.t 16) (.t 95), none⟩, [12, 14]),
  (⟨none, .store 44 (.agg 44) (.t 17) (.t 103), none⟩, [])]
def f4r19 : List AOper := [
  ⟨(some 104), .fieldAddr 44 0 4 (.t 16), none⟩,
  ⟨(some 105), .load 4 (.t 104), none⟩,
  ⟨(some 106), .un .not (.t 105), none⟩,
  ⟨(some 107), .move (.t 106), none⟩,
  ⟨(some 108), .fieldAddr 44 0 4 (.t 17), some ((some 107), true)⟩,
  ⟨(some 109), .load 4 (.t 108), some ((some 107), true)⟩,
  ⟨(some 110), .un .not (.t 109), some ((some 107), true)⟩,
  ⟨(some 111), .pick (.t 107) (.t 110) (.c (.bool false)), none⟩,
  ⟨(some 112), .move (.t 111), none⟩,
  ⟨(some 113), .fieldAddr 44 1 3 (.t 16), some ((some 112), true)⟩,
  ⟨(some 114), .load 3 (.t 113), some ((some 112), true)⟩,
  ⟨(some 115), .fieldAddr 44 1 3 (.t 17), some ((some 112), true)⟩,
  ⟨(some 116), .load 3 (.t 115), some ((some 112), true)⟩,
  ⟨(some 117), .bin .neq (.t 114) (.t 116), some ((some 112), true)⟩,
  ⟨(some 118), .pick (.t 112) (.t 117) (.c (.bool false)), none⟩]
def f4r20 : List (AOper × List Nat) := [
  (⟨(some 119), .move (.t 11), none⟩, []),
  (⟨(some 120), .move (.t 15), none⟩, []),
  (⟨(some 121), .move (.t 11), none⟩, []),
  (⟨(some 122), .move (.t 15), none⟩, []),
  (⟨(some 123), .bin .add (.t 122) (.c (.int .i64 1)), none⟩, []),
  (⟨(some 124), .move (.t 11), none⟩, []),
  (⟨(some 125), .move (.t 15), none⟩, []),
  (⟨(some 126), .bin .add (.t 125) (.c (.int .i64 1)), none⟩, []),
  (⟨(some 127), .idxS 3 (.t 124) (.t 126), none⟩, []),
  (⟨(some 128), .load 3 (.t 127), none⟩, []),
  (⟨(some 129), .move (.t 11), none⟩, []),
  (⟨(some 130), .move (.t 15), none⟩, []),
  (⟨(some 131), .idxS 3 (.t 129) (.t 130), none⟩, []),
  (⟨(some 132), .load 3 (.t 131), none⟩, []),
  (⟨(some 133), .idxS 3 (.t 119) (.t 120), none⟩, []),
  (⟨none, .store 3 (.int .i64) (.t 133) (.t 128), none⟩, []),
  (⟨(some 134), .idxS 3 (.t 121) (.t 123), none⟩, []),
  (⟨none, .store 3 (.int .i64) (.t 134) (.t 132), none⟩, [])]
def f4r21 : List AOper := [
  ⟨(some 135), .bin .add (.t 76) (.c (.int .i64 1)), none⟩,
  ⟨(some 76), .move (.t 135), none⟩]
def f4r22 : List AOper := [
  ⟨(some 18), .move (.c (.fn 18 [] [])), none⟩]
def f4r23 : List AOper := [
  ⟨(some 136), .move (.t 1), none⟩,
  ⟨(some 137), .lenS (.t 136), none⟩,
  ⟨(some 138), .mkSlice 3 1954687338268 (.t 137) (.t 137), none⟩,
  ⟨(some 19), .move (.t 138), none⟩]
def f4r24 : List AOper := [
  ⟨(some 139), .move (.t 1), none⟩,
  ⟨(some 140), .lenS (.t 139), none⟩,
  ⟨(some 141), .move (.c (.int .i64 0)), none⟩]
def f4r25 : List AOper := [
  ⟨(some 142), .bin .lss (.t 141) (.t 140), none⟩]
def f4r26 : List AOper := [
  ⟨(some 143), .move (.t 141), none⟩,
  ⟨(some 144), .idxS 44 (.t 139) (.t 141), none⟩,
  ⟨(some 145), .load 44 (.t 144), none⟩,
  ⟨(some 21), .alloc 44, none⟩,
  ⟨(some 20), .move (.t 143), none⟩,
  ⟨none, .store 44 (.agg 44) (.t 21) (.t 145), none⟩]
def f4r27 : List AOper := [
  ⟨(some 146), .move (.t 19), none⟩,
  ⟨(some 147), .move (.t 20), none⟩,
  ⟨(some 148), .move (.t 18), none⟩,
  ⟨(some 149), .load 40 (.t 7), none⟩,
  ⟨(some 150), .load 44 (.t 21), none⟩,
  ⟨(some 151), .callv (.t 148) [(.t 149), (.t 150)], none⟩,
  ⟨(some 152), .idxS 3 (.t 146) (.t 147), none⟩,
  ⟨none, .store 3 (.int .i64) (.t 152) (.t 151), none⟩]
def f4r28 : List AOper := [
  ⟨(some 153), .bin .add (.t 141) (.c (.int .i64 1)), none⟩,
  ⟨(some 141), .move (.t 153), none⟩]
def f4r29 : List AOper := [
  ⟨(some 154), .move (.t 11), none⟩,
  ⟨(some 155), .lenS (.t 154), none⟩,
  ⟨(some 156), .move (.c (.int .i64 0)), none⟩]
def f4r30 : List AOper := [
  ⟨(some 157), .bin .lss (.t 156) (.t 155), none⟩]
def f4r31 : List AOper := [
  ⟨(some 158), .idxS 3 (.t 154) (.t 156), none⟩,
  ⟨(some 159), .load 3 (.t 158), none⟩,
  ⟨(some 23), .move (.t 159), none⟩]
def f4r32 : List (AOper × List Nat) := [
  (⟨(some 160), .move (.t 18), none⟩, []),
  (⟨(some 161), .load 40 (.t 9), none⟩, []),
  (⟨(some 162), .move (.t 1), none⟩, []),
  (⟨(some 163), .move (.t 23), none⟩, []),
  (⟨(some 164), .idxS 44 (.t 162) (.t 163), none⟩, []),
  (⟨(some 165), .load 44 (.t 164), none⟩, []),
  (⟨(some 166), .callv (.t 160) [(.t 161), (.t 165)], none⟩, []),
  (⟨(some 167), .move (.t 19), none⟩, []),
  (⟨(some 168), .move (.t 23), none⟩, []),
  (⟨(some 169), .idxS 3 (.t 167) (.t 168), none⟩, []),
  (⟨(some 170), .load 3 (.t 169), none⟩, [6]),
  (⟨(some 171), .bin .neq (.t 166) (.t 170), none⟩, [])]
def f4r33 : List AOper := [
  ⟨(some 6), .move (.c (.bool false)), none⟩]
def f4r34 : List AOper := [
  ⟨(some 172), .bin .add (.t 156) (.c (.int .i64 1)), none⟩,
  ⟨(some 156), .move (.t 172), none⟩]
def f4r35 : List AOper := [
  ⟨(some 173), .mkFn 21 [] [(.t 3), (.t 7), (.t 9)], none⟩,
  ⟨(some 24), .move (.t 173), none⟩]
def f4r36 : List AOper := [
  ⟨(some 174), .move (.t 24), none⟩,
  ⟨(some 175), .callv (.t 174) [], none⟩,
  ⟨(some 176), .move (.t 175), none⟩,
  ⟨(some 177), .load 40 (.t 7), some ((some 176), true)⟩,
  ⟨(some 178), .call 26 [(.t 177), (.c (.int .i64 0)), (.c (.int .i64 0))], some ((some 176), true)⟩,
  ⟨(some 179), .bin .eql (.t 178) (.c (.int .i64 0)), some ((some 176), true)⟩,
  ⟨(some 180), .pick (.t 176) (.t 179) (.c (.bool false)), none⟩,
  ⟨(some 181), .move (.t 180), none⟩,
  ⟨(some 182), .load 40 (.t 9), some ((some 181), true)⟩,
  ⟨(some 183), .call 26 [(.t 182), (.c (.int .i64 0)), (.c (.int .i64 0))], some ((some 181), true)⟩,
  ⟨(some 184), .bin .eql (.t 183) (.c (.int .i64 0)), some ((some 181), true)⟩,
  ⟨(some 185), .pick (.t 181) (.t 184) (.c (.bool false)), none⟩,
  ⟨(some 186), .move (.t 185), none⟩,
  ⟨(some 187), .move (.t 24), some ((some 186), true)⟩,
  ⟨(some 188), .callv (.t 187) [], some ((some 186), true)⟩,
  ⟨(some 189), .pick (.t 186) (.t 188) (.c (.bool false)), none⟩,
  ⟨(some 6), .move (.t 189), none⟩]
def f4 : AFunc := ⟨[.tmp 6], (.seq (.reg f4r0) (.seq (.seq (.reg f4r1) (.cond (.t 26) (.seq (.reg f4r2) .ret) .skip)) (.seq (.reg f4r3) (.seq (.reg f4r4) (.seq (.seq (.reg f4r5) (.cond (.t 57) (.seq (.reg f4r6) .ret) .skip)) (.seq (.reg f4r7) (.seq (.seq (.reg f4r8) (.block 0 (.loop (.seq (.reg f4r9) (.seq (.cond (.t 67) .skip (.exit 0)) (.seq (.block 1 (.seq (.reg f4r10) (.reg f4r11))) (.reg f4r12))))))) (.seq (.seq (.reg f4r13) (.block 2 (.loop (.seq (.reg f4r14) (.seq (.cond (.t 77) .skip (.exit 2)) (.seq (.block 3 (.seq (.reg f4r15) (.seq (.seq (.reg f4r16) (.cond (.t 82) (.exit 2) .skip)) (.seq (.reg f4r17) (.seq (.draw f4r18) (.seq (.reg f4r19) (.cond (.t 118) (.draw f4r20) .skip))))))) (.reg f4r21))))))) (.seq (.reg f4r22) (.seq (.reg f4r23) (.seq (.seq (.reg f4r24) (.block 4 (.loop (.seq (.reg f4r25) (.seq (.cond (.t 142) .skip (.exit 4)) (.seq (.block 5 (.seq (.reg f4r26) (.reg f4r27))) (.reg f4r28))))))) (.seq (.seq (.reg f4r29) (.block 6 (.loop (.seq (.reg f4r30) (.seq (.cond (.t 157) .skip (.exit 6)) (.seq (.block 7 (.seq (.reg f4r31) (.seq (.draw f4r32) (.cond (.t 171) (.seq (.reg f4r33) .ret) .skip)))) (.reg f4r34))))))) (.seq (.reg f4r35) (.seq (.reg f4r36) .ret))))))))))))))⟩

-- fingerpost/fingerposttop.WholeGroveHalved
def f5r0 : List AOper := [
  ⟨(some 6), .move (.c (.bool false)), none⟩]
def f5r1 : List AOper := [
  ⟨(some 24), .call 11 [], none⟩,
  ⟨(some 25), .un .not (.t 24), none⟩]
def f5r2 : List AOper := [
  ⟨(some 6), .move (.c (.bool false)), none⟩]
def f5r3 : List AOper := [
  ⟨(some 26), .move (.t 2), none⟩,
  ⟨(some 27), .lenS (.t 26), none⟩,
  ⟨(some 28), .call 27 [(.t 27)], none⟩,
  ⟨(some 7), .move (.t 28), none⟩]
def f5r4 : List AOper := [
  ⟨(some 29), .move (.t 7), none⟩,
  ⟨(some 30), .bin .lss (.t 29) (.c (.int .i64 1)), none⟩]
def f5r5 : List AOper := [
  ⟨(some 6), .move (.c (.bool true)), none⟩]
def f5r6 : List AOper := [
  ⟨(some 31), .move (.t 2), none⟩,
  ⟨(some 32), .lenS (.t 31), none⟩,
  ⟨(some 33), .bin .quo (.t 32) (.c (.int .i64 2)), none⟩,
  ⟨(some 8), .move (.t 33), none⟩]
def f5r7 : List AOper := [
  ⟨(some 35), .move (.t 0), none⟩,
  ⟨(some 36), .move (.t 1), none⟩,
  ⟨(some 37), .move (.t 2), none⟩,
  ⟨(some 38), .call 28 [(.t 35), (.t 36), (.t 37)], none⟩,
  ⟨(some 34), .move (.t 38), none⟩,
  ⟨(some 39), .extract 0 (.t 34), none⟩,
  ⟨(some 40), .extract 1 (.t 34), none⟩,
  ⟨(some 9), .move (.t 39), none⟩,
  ⟨(some 10), .move (.t 40), none⟩]
def f5r8 : List AOper := [
  ⟨(some 42), .move (.t 0), none⟩,
  ⟨(some 43), .move (.t 1), none⟩,
  ⟨(some 44), .move (.t 2), none⟩,
  ⟨(some 45), .move (.t 8), none⟩,
  ⟨(some 46), .sliceS 62 (.t 44) none (some (.t 45)), none⟩,
  ⟨(some 47), .call 28 [(.t 42), (.t 43), (.t 46)], none⟩,
  ⟨(some 41), .move (.t 47), none⟩,
  ⟨(some 48), .extract 0 (.t 41), none⟩,
  ⟨(some 49), .extract 1 (.t 41), none⟩,
  ⟨(some 11), .move (.t 48), none⟩,
  ⟨(some 12), .move (.t 49), none⟩]
def f5r9 : List AOper := [
  ⟨(some 51), .move (.t 0), none⟩,
  ⟨(some 52), .move (.t 1), none⟩,
  ⟨(some 53), .move (.t 2), none⟩,
  ⟨(some 54), .move (.t 8), none⟩,
  ⟨(some 55), .sliceS 62 (.t 53) (some (.t 54)) none, none⟩,
  ⟨(some 56), .call 28 [(.t 51), (.t 52), (.t 55)], none⟩,
  ⟨(some 50), .move (.t 56), none⟩,
  ⟨(some 57), .extract 0 (.t 50), none⟩,
  ⟨(some 58), .extract 1 (.t 50), none⟩,
  ⟨(some 13), .move (.t 57), none⟩,
  ⟨(some 14), .move (.t 58), none⟩]
def f5r10 : List AOper := [
  ⟨(some 59), .move (.t 10), none⟩,
  ⟨(some 60), .bin .neq (.t 59) (.c (.int .i64 0)), none⟩,
  ⟨(some 61), .move (.t 60), none⟩,
  ⟨(some 62), .move (.t 12), some ((some 61), false)⟩,
  ⟨(some 63), .bin .neq (.t 62) (.c (.int .i64 0)), some ((some 61), false)⟩,
  ⟨(some 64), .pick (.t 61) (.c (.bool true)) (.t 63), none⟩,
  ⟨(some 65), .move (.t 64), none⟩,
  ⟨(some 66), .move (.t 14), some ((some 65), false)⟩,
  ⟨(some 67), .bin .neq (.t 66) (.c (.int .i64 0)), some ((some 65), false)⟩,
  ⟨(some 68), .pick (.t 65) (.c (.bool true)) (.t 67), none⟩,
  ⟨(some 69), .move (.t 68), none⟩,
  ⟨(some 70), .move (.t 9), some ((some 69), false)⟩,
  ⟨(some 71), .eqv false .ptr (.t 70) (.c .nilp), some ((some 69), false)⟩,
  ⟨(some 72), .pick (.t 69) (.c (.bool true)) (.t 71), none⟩,
  ⟨(some 73), .move (.t 72), none⟩,
  ⟨(some 74), .move (.t 9), some ((some 73), false)⟩,
  ⟨(some 75), .call 29 [(.t 74)], some ((some 73), false)⟩,
  ⟨(some 76), .move (.t 0), some ((some 73), false)⟩,
  ⟨(some 77), .move (.t 1), some ((some 73), false)⟩,
  ⟨(some 78), .move (.t 7), some ((some 73), false)⟩,
  ⟨(some 79), .move (.t 11), some ((some 73), false)⟩,
  ⟨(some 80), .call 29 [(.t 79)], some ((some 73), false)⟩,
  ⟨(some 81), .move (.t 13), some ((some 73), false)⟩,
  ⟨(some 82), .call 29 [(.t 81)], some ((some 73), false)⟩,
  ⟨(some 83), .call 30 [(.t 76), (.t 77), (.t 78), (.t 80), (.t 82)], some ((some 73), false)⟩,
  ⟨(some 84), .eqv true (.agg 62) (.t 75) (.t 83), some ((some 73), false)⟩,
  ⟨(some 85), .pick (.t 73) (.c (.bool true)) (.t 84), none⟩]
def f5r11 : List AOper := [
  ⟨(some 6), .move (.c (.bool false)), none⟩]
def f5r12 : List AOper := [
  ⟨(some 86), .move (.t 2), none⟩,
  ⟨(some 87), .lenS (.t 86), none⟩,
  ⟨(some 88), .move (.c (.int .i64 0)), none⟩]
def f5r13 : List AOper := [
  ⟨(some 89), .bin .lss (.t 88) (.t 87), none⟩]
def f5r14 : List AOper := [
  ⟨(some 90), .move (.t 88), none⟩,
  ⟨(some 15), .move (.t 90), none⟩]
def f5r15 : List AOper := [
  ⟨(some 91), .move (.t 11), none⟩,
  ⟨(some 92), .move (.t 13), none⟩,
  ⟨(some 16), .move (.t 91), none⟩,
  ⟨(some 17), .move (.t 92), none⟩]
def f5r16 : List AOper := [
  ⟨(some 93), .move (.t 15), none⟩,
  ⟨(some 94), .move (.t 8), none⟩,
  ⟨(some 95), .bin .geq (.t 93) (.t 94), none⟩]
def f5r17 : List AOper := [
  ⟨(some 96), .move (.t 13), none⟩,
  ⟨(some 97), .move (.t 11), none⟩,
  ⟨(some 16), .move (.t 96), none⟩,
  ⟨(some 17), .move (.t 97), none⟩]
def f5r18 : List AOper := [
  ⟨(some 99), .move (.t 9), none⟩,
  ⟨(some 100), .move (.t 15), none⟩,
  ⟨(some 101), .call 31 [(.t 99), (.t 100)], none⟩,
  ⟨(some 98), .move (.t 101), none⟩,
  ⟨(some 102), .extract 0 (.t 98), none⟩,
  ⟨(some 103), .extract 1 (.t 98), none⟩,
  ⟨(some 18), .move (.t 102), none⟩,
  ⟨(some 19), .move (.t 103), none⟩]
def f5r19 : List AOper := [
  ⟨(some 105), .move (.t 16), none⟩,
  ⟨(some 106), .move (.t 15), none⟩,
  ⟨(some 107), .move (.t 8), none⟩,
  ⟨(some 108), .bin .rem (.t 106) (.t 107), none⟩,
  ⟨(some 109), .call 31 [(.t 105), (.t 108)], none⟩,
  ⟨(some 104), .move (.t 109), none⟩,
  ⟨(some 110), .extract 0 (.t 104), none⟩,
  ⟨(some 111), .extract 1 (.t 104), none⟩,
  ⟨(some 20), .move (.t 110), none⟩,
  ⟨(some 21), .move (.t 111), none⟩]
def f5r20 : List AOper := [
  ⟨(some 113), .move (.t 0), none⟩,
  ⟨(some 114), .move (.t 1), none⟩,
  ⟨(some 115), .move (.t 15), none⟩,
  ⟨(some 116), .move (.t 2), none⟩,
  ⟨(some 117), .move (.t 15), none⟩,
  ⟨(some 118), .idxS 62 (.t 116) (.t 117), none⟩,
  ⟨(some 119), .load 62 (.t 118), none⟩,
  ⟨(some 120), .move (.t 18), none⟩,
  ⟨(some 121), .call 32 [(.t 113), (.t 114), (.t 115), (.t 119), (.t 120)], none⟩,
  ⟨(some 112), .move (.t 121), none⟩,
  ⟨(some 122), .extract 0 (.t 112), none⟩,
  ⟨(some 123), .extract 1 (.t 112), none⟩,
  ⟨(some 22), .alloc 62, none⟩,
  ⟨none, .store 62 (.agg 62) (.t 22) (.t 122), none⟩,
  ⟨(some 23), .move (.t 123), none⟩]
def f5r21 : List (AOper × List Nat) := [
  (⟨(some 124), .move (.t 19), none⟩, []),
  (⟨(some 125), .bin .neq (.t 124) (.c (.int .i64 0)), none⟩, []),
  (⟨(some 126), .move (.t 125), none⟩, []),
  (⟨(some 127), .move (.t 21), some ((some 126), false)⟩, []),
  (⟨(some 128), .bin .neq (.t 127) (.c (.int .i64 0)), some ((some 126), false)⟩, []),
  (⟨(some 129), .pick (.t 126) (.c (.bool true)) (.t 128), none⟩, []),
  (⟨(some 130), .move (.t 129), none⟩, []),
  (⟨(some 131), .move (.t 23), some ((some 130), false)⟩, []),
  (⟨(some 132), .bin .neq (.t 131) (.c (.int .i64 0)), some ((some 130), false)⟩, []),
  (⟨(some 133), .pick (.t 130) (.c (.bool true)) (.t 132), none⟩, []),
  (⟨(some 134), .move (.t 133), none⟩, []),
  (⟨(some 135), .load 62 (.t 22), some ((some 134), false)⟩, []),
  (⟨(some 136), .move (.t 9), some ((some 134), false)⟩, []),
  (⟨(some 137), .call 29 [(.t 136)], some ((some 134), false)⟩, [11]),
  (⟨(some 138), .eqv true (.agg 62) (.t 135) (.t 137), some ((some 134), false)⟩, []),
  (⟨(some 139), .pick (.t 134) (.c (.bool true)) (.t 138), none⟩, []),
  (⟨(some 140), .move (.t 139), none⟩, []),
  (⟨(some 141), .move (.t 18), some ((some 140), false)⟩, []),
  (⟨(some 142), .move (.t 20), some ((some 140), false)⟩, []),
  (⟨(some 143), .call 34 [(.t 142)], some ((some 140), false)⟩, []),
  (⟨(some 144), .move (.t 17), some ((some 140), false)⟩, []),
  (⟨(some 145), .call 29 [(.t 144)], some ((some 140), false)⟩, []),
  (⟨(some 146), .buildSlice 62 1 [(0, (.t 145))], some ((some 140), false)⟩, []),
  (⟨(some 147), .append 62 false 1034834473200 (.t 143) (.t 146), some ((some 140), false)⟩, []),
  (⟨(some 148), .call 33 [(.t 141), (.t 147)], some ((some 140), false)⟩, []),
  (⟨(some 149), .un .not (.t 148), some ((some 140), false)⟩, []),
  (⟨(some 150), .pick (.t 140) (.c (.bool true)) (.t 149), none⟩, [])]
def f5r22 : List AOper := [
  ⟨(some 6), .move (.c (.bool false)), none⟩]
def f5r23 : List AOper := [
  ⟨(some 151), .bin .add (.t 88) (.c (.int .i64 1)), none⟩,
  ⟨(some 88), .move (.t 151), none⟩]
def f5r24 : List AOper := [
  ⟨(some 6), .move (.c (.bool true)), none⟩]
def f5 : AFunc := ⟨[.tmp 6], (.seq (.reg f5r0) (.seq (.seq (.reg f5r1) (.cond (.t 25) (.seq (.reg f5r2) .ret) .skip)) (.seq (.reg f5r3) (.seq (.seq (.reg f5r4) (.cond (.t 30) (.seq (.reg f5r5) .ret) .skip)) (.seq (.reg f5r6) (.seq (.reg f5r7) (.seq (.reg f5r8) (.seq (.reg f5r9) (.seq (.seq (.reg f5r10) (.cond (.t 85) (.seq (.reg f5r11) .ret) .skip)) (.seq (.seq (.reg f5r12) (.block 0 (.loop (.seq (.reg f5r13) (.seq (.cond (.t 89) .skip (.exit 0)) (.seq (.block 1 (.seq (.reg f5r14) (.seq (.reg f5r15) (.seq (.seq (.reg f5r16) (.cond (.t 95) (.reg f5r17) .skip)) (.seq (.reg f5r18) (.seq (.reg f5r19) (.seq (.reg f5r20) (.seq (.draw f5r21) (.cond (.t 150) (.seq (.reg f5r22) .ret) .skip))))))))) (.reg f5r23))))))) (.seq (.reg f5r24) .ret)))))))))))⟩

-- fingerpost/fingerposttop.WholeTollScaled
def f6r0 : List AOper := [
  ⟨(some 4), .box 73 (.agg 73) (.t 0), none⟩,
  ⟨(some 8), .move (.c (.bool false)), none⟩]
def f6r1 : List AOper := [
  ⟨(some 26), .call 11 [], none⟩,
  ⟨(some 27), .un .not (.t 26), none⟩]
def f6r2 : List AOper := [
  ⟨(some 8), .move (.c (.bool false)), none⟩]
def f6r3 : List AOper := [
  ⟨(some 28), .move (.t 2), none⟩,
  ⟨(some 29), .bin .rem (.t 28) (.c (.int .u8 9)), none⟩,
  ⟨(some 30), .conv .i64 (.t 29), none⟩,
  ⟨(some 31), .bin .add (.c (.int .i64 1)) (.t 30), none⟩,
  ⟨(some 9), .move (.t 31), none⟩]
def f6r4 : List AOper := [
  ⟨(some 32), .load 73 (.t 4), none⟩,
  ⟨(some 33), .call 35 [(.t 32)], none⟩,
  ⟨(some 34), .un .not (.t 33), none⟩,
  ⟨(some 35), .move (.t 34), none⟩,
  ⟨(some 36), .fieldAddr 73 2 3 (.t 4), some ((some 35), false)⟩,
  ⟨(some 37), .load 3 (.t 36), some ((some 35), false)⟩,
  ⟨(some 38), .move (.t 9), some ((some 35), false)⟩,
  ⟨(some 39), .bin .mul (.t 37) (.t 38), some ((some 35), false)⟩,
  ⟨(some 40), .bin .gtr (.t 39) (.c (.int .i64 1073741824)), some ((some 35), false)⟩,
  ⟨(some 41), .pick (.t 35) (.c (.bool true)) (.t 40), none⟩,
  ⟨(some 42), .move (.t 41), none⟩,
  ⟨(some 43), .fieldAddr 73 3 3 (.t 4), some ((some 42), false)⟩,
  ⟨(some 44), .load 3 (.t 43), some ((some 42), false)⟩,
  ⟨(some 45), .move (.t 9), some ((some 42), false)⟩,
  ⟨(some 46), .bin .mul (.t 44) (.t 45), some ((some 42), false)⟩,
  ⟨(some 47), .bin .gtr (.t 46) (.c (.int .i64 1073741824)), some ((some 42), false)⟩,
  ⟨(some 48), .pick (.t 42) (.c (.bool true)) (.t 47), none⟩,
  ⟨(some 49), .move (.t 48), none⟩,
  ⟨(some 50), .move (.t 1), some ((some 49), false)⟩,
  ⟨(some 51), .lenS (.t 50), some ((some 49), false)⟩,
  ⟨(some 52), .bin .gtr (.t 51) (.c (.int .i64 100)), some ((some 49), false)⟩,
  ⟨(some 53), .pick (.t 49) (.c (.bool true)) (.t 52), none⟩]
def f6r5 : List AOper := [
  ⟨(some 8), .move (.c (.bool true)), none⟩]
def f6r6 : List AOper := [
  ⟨(some 54), .load 73 (.t 4), none⟩,
  ⟨(some 10), .alloc 73, none⟩,
  ⟨none, .store 73 (.agg 73) (.t 10) (.t 54), none⟩]
def f6r7 : List (AOper × List Nat) := [
  (⟨(some 55), .fieldAddr 73 2 3 (.t 4), none⟩, []),
  (⟨(some 56), .load 3 (.t 55), none⟩, []),
  (⟨(some 57), .move (.t 9), none⟩, []),
  (⟨(some 58), .bin .mul (.t 56) (.t 57), none⟩, []),
  (⟨(some 59), .fieldAddr 73 3 3 (.t 4), none⟩, []),
  (⟨(some 60), .load 3 (.t 59), none⟩, []),
  (⟨(some 61), .move (.t 9), none⟩, []),
  (⟨(some 62), .bin .mul (.t 60) (.t 61), none⟩, []),
  (⟨(some 63), .fieldAddr 73 2 3 (.t 10), none⟩, []),
  (⟨none, .store 3 (.int .i64) (.t 63) (.t 58), none⟩, [5]),
  (⟨(some 64), .fieldAddr 73 3 3 (.t 10), none⟩, []),
  (⟨none, .store 3 (.int .i64) (.t 64) (.t 62), none⟩, [])]
def f6r8 : List AOper := [
  ⟨(some 66), .load 73 (.t 4), none⟩,
  ⟨(some 67), .call 36 [(.t 66)], none⟩,
  ⟨(some 65), .move (.t 67), none⟩,
  ⟨(some 68), .extract 0 (.t 65), none⟩,
  ⟨(some 69), .extract 1 (.t 65), none⟩,
  ⟨(some 11), .move (.t 68), none⟩,
  ⟨(some 12), .move (.t 69), none⟩]
def f6r9 : List AOper := [
  ⟨(some 71), .load 73 (.t 10), none⟩,
  ⟨(some 72), .call 36 [(.t 71)], none⟩,
  ⟨(some 70), .move (.t 72), none⟩,
  ⟨(some 73), .extract 0 (.t 70), none⟩,
  ⟨(some 74), .extract 1 (.t 70), none⟩,
  ⟨(some 13), .move (.t 73), none⟩,
  ⟨(some 14), .move (.t 74), none⟩]
def f6r10 : List AOper := [
  ⟨(some 76), .load 73 (.t 4), none⟩,
  ⟨(some 77), .call 36 [(.t 76)], none⟩,
  ⟨(some 75), .move (.t 77), none⟩,
  ⟨(some 78), .extract 0 (.t 75), none⟩,
  ⟨(some 79), .extract 1 (.t 75), none⟩,
  ⟨(some 15), .move (.t 78), none⟩,
  ⟨(some 16), .move (.t 79), none⟩]
def f6r11 : List AOper := [
  ⟨(some 80), .move (.t 12), none⟩,
  ⟨(some 81), .bin .neq (.t 80) (.c (.int .i64 0)), none⟩,
  ⟨(some 82), .move (.t 81), none⟩,
  ⟨(some 83), .move (.t 14), some ((some 82), false)⟩,
  ⟨(some 84), .bin .neq (.t 83) (.c (.int .i64 0)), some ((some 82), false)⟩,
  ⟨(some 85), .pick (.t 82) (.c (.bool true)) (.t 84), none⟩,
  ⟨(some 86), .move (.t 85), none⟩,
  ⟨(some 87), .move (.t 16), some ((some 86), false)⟩,
  ⟨(some 88), .bin .neq (.t 87) (.c (.int .i64 0)), some ((some 86), false)⟩,
  ⟨(some 89), .pick (.t 86) (.c (.bool true)) (.t 88), none⟩,
  ⟨(some 90), .move (.t 89), none⟩,
  ⟨(some 91), .move (.t 11), some ((some 90), false)⟩,
  ⟨(some 92), .eqv false .ptr (.t 91) (.c .nilp), some ((some 90), false)⟩,
  ⟨(some 93), .pick (.t 90) (.c (.bool true)) (.t 92), none⟩,
  ⟨(some 94), .move (.t 93), none⟩,
  ⟨(some 95), .move (.t 13), some ((some 94), false)⟩,
  ⟨(some 96), .eqv false .ptr (.t 95) (.c .nilp), some ((some 94), false)⟩,
  ⟨(some 97), .pick (.t 94) (.c (.bool true)) (.t 96), none⟩,
  ⟨(some 98), .move (.t 97), none⟩,
  ⟨(some 99), .move (.t 15), some ((some 98), false)⟩,
  ⟨(some 100), .eqv false .ptr (.t 99) (.c .nilp), some ((some 98), false)⟩,
  ⟨(some 101), .pick (.t 98) (.c (.bool true)) (.t 100), none⟩]
def f6r12 : List AOper := [
  ⟨(some 8), .move (.c (.bool false)), none⟩]
def f6r13 : List AOper := [
  ⟨(some 102), .move (.t 1), none⟩,
  ⟨(some 103), .lenS (.t 102), none⟩,
  ⟨(some 104), .move (.c (.int .i64 0)), none⟩]
def f6r14 : List AOper := [
  ⟨(some 105), .bin .lss (.t 104) (.t 103), none⟩]
def f6r15 : List AOper := [
  ⟨(some 106), .move (.t 104), none⟩,
  ⟨(some 107), .idxS 80 (.t 102) (.t 104), none⟩,
  ⟨(some 108), .load 80 (.t 107), none⟩,
  ⟨(some 18), .alloc 80, none⟩,
  ⟨(some 17), .move (.t 106), none⟩,
  ⟨none, .store 80 (.agg 80) (.t 18) (.t 108), none⟩]
def f6r16 : List AOper := [
  ⟨(some 109), .load 80 (.t 18), none⟩,
  ⟨(some 110), .move (.t 11), none⟩,
  ⟨(some 111), .call 37 [(.t 109), (.t 110), (.c (.int .i64 1)), (.c (.int .i64 0))], none⟩,
  ⟨(some 19), .move (.t 111), none⟩]
def f6r17 : List AOper := [
  ⟨(some 112), .load 80 (.t 18), none⟩,
  ⟨(some 113), .move (.t 13), none⟩,
  ⟨(some 114), .move (.t 9), none⟩,
  ⟨(some 115), .call 37 [(.t 112), (.t 113), (.t 114), (.c (.int .i64 0))], none⟩,
  ⟨(some 116), .move (.t 19), none⟩,
  ⟨(some 117), .bin .neq (.t 115) (.t 116), none⟩,
  ⟨(some 118), .move (.t 117), none⟩,
  ⟨(some 119), .load 80 (.t 18), some ((some 118), false)⟩,
  ⟨(some 120), .move (.t 15), some ((some 118), false)⟩,
  ⟨(some 121), .move (.t 3), some ((some 118), false)⟩,
  ⟨(some 122), .conv .i64 (.t 121), some ((some 118), false)⟩,
  ⟨(some 123), .call 37 [(.t 119), (.t 120), (.c (.int .i64 1)), (.t 122)], some ((some 118), false)⟩,
  ⟨(some 124), .move (.t 19), some ((some 118), false)⟩,
  ⟨(some 125), .bin .neq (.t 123) (.t 124), some ((some 118), false)⟩,
  ⟨(some 126), .pick (.t 118) (.c (.bool true)) (.t 125), none⟩]
def f6r18 : List AOper := [
  ⟨(some 8), .move (.c (.bool false)), none⟩]
def f6r19 : List AOper := [
  ⟨(some 128), .move (.t 11), none⟩,
  ⟨(some 129), .call 38 [(.t 128)], none⟩,
  ⟨(some 127), .move (.t 129), none⟩,
  ⟨(some 130), .extract 0 (.t 127), none⟩,
  ⟨(some 131), .extract 1 (.t 127), none⟩,
  ⟨(some 20), .move (.t 130), none⟩,
  ⟨(some 21), .move (.t 131), none⟩]
def f6r20 : List AOper := [
  ⟨(some 133), .move (.t 13), none⟩,
  ⟨(some 134), .call 38 [(.t 133)], none⟩,
  ⟨(some 132), .move (.t 134), none⟩,
  ⟨(some 135), .extract 0 (.t 132), none⟩,
  ⟨(some 136), .extract 1 (.t 132), none⟩,
  ⟨(some 22), .move (.t 135), none⟩,
  ⟨(some 23), .move (.t 136), none⟩]
def f6r21 : List AOper := [
  ⟨(some 138), .move (.t 15), none⟩,
  ⟨(some 139), .call 38 [(.t 138)], none⟩,
  ⟨(some 137), .move (.t 139), none⟩,
  ⟨(some 140), .extract 0 (.t 137), none⟩,
  ⟨(some 141), .extract 1 (.t 137), none⟩,
  ⟨(some 24), .move (.t 140), none⟩,
  ⟨(some 25), .move (.t 141), none⟩]
def f6r22 : List (AOper × List Nat) := [
  (⟨(some 142), .move (.t 20), none⟩, []),
  (⟨(some 143), .move (.t 22), none⟩, []),
  (⟨(some 144), .bin .neq (.t 142) (.t 143), none⟩, []),
  (⟨(some 145), .move (.t 144), none⟩, []),
  (⟨(some 146), .move (.t 21), some ((some 145), false)⟩, []),
  (⟨(some 147), .move (.t 9), some ((some 145), false)⟩, []),
  (⟨(some 148), .bin .mul (.t 146) (.t 147), some ((some 145), false)⟩, []),
  (⟨(some 149), .move (.t 23), some ((some 145), false)⟩, []),
  (⟨(some 150), .bin .neq (.t 148) (.t 149), some ((some 145), false)⟩, []),
  (⟨(some 151), .pick (.t 145) (.c (.bool true)) (.t 150), none⟩, []),
  (⟨(some 152), .move (.t 151), none⟩, []),
  (⟨(some 153), .move (.t 20), some ((some 152), false)⟩, []),
  (⟨(some 154), .move (.t 24), some ((some 152), false)⟩, []),
  (⟨(some 155), .bin .neq (.t 153) (.t 154), some ((some 152), false)⟩, []),
  (⟨(some 156), .pick (.t 152) (.c (.bool true)) (.t 155), none⟩, []),
  (⟨(some 157), .move (.t 156), none⟩, []),
  (⟨(some 158), .move (.t 21), some ((some 157), false)⟩, []),
  (⟨(some 159), .move (.t 25), some ((some 157), false)⟩, []),
  (⟨(some 160), .bin .neq (.t 158) (.t 159), some ((some 157), false)⟩, []),
  (⟨(some 161), .pick (.t 157) (.c (.bool true)) (.t 160), none⟩, []),
  (⟨(some 162), .move (.t 161), none⟩, []),
  (⟨(some 163), .load 73 (.t 4), some ((some 162), false)⟩, []),
  (⟨(some 164), .move (.t 17), some ((some 162), false)⟩, []),
  (⟨(some 165), .call 39 [(.t 163), (.t 164)], some ((some 162), false)⟩, []),
  (⟨(some 166), .move (.t 9), some ((some 162), false)⟩, []),
  (⟨(some 167), .bin .mul (.t 165) (.t 166), some ((some 162), false)⟩, []),
  (⟨(some 168), .load 73 (.t 10), some ((some 162), false)⟩, [23]),
  (⟨(some 169), .move (.t 17), some ((some 162), false)⟩, []),
  (⟨(some 170), .call 39 [(.t 168), (.t 169)], some ((some 162), false)⟩, []),
  (⟨(some 171), .bin .neq (.t 167) (.t 170), some ((some 162), false)⟩, []),
  (⟨(some 172), .pick (.t 162) (.c (.bool true)) (.t 171), none⟩, [])]
def f6r23 : List AOper := [
  ⟨(some 8), .move (.c (.bool false)), none⟩]
def f6r24 : List AOper := [
  ⟨(some 173), .bin .add (.t 104) (.c (.int .i64 1)), none⟩,
  ⟨(some 104), .move (.t 173), none⟩]
def f6r25 : List AOper := [
  ⟨(some 8), .move (.c (.bool true)), none⟩]
def f6 : AFunc := ⟨[.tmp 8], (.seq (.reg f6r0) (.seq (.seq (.reg f6r1) (.cond (.t 27) (.seq (.reg f6r2) .ret) .skip)) (.seq (.reg f6r3) (.seq (.seq (.reg f6r4) (.cond (.t 53) (.seq (.reg f6r5) .ret) .skip)) (.seq (.reg f6r6) (.seq (.draw f6r7) (.seq (.reg f6r8) (.seq (.reg f6r9) (.seq (.reg f6r10) (.seq (.seq (.reg f6r11) (.cond (.t 101) (.seq (.reg f6r12) .ret) .skip)) (.seq (.seq (.reg f6r13) (.block 0 (.loop (.seq (.reg f6r14) (.seq (.cond (.t 105) .skip (.exit 0)) (.seq (.block 1 (.seq (.reg f6r15) (.seq (.reg f6r16) (.seq (.seq (.reg f6r17) (.cond (.t 126) (.seq (.reg f6r18) .ret) .skip)) (.seq (.reg f6r19) (.seq (.reg f6r20) (.seq (.reg f6r21) (.seq (.draw f6r22) (.cond (.t 172) (.seq (.reg f6r23) .ret) .skip))))))))) (.reg f6r24))))))) (.seq (.reg f6r25) .ret))))))))))))⟩

-- fingerpost/fingerposttop.WholeJoinerLater
def f7r0 : List AOper := [
  ⟨(some 4), .move (.c (.bool false)), none⟩]
def f7r1 : List AOper := [
  ⟨(some 23), .call 11 [], none⟩,
  ⟨(some 24), .un .not (.t 23), none⟩]
def f7r2 : List AOper := [
  ⟨(some 4), .move (.c (.bool false)), none⟩]
def f7r3 : List AOper := [
  ⟨(some 25), .call 40 [], none⟩,
  ⟨(some 26), .call 40 [], none⟩,
  ⟨(some 27), .call 40 [], none⟩,
  ⟨(some 5), .move (.t 25), none⟩,
  ⟨(some 6), .move (.t 26), none⟩,
  ⟨(some 7), .move (.t 27), none⟩]
def f7r4 : List AOper := [
  ⟨(some 28), .move (.t 5), none⟩,
  ⟨(some 29), .eqv false .ptr (.t 28) (.c .nilp), none⟩,
  ⟨(some 30), .move (.t 29), none⟩,
  ⟨(some 31), .move (.t 6), some ((some 30), false)⟩,
  ⟨(some 32), .eqv false .ptr (.t 31) (.c .nilp), some ((some 30), false)⟩,
  ⟨(some 33), .pick (.t 30) (.c (.bool true)) (.t 32), none⟩,
  ⟨(some 34), .move (.t 33), none⟩,
  ⟨(some 35), .move (.t 7), some ((some 34), false)⟩,
  ⟨(some 36), .eqv false .ptr (.t 35) (.c .nilp), some ((some 34), false)⟩,
  ⟨(some 37), .pick (.t 34) (.c (.bool true)) (.t 36), none⟩]
def f7r5 : List AOper := [
  ⟨(some 4), .move (.c (.bool false)), none⟩]
def f7r6 : List AOper := [
  ⟨(some 38), .move (.t 0), none⟩,
  ⟨(some 39), .lenS (.t 38), none⟩,
  ⟨(some 40), .bin .gtr (.t 39) (.c (.int .i64 60)), none⟩,
  ⟨(some 41), .move (.t 40), none⟩,
  ⟨(some 42), .move (.t 0), some ((some 41), false)⟩,
  ⟨(some 43), .call 41 [(.t 42), (.c (.fn 42 [] []))], some ((some 41), false)⟩,
  ⟨(some 44), .pick (.t 41) (.c (.bool true)) (.t 43), none⟩]
def f7r7 : List AOper := [
  ⟨(some 4), .move (.c (.bool true)), none⟩]
def f7r8 : List AOper := [
  ⟨(some 45), .move (.t 0), none⟩,
  ⟨(some 46), .lenS (.t 45), none⟩,
  ⟨(some 47), .move (.c (.int .i64 0)), none⟩]
def f7r9 : List AOper := [
  ⟨(some 48), .bin .lss (.t 47) (.t 46), none⟩]
def f7r10 : List AOper := [
  ⟨(some 49), .idxS 91 (.t 45) (.t 47), none⟩,
  ⟨(some 50), .load 91 (.t 49), none⟩,
  ⟨(some 9), .alloc 91, none⟩,
  ⟨none, .store 91 (.agg 91) (.t 9) (.t 50), none⟩]
def f7r11 : List AOper := [
  ⟨(some 51), .load 91 (.t 9), none⟩,
  ⟨(some 10), .alloc 91, none⟩,
  ⟨none, .store 91 (.agg 91) (.t 10) (.t 51), none⟩]
def f7r12 : List (AOper × List Nat) := [
  (⟨(some 52), .fieldAddr 91 0 23 (.t 9), none⟩, []),
  (⟨(some 53), .load 23 (.t 52), none⟩, []),
  (⟨(some 54), .move (.t 1), none⟩, []),
  (⟨(some 55), .bin .rem (.t 54) (.c (.int .u32 2147483648)), none⟩, []),
  (⟨(some 56), .bin .add (.t 53) (.t 55), none⟩, []),
  (⟨(some 57), .fieldAddr 91 3 39 (.t 9), none⟩, []),
  (⟨(some 58), .load 39 (.t 57), none⟩, []),
  (⟨(some 59), .call 43 [(.t 58)], none⟩, [1]),
  (⟨(some 60), .fieldAddr 91 0 23 (.t 10), none⟩, []),
  (⟨none, .store 23 (.int .u32) (.t 60) (.t 56), none⟩, []),
  (⟨(some 61), .fieldAddr 91 3 39 (.t 10), none⟩, []),
  (⟨none, .store 39 .slice (.t 61) (.t 59), none⟩, [])]
def f7r13 : List AOper := [
  ⟨(some 63), .move (.t 5), none⟩,
  ⟨(some 64), .load 91 (.t 9), none⟩,
  ⟨(some 65), .call 44 [(.t 63), (.t 64)], none⟩,
  ⟨(some 62), .move (.t 65), none⟩,
  ⟨(some 66), .extract 0 (.t 62), none⟩,
  ⟨(some 67), .extract 1 (.t 62), none⟩,
  ⟨(some 68), .extract 2 (.t 62), none⟩,
  ⟨(some 11), .move (.t 66), none⟩,
  ⟨(some 12), .move (.t 67), none⟩,
  ⟨(some 13), .move (.t 68), none⟩]
def f7r14 : List AOper := [
  ⟨(some 70), .move (.t 6), none⟩,
  ⟨(some 71), .load 91 (.t 10), none⟩,
  ⟨(some 72), .call 44 [(.t 70), (.t 71)], none⟩,
  ⟨(some 69), .move (.t 72), none⟩,
  ⟨(some 73), .extract 0 (.t 69), none⟩,
  ⟨(some 74), .extract 1 (.t 69), none⟩,
  ⟨(some 75), .extract 2 (.t 69), none⟩,
  ⟨(some 14), .move (.t 73), none⟩,
  ⟨(some 15), .move (.t 74), none⟩,
  ⟨(some 16), .move (.t 75), none⟩]
def f7r15 : List AOper := [
  ⟨(some 76), .move (.t 12), none⟩,
  ⟨(some 77), .move (.t 15), none⟩,
  ⟨(some 78), .eqv true .bool (.t 76) (.t 77), none⟩,
  ⟨(some 79), .move (.t 78), none⟩,
  ⟨(some 80), .move (.t 13), some ((some 79), false)⟩,
  ⟨(some 81), .move (.t 16), some ((some 79), false)⟩,
  ⟨(some 82), .bin .neq (.t 80) (.t 81), some ((some 79), false)⟩,
  ⟨(some 83), .pick (.t 79) (.c (.bool true)) (.t 82), none⟩,
  ⟨(some 84), .move (.t 83), none⟩,
  ⟨(some 85), .move (.t 11), some ((some 84), false)⟩,
  ⟨(some 86), .move (.t 14), some ((some 84), false)⟩,
  ⟨(some 87), .call 45 [(.t 85), (.t 86)], some ((some 84), false)⟩,
  ⟨(some 88), .un .not (.t 87), some ((some 84), false)⟩,
  ⟨(some 89), .pick (.t 84) (.c (.bool true)) (.t 88), none⟩]
def f7r16 : List AOper := [
  ⟨(some 4), .move (.c (.bool false)), none⟩]
def f7r17 : List AOper := [
  ⟨(some 90), .move (.t 13), none⟩,
  ⟨(some 91), .bin .eql (.t 90) (.c (.int .i64 0)), none⟩,
  ⟨(some 92), .move (.t 91), none⟩,
  ⟨(some 93), .move (.t 13), some ((some 92), false)⟩,
  ⟨(some 94), .bin .eql (.t 93) (.c (.int .i64 8)), some ((some 92), false)⟩,
  ⟨(some 95), .pick (.t 92) (.c (.bool true)) (.t 94), none⟩]
def f7r18 : List AOper := [
  ⟨(some 96), .fieldAddr 91 0 23 (.t 9), none⟩,
  ⟨(some 97), .load 23 (.t 96), none⟩,
  ⟨(some 98), .fieldAddr 91 0 23 (.t 10), none⟩,
  ⟨none, .store 23 (.int .u32) (.t 98) (.t 97), none⟩]
def f7r19 : List AOper := [
  ⟨(some 100), .move (.t 7), none⟩,
  ⟨(some 101), .load 91 (.t 10), none⟩,
  ⟨(some 102), .call 44 [(.t 100), (.t 101)], none⟩,
  ⟨(some 99), .move (.t 102), none⟩,
  ⟨(some 103), .extract 0 (.t 99), none⟩,
  ⟨(some 104), .extract 1 (.t 99), none⟩,
  ⟨(some 105), .extract 2 (.t 99), none⟩,
  ⟨(some 14), .move (.t 103), none⟩,
  ⟨(some 15), .move (.t 104), none⟩,
  ⟨(some 16), .move (.t 105), none⟩]
def f7r20 : List AOper := [
  ⟨(some 106), .move (.t 12), none⟩,
  ⟨(some 107), .move (.t 15), none⟩,
  ⟨(some 108), .eqv true .bool (.t 106) (.t 107), none⟩,
  ⟨(some 109), .move (.t 108), none⟩,
  ⟨(some 110), .move (.t 13), some ((some 109), false)⟩,
  ⟨(some 111), .move (.t 16), some ((some 109), false)⟩,
  ⟨(some 112), .bin .neq (.t 110) (.t 111), some ((some 109), false)⟩,
  ⟨(some 113), .pick (.t 109) (.c (.bool true)) (.t 112), none⟩,
  ⟨(some 114), .move (.t 113), none⟩,
  ⟨(some 115), .move (.t 11), some ((some 114), false)⟩,
  ⟨(some 116), .move (.t 14), some ((some 114), false)⟩,
  ⟨(some 117), .call 45 [(.t 115), (.t 116)], some ((some 114), false)⟩,
  ⟨(some 118), .un .not (.t 117), some ((some 114), false)⟩,
  ⟨(some 119), .pick (.t 114) (.c (.bool true)) (.t 118), none⟩]
def f7r21 : List AOper := [
  ⟨(some 4), .move (.c (.bool false)), none⟩]
def f7r22 : List AOper := [
  ⟨(some 121), .move (.t 5), none⟩,
  ⟨(some 122), .call 46 [(.t 121)], none⟩,
  ⟨(some 120), .move (.t 122), none⟩,
  ⟨(some 123), .extract 0 (.t 120), none⟩,
  ⟨(some 124), .extract 1 (.t 120), none⟩,
  ⟨(some 17), .move (.t 123), none⟩,
  ⟨(some 18), .move (.t 124), none⟩]
def f7r23 : List AOper := [
  ⟨(some 126), .move (.t 6), none⟩,
  ⟨(some 127), .call 46 [(.t 126)], none⟩,
  ⟨(some 125), .move (.t 127), none⟩,
  ⟨(some 128), .extract 0 (.t 125), none⟩,
  ⟨(some 129), .extract 1 (.t 125), none⟩,
  ⟨(some 19), .move (.t 128), none⟩,
  ⟨(some 20), .move (.t 129), none⟩]
def f7r24 : List AOper := [
  ⟨(some 131), .move (.t 7), none⟩,
  ⟨(some 132), .call 46 [(.t 131)], none⟩,
  ⟨(some 130), .move (.t 132), none⟩,
  ⟨(some 133), .extract 0 (.t 130), none⟩,
  ⟨(some 134), .extract 1 (.t 130), none⟩,
  ⟨(some 21), .move (.t 133), none⟩,
  ⟨(some 22), .move (.t 134), none⟩]
def f7r25 : List AOper := [
  ⟨(some 135), .move (.t 17), none⟩,
  ⟨(some 136), .move (.t 19), none⟩,
  ⟨(some 137), .bin .neq (.t 135) (.t 136), none⟩,
  ⟨(some 138), .move (.t 137), none⟩,
  ⟨(some 139), .move (.t 18), some ((some 138), false)⟩,
  ⟨(some 140), .move (.t 20), some ((some 138), false)⟩,
  ⟨(some 141), .bin .neq (.t 139) (.t 140), some ((some 138), false)⟩,
  ⟨(some 142), .pick (.t 138) (.c (.bool true)) (.t 141), none⟩,
  ⟨(some 143), .move (.t 142), none⟩,
  ⟨(some 144), .move (.t 17), some ((some 143), false)⟩,
  ⟨(some 145), .move (.t 21), some ((some 143), false)⟩,
  ⟨(some 146), .bin .neq (.t 144) (.t 145), some ((some 143), false)⟩,
  ⟨(some 147), .pick (.t 143) (.c (.bool true)) (.t 146), none⟩,
  ⟨(some 148), .move (.t 147), none⟩,
  ⟨(some 149), .move (.t 18), some ((some 148), false)⟩,
  ⟨(some 150), .move (.t 22), some ((some 148), false)⟩,
  ⟨(some 151), .bin .neq (.t 149) (.t 150), some ((some 148), false)⟩,
  ⟨(some 152), .pick (.t 148) (.c (.bool true)) (.t 151), none⟩]
def f7r26 : List AOper := [
  ⟨(some 4), .move (.c (.bool false)), none⟩]
def f7r27 : List AOper := [
  ⟨(some 153), .bin .add (.t 47) (.c (.int .i64 1)), none⟩,
  ⟨(some 47), .move (.t 153), none⟩]
def f7r28 : List AOper := [
  ⟨(some 4), .move (.c (.bool true)), none⟩]
def f7 : AFunc := ⟨[.tmp 4], (.seq (.reg f7r0) (.seq (.seq (.reg f7r1) (.cond (.t 24) (.seq (.reg f7r2) .ret) .skip)) (.seq (.reg f7r3) (.seq (.seq (.reg f7r4) (.cond (.t 37) (.seq (.reg f7r5) .ret) .skip)) (.seq (.seq (.reg f7r6) (.cond (.t 44) (.seq (.reg f7r7) .ret) .skip)) (.seq (.seq (.reg f7r8) (.block 0 (.loop (.seq (.reg f7r9) (.seq (.cond (.t 48) .skip (.exit 0)) (.seq (.block 1 (.seq (.reg f7r10) (.seq (.reg f7r11) (.seq (.draw f7r12) (.seq (.reg f7r13) (.seq (.reg f7r14) (.seq (.seq (.reg f7r15) (.cond (.t 89) (.seq (.reg f7r16) .ret) .skip)) (.seq (.seq (.reg f7r17) (.cond (.t 95) (.seq (.reg f7r18) (.seq (.reg f7r19) (.seq (.reg f7r20) (.cond (.t 119) (.seq (.reg f7r21) .ret) .skip)))) .skip)) (.seq (.reg f7r22) (.seq (.reg f7r23) (.seq (.reg f7r24) (.seq (.reg f7r25) (.cond (.t 152) (.seq (.reg f7r26) .ret) .skip))))))))))))) (.reg f7r27))))))) (.seq (.reg f7r28) .ret)))))))⟩

-- fingerpost/fingerposttop.WholeRibStruck
def f8r0 : List AOper := [
  ⟨(some 5), .box 99 (.agg 99) (.t 1), none⟩,
  ⟨(some 8), .move (.c (.bool false)), none⟩]
def f8r1 : List AOper := [
  ⟨(some 23), .call 11 [], none⟩,
  ⟨(some 24), .un .not (.t 23), none⟩]
def f8r2 : List AOper := [
  ⟨(some 8), .move (.c (.bool false)), none⟩]
def f8r3 : List AOper := [
  ⟨(some 26), .move (.t 0), none⟩,
  ⟨(some 27), .load 99 (.t 5), none⟩,
  ⟨(some 28), .call 47 [(.t 26), (.t 27)], none⟩,
  ⟨(some 25), .move (.t 28), none⟩,
  ⟨(some 29), .extract 0 (.t 25), none⟩,
  ⟨(some 30), .extract 1 (.t 25), none⟩,
  ⟨(some 9), .move (.t 29), none⟩,
  ⟨(some 10), .move (.t 30), none⟩]
def f8r4 : List AOper := [
  ⟨(some 32), .move (.t 0), none⟩,
  ⟨(some 33), .load 99 (.t 5), none⟩,
  ⟨(some 34), .call 47 [(.t 32), (.t 33)], none⟩,
  ⟨(some 31), .move (.t 34), none⟩,
  ⟨(some 35), .extract 0 (.t 31), none⟩,
  ⟨(some 36), .extract 1 (.t 31), none⟩,
  ⟨(some 11), .move (.t 35), none⟩,
  ⟨(some 12), .move (.t 36), none⟩]
def f8r5 : List AOper := [
  ⟨(some 37), .move (.t 10), none⟩,
  ⟨(some 38), .move (.t 12), none⟩,
  ⟨(some 39), .bin .neq (.t 37) (.t 38), none⟩,
  ⟨(some 40), .move (.t 39), none⟩,
  ⟨(some 41), .move (.t 10), some ((some 40), false)⟩,
  ⟨(some 42), .bin .neq (.t 41) (.c (.int .i64 0)), some ((some 40), false)⟩,
  ⟨(some 43), .pick (.t 40) (.c (.bool true)) (.t 42), none⟩,
  ⟨(some 44), .move (.t 43), none⟩,
  ⟨(some 45), .move (.t 2), some ((some 44), false)⟩,
  ⟨(some 46), .lenS (.t 45), some ((some 44), false)⟩,
  ⟨(some 47), .bin .gtr (.t 46) (.c (.int .i64 100)), some ((some 44), false)⟩,
  ⟨(some 48), .pick (.t 44) (.c (.bool true)) (.t 47), none⟩]
def f8r6 : List AOper := [
  ⟨(some 49), .move (.t 10), none⟩,
  ⟨(some 50), .move (.t 12), none⟩,
  ⟨(some 51), .bin .eql (.t 49) (.t 50), none⟩,
  ⟨(some 8), .move (.t 51), none⟩]
def f8r7 : List AOper := [
  ⟨(some 13), .alloc 105, none⟩]
def f8r8 : List AOper := [
  ⟨(some 52), .move (.t 2), none⟩,
  ⟨(some 53), .lenS (.t 52), none⟩,
  ⟨(some 54), .move (.c (.int .i64 0)), none⟩]
def f8r9 : List AOper := [
  ⟨(some 55), .bin .lss (.t 54) (.t 53), none⟩]
def f8r10 : List AOper := [
  ⟨(some 56), .move (.t 54), none⟩,
  ⟨(some 57), .idxS 108 (.t 52) (.t 54), none⟩,
  ⟨(some 58), .load 108 (.t 57), none⟩,
  ⟨(some 15), .alloc 108, none⟩,
  ⟨(some 14), .move (.t 56), none⟩,
  ⟨none, .store 108 (.agg 108) (.t 15) (.t 58), none⟩]
def f8r11 : List AOper := [
  ⟨(some 59), .move (.t 3), none⟩,
  ⟨(some 60), .lenS (.t 59), none⟩,
  ⟨(some 61), .bin .gtr (.t 60) (.c (.int .i64 0)), none⟩]
def f8r12 : List AOper := [
  ⟨(some 62), .move (.t 3), none⟩,
  ⟨(some 63), .move (.t 14), none⟩,
  ⟨(some 64), .move (.t 3), none⟩,
  ⟨(some 65), .lenS (.t 64), none⟩,
  ⟨(some 66), .bin .rem (.t 63) (.t 65), none⟩,
  ⟨(some 67), .idxS 5 (.t 62) (.t 66), none⟩,
  ⟨(some 68), .load 5 (.t 67), none⟩,
  ⟨(some 69), .bin .rem (.t 68) (.c (.int .u8 8)), none⟩,
  ⟨(some 70), .conv .i64 (.t 69), none⟩,
  ⟨(some 16), .move (.t 70), none⟩]
def f8r13 : List AOper := [
  ⟨(some 71), .move (.t 16), none⟩,
  ⟨(some 72), .idxA 8 105 4 (.t 13) (.t 71), none⟩,
  ⟨(some 73), .load 4 (.t 72), none⟩,
  ⟨(some 74), .un .not (.t 73), none⟩,
  ⟨(some 75), .move (.t 74), none⟩,
  ⟨(some 76), .move (.t 11), some ((some 75), true)⟩,
  ⟨(some 77), .fieldAddr 108 1 2 (.t 15), some ((some 75), true)⟩,
  ⟨(some 78), .load 2 (.t 77), some ((some 75), true)⟩,
  ⟨(some 79), .move (.t 16), some ((some 75), true)⟩,
  ⟨(some 80), .call 48 [(.t 76), (.t 78), (.t 79)], some ((some 75), true)⟩,
  ⟨(some 81), .lenS (.t 80), some ((some 75), true)⟩,
  ⟨(some 82), .bin .gtr (.t 81) (.c (.int .i64 0)), some ((some 75), true)⟩,
  ⟨(some 83), .pick (.t 75) (.t 82) (.c (.bool false)), none⟩]
def f8r14 : List AOper := [
  ⟨(some 8), .move (.c (.bool false)), none⟩]
def f8r15 : List AOper := [
  ⟨(some 85), .load 108 (.t 15), none⟩,
  ⟨(some 86), .move (.t 9), none⟩,
  ⟨(some 87), .call 49 [(.t 85), (.t 86)], none⟩,
  ⟨(some 84), .move (.t 87), none⟩,
  ⟨(some 88), .extract 0 (.t 84), none⟩,
  ⟨(some 89), .extract 1 (.t 84), none⟩,
  ⟨(some 90), .extract 2 (.t 84), none⟩,
  ⟨(some 17), .move (.t 88), none⟩,
  ⟨(some 18), .move (.t 89), none⟩,
  ⟨(some 19), .move (.t 90), none⟩]
def f8r16 : List AOper := [
  ⟨(some 91), .move (.t 18), none⟩,
  ⟨(some 92), .bin .eql (.t 91) (.c (.int .i64 0)), none⟩,
  ⟨(some 93), .move (.t 92), none⟩,
  ⟨(some 94), .fieldAddr 108 0 5 (.t 15), some ((some 93), true)⟩,
  ⟨(some 95), .load 5 (.t 94), some ((some 93), true)⟩,
  ⟨(some 96), .bin .eql (.t 95) (.c (.int .u8 0)), some ((some 93), true)⟩,
  ⟨(some 97), .pick (.t 93) (.t 96) (.c (.bool false)), none⟩]
def f8r17 : List AOper := [
  ⟨(some 98), .fieldAddr 108 2 3 (.t 15), none⟩,
  ⟨(some 99), .load 3 (.t 98), none⟩,
  ⟨(some 100), .idxA 8 105 4 (.t 13) (.t 99), none⟩,
  ⟨none, .store 4 .bool (.t 100) (.c (.bool true)), none⟩]
def f8r18 : List AOper := [
  ⟨(some 101), .move (.t 18), none⟩,
  ⟨(some 102), .bin .eql (.t 101) (.c (.int .i64 0)), none⟩]
def f8r19 : List AOper := [
  ⟨(some 104), .load 108 (.t 15), none⟩,
  ⟨(some 105), .move (.t 11), none⟩,
  ⟨(some 106), .call 49 [(.t 104), (.t 105)], none⟩,
  ⟨(some 103), .move (.t 106), none⟩,
  ⟨(some 107), .extract 0 (.t 103), none⟩,
  ⟨(some 108), .extract 1 (.t 103), none⟩,
  ⟨(some 109), .extract 2 (.t 103), none⟩,
  ⟨(some 20), .move (.t 107), none⟩,
  ⟨(some 21), .move (.t 108), none⟩,
  ⟨(some 22), .move (.t 109), none⟩]
def f8r20 : List AOper := [
  ⟨(some 110), .move (.t 17), none⟩,
  ⟨(some 111), .move (.t 20), none⟩,
  ⟨(some 112), .bin .neq (.t 110) (.t 111), none⟩,
  ⟨(some 113), .move (.t 112), none⟩,
  ⟨(some 114), .move (.t 18), some ((some 113), false)⟩,
  ⟨(some 115), .move (.t 21), some ((some 113), false)⟩,
  ⟨(some 116), .bin .neq (.t 114) (.t 115), some ((some 113), false)⟩,
  ⟨(some 117), .pick (.t 113) (.c (.bool true)) (.t 116), none⟩,
  ⟨(some 118), .move (.t 117), none⟩,
  ⟨(some 119), .move (.t 19), some ((some 118), false)⟩,
  ⟨(some 120), .move (.t 22), some ((some 118), false)⟩,
  ⟨(some 121), .call 50 [(.t 119), (.t 120)], some ((some 118), false)⟩,
  ⟨(some 122), .un .not (.t 121), some ((some 118), false)⟩,
  ⟨(some 123), .pick (.t 118) (.c (.bool true)) (.t 122), none⟩]
def f8r21 : List AOper := [
  ⟨(some 8), .move (.c (.bool false)), none⟩]
def f8r22 : List AOper := [
  ⟨(some 124), .call 51 [], none⟩,
  ⟨(some 125), .move (.t 9), none⟩,
  ⟨(some 126), .move (.t 11), none⟩,
  ⟨(some 127), .call 52 [(.t 124), (.t 125), (.t 126)], none⟩,
  ⟨(some 128), .un .not (.t 127), none⟩]
def f8r23 : List AOper := [
  ⟨(some 8), .move (.c (.bool false)), none⟩]
def f8r24 : List AOper := [
  ⟨(some 129), .bin .add (.t 54) (.c (.int .i64 1)), none⟩,
  ⟨(some 54), .move (.t 129), none⟩]
def f8r25 : List AOper := [
  ⟨(some 8), .move (.c (.bool true)), none⟩]
def f8 : AFunc := ⟨[.tmp 8], (.seq (.reg f8r0) (.seq (.seq (.reg f8r1) (.cond (.t 24) (.seq (.reg f8r2) .ret) .skip)) (.seq (.reg f8r3) (.seq (.reg f8r4) (.seq (.seq (.reg f8r5) (.cond (.t 48) (.seq (.reg f8r6) .ret) .skip)) (.seq (.reg f8r7) (.seq (.seq (.reg f8r8) (.block 0 (.loop (.seq (.reg f8r9) (.seq (.cond (.t 55) .skip (.exit 0)) (.seq (.block 1 (.seq (.reg f8r10) (.seq (.seq (.reg f8r11) (.cond (.t 61) (.seq (.reg f8r12) (.seq (.reg f8r13) (.cond (.t 83) (.seq (.reg f8r14) .ret) .skip))) .skip)) (.seq (.reg f8r15) (.seq (.seq (.reg f8r16) (.cond (.t 97) (.reg f8r17) .skip)) (.seq (.seq (.reg f8r18) (.cond (.t 102) (.seq (.reg f8r19) (.seq (.reg f8r20) (.cond (.t 123) (.seq (.reg f8r21) .ret) .skip))) .skip)) (.seq (.reg f8r22) (.cond (.t 128) (.seq (.reg f8r23) .ret) .skip)))))))) (.reg f8r24))))))) (.seq (.reg f8r25) .ret))))))))⟩

-- fingerpost/fingerposttop.WholeFieldsJoined
def f9r0 : List AOper := [
  ⟨(some 4), .move (.c (.bool false)), none⟩]
def f9r1 : List AOper := [
  ⟨(some 18), .call 11 [], none⟩,
  ⟨(some 19), .un .not (.t 18), none⟩]
def f9r2 : List AOper := [
  ⟨(some 4), .move (.c (.bool false)), none⟩]
def f9r3 : List AOper := [
  ⟨(some 5), .move (.c (.fn 53 [] [])), none⟩]
def f9r4 : List AOper := [
  ⟨(some 20), .move (.t 0), none⟩,
  ⟨(some 21), .lenS (.t 20), none⟩,
  ⟨(some 22), .move (.t 1), none⟩,
  ⟨(some 23), .lenS (.t 22), none⟩,
  ⟨(some 24), .bin .add (.t 21) (.t 23), none⟩,
  ⟨(some 25), .bin .gtr (.t 24) (.c (.int .i64 40)), none⟩,
  ⟨(some 26), .move (.t 25), none⟩,
  ⟨(some 27), .move (.t 0), some ((some 26), false)⟩,
  ⟨(some 28), .move (.t 5), some ((some 26), false)⟩,
  ⟨(some 29), .call 54 [(.t 27), (.t 28)], some ((some 26), false)⟩,
  ⟨(some 30), .pick (.t 26) (.c (.bool true)) (.t 29), none⟩,
  ⟨(some 31), .move (.t 30), none⟩,
  ⟨(some 32), .move (.t 1), some ((some 31), false)⟩,
  ⟨(some 33), .move (.t 5), some ((some 31), false)⟩,
  ⟨(some 34), .call 54 [(.t 32), (.t 33)], some ((some 31), false)⟩,
  ⟨(some 35), .pick (.t 31) (.c (.bool true)) (.t 34), none⟩]
def f9r5 : List AOper := [
  ⟨(some 4), .move (.c (.bool true)), none⟩]
def f9r6 : List AOper := [
  ⟨(some 6), .move (.c (.fn 55 [] [])), none⟩]
def f9r7 : List AOper := [
  ⟨(some 37), .move (.t 6), none⟩,
  ⟨(some 38), .move (.t 0), none⟩,
  ⟨(some 39), .buildSlice 119 1 [(0, (.t 38))], none⟩,
  ⟨(some 40), .callv (.t 37) [(.t 39)], none⟩,
  ⟨(some 36), .move (.t 40), none⟩,
  ⟨(some 41), .extract 0 (.t 36), none⟩,
  ⟨(some 42), .extract 1 (.t 36), none⟩,
  ⟨(some 7), .move (.t 41), none⟩,
  ⟨(some 8), .move (.t 42), none⟩]
def f9r8 : List AOper := [
  ⟨(some 44), .move (.t 6), none⟩,
  ⟨(some 45), .move (.t 1), none⟩,
  ⟨(some 46), .buildSlice 119 1 [(0, (.t 45))], none⟩,
  ⟨(some 47), .callv (.t 44) [(.t 46)], none⟩,
  ⟨(some 43), .move (.t 47), none⟩,
  ⟨(some 48), .extract 0 (.t 43), none⟩,
  ⟨(some 49), .extract 1 (.t 43), none⟩,
  ⟨(some 9), .move (.t 48), none⟩,
  ⟨(some 10), .move (.t 49), none⟩]
def f9r9 : List AOper := [
  ⟨(some 51), .move (.t 6), none⟩,
  ⟨(some 52), .move (.t 0), none⟩,
  ⟨(some 53), .move (.t 1), none⟩,
  ⟨(some 54), .buildSlice 119 2 [(0, (.t 52)), (1, (.t 53))], none⟩,
  ⟨(some 55), .callv (.t 51) [(.t 54)], none⟩,
  ⟨(some 50), .move (.t 55), none⟩,
  ⟨(some 56), .extract 0 (.t 50), none⟩,
  ⟨(some 57), .extract 1 (.t 50), none⟩,
  ⟨(some 11), .move (.t 56), none⟩,
  ⟨(some 12), .move (.t 57), none⟩]
def f9r10 : List AOper := [
  ⟨(some 58), .move (.t 8), none⟩,
  ⟨(some 59), .bin .neq (.t 58) (.c (.int .i64 0)), none⟩,
  ⟨(some 60), .move (.t 59), none⟩,
  ⟨(some 61), .move (.t 10), some ((some 60), false)⟩,
  ⟨(some 62), .bin .neq (.t 61) (.c (.int .i64 0)), some ((some 60), false)⟩,
  ⟨(some 63), .pick (.t 60) (.c (.bool true)) (.t 62), none⟩]
def f9r11 : List AOper := [
  ⟨(some 64), .move (.t 12), none⟩,
  ⟨(some 65), .bin .eql (.t 64) (.c (.int .i64 8)), none⟩,
  ⟨(some 66), .move (.t 65), none⟩,
  ⟨(some 67), .move (.t 8), some ((some 66), true)⟩,
  ⟨(some 68), .bin .eql (.t 67) (.c (.int .i64 0)), some ((some 66), true)⟩,
  ⟨(some 69), .move (.t 68), some ((some 66), true)⟩,
  ⟨(some 70), .move (.t 8), some ((some 69), false)⟩,
  ⟨(some 71), .bin .eql (.t 70) (.c (.int .i64 8)), some ((some 69), false)⟩,
  ⟨(some 72), .pick (.t 69) (.c (.bool true)) (.t 71), some ((some 66), true)⟩,
  ⟨(some 73), .pick (.t 66) (.t 72) (.c (.bool false)), none⟩,
  ⟨(some 74), .move (.t 73), none⟩,
  ⟨(some 75), .move (.t 10), some ((some 74), true)⟩,
  ⟨(some 76), .bin .eql (.t 75) (.c (.int .i64 0)), some ((some 74), true)⟩,
  ⟨(some 77), .move (.t 76), some ((some 74), true)⟩,
  ⟨(some 78), .move (.t 10), some ((some 77), false)⟩,
  ⟨(some 79), .bin .eql (.t 78) (.c (.int .i64 8)), some ((some 77), false)⟩,
  ⟨(some 80), .pick (.t 77) (.c (.bool true)) (.t 79), some ((some 74), true)⟩,
  ⟨(some 81), .pick (.t 74) (.t 80) (.c (.bool false)), none⟩,
  ⟨(some 4), .move (.t 81), none⟩]
def f9r12 : List AOper := [
  ⟨(some 82), .move (.t 12), none⟩,
  ⟨(some 83), .bin .neq (.t 82) (.c (.int .i64 0)), none⟩,
  ⟨(some 84), .move (.t 83), none⟩,
  ⟨(some 85), .move (.t 11), some ((some 84), false)⟩,
  ⟨(some 86), .move (.t 7), some ((some 84), false)⟩,
  ⟨(some 87), .call 43 [(.t 86)], some ((some 84), false)⟩,
  ⟨(some 88), .move (.t 9), some ((some 84), false)⟩,
  ⟨(some 89), .append 5 false 8796093022208 (.t 87) (.t 88), some ((some 84), false)⟩,
  ⟨(some 90), .call 45 [(.t 85), (.t 89)], some ((some 84), false)⟩,
  ⟨(some 91), .un .not (.t 90), some ((some 84), false)⟩,
  ⟨(some 92), .pick (.t 84) (.c (.bool true)) (.t 91), none⟩]
def f9r13 : List AOper := [
  ⟨(some 4), .move (.c (.bool false)), none⟩]
def f9r14 : List AOper := [
  ⟨(some 93), .move (.t 11), none⟩,
  ⟨(some 94), .call 59 [(.t 93)], none⟩,
  ⟨(some 13), .move (.t 94), none⟩]
def f9r15 : List AOper := [
  ⟨(some 95), .move (.t 0), none⟩,
  ⟨(some 96), .lenS (.t 95), none⟩,
  ⟨(some 97), .move (.c (.int .i64 0)), none⟩]
def f9r16 : List AOper := [
  ⟨(some 98), .bin .lss (.t 97) (.t 96), none⟩]
def f9r17 : List AOper := [
  ⟨(some 99), .idxS 120 (.t 95) (.t 97), none⟩,
  ⟨(some 100), .load 120 (.t 99), none⟩,
  ⟨(some 15), .alloc 120, none⟩,
  ⟨none, .store 120 (.agg 120) (.t 15) (.t 100), none⟩]
def f9r18 : List AOper := [
  ⟨(some 101), .load 120 (.t 15), none⟩,
  ⟨(some 102), .move (.t 13), none⟩,
  ⟨(some 103), .call 60 [(.t 101), (.t 102)], none⟩,
  ⟨(some 104), .un .not (.t 103), none⟩]
def f9r19 : List AOper := [
  ⟨(some 4), .move (.c (.bool false)), none⟩]
def f9r20 : List AOper := [
  ⟨(some 105), .bin .add (.t 97) (.c (.int .i64 1)), none⟩,
  ⟨(some 97), .move (.t 105), none⟩]
def f9r21 : List AOper := [
  ⟨(some 106), .move (.t 13), none⟩,
  ⟨(some 107), .call 61 [(.t 106)], none⟩,
  ⟨(some 108), .move (.t 9), none⟩,
  ⟨(some 109), .lenS (.t 108), none⟩,
  ⟨(some 110), .bin .neq (.t 107) (.t 109), none⟩]
def f9r22 : List AOper := [
  ⟨(some 4), .move (.c (.bool false)), none⟩]
def f9r23 : List AOper := [
  ⟨(some 111), .move (.t 1), none⟩,
  ⟨(some 112), .lenS (.t 111), none⟩,
  ⟨(some 113), .move (.c (.int .i64 0)), none⟩]
def f9r24 : List AOper := [
  ⟨(some 114), .bin .lss (.t 113) (.t 112), none⟩]
def f9r25 : List AOper := [
  ⟨(some 115), .idxS 120 (.t 111) (.t 113), none⟩,
  ⟨(some 116), .load 120 (.t 115), none⟩,
  ⟨(some 17), .alloc 120, none⟩,
  ⟨none, .store 120 (.agg 120) (.t 17) (.t 116), none⟩]
def f9r26 : List AOper := [
  ⟨(some 117), .load 120 (.t 17), none⟩,
  ⟨(some 118), .move (.t 13), none⟩,
  ⟨(some 119), .call 60 [(.t 117), (.t 118)], none⟩,
  ⟨(some 120), .un .not (.t 119), none⟩]
def f9r27 : List AOper := [
  ⟨(some 4), .move (.c (.bool false)), none⟩]
def f9r28 : List AOper := [
  ⟨(some 121), .bin .add (.t 113) (.c (.int .i64 1)), none⟩,
  ⟨(some 113), .move (.t 121), none⟩]
def f9r29 : List AOper := [
  ⟨(some 122), .move (.t 13), none⟩,
  ⟨(some 123), .call 61 [(.t 122)], none⟩,
  ⟨(some 124), .bin .eql (.t 123) (.c (.int .i64 0)), none⟩,
  ⟨(some 125), .move (.t 124), none⟩,
  ⟨(some 126), .move (.t 13), some ((some 125), true)⟩,
  ⟨(some 127), .call 62 [(.t 126)], some ((some 125), true)⟩,
  ⟨(some 128), .bin .eql (.t 127) (.c (.int .i64 0)), some ((some 125), true)⟩,
  ⟨(some 129), .pick (.t 125) (.t 128) (.c (.bool false)), none⟩,
  ⟨(some 130), .move (.t 129), none⟩,
  ⟨(some 131), .move (.t 13), some ((some 130), true)⟩,
  ⟨(some 132), .call 63 [(.t 131)], some ((some 130), true)⟩,
  ⟨(some 133), .bin .eql (.t 132) (.c (.int .i64 0)), some ((some 130), true)⟩,
  ⟨(some 134), .pick (.t 130) (.t 133) (.c (.bool false)), none⟩,
  ⟨(some 4), .move (.t 134), none⟩]
def f9 : AFunc := ⟨[.tmp 4], (.seq (.reg f9r0) (.seq (.seq (.reg f9r1) (.cond (.t 19) (.seq (.reg f9r2) .ret) .skip)) (.seq (.reg f9r3) (.seq (.seq (.reg f9r4) (.cond (.t 35) (.seq (.reg f9r5) .ret) .skip)) (.seq (.reg f9r6) (.seq (.reg f9r7) (.seq (.reg f9r8) (.seq (.reg f9r9) (.seq (.seq (.reg f9r10) (.cond (.t 63) (.seq (.reg f9r11) .ret) .skip)) (.seq (.seq (.reg f9r12) (.cond (.t 92) (.seq (.reg f9r13) .ret) .skip)) (.seq (.reg f9r14) (.seq (.seq (.reg f9r15) (.block 0 (.loop (.seq (.reg f9r16) (.seq (.cond (.t 98) .skip (.exit 0)) (.seq (.block 1 (.seq (.reg f9r17) (.seq (.reg f9r18) (.cond (.t 104) (.seq (.reg f9r19) .ret) .skip)))) (.reg f9r20))))))) (.seq (.seq (.reg f9r21) (.cond (.t 110) (.seq (.reg f9r22) .ret) .skip)) (.seq (.seq (.reg f9r23) (.block 2 (.loop (.seq (.reg f9r24) (.seq (.cond (.t 114) .skip (.exit 2)) (.seq (.block 3 (.seq (.reg f9r25) (.seq (.reg f9r26) (.cond (.t 120) (.seq (.reg f9r27) .ret) .skip)))) (.reg f9r28))))))) (.seq (.reg f9r29) .ret)))))))))))))))⟩

-- fingerpost/fingerposttop.WholeSnapshots
def f10r0 : List AOper := [
  ⟨(some 4), .move (.c (.bool false)), none⟩]
def f10r1 : List AOper := [
  ⟨(some 22), .call 11 [], none⟩,
  ⟨(some 23), .un .not (.t 22), none⟩]
def f10r2 : List AOper := [
  ⟨(some 4), .move (.c (.bool false)), none⟩]
def f10r3 : List AOper := [
  ⟨(some 24), .move (.t 0), none⟩,
  ⟨(some 25), .lenS (.t 24), none⟩,
  ⟨(some 26), .bin .gtr (.t 25) (.c (.int .i64 12)), none⟩,
  ⟨(some 27), .move (.t 26), none⟩,
  ⟨(some 28), .move (.t 0), some ((some 27), false)⟩,
  ⟨(some 29), .call 64 [(.t 28), (.c (.fn 65 [] []))], some ((some 27), false)⟩,
  ⟨(some 30), .pick (.t 27) (.c (.bool true)) (.t 29), none⟩]
def f10r4 : List AOper := [
  ⟨(some 4), .move (.c (.bool true)), none⟩]
def f10r5 : List AOper := [
  ⟨(some 31), .move (.t 1), none⟩,
  ⟨(some 32), .bin .rem (.t 31) (.c (.int .u32 2147483648)), none⟩,
  ⟨(some 33), .bin .add (.c (.int .u32 1)) (.t 32), none⟩,
  ⟨(some 1), .move (.t 33), none⟩]
def f10r6 : List AOper := [
  ⟨(some 35), .call 17 [(.c (.int .i64 200))], none⟩,
  ⟨(some 34), .move (.t 35), none⟩,
  ⟨(some 36), .extract 0 (.t 34), none⟩,
  ⟨(some 37), .extract 1 (.t 34), none⟩,
  ⟨(some 5), .move (.t 36), none⟩,
  ⟨(some 6), .move (.t 37), none⟩]
def f10r7 : List AOper := [
  ⟨(some 39), .move (.t 5), none⟩,
  ⟨(some 40), .move (.t 1), none⟩,
  ⟨(some 41), .move (.t 0), none⟩,
  ⟨(some 42), .call 66 [(.t 39), (.t 40), (.t 41)], none⟩,
  ⟨(some 38), .move (.t 42), none⟩,
  ⟨(some 43), .extract 0 (.t 38), none⟩,
  ⟨(some 44), .extract 1 (.t 38), none⟩,
  ⟨(some 7), .move (.t 43), none⟩,
  ⟨(some 8), .move (.t 44), none⟩]
def f10r8 : List AOper := [
  ⟨(some 46), .move (.t 5), none⟩,
  ⟨(some 47), .call 67 [(.t 46)], none⟩,
  ⟨(some 45), .move (.t 47), none⟩,
  ⟨(some 48), .extract 0 (.t 45), none⟩,
  ⟨(some 49), .extract 1 (.t 45), none⟩,
  ⟨(some 50), .extract 2 (.t 45), none⟩,
  ⟨(some 9), .move (.t 48), none⟩,
  ⟨(some 10), .move (.t 49), none⟩,
  ⟨(some 11), .move (.t 50), none⟩]
def f10r9 : List AOper := [
  ⟨(some 51), .move (.t 6), none⟩,
  ⟨(some 52), .bin .neq (.t 51) (.c (.int .i64 0)), none⟩,
  ⟨(some 53), .move (.t 52), none⟩,
  ⟨(some 54), .move (.t 8), some ((some 53), false)⟩,
  ⟨(some 55), .bin .neq (.t 54) (.c (.int .i64 0)), some ((some 53), false)⟩,
  ⟨(some 56), .pick (.t 53) (.c (.bool true)) (.t 55), none⟩]
def f10r10 : List AOper := [
  ⟨(some 4), .move (.c (.bool false)), none⟩]
def f10r11 : List AOper := [
  ⟨(some 57), .move (.t 0), none⟩,
  ⟨(some 58), .lenS (.t 57), none⟩,
  ⟨(some 59), .bin .add (.t 58) (.c (.int .i64 1)), none⟩,
  ⟨(some 60), .move (.c (.int .i64 0)), none⟩]
def f10r12 : List AOper := [
  ⟨(some 61), .bin .lss (.t 60) (.t 59), none⟩]
def f10r13 : List AOper := [
  ⟨(some 62), .move (.t 60), none⟩,
  ⟨(some 12), .move (.t 62), none⟩]
def f10r14 : List AOper := [
  ⟨(some 64), .call 17 [(.c (.int .i64 200))], none⟩,
  ⟨(some 63), .move (.t 64), none⟩,
  ⟨(some 65), .extract 0 (.t 63), none⟩,
  ⟨(some 66), .extract 1 (.t 63), none⟩,
  ⟨(some 13), .move (.t 65), none⟩,
  ⟨(some 14), .move (.t 66), none⟩]
def f10r15 : List AOper := [
  ⟨(some 68), .move (.t 13), none⟩,
  ⟨(some 69), .move (.t 1), none⟩,
  ⟨(some 70), .move (.t 0), none⟩,
  ⟨(some 71), .move (.t 12), none⟩,
  ⟨(some 72), .sliceS 39 (.t 70) none (some (.t 71)), none⟩,
  ⟨(some 73), .call 66 [(.t 68), (.t 69), (.t 72)], none⟩,
  ⟨(some 67), .move (.t 73), none⟩,
  ⟨(some 74), .extract 0 (.t 67), none⟩,
  ⟨(some 75), .extract 1 (.t 67), none⟩,
  ⟨(some 15), .move (.t 74), none⟩,
  ⟨(some 16), .move (.t 75), none⟩]
def f10r16 : List AOper := [
  ⟨(some 76), .move (.t 14), none⟩,
  ⟨(some 77), .bin .neq (.t 76) (.c (.int .i64 0)), none⟩,
  ⟨(some 78), .move (.t 77), none⟩,
  ⟨(some 79), .move (.t 16), some ((some 78), false)⟩,
  ⟨(some 80), .bin .neq (.t 79) (.c (.int .i64 0)), some ((some 78), false)⟩,
  ⟨(some 81), .pick (.t 78) (.c (.bool true)) (.t 80), none⟩]
def f10r17 : List AOper := [
  ⟨(some 4), .move (.c (.bool false)), none⟩]
def f10r18 : List AOper := [
  ⟨(some 82), .move (.t 0), none⟩,
  ⟨(some 83), .move (.t 12), none⟩,
  ⟨(some 84), .sliceS 39 (.t 82) (some (.t 83)) none, none⟩,
  ⟨(some 85), .lenS (.t 84), none⟩,
  ⟨(some 86), .move (.c (.int .i64 0)), none⟩]
def f10r19 : List AOper := [
  ⟨(some 87), .bin .lss (.t 86) (.t 85), none⟩]
def f10r20 : List AOper := [
  ⟨(some 88), .idxS 39 (.t 84) (.t 86), none⟩,
  ⟨(some 89), .load 39 (.t 88), none⟩,
  ⟨(some 18), .move (.t 89), none⟩]
def f10r21 : List AOper := [
  ⟨(some 90), .move (.t 15), none⟩,
  ⟨(some 91), .move (.t 18), none⟩,
  ⟨(some 92), .call 68 [(.t 90), (.t 91)], none⟩,
  ⟨(some 93), .bin .neq (.t 92) (.c (.int .i64 0)), none⟩]
def f10r22 : List AOper := [
  ⟨(some 4), .move (.c (.bool false)), none⟩]
def f10r23 : List AOper := [
  ⟨(some 94), .bin .add (.t 86) (.c (.int .i64 1)), none⟩,
  ⟨(some 86), .move (.t 94), none⟩]
def f10r24 : List AOper := [
  ⟨(some 95), .move (.t 15), none⟩,
  ⟨(some 96), .call 69 [(.t 95)], none⟩,
  ⟨(some 97), .bin .neq (.t 96) (.c (.int .i64 0)), none⟩,
  ⟨(some 98), .move (.t 97), none⟩,
  ⟨(some 99), .move (.t 15), some ((some 98), false)⟩,
  ⟨(some 100), .call 70 [(.t 99)], some ((some 98), false)⟩,
  ⟨(some 101), .move (.t 7), some ((some 98), false)⟩,
  ⟨(some 102), .call 70 [(.t 101)], some ((some 98), false)⟩,
  ⟨(some 103), .bin .neq (.t 100) (.t 102), some ((some 98), false)⟩,
  ⟨(some 104), .pick (.t 98) (.c (.bool true)) (.t 103), none⟩,
  ⟨(some 105), .move (.t 104), none⟩,
  ⟨(some 106), .move (.t 15), some ((some 105), false)⟩,
  ⟨(some 107), .call 71 [(.t 106)], some ((some 105), false)⟩,
  ⟨(some 108), .move (.t 1), some ((some 105), false)⟩,
  ⟨(some 109), .bin .neq (.t 107) (.t 108), some ((some 105), false)⟩,
  ⟨(some 110), .pick (.t 105) (.c (.bool true)) (.t 109), none⟩]
def f10r25 : List AOper := [
  ⟨(some 4), .move (.c (.bool false)), none⟩]
def f10r26 : List AOper := [
  ⟨(some 112), .move (.t 13), none⟩,
  ⟨(some 113), .call 67 [(.t 112)], none⟩,
  ⟨(some 111), .move (.t 113), none⟩,
  ⟨(some 114), .extract 0 (.t 111), none⟩,
  ⟨(some 115), .extract 1 (.t 111), none⟩,
  ⟨(some 116), .extract 2 (.t 111), none⟩,
  ⟨(some 19), .move (.t 114), none⟩,
  ⟨(some 20), .move (.t 115), none⟩,
  ⟨(some 21), .move (.t 116), none⟩]
def f10r27 : List AOper := [
  ⟨(some 117), .move (.t 11), none⟩,
  ⟨(some 118), .move (.t 21), none⟩,
  ⟨(some 119), .bin .neq (.t 117) (.t 118), none⟩,
  ⟨(some 120), .move (.t 119), none⟩,
  ⟨(some 121), .move (.t 20), some ((some 120), false)⟩,
  ⟨(some 122), .move (.t 10), some ((some 120), false)⟩,
  ⟨(some 123), .bin .neq (.t 121) (.t 122), some ((some 120), false)⟩,
  ⟨(some 124), .pick (.t 120) (.c (.bool true)) (.t 123), none⟩,
  ⟨(some 125), .move (.t 124), none⟩,
  ⟨(some 126), .move (.t 9), some ((some 125), false)⟩,
  ⟨(some 127), .move (.t 19), some ((some 125), false)⟩,
  ⟨(some 128), .call 72 [(.t 126), (.t 127), (.c (.fn 73 [] []))], some ((some 125), false)⟩,
  ⟨(some 129), .un .not (.t 128), some ((some 125), false)⟩,
  ⟨(some 130), .pick (.t 125) (.c (.bool true)) (.t 129), none⟩]
def f10r28 : List AOper := [
  ⟨(some 4), .move (.c (.bool false)), none⟩]
def f10r29 : List AOper := [
  ⟨(some 131), .bin .add (.t 60) (.c (.int .i64 1)), none⟩,
  ⟨(some 60), .move (.t 131), none⟩]
def f10r30 : List AOper := [
  ⟨(some 132), .move (.t 11), none⟩,
  ⟨(some 133), .bin .eql (.t 132) (.c (.int .i64 0)), none⟩,
  ⟨(some 134), .move (.t 133), none⟩,
  ⟨(some 135), .move (.t 9), some ((some 134), true)⟩,
  ⟨(some 136), .lenS (.t 135), some ((some 134), true)⟩,
  ⟨(some 137), .move (.t 0), some ((some 134), true)⟩,
  ⟨(some 138), .lenS (.t 137), some ((some 134), true)⟩,
  ⟨(some 139), .bin .eql (.t 136) (.t 138), some ((some 134), true)⟩,
  ⟨(some 140), .pick (.t 134) (.t 139) (.c (.bool false)), none⟩,
  ⟨(some 4), .move (.t 140), none⟩]
def f10 : AFunc := ⟨[.tmp 4], (.seq (.reg f10r0) (.seq (.seq (.reg f10r1) (.cond (.t 23) (.seq (.reg f10r2) .ret) .skip)) (.seq (.seq (.reg f10r3) (.cond (.t 30) (.seq (.reg f10r4) .ret) .skip)) (.seq (.reg f10r5) (.seq (.reg f10r6) (.seq (.reg f10r7) (.seq (.reg f10r8) (.seq (.seq (.reg f10r9) (.cond (.t 56) (.seq (.reg f10r10) .ret) .skip)) (.seq (.seq (.reg f10r11) (.block 0 (.loop (.seq (.reg f10r12) (.seq (.cond (.t 61) .skip (.exit 0)) (.seq (.block 1 (.seq (.reg f10r13) (.seq (.reg f10r14) (.seq (.reg f10r15) (.seq (.seq (.reg f10r16) (.cond (.t 81) (.seq (.reg f10r17) .ret) .skip)) (.seq (.seq (.reg f10r18) (.block 2 (.loop (.seq (.reg f10r19) (.seq (.cond (.t 87) .skip (.exit 2)) (.seq (.block 3 (.seq (.reg f10r20) (.seq (.reg f10r21) (.cond (.t 93) (.seq (.reg f10r22) .ret) .skip)))) (.reg f10r23))))))) (.seq (.seq (.reg f10r24) (.cond (.t 110) (.seq (.reg f10r25) .ret) .skip)) (.seq (.reg f10r26) (.seq (.reg f10r27) (.cond (.t 130) (.seq (.reg f10r28) .ret) .skip)))))))))) (.reg f10r29))))))) (.seq (.reg f10r30) .ret))))))))))⟩

-- fingerpost/fingerposttop.wakes12
def f11r0 : List AOper := [
  ⟨(some 0), .move (.c (.bool false)), none⟩]
def f11r1 : List AOper := [
  ⟨(some 21), .build 99 [(0, (.c (.int .i64 3))), (1, (.c (.int .i64 9)))], none⟩,
  ⟨(some 22), .call 47 [(.c (.int .i64 0)), (.t 21)], none⟩,
  ⟨(some 20), .move (.t 22), none⟩,
  ⟨(some 23), .extract 0 (.t 20), none⟩,
  ⟨(some 24), .extract 1 (.t 20), none⟩,
  ⟨(some 1), .move (.t 23), none⟩,
  ⟨(some 2), .move (.t 24), none⟩]
def f11r2 : List AOper := [
  ⟨(some 26), .call 12 [(.c (.int .i64 4))], none⟩,
  ⟨(some 25), .move (.t 26), none⟩,
  ⟨(some 27), .extract 0 (.t 25), none⟩,
  ⟨(some 28), .extract 1 (.t 25), none⟩,
  ⟨(some 3), .move (.t 27), none⟩,
  ⟨(some 4), .move (.t 28), none⟩]
def f11r3 : List AOper := [
  ⟨(some 30), .build 73 [(0, (.c (.int .i64 2))), (1, (.c (.int .i64 1))), (2, (.c (.int .i64 10))), (3, (.c (.int .i64 3)))], none⟩,
  ⟨(some 31), .call 36 [(.t 30)], none⟩,
  ⟨(some 29), .move (.t 31), none⟩,
  ⟨(some 32), .extract 0 (.t 29), none⟩,
  ⟨(some 33), .extract 1 (.t 29), none⟩,
  ⟨(some 5), .move (.t 32), none⟩,
  ⟨(some 6), .move (.t 33), none⟩]
def f11r4 : List AOper := [
  ⟨(some 35), .build 150 [(0, (.c (.int .i64 10))), (1, (.c (.int .i64 3)))], none⟩,
  ⟨(some 36), .call 74 [(.t 35)], none⟩,
  ⟨(some 34), .move (.t 36), none⟩,
  ⟨(some 37), .extract 0 (.t 34), none⟩,
  ⟨(some 38), .extract 1 (.t 34), none⟩,
  ⟨(some 7), .move (.t 37), none⟩,
  ⟨(some 8), .move (.t 38), none⟩]
def f11r5 : List AOper := [
  ⟨(some 40), .build 62 [(0, (.c (.int .u8 7)))], none⟩,
  ⟨(some 41), .buildSlice 62 1 [(0, (.t 40))], none⟩,
  ⟨(some 42), .call 28 [(.c (.int .i64 1)), (.c (.int .u32 2)), (.t 41)], none⟩,
  ⟨(some 39), .move (.t 42), none⟩,
  ⟨(some 43), .extract 0 (.t 39), none⟩,
  ⟨(some 44), .extract 1 (.t 39), none⟩,
  ⟨(some 9), .move (.t 43), none⟩,
  ⟨(some 10), .move (.t 44), none⟩]
def f11r6 : List AOper := [
  ⟨(some 45), .move (.t 2), none⟩,
  ⟨(some 46), .bin .neq (.t 45) (.c (.int .i64 0)), none⟩,
  ⟨(some 47), .move (.t 46), none⟩,
  ⟨(some 48), .move (.t 4), some ((some 47), false)⟩,
  ⟨(some 49), .bin .neq (.t 48) (.c (.int .i64 0)), some ((some 47), false)⟩,
  ⟨(some 50), .pick (.t 47) (.c (.bool true)) (.t 49), none⟩,
  ⟨(some 51), .move (.t 50), none⟩,
  ⟨(some 52), .move (.t 6), some ((some 51), false)⟩,
  ⟨(some 53), .bin .neq (.t 52) (.c (.int .i64 0)), some ((some 51), false)⟩,
  ⟨(some 54), .pick (.t 51) (.c (.bool true)) (.t 53), none⟩,
  ⟨(some 55), .move (.t 54), none⟩,
  ⟨(some 56), .move (.t 8), some ((some 55), false)⟩,
  ⟨(some 57), .bin .neq (.t 56) (.c (.int .i64 0)), some ((some 55), false)⟩,
  ⟨(some 58), .pick (.t 55) (.c (.bool true)) (.t 57), none⟩,
  ⟨(some 59), .move (.t 58), none⟩,
  ⟨(some 60), .move (.t 10), some ((some 59), false)⟩,
  ⟨(some 61), .bin .neq (.t 60) (.c (.int .i64 0)), some ((some 59), false)⟩,
  ⟨(some 62), .pick (.t 59) (.c (.bool true)) (.t 61), none⟩,
  ⟨(some 63), .move (.t 62), none⟩,
  ⟨(some 64), .move (.t 1), some ((some 63), false)⟩,
  ⟨(some 65), .eqv false .ptr (.t 64) (.c .nilp), some ((some 63), false)⟩,
  ⟨(some 66), .pick (.t 63) (.c (.bool true)) (.t 65), none⟩,
  ⟨(some 67), .move (.t 66), none⟩,
  ⟨(some 68), .move (.t 3), some ((some 67), false)⟩,
  ⟨(some 69), .eqv false .ptr (.t 68) (.c .nilp), some ((some 67), false)⟩,
  ⟨(some 70), .pick (.t 67) (.c (.bool true)) (.t 69), none⟩,
  ⟨(some 71), .move (.t 70), none⟩,
  ⟨(some 72), .move (.t 5), some ((some 71), false)⟩,
  ⟨(some 73), .eqv false .ptr (.t 72) (.c .nilp), some ((some 71), false)⟩,
  ⟨(some 74), .pick (.t 71) (.c (.bool true)) (.t 73), none⟩,
  ⟨(some 75), .move (.t 74), none⟩,
  ⟨(some 76), .move (.t 7), some ((some 75), false)⟩,
  ⟨(some 77), .eqv false .ptr (.t 76) (.c .nilp), some ((some 75), false)⟩,
  ⟨(some 78), .pick (.t 75) (.c (.bool true)) (.t 77), none⟩,
  ⟨(some 79), .move (.t 78), none⟩,
  ⟨(some 80), .move (.t 9), some ((some 79), false)⟩,
  ⟨(some 81), .eqv false .ptr (.t 80) (.c .nilp), some ((some 79), false)⟩,
  ⟨(some 82), .pick (.t 79) (.c (.bool true)) (.t 81), none⟩]
def f11r7 : List AOper := [
  ⟨(some 0), .move (.c (.bool false)), none⟩]
def f11r8 : List AOper := [
  ⟨(some 84), .move (.t 1), none⟩,
  ⟨(some 85), .build 106 [(1, (.c (.int .u32 1))), (2, (.c (.int .i64 2)))], none⟩,
  ⟨(some 86), .build 154 [(0, (.c (.int .i64 2))), (1, (.t 85))], none⟩,
  ⟨(some 87), .build 106 [], none⟩,
  ⟨(some 88), .call 75 [(.t 84), (.c (.int .i64 0)), (.c (.int .i64 1)), (.t 86), (.t 87), (.c (.bool false))], none⟩,
  ⟨(some 83), .move (.t 88), none⟩,
  ⟨(some 89), .extract 0 (.t 83), none⟩,
  ⟨(some 90), .extract 1 (.t 83), none⟩,
  ⟨(some 11), .move (.t 89), none⟩,
  ⟨(some 2), .move (.t 90), none⟩]
def f11r9 : List AOper := [
  ⟨(some 92), .move (.t 7), none⟩,
  ⟨(some 93), .call 76 [(.t 92), (.c (.int .i64 0))], none⟩,
  ⟨(some 91), .move (.t 93), none⟩,
  ⟨(some 94), .extract 0 (.t 91), none⟩,
  ⟨(some 95), .extract 1 (.t 91), none⟩,
  ⟨(some 12), .move (.t 94), none⟩,
  ⟨(some 13), .move (.t 95), none⟩]
def f11r10 : List AOper := [
  ⟨(some 97), .build 160 [(0, (.c (.int .i64 2))), (1, (.c (.int .i64 1)))], none⟩,
  ⟨(some 98), .buildSlice 160 1 [(0, (.t 97))], none⟩,
  ⟨(some 99), .build 160 [(0, (.c (.int .i64 2))), (1, (.c (.int .i64 0)))], none⟩,
  ⟨(some 100), .buildSlice 160 1 [(0, (.t 99))], none⟩,
  ⟨(some 101), .buildSlice 162 2 [(0, (.t 98)), (1, (.t 100))], none⟩,
  ⟨(some 102), .call 77 [(.t 101), (.c (.int .i64 0)), (.c (.int .i64 2))], none⟩,
  ⟨(some 96), .move (.t 102), none⟩,
  ⟨(some 103), .extract 0 (.t 96), none⟩,
  ⟨(some 104), .extract 1 (.t 96), none⟩,
  ⟨(some 14), .move (.t 103), none⟩,
  ⟨(some 15), .move (.t 104), none⟩]
def f11r11 : List AOper := [
  ⟨(some 105), .call 56 [], none⟩,
  ⟨(some 16), .move (.t 105), none⟩]
def f11r12 : List AOper := [
  ⟨(some 106), .move (.t 16), none⟩,
  ⟨(some 107), .call 78 [(.t 106), (.c (.int .u64 258))], none⟩]
def f11r13 : List AOper := [
  ⟨(some 108), .move (.t 16), none⟩,
  ⟨(some 109), .buildSlice 5 1 [(0, (.c (.int .u8 97)))], none⟩,
  ⟨(some 110), .sameB (.t 109), none⟩,
  ⟨(some 111), .call 79 [(.t 108), (.t 110)], none⟩]
def f11r14 : List AOper := [
  ⟨(some 113), .move (.t 16), none⟩,
  ⟨(some 114), .call 58 [(.t 113)], none⟩,
  ⟨(some 112), .move (.t 114), none⟩,
  ⟨(some 115), .extract 0 (.t 112), none⟩,
  ⟨(some 116), .extract 1 (.t 112), none⟩,
  ⟨(some 17), .move (.t 115), none⟩,
  ⟨(some 4), .move (.t 116), none⟩]
def f11r15 : List AOper := [
  ⟨(some 118), .call 17 [(.c (.int .i64 8))], none⟩,
  ⟨(some 117), .move (.t 118), none⟩,
  ⟨(some 119), .extract 0 (.t 117), none⟩,
  ⟨(some 120), .extract 1 (.t 117), none⟩,
  ⟨(some 18), .move (.t 119), none⟩,
  ⟨(some 6), .move (.t 120), none⟩]
def f11r16 : List AOper := [
  ⟨(some 122), .move (.t 18), none⟩,
  ⟨(some 123), .call 66 [(.t 122), (.c (.int .u32 1)), (.c .nils)], none⟩,
  ⟨(some 121), .move (.t 123), none⟩,
  ⟨(some 124), .extract 0 (.t 121), none⟩,
  ⟨(some 125), .extract 1 (.t 121), none⟩,
  ⟨(some 19), .move (.t 124), none⟩,
  ⟨(some 8), .move (.t 125), none⟩]
def f11r17 : List AOper := [
  ⟨(some 126), .move (.t 2), none⟩,
  ⟨(some 127), .bin .eql (.t 126) (.c (.int .i64 0)), none⟩,
  ⟨(some 128), .move (.t 127), none⟩,
  ⟨(some 129), .move (.t 4), some ((some 128), true)⟩,
  ⟨(some 130), .bin .eql (.t 129) (.c (.int .i64 0)), some ((some 128), true)⟩,
  ⟨(some 131), .pick (.t 128) (.t 130) (.c (.bool false)), none⟩,
  ⟨(some 132), .move (.t 131), none⟩,
  ⟨(some 133), .move (.t 6), some ((some 132), true)⟩,
  ⟨(some 134), .bin .eql (.t 133) (.c (.int .i64 0)), some ((some 132), true)⟩,
  ⟨(some 135), .pick (.t 132) (.t 134) (.c (.bool false)), none⟩,
  ⟨(some 136), .move (.t 135), none⟩,
  ⟨(some 137), .move (.t 8), some ((some 136), true)⟩,
  ⟨(some 138), .bin .eql (.t 137) (.c (.int .i64 0)), some ((some 136), true)⟩,
  ⟨(some 139), .pick (.t 136) (.t 138) (.c (.bool false)), none⟩,
  ⟨(some 140), .move (.t 139), none⟩,
  ⟨(some 141), .move (.t 11), some ((some 140), true)⟩,
  ⟨(some 142), .bin .eql (.t 141) (.c (.int .i64 5)), some ((some 140), true)⟩,
  ⟨(some 143), .pick (.t 140) (.t 142) (.c (.bool false)), none⟩,
  ⟨(some 144), .move (.t 143), none⟩,
  ⟨(some 145), .move (.t 12), some ((some 144), true)⟩,
  ⟨(some 146), .pick (.t 144) (.t 145) (.c (.bool false)), none⟩,
  ⟨(some 147), .move (.t 146), none⟩,
  ⟨(some 148), .move (.t 15), some ((some 147), true)⟩,
  ⟨(some 149), .pick (.t 147) (.t 148) (.c (.bool false)), none⟩,
  ⟨(some 150), .move (.t 149), none⟩,
  ⟨(some 151), .move (.t 14), some ((some 150), true)⟩,
  ⟨(some 152), .buildSlice 3 3 [(0, (.c (.int .i64 0))), (1, (.c (.int .i64 1))), (2, (.c (.int .i64 0)))], some ((some 150), true)⟩,
  ⟨(some 153), .call 50 [(.t 151), (.t 152)], some ((some 150), true)⟩,
  ⟨(some 154), .pick (.t 150) (.t 153) (.c (.bool false)), none⟩,
  ⟨(some 155), .move (.t 154), none⟩,
  ⟨(some 156), .move (.t 3), some ((some 155), true)⟩,
  ⟨(some 157), .call 15 [(.t 156), (.c (.int .u64 1)), (.c (.int .u64 5))], some ((some 155), true)⟩,
  ⟨(some 158), .bin .eql (.t 157) (.c (.int .i64 0)), some ((some 155), true)⟩,
  ⟨(some 159), .pick (.t 155) (.t 158) (.c (.bool false)), none⟩,
  ⟨(some 160), .move (.t 159), none⟩,
  ⟨(some 161), .move (.t 3), some ((some 160), true)⟩,
  ⟨(some 162), .call 15 [(.t 161), (.c (.int .u64 1)), (.c (.int .u64 5))], some ((some 160), true)⟩,
  ⟨(some 163), .bin .eql (.t 162) (.c (.int .i64 25)), some ((some 160), true)⟩,
  ⟨(some 164), .pick (.t 160) (.t 163) (.c (.bool false)), none⟩,
  ⟨(some 165), .move (.t 164), none⟩,
  ⟨(some 166), .move (.t 5), some ((some 165), true)⟩,
  ⟨(some 167), .call 80 [(.t 166), (.c (.int .i64 4))], some ((some 165), true)⟩,
  ⟨(some 168), .bin .eql (.t 167) (.c (.int .i64 0)), some ((some 165), true)⟩,
  ⟨(some 169), .pick (.t 165) (.t 168) (.c (.bool false)), none⟩,
  ⟨(some 170), .move (.t 169), none⟩,
  ⟨(some 171), .move (.t 9), some ((some 170), true)⟩,
  ⟨(some 172), .call 29 [(.t 171)], some ((some 170), true)⟩,
  ⟨(some 173), .build 62 [(0, (.c (.int .u8 7)))], some ((some 170), true)⟩,
  ⟨(some 174), .eqv false (.agg 62) (.t 172) (.t 173), some ((some 170), true)⟩,
  ⟨(some 175), .pick (.t 170) (.t 174) (.c (.bool false)), none⟩,
  ⟨(some 176), .move (.t 175), none⟩,
  ⟨(some 177), .move (.t 17), some ((some 176), true)⟩,
  ⟨(some 178), .toStr (.t 177), some ((some 176), true)⟩,
  ⟨(some 179), .bin .eql (.t 178) (.c (.str ⟨#[1, 2, 0, 1, 97]⟩)), some ((some 176), true)⟩,
  ⟨(some 180), .pick (.t 176) (.t 179) (.c (.bool false)), none⟩,
  ⟨(some 181), .move (.t 180), none⟩,
  ⟨(some 182), .move (.t 19), some ((some 181), true)⟩,
  ⟨(some 183), .call 70 [(.t 182)], some ((some 181), true)⟩,
  ⟨(some 184), .bin .eql (.t 183) (.c (.int .i64 3)), some ((some 181), true)⟩,
  ⟨(some 185), .pick (.t 181) (.t 184) (.c (.bool false)), none⟩,
  ⟨(some 0), .move (.t 185), none⟩]
def f11 : AFunc := ⟨[.tmp 0], (.seq (.reg f11r0) (.seq (.reg f11r1) (.seq (.reg f11r2) (.seq (.reg f11r3) (.seq (.reg f11r4) (.seq (.reg f11r5) (.seq (.seq (.reg f11r6) (.cond (.t 82) (.seq (.reg f11r7) .ret) .skip)) (.seq (.reg f11r8) (.seq (.reg f11r9) (.seq (.reg f11r10) (.seq (.reg f11r11) (.seq (.reg f11r12) (.seq (.reg f11r13) (.seq (.reg f11r14) (.seq (.reg f11r15) (.seq (.reg f11r16) (.seq (.reg f11r17) .ret)))))))))))))))))⟩

-- fingerpost/window.New
def f12r0 : List AOper := [
  ⟨(some 2), .move (.c .nilp), none⟩,
  ⟨(some 3), .move (.c (.int .i64 0)), none⟩]
def f12r1 : List AOper := [
  ⟨(some 4), .move (.t 0), none⟩,
  ⟨(some 5), .bin .lss (.t 4) (.c (.int .i64 1)), none⟩,
  ⟨(some 6), .move (.t 5), none⟩,
  ⟨(some 7), .move (.t 0), some ((some 6), false)⟩,
  ⟨(some 8), .bin .gtr (.t 7) (.c (.int .i64 64)), some ((some 6), false)⟩,
  ⟨(some 9), .pick (.t 6) (.c (.bool true)) (.t 8), none⟩]
def f12r2 : List AOper := [
  ⟨(some 2), .move (.c .nilp), none⟩,
  ⟨(some 3), .move (.c (.int .i64 1)), none⟩]
def f12r3 : List AOper := [
  ⟨(some 10), .move (.t 0), none⟩,
  ⟨(some 11), .build 167 [(0, (.t 10))], none⟩,
  ⟨(some 12), .box 167 (.agg 167) (.t 11), none⟩,
  ⟨(some 2), .move (.t 12), none⟩,
  ⟨(some 3), .move (.c (.int .i64 0)), none⟩]
def f12 : AFunc := ⟨[.tmp 2, .tmp 3], (.seq (.reg f12r0) (.seq (.seq (.reg f12r1) (.cond (.t 9) (.seq (.reg f12r2) .ret) .skip)) (.seq (.reg f12r3) .ret)))⟩

-- fingerpost/fingerposttop.WholeNumbersLater$1
def f13r0 : List AOper := [
  ⟨(some 2), .box 30 (.agg 30) (.t 0), none⟩,
  ⟨(some 3), .alloc 30, none⟩]
def f13r1 : List AOper := [
  ⟨(some 4), .fieldAddr 30 0 29 (.t 2), none⟩,
  ⟨(some 5), .load 29 (.t 4), none⟩,
  ⟨(some 6), .bin .gtr (.t 5) (.c (.int .u64 0)), none⟩]
def f13r2 : List AOper := [
  ⟨(some 7), .fieldAddr 30 0 29 (.t 2), none⟩,
  ⟨(some 8), .load 29 (.t 7), none⟩,
  ⟨(some 9), .bin .mul (.c (.int .u64 2)) (.t 8), none⟩,
  ⟨(some 10), .bin .add (.t 9) (.c (.int .u64 1)), none⟩,
  ⟨(some 11), .fieldAddr 30 0 29 (.t 2), none⟩,
  ⟨none, .store 29 (.int .u64) (.t 11) (.t 10), none⟩]
def f13r3 : List AOper := [
  ⟨(some 12), .fieldAddr 30 1 29 (.t 2), none⟩,
  ⟨(some 13), .load 29 (.t 12), none⟩,
  ⟨(some 14), .bin .gtr (.t 13) (.c (.int .u64 0)), none⟩]
def f13r4 : List AOper := [
  ⟨(some 15), .fieldAddr 30 1 29 (.t 2), none⟩,
  ⟨(some 16), .load 29 (.t 15), none⟩,
  ⟨(some 17), .load 23 (.t 1), none⟩,
  ⟨(some 18), .conv .u64 (.t 17), none⟩,
  ⟨(some 19), .bin .add (.t 16) (.t 18), none⟩,
  ⟨(some 20), .fieldAddr 30 1 29 (.t 2), none⟩,
  ⟨none, .store 29 (.int .u64) (.t 20) (.t 19), none⟩]
def f13r5 : List AOper := [
  ⟨(some 21), .load 30 (.t 2), none⟩,
  ⟨none, .store 30 (.agg 30) (.t 3) (.t 21), none⟩]
def f13 : AFunc := ⟨[.cell 3 30], (.seq (.reg f13r0) (.seq (.seq (.reg f13r1) (.cond (.t 6) (.reg f13r2) .skip)) (.seq (.seq (.reg f13r3) (.cond (.t 14) (.reg f13r4) .skip)) (.seq (.reg f13r5) .ret))))⟩

-- (*fingerpost/window.Window).Fresh
def f14r0 : List AOper := [
  ⟨(some 6), .move (.c (.bool false)), none⟩]
def f14r1 : List AOper := [
  ⟨(some 9), .move (.t 0), none⟩,
  ⟨(some 10), .eqv false .ptr (.t 9) (.c .nilp), none⟩,
  ⟨(some 11), .move (.t 10), none⟩,
  ⟨(some 12), .move (.t 1), some ((some 11), false)⟩,
  ⟨(some 13), .bin .eql (.t 12) (.c (.int .u64 0)), some ((some 11), false)⟩,
  ⟨(some 14), .pick (.t 11) (.c (.bool true)) (.t 13), none⟩,
  ⟨(some 15), .move (.t 14), none⟩,
  ⟨(some 16), .move (.t 2), some ((some 15), false)⟩,
  ⟨(some 17), .bin .eql (.t 16) (.c (.int .u64 0)), some ((some 15), false)⟩,
  ⟨(some 18), .pick (.t 15) (.c (.bool true)) (.t 17), none⟩,
  ⟨(some 8), .move (.t 18), none⟩]
def f14r2 : List AOper := [
  ⟨(some 6), .move (.c (.bool false)), none⟩]
def f14r3 : List AOper := [
  ⟨(some 20), .move (.t 0), none⟩,
  ⟨(some 21), .nilCheck (.t 20), none⟩,
  ⟨(some 22), .fieldAddr 167 4 4 (.t 21), none⟩,
  ⟨(some 23), .load 4 (.t 22), none⟩,
  ⟨(some 24), .un .not (.t 23), none⟩,
  ⟨(some 25), .move (.t 24), none⟩,
  ⟨(some 26), .move (.t 1), some ((some 25), false)⟩,
  ⟨(some 27), .move (.t 0), some ((some 25), false)⟩,
  ⟨(some 28), .nilCheck (.t 27), some ((some 25), false)⟩,
  ⟨(some 29), .fieldAddr 167 1 29 (.t 28), some ((some 25), false)⟩,
  ⟨(some 30), .load 29 (.t 29), some ((some 25), false)⟩,
  ⟨(some 31), .bin .gtr (.t 26) (.t 30), some ((some 25), false)⟩,
  ⟨(some 32), .pick (.t 25) (.c (.bool true)) (.t 31), none⟩,
  ⟨(some 19), .move (.t 32), none⟩]
def f14r4 : List AOper := [
  ⟨(some 6), .move (.c (.bool true)), none⟩]
def f14r5 : List AOper := [
  ⟨(some 34), .move (.t 1), none⟩,
  ⟨(some 35), .move (.t 0), none⟩,
  ⟨(some 36), .nilCheck (.t 35), none⟩,
  ⟨(some 37), .fieldAddr 167 1 29 (.t 36), none⟩,
  ⟨(some 38), .load 29 (.t 37), none⟩,
  ⟨(some 39), .bin .lss (.t 34) (.t 38), none⟩,
  ⟨(some 33), .move (.t 39), none⟩]
def f14r6 : List AOper := [
  ⟨(some 6), .move (.c (.bool false)), none⟩]
def f14r7 : List AOper := [
  ⟨(some 41), .move (.t 2), none⟩,
  ⟨(some 42), .move (.t 0), none⟩,
  ⟨(some 43), .nilCheck (.t 42), none⟩,
  ⟨(some 44), .fieldAddr 167 2 29 (.t 43), none⟩,
  ⟨(some 45), .load 29 (.t 44), none⟩,
  ⟨(some 46), .bin .gtr (.t 41) (.t 45), none⟩,
  ⟨(some 40), .move (.t 46), none⟩]
def f14r8 : List AOper := [
  ⟨(some 6), .move (.c (.bool true)), none⟩]
def f14r9 : List AOper := [
  ⟨(some 47), .move (.t 0), none⟩,
  ⟨(some 48), .nilCheck (.t 47), none⟩,
  ⟨(some 49), .fieldAddr 167 2 29 (.t 48), none⟩,
  ⟨(some 50), .load 29 (.t 49), none⟩,
  ⟨(some 51), .move (.t 2), none⟩,
  ⟨(some 52), .bin .sub (.t 50) (.t 51), none⟩,
  ⟨(some 7), .move (.t 52), none⟩]
def f14r10 : List AOper := [
  ⟨(some 53), .move (.t 7), none⟩,
  ⟨(some 54), .move (.t 0), none⟩,
  ⟨(some 55), .nilCheck (.t 54), none⟩,
  ⟨(some 56), .fieldAddr 167 0 3 (.t 55), none⟩,
  ⟨(some 57), .load 3 (.t 56), none⟩,
  ⟨(some 58), .conv .u64 (.t 57), none⟩,
  ⟨(some 59), .bin .lss (.t 53) (.t 58), none⟩,
  ⟨(some 60), .move (.t 59), none⟩,
  ⟨(some 61), .move (.t 0), some ((some 60), true)⟩,
  ⟨(some 62), .nilCheck (.t 61), some ((some 60), true)⟩,
  ⟨(some 63), .fieldAddr 167 3 29 (.t 62), some ((some 60), true)⟩,
  ⟨(some 64), .load 29 (.t 63), some ((some 60), true)⟩,
  ⟨(some 65), .move (.t 7), some ((some 60), true)⟩,
  ⟨(some 66), .bin .shr (.t 64) (.t 65), some ((some 60), true)⟩,
  ⟨(some 67), .bin .and (.t 66) (.c (.int .u64 1)), some ((some 60), true)⟩,
  ⟨(some 68), .bin .eql (.t 67) (.c (.int .u64 0)), some ((some 60), true)⟩,
  ⟨(some 69), .pick (.t 60) (.t 68) (.c (.bool false)), none⟩,
  ⟨(some 6), .move (.t 69), none⟩]
def f14 : AFunc := ⟨[.tmp 6], (.seq (.reg f14r0) (.seq (.block 0 (.seq (.reg f14r1) (.cond (.t 8) (.seq (.reg f14r2) .ret) (.seq (.reg f14r3) (.cond (.t 19) (.seq (.reg f14r4) .ret) (.seq (.reg f14r5) (.cond (.t 33) (.seq (.reg f14r6) .ret) (.seq (.reg f14r7) (.cond (.t 40) (.seq (.reg f14r8) .ret) .skip))))))))) (.seq (.reg f14r9) (.seq (.reg f14r10) .ret))))⟩

-- (*fingerpost/window.Window).Take
def f15r0 : List AOper := [
  ⟨(some 6), .move (.c (.int .i64 0)), none⟩]
def f15r1 : List AOper := [
  ⟨(some 9), .move (.t 0), none⟩,
  ⟨(some 10), .eqv false .ptr (.t 9) (.c .nilp), none⟩,
  ⟨(some 8), .move (.t 10), none⟩]
def f15r2 : List AOper := [
  ⟨(some 6), .move (.c (.int .i64 2)), none⟩]
def f15r3 : List AOper := [
  ⟨(some 12), .move (.t 1), none⟩,
  ⟨(some 13), .bin .eql (.t 12) (.c (.int .u64 0)), none⟩,
  ⟨(some 14), .move (.t 13), none⟩,
  ⟨(some 15), .move (.t 2), some ((some 14), false)⟩,
  ⟨(some 16), .bin .eql (.t 15) (.c (.int .u64 0)), some ((some 14), false)⟩,
  ⟨(some 17), .pick (.t 14) (.c (.bool true)) (.t 16), none⟩,
  ⟨(some 11), .move (.t 17), none⟩]
def f15r4 : List AOper := [
  ⟨(some 6), .move (.c (.int .i64 1)), none⟩]
def f15r5 : List AOper := [
  ⟨(some 19), .move (.t 0), none⟩,
  ⟨(some 20), .move (.t 1), none⟩,
  ⟨(some 21), .move (.t 2), none⟩,
  ⟨(some 22), .call 14 [(.t 19), (.t 20), (.t 21)], none⟩,
  ⟨(some 23), .un .not (.t 22), none⟩,
  ⟨(some 18), .move (.t 23), none⟩]
def f15r6 : List AOper := [
  ⟨(some 6), .move (.c (.int .i64 25)), none⟩]
def f15r7 : List AOper := [
  ⟨(some 24), .move (.t 0), none⟩,
  ⟨(some 25), .nilCheck (.t 24), none⟩,
  ⟨(some 26), .fieldAddr 167 4 4 (.t 25), none⟩,
  ⟨(some 27), .load 4 (.t 26), none⟩,
  ⟨(some 28), .un .not (.t 27), none⟩,
  ⟨(some 29), .move (.t 28), none⟩,
  ⟨(some 30), .move (.t 1), some ((some 29), false)⟩,
  ⟨(some 31), .move (.t 0), some ((some 29), false)⟩,
  ⟨(some 32), .nilCheck (.t 31), some ((some 29), false)⟩,
  ⟨(some 33), .fieldAddr 167 1 29 (.t 32), some ((some 29), false)⟩,
  ⟨(some 34), .load 29 (.t 33), some ((some 29), false)⟩,
  ⟨(some 35), .bin .gtr (.t 30) (.t 34), some ((some 29), false)⟩,
  ⟨(some 36), .pick (.t 29) (.c (.bool true)) (.t 35), none⟩]
def f15r8 : List AOper := [
  ⟨(some 37), .move (.t 0), none⟩,
  ⟨(some 38), .move (.t 0), none⟩,
  ⟨(some 39), .move (.t 0), none⟩,
  ⟨(some 40), .move (.t 0), none⟩,
  ⟨(some 41), .move (.t 1), none⟩,
  ⟨(some 42), .move (.t 2), none⟩,
  ⟨(some 43), .nilCheck (.t 37), none⟩,
  ⟨(some 44), .fieldAddr 167 4 4 (.t 43), none⟩,
  ⟨none, .store 4 .bool (.t 44) (.c (.bool true)), none⟩,
  ⟨(some 45), .nilCheck (.t 38), none⟩,
  ⟨(some 46), .fieldAddr 167 1 29 (.t 45), none⟩,
  ⟨none, .store 29 (.int .u64) (.t 46) (.t 41), none⟩,
  ⟨(some 47), .nilCheck (.t 39), none⟩,
  ⟨(some 48), .fieldAddr 167 2 29 (.t 47), none⟩,
  ⟨none, .store 29 (.int .u64) (.t 48) (.t 42), none⟩,
  ⟨(some 49), .nilCheck (.t 40), none⟩,
  ⟨(some 50), .fieldAddr 167 3 29 (.t 49), none⟩,
  ⟨none, .store 29 (.int .u64) (.t 50) (.c (.int .u64 1)), none⟩]
def f15r9 : List AOper := [
  ⟨(some 6), .move (.c (.int .i64 0)), none⟩]
def f15r10 : List AOper := [
  ⟨(some 51), .move (.t 2), none⟩,
  ⟨(some 52), .move (.t 0), none⟩,
  ⟨(some 53), .nilCheck (.t 52), none⟩,
  ⟨(some 54), .fieldAddr 167 2 29 (.t 53), none⟩,
  ⟨(some 55), .load 29 (.t 54), none⟩,
  ⟨(some 56), .bin .gtr (.t 51) (.t 55), none⟩]
def f15r11 : List AOper := [
  ⟨(some 57), .move (.t 2), none⟩,
  ⟨(some 58), .move (.t 0), none⟩,
  ⟨(some 59), .nilCheck (.t 58), none⟩,
  ⟨(some 60), .fieldAddr 167 2 29 (.t 59), none⟩,
  ⟨(some 61), .load 29 (.t 60), none⟩,
  ⟨(some 62), .bin .sub (.t 57) (.t 61), none⟩,
  ⟨(some 7), .move (.t 62), none⟩]
def f15r12 : List AOper := [
  ⟨(some 63), .move (.t 7), none⟩,
  ⟨(some 64), .bin .lss (.t 63) (.c (.int .u64 64)), none⟩]
def f15r13 : List AOper := [
  ⟨(some 65), .move (.t 0), none⟩,
  ⟨(some 66), .move (.t 0), none⟩,
  ⟨(some 67), .nilCheck (.t 66), none⟩,
  ⟨(some 68), .fieldAddr 167 3 29 (.t 67), none⟩,
  ⟨(some 69), .load 29 (.t 68), none⟩,
  ⟨(some 70), .move (.t 7), none⟩,
  ⟨(some 71), .bin .shl (.t 69) (.t 70), none⟩,
  ⟨(some 72), .bin .or (.t 71) (.c (.int .u64 1)), none⟩,
  ⟨(some 73), .nilCheck (.t 65), none⟩,
  ⟨(some 74), .fieldAddr 167 3 29 (.t 73), none⟩,
  ⟨none, .store 29 (.int .u64) (.t 74) (.t 72), none⟩]
def f15r14 : List AOper := [
  ⟨(some 75), .move (.t 0), none⟩,
  ⟨(some 76), .nilCheck (.t 75), none⟩,
  ⟨(some 77), .fieldAddr 167 3 29 (.t 76), none⟩,
  ⟨none, .store 29 (.int .u64) (.t 77) (.c (.int .u64 1)), none⟩]
def f15r15 : List AOper := [
  ⟨(some 78), .move (.t 0), none⟩,
  ⟨(some 79), .move (.t 2), none⟩,
  ⟨(some 80), .nilCheck (.t 78), none⟩,
  ⟨(some 81), .fieldAddr 167 2 29 (.t 80), none⟩,
  ⟨none, .store 29 (.int .u64) (.t 81) (.t 79), none⟩]
def f15r16 : List AOper := [
  ⟨(some 6), .move (.c (.int .i64 0)), none⟩]
def f15r17 : List (AOper × List Nat) := [
  (⟨(some 82), .move (.t 0), none⟩, []),
  (⟨(some 83), .nilCheck (.t 82), none⟩, []),
  (⟨(some 84), .fieldAddr 167 3 29 (.t 83), none⟩, []),
  (⟨(some 85), .load 29 (.t 84), none⟩, []),
  (⟨(some 86), .move (.t 0), none⟩, []),
  (⟨(some 87), .nilCheck (.t 86), none⟩, []),
  (⟨(some 88), .fieldAddr 167 2 29 (.t 87), none⟩, []),
  (⟨(some 89), .load 29 (.t 88), none⟩, []),
  (⟨(some 90), .move (.t 2), none⟩, []),
  (⟨(some 91), .bin .sub (.t 89) (.t 90), none⟩, []),
  (⟨(some 92), .bin .shl (.c (.int .u64 1)) (.t 91), none⟩, []),
  (⟨(some 93), .bin .or (.t 85) (.t 92), none⟩, []),
  (⟨(some 94), .nilCheck (.t 82), none⟩, []),
  (⟨(some 95), .fieldAddr 167 3 29 (.t 94), none⟩, []),
  (⟨none, .store 29 (.int .u64) (.t 95) (.t 93), none⟩, [])]
def f15r18 : List AOper := [
  ⟨(some 6), .move (.c (.int .i64 0)), none⟩]
def f15 : AFunc := ⟨[.tmp 6], (.seq (.reg f15r0) (.seq (.block 0 (.seq (.reg f15r1) (.cond (.t 8) (.seq (.reg f15r2) .ret) (.seq (.reg f15r3) (.cond (.t 11) (.seq (.reg f15r4) .ret) (.seq (.reg f15r5) (.cond (.t 18) (.seq (.reg f15r6) .ret) .skip))))))) (.seq (.seq (.reg f15r7) (.cond (.t 36) (.seq (.reg f15r8) (.seq (.reg f15r9) .ret)) .skip)) (.seq (.seq (.reg f15r10) (.cond (.t 56) (.seq (.reg f15r11) (.seq (.seq (.reg f15r12) (.cond (.t 64) (.reg f15r13) (.reg f15r14))) (.seq (.reg f15r15) (.seq (.reg f15r16) .ret)))) .skip)) (.seq (.draw f15r17) (.seq (.reg f15r18) .ret))))))⟩

-- (*fingerpost/window.Window).Top
def f16r0 : List AOper := [
  ⟨(some 2), .move (.c (.int .u64 0)), none⟩,
  ⟨(some 3), .move (.c (.int .u64 0)), none⟩]
def f16r1 : List AOper := [
  ⟨(some 4), .move (.t 0), none⟩,
  ⟨(some 5), .eqv false .ptr (.t 4) (.c .nilp), none⟩]
def f16r2 : List AOper := [
  ⟨(some 2), .move (.c (.int .u64 0)), none⟩,
  ⟨(some 3), .move (.c (.int .u64 0)), none⟩]
def f16r3 : List (AOper × List Nat) := [
  (⟨(some 6), .move (.t 0), none⟩, []),
  (⟨(some 7), .nilCheck (.t 6), none⟩, []),
  (⟨(some 8), .fieldAddr 167 1 29 (.t 7), none⟩, []),
  (⟨(some 9), .load 29 (.t 8), none⟩, []),
  (⟨(some 10), .move (.t 0), none⟩, []),
  (⟨(some 11), .nilCheck (.t 10), none⟩, []),
  (⟨(some 12), .fieldAddr 167 2 29 (.t 11), none⟩, []),
  (⟨(some 13), .load 29 (.t 12), none⟩, []),
  (⟨(some 2), .move (.t 9), none⟩, []),
  (⟨(some 3), .move (.t 13), none⟩, [])]
def f16 : AFunc := ⟨[.tmp 2, .tmp 3], (.seq (.reg f16r0) (.seq (.seq (.reg f16r1) (.cond (.t 5) (.seq (.reg f16r2) .ret) .skip)) (.seq (.draw f16r3) .ret)))⟩

-- fingerpost/slate.New
def f17r0 : List AOper := [
  ⟨(some 2), .move (.c .nilp), none⟩,
  ⟨(some 3), .move (.c (.int .i64 0)), none⟩]
def f17r1 : List AOper := [
  ⟨(some 4), .move (.t 0), none⟩,
  ⟨(some 5), .bin .lss (.t 4) (.c (.int .i64 1)), none⟩,
  ⟨(some 6), .move (.t 5), none⟩,
  ⟨(some 7), .move (.t 0), some ((some 6), false)⟩,
  ⟨(some 8), .bin .gtr (.t 7) (.c (.int .i64 4096)), some ((some 6), false)⟩,
  ⟨(some 9), .pick (.t 6) (.c (.bool true)) (.t 8), none⟩]
def f17r2 : List AOper := [
  ⟨(some 2), .move (.c .nilp), none⟩,
  ⟨(some 3), .move (.c (.int .i64 1)), none⟩]
def f17r3 : List AOper := [
  ⟨(some 10), .move (.t 0), none⟩,
  ⟨(some 11), .mkSlice 47 270649016067 (.t 10) (.t 10), none⟩,
  ⟨(some 12), .build 171 [(0, (.t 11)), (2, (.c (.int .i64 (-1))))], none⟩,
  ⟨(some 13), .box 171 (.agg 171) (.t 12), none⟩,
  ⟨(some 2), .move (.t 13), none⟩,
  ⟨(some 3), .move (.c (.int .i64 0)), none⟩]
def f17 : AFunc := ⟨[.tmp 2, .tmp 3], (.seq (.reg f17r0) (.seq (.seq (.reg f17r1) (.cond (.t 9) (.seq (.reg f17r2) .ret) .skip)) (.seq (.reg f17r3) .ret)))⟩

-- fingerpost/fingerposttop.WholeSectorsExchanged$1
def f18r0 : List AOper := [
  ⟨(some 3), .box 44 (.agg 44) (.t 1), none⟩,
  ⟨(some 4), .move (.c (.int .i64 0)), none⟩]
def f18r1 : List AOper := [
  ⟨(some 7), .fieldAddr 44 0 4 (.t 3), none⟩,
  ⟨(some 8), .load 4 (.t 7), none⟩]
def f18r2 : List AOper := [
  ⟨(some 9), .move (.t 0), none⟩,
  ⟨(some 10), .call 19 [(.t 9)], none⟩,
  ⟨(some 4), .move (.t 10), none⟩]
def f18r3 : List AOper := [
  ⟨(some 5), .alloc 47, none⟩]
def f18r4 : List AOper := [
  ⟨(some 11), .move (.c (.int .i64 0)), none⟩]
def f18r5 : List AOper := [
  ⟨(some 12), .bin .lss (.t 11) (.c (.int .i64 64)), none⟩]
def f18r6 : List AOper := [
  ⟨(some 13), .move (.t 11), none⟩,
  ⟨(some 6), .move (.t 13), none⟩]
def f18r7 : List AOper := [
  ⟨(some 14), .move (.t 6), none⟩,
  ⟨(some 15), .fieldAddr 44 2 5 (.t 3), none⟩,
  ⟨(some 16), .load 5 (.t 15), none⟩,
  ⟨(some 17), .move (.t 6), none⟩,
  ⟨(some 18), .conv .u8 (.t 17), none⟩,
  ⟨(some 19), .bin .add (.t 16) (.t 18), none⟩,
  ⟨(some 20), .idxA 64 47 5 (.t 5) (.t 14), none⟩,
  ⟨none, .store 5 (.int .u8) (.t 20) (.t 19), none⟩]
def f18r8 : List AOper := [
  ⟨(some 21), .bin .add (.t 11) (.c (.int .i64 1)), none⟩,
  ⟨(some 11), .move (.t 21), none⟩]
def f18r9 : List AOper := [
  ⟨(some 22), .move (.t 0), none⟩,
  ⟨(some 23), .fieldAddr 44 1 3 (.t 3), none⟩,
  ⟨(some 24), .load 3 (.t 23), none⟩,
  ⟨(some 25), .load 47 (.t 5), none⟩,
  ⟨(some 26), .call 20 [(.t 22), (.t 24), (.t 25)], none⟩,
  ⟨(some 4), .move (.t 26), none⟩]
def f18 : AFunc := ⟨[.tmp 4], (.seq (.reg f18r0) (.seq (.seq (.reg f18r1) (.cond (.t 8) (.seq (.reg f18r2) .ret) .skip)) (.seq (.reg f18r3) (.seq (.seq (.reg f18r4) (.block 0 (.loop (.seq (.reg f18r5) (.seq (.cond (.t 12) .skip (.exit 0)) (.seq (.block 1 (.seq (.reg f18r6) (.reg f18r7))) (.reg f18r8))))))) (.seq (.reg f18r9) .ret)))))⟩

-- (*fingerpost/slate.Slate).Flush
def f19r0 : List AOper := [
  ⟨(some 2), .move (.c (.int .i64 0)), none⟩]
def f19r1 : List AOper := [
  ⟨(some 6), .move (.t 0), none⟩,
  ⟨(some 7), .call 81 [(.t 6)], none⟩,
  ⟨(some 3), .move (.t 7), none⟩]
def f19r2 : List AOper := [
  ⟨(some 8), .move (.t 3), none⟩,
  ⟨(some 9), .bin .neq (.t 8) (.c (.int .i64 0)), none⟩]
def f19r3 : List AOper := [
  ⟨(some 10), .move (.t 3), none⟩,
  ⟨(some 2), .move (.t 10), none⟩]
def f19r4 : List AOper := [
  ⟨(some 11), .move (.t 0), none⟩,
  ⟨(some 12), .call 82 [(.t 11)], none⟩,
  ⟨(some 13), .un .not (.t 12), none⟩]
def f19r5 : List AOper := [
  ⟨(some 2), .move (.c (.int .i64 5)), none⟩]
def f19r6 : List AOper := [
  ⟨(some 14), .move (.t 0), none⟩,
  ⟨(some 15), .nilCheck (.t 14), none⟩,
  ⟨(some 16), .fieldAddr 171 1 170 (.t 15), none⟩,
  ⟨(some 17), .load 170 (.t 16), none⟩,
  ⟨(some 18), .lenS (.t 17), none⟩,
  ⟨(some 19), .move (.c (.int .i64 0)), none⟩]
def f19r7 : List AOper := [
  ⟨(some 20), .bin .lss (.t 19) (.t 18), none⟩]
def f19r8 : List AOper := [
  ⟨(some 21), .idxS 173 (.t 17) (.t 19), none⟩,
  ⟨(some 22), .load 173 (.t 21), none⟩,
  ⟨(some 5), .alloc 173, none⟩,
  ⟨none, .store 173 (.agg 173) (.t 5) (.t 22), none⟩]
def f19r9 : List (AOper × List Nat) := [
  (⟨(some 23), .move (.t 0), none⟩, []),
  (⟨(some 24), .nilCheck (.t 23), none⟩, []),
  (⟨(some 25), .fieldAddr 171 0 169 (.t 24), none⟩, []),
  (⟨(some 26), .load 169 (.t 25), none⟩, []),
  (⟨(some 27), .fieldAddr 173 0 3 (.t 5), none⟩, []),
  (⟨(some 28), .load 3 (.t 27), none⟩, []),
  (⟨(some 29), .fieldAddr 173 1 47 (.t 5), none⟩, []),
  (⟨(some 30), .load 47 (.t 29), none⟩, []),
  (⟨(some 31), .idxS 47 (.t 26) (.t 28), none⟩, []),
  (⟨none, .store 47 (.agg 47) (.t 31) (.t 30), none⟩, [])]
def f19r10 : List AOper := [
  ⟨(some 32), .bin .add (.t 19) (.c (.int .i64 1)), none⟩,
  ⟨(some 19), .move (.t 32), none⟩]
def f19r11 : List AOper := [
  ⟨(some 33), .move (.t 0), none⟩,
  ⟨(some 34), .nilCheck (.t 33), none⟩,
  ⟨(some 35), .fieldAddr 171 1 170 (.t 34), none⟩,
  ⟨none, .store 170 .slice (.t 35) (.c .nils), none⟩]
def f19r12 : List AOper := [
  ⟨(some 2), .move (.c (.int .i64 0)), none⟩]
def f19 : AFunc := ⟨[.tmp 2], (.seq (.reg f19r0) (.seq (.seq (.reg f19r1) (.seq (.reg f19r2) (.cond (.t 9) (.seq (.reg f19r3) .ret) .skip))) (.seq (.seq (.reg f19r4) (.cond (.t 13) (.seq (.reg f19r5) .ret) .skip)) (.seq (.seq (.reg f19r6) (.block 0 (.loop (.seq (.reg f19r7) (.seq (.cond (.t 20) .skip (.exit 0)) (.seq (.block 1 (.seq (.reg f19r8) (.draw f19r9))) (.reg f19r10))))))) (.seq (.reg f19r11) (.seq (.reg f19r12) .ret))))))⟩

-- (*fingerpost/slate.Slate).Write
def f20r0 : List AOper := [
  ⟨(some 5), .box 47 (.agg 47) (.t 2), none⟩,
  ⟨(some 6), .move (.c (.int .i64 0)), none⟩]
def f20r1 : List AOper := [
  ⟨(some 8), .move (.t 0), none⟩,
  ⟨(some 9), .call 81 [(.t 8)], none⟩,
  ⟨(some 7), .move (.t 9), none⟩]
def f20r2 : List AOper := [
  ⟨(some 10), .move (.t 7), none⟩,
  ⟨(some 11), .bin .neq (.t 10) (.c (.int .i64 0)), none⟩]
def f20r3 : List AOper := [
  ⟨(some 12), .move (.t 7), none⟩,
  ⟨(some 6), .move (.t 12), none⟩]
def f20r4 : List AOper := [
  ⟨(some 14), .move (.t 1), none⟩,
  ⟨(some 15), .bin .lss (.t 14) (.c (.int .i64 0)), none⟩,
  ⟨(some 16), .move (.t 15), none⟩,
  ⟨(some 17), .move (.t 1), some ((some 16), false)⟩,
  ⟨(some 18), .move (.t 0), some ((some 16), false)⟩,
  ⟨(some 19), .nilCheck (.t 18), some ((some 16), false)⟩,
  ⟨(some 20), .fieldAddr 171 0 169 (.t 19), some ((some 16), false)⟩,
  ⟨(some 21), .load 169 (.t 20), some ((some 16), false)⟩,
  ⟨(some 22), .lenS (.t 21), some ((some 16), false)⟩,
  ⟨(some 23), .bin .geq (.t 17) (.t 22), some ((some 16), false)⟩,
  ⟨(some 24), .pick (.t 16) (.c (.bool true)) (.t 23), none⟩,
  ⟨(some 13), .move (.t 24), none⟩]
def f20r5 : List AOper := [
  ⟨(some 6), .move (.c (.int .i64 1)), none⟩]
def f20r6 : List AOper := [
  ⟨(some 26), .move (.t 0), none⟩,
  ⟨(some 27), .call 82 [(.t 26)], none⟩,
  ⟨(some 28), .un .not (.t 27), none⟩,
  ⟨(some 25), .move (.t 28), none⟩]
def f20r7 : List AOper := [
  ⟨(some 6), .move (.c (.int .i64 5)), none⟩]
def f20r8 : List (AOper × List Nat) := [
  (⟨(some 29), .move (.t 0), none⟩, []),
  (⟨(some 30), .move (.t 0), none⟩, []),
  (⟨(some 31), .nilCheck (.t 30), none⟩, []),
  (⟨(some 32), .fieldAddr 171 1 170 (.t 31), none⟩, []),
  (⟨(some 33), .load 170 (.t 32), none⟩, []),
  (⟨(some 34), .move (.t 1), none⟩, []),
  (⟨(some 35), .load 47 (.t 5), none⟩, []),
  (⟨(some 36), .build 173 [(0, (.t 34)), (1, (.t 35))], none⟩, []),
  (⟨(some 37), .buildSlice 173 1 [(0, (.t 36))], none⟩, []),
  (⟨(some 38), .append 173 false 240988849923 (.t 33) (.t 37), none⟩, []),
  (⟨(some 39), .nilCheck (.t 29), none⟩, []),
  (⟨(some 40), .fieldAddr 171 1 170 (.t 39), none⟩, []),
  (⟨none, .store 170 .slice (.t 40) (.t 38), none⟩, [])]
def f20r9 : List AOper := [
  ⟨(some 6), .move (.c (.int .i64 0)), none⟩]
def f20 : AFunc := ⟨[.tmp 6], (.seq (.reg f20r0) (.seq (.seq (.reg f20r1) (.seq (.reg f20r2) (.cond (.t 11) (.seq (.reg f20r3) .ret) .skip))) (.seq (.block 0 (.seq (.reg f20r4) (.cond (.t 13) (.seq (.reg f20r5) .ret) (.seq (.reg f20r6) (.cond (.t 25) (.seq (.reg f20r7) .ret) .skip))))) (.seq (.draw f20r8) (.seq (.reg f20r9) .ret)))))⟩

-- fingerpost/fingerposttop.WholeSectorsExchanged$2
def f21r0 : List AOper := [
  ⟨(some 3), .move (.c (.bool false)), none⟩]
def f21r1 : List AOper := [
  ⟨(some 9), .load 3 (.t 0), none⟩,
  ⟨(some 10), .bin .add (.t 9) (.c (.int .i64 1)), none⟩,
  ⟨(some 11), .move (.c (.int .i64 0)), none⟩]
def f21r2 : List AOper := [
  ⟨(some 12), .bin .lss (.t 11) (.t 10), none⟩]
def f21r3 : List AOper := [
  ⟨(some 13), .move (.t 11), none⟩,
  ⟨(some 4), .move (.t 13), none⟩]
def f21r4 : List AOper := [
  ⟨(some 15), .load 40 (.t 1), none⟩,
  ⟨(some 16), .move (.t 4), none⟩,
  ⟨(some 17), .call 22 [(.t 15), (.t 16)], none⟩,
  ⟨(some 14), .move (.t 17), none⟩,
  ⟨(some 18), .extract 0 (.t 14), none⟩,
  ⟨(some 19), .extract 1 (.t 14), none⟩,
  ⟨(some 5), .alloc 47, none⟩,
  ⟨none, .store 47 (.agg 47) (.t 5) (.t 18), none⟩,
  ⟨(some 6), .move (.t 19), none⟩]
def f21r5 : List AOper := [
  ⟨(some 21), .load 40 (.t 2), none⟩,
  ⟨(some 22), .move (.t 4), none⟩,
  ⟨(some 23), .call 22 [(.t 21), (.t 22)], none⟩,
  ⟨(some 20), .move (.t 23), none⟩,
  ⟨(some 24), .extract 0 (.t 20), none⟩,
  ⟨(some 25), .extract 1 (.t 20), none⟩,
  ⟨(some 7), .alloc 47, none⟩,
  ⟨none, .store 47 (.agg 47) (.t 7) (.t 24), none⟩,
  ⟨(some 8), .move (.t 25), none⟩]
def f21r6 : List AOper := [
  ⟨(some 26), .load 47 (.t 5), none⟩,
  ⟨(some 27), .load 47 (.t 7), none⟩,
  ⟨(some 28), .eqv true (.agg 47) (.t 26) (.t 27), none⟩,
  ⟨(some 29), .move (.t 28), none⟩,
  ⟨(some 30), .move (.t 6), some ((some 29), false)⟩,
  ⟨(some 31), .move (.t 8), some ((some 29), false)⟩,
  ⟨(some 32), .bin .neq (.t 30) (.t 31), some ((some 29), false)⟩,
  ⟨(some 33), .pick (.t 29) (.c (.bool true)) (.t 32), none⟩]
def f21r7 : List AOper := [
  ⟨(some 3), .move (.c (.bool false)), none⟩]
def f21r8 : List AOper := [
  ⟨(some 34), .bin .add (.t 11) (.c (.int .i64 1)), none⟩,
  ⟨(some 11), .move (.t 34), none⟩]
def f21r9 : List (AOper × List Nat) := [
  (⟨(some 35), .load 40 (.t 1), none⟩, []),
  (⟨(some 36), .call 23 [(.t 35)], none⟩, []),
  (⟨(some 37), .load 40 (.t 2), none⟩, [1]),
  (⟨(some 38), .call 23 [(.t 37)], none⟩, []),
  (⟨(some 39), .bin .eql (.t 36) (.t 38), none⟩, []),
  (⟨(some 40), .move (.t 39), none⟩, []),
  (⟨(some 41), .load 40 (.t 1), some ((some 40), true)⟩, []),
  (⟨(some 42), .call 24 [(.t 41)], some ((some 40), true)⟩, []),
  (⟨(some 43), .load 40 (.t 2), some ((some 40), true)⟩, [7]),
  (⟨(some 44), .call 24 [(.t 43)], some ((some 40), true)⟩, []),
  (⟨(some 45), .bin .eql (.t 42) (.t 44), some ((some 40), true)⟩, []),
  (⟨(some 46), .pick (.t 40) (.t 45) (.c (.bool false)), none⟩, []),
  (⟨(some 47), .move (.t 46), none⟩, []),
  (⟨(some 48), .load 40 (.t 1), some ((some 47), true)⟩, []),
  (⟨(some 49), .call 25 [(.t 48)], some ((some 47), true)⟩, []),
  (⟨(some 50), .load 40 (.t 2), some ((some 47), true)⟩, [14]),
  (⟨(some 51), .call 25 [(.t 50)], some ((some 47), true)⟩, []),
  (⟨(some 52), .bin .eql (.t 49) (.t 51), some ((some 47), true)⟩, []),
  (⟨(some 53), .pick (.t 47) (.t 52) (.c (.bool false)), none⟩, []),
  (⟨(some 3), .move (.t 53), none⟩, [])]
def f21 : AFunc := ⟨[.tmp 3], (.seq (.reg f21r0) (.seq (.seq (.reg f21r1) (.block 0 (.loop (.seq (.reg f21r2) (.seq (.cond (.t 12) .skip (.exit 0)) (.seq (.block 1 (.seq (.reg f21r3) (.seq (.reg f21r4) (.seq (.reg f21r5) (.seq (.reg f21r6) (.cond (.t 33) (.seq (.reg f21r7) .ret) .skip)))))) (.reg f21r8))))))) (.seq (.draw f21r9) .ret)))⟩

-- (*fingerpost/slate.Slate).Read
def f22r0 : List AOper := [
  ⟨(some 4), .alloc 47, none⟩,
  ⟨(some 5), .move (.c (.int .i64 0)), none⟩]
def f22r1 : List AOper := [
  ⟨(some 8), .move (.t 0), none⟩,
  ⟨(some 9), .call 81 [(.t 8)], none⟩,
  ⟨(some 6), .move (.t 9), none⟩]
def f22r2 : List AOper := [
  ⟨(some 10), .move (.t 6), none⟩,
  ⟨(some 11), .bin .neq (.t 10) (.c (.int .i64 0)), none⟩]
def f22r3 : List AOper := [
  ⟨(some 12), .build 47 [], none⟩,
  ⟨(some 13), .move (.t 6), none⟩,
  ⟨none, .store 47 (.agg 47) (.t 4) (.t 12), none⟩,
  ⟨(some 5), .move (.t 13), none⟩]
def f22r4 : List AOper := [
  ⟨(some 14), .move (.t 1), none⟩,
  ⟨(some 15), .bin .lss (.t 14) (.c (.int .i64 0)), none⟩,
  ⟨(some 16), .move (.t 15), none⟩,
  ⟨(some 17), .move (.t 1), some ((some 16), false)⟩,
  ⟨(some 18), .move (.t 0), some ((some 16), false)⟩,
  ⟨(some 19), .nilCheck (.t 18), some ((some 16), false)⟩,
  ⟨(some 20), .fieldAddr 171 0 169 (.t 19), some ((some 16), false)⟩,
  ⟨(some 21), .load 169 (.t 20), some ((some 16), false)⟩,
  ⟨(some 22), .lenS (.t 21), some ((some 16), false)⟩,
  ⟨(some 23), .bin .geq (.t 17) (.t 22), some ((some 16), false)⟩,
  ⟨(some 24), .pick (.t 16) (.c (.bool true)) (.t 23), none⟩]
def f22r5 : List AOper := [
  ⟨(some 25), .build 47 [], none⟩,
  ⟨none, .store 47 (.agg 47) (.t 4) (.t 25), none⟩,
  ⟨(some 5), .move (.c (.int .i64 1)), none⟩]
def f22r6 : List AOper := [
  ⟨(some 26), .move (.t 0), none⟩,
  ⟨(some 27), .nilCheck (.t 26), none⟩,
  ⟨(some 28), .fieldAddr 171 1 170 (.t 27), none⟩,
  ⟨(some 29), .load 170 (.t 28), none⟩,
  ⟨(some 30), .lenS (.t 29), none⟩,
  ⟨(some 31), .bin .sub (.t 30) (.c (.int .i64 1)), none⟩,
  ⟨(some 7), .move (.t 31), none⟩]
def f22r7 : List AOper := [
  ⟨(some 32), .move (.t 7), none⟩,
  ⟨(some 33), .bin .geq (.t 32) (.c (.int .i64 0)), none⟩]
def f22r8 : List AOper := [
  ⟨(some 36), .move (.t 0), none⟩,
  ⟨(some 37), .nilCheck (.t 36), none⟩,
  ⟨(some 38), .fieldAddr 171 1 170 (.t 37), none⟩,
  ⟨(some 39), .load 170 (.t 38), none⟩,
  ⟨(some 40), .move (.t 7), none⟩,
  ⟨(some 41), .idxS 173 (.t 39) (.t 40), none⟩,
  ⟨(some 42), .fieldAddr 173 0 3 (.t 41), none⟩,
  ⟨(some 43), .load 3 (.t 42), none⟩,
  ⟨(some 44), .move (.t 1), none⟩,
  ⟨(some 45), .bin .eql (.t 43) (.t 44), none⟩]
def f22r9 : List AOper := [
  ⟨(some 46), .move (.t 0), none⟩,
  ⟨(some 47), .nilCheck (.t 46), none⟩,
  ⟨(some 48), .fieldAddr 171 1 170 (.t 47), none⟩,
  ⟨(some 49), .load 170 (.t 48), none⟩,
  ⟨(some 50), .move (.t 7), none⟩,
  ⟨(some 51), .idxS 173 (.t 49) (.t 50), none⟩,
  ⟨(some 52), .fieldAddr 173 1 47 (.t 51), none⟩,
  ⟨(some 53), .load 47 (.t 52), none⟩,
  ⟨none, .store 47 (.agg 47) (.t 4) (.t 53), none⟩,
  ⟨(some 5), .move (.c (.int .i64 0)), none⟩]
def f22r10 : List AOper := [
  ⟨(some 34), .move (.t 7), none⟩,
  ⟨(some 35), .bin .sub (.t 34) (.c (.int .i64 1)), none⟩,
  ⟨(some 7), .move (.t 35), none⟩]
def f22r11 : List AOper := [
  ⟨(some 54), .move (.t 0), none⟩,
  ⟨(some 55), .nilCheck (.t 54), none⟩,
  ⟨(some 56), .fieldAddr 171 0 169 (.t 55), none⟩,
  ⟨(some 57), .load 169 (.t 56), none⟩,
  ⟨(some 58), .move (.t 1), none⟩,
  ⟨(some 59), .idxS 47 (.t 57) (.t 58), none⟩,
  ⟨(some 60), .load 47 (.t 59), none⟩,
  ⟨none, .store 47 (.agg 47) (.t 4) (.t 60), none⟩,
  ⟨(some 5), .move (.c (.int .i64 0)), none⟩]
def f22 : AFunc := ⟨[.cell 4 47, .tmp 5], (.seq (.reg f22r0) (.seq (.seq (.reg f22r1) (.seq (.reg f22r2) (.cond (.t 11) (.seq (.reg f22r3) .ret) .skip))) (.seq (.seq (.reg f22r4) (.cond (.t 24) (.seq (.reg f22r5) .ret) .skip)) (.seq (.seq (.reg f22r6) (.block 0 (.loop (.seq (.seq (.reg f22r7) (.cond (.t 33) .skip (.exit 0))) (.seq (.block 1 (.seq (.reg f22r8) (.cond (.t 45) (.seq (.reg f22r9) .ret) .skip))) (.reg f22r10)))))) (.seq (.reg f22r11) .ret)))))⟩

-- (*fingerpost/slate.Slate).Loose
def f23r0 : List AOper := [
  ⟨(some 2), .move (.c (.int .i64 0)), none⟩]
def f23r1 : List AOper := [
  ⟨(some 3), .move (.t 0), none⟩,
  ⟨(some 4), .eqv false .ptr (.t 3) (.c .nilp), none⟩]
def f23r2 : List AOper := [
  ⟨(some 2), .move (.c (.int .i64 0)), none⟩]
def f23r3 : List AOper := [
  ⟨(some 5), .move (.t 0), none⟩,
  ⟨(some 6), .nilCheck (.t 5), none⟩,
  ⟨(some 7), .fieldAddr 171 1 170 (.t 6), none⟩,
  ⟨(some 8), .load 170 (.t 7), none⟩,
  ⟨(some 9), .lenS (.t 8), none⟩,
  ⟨(some 2), .move (.t 9), none⟩]
def f23 : AFunc := ⟨[.tmp 2], (.seq (.reg f23r0) (.seq (.seq (.reg f23r1) (.cond (.t 4) (.seq (.reg f23r2) .ret) .skip)) (.seq (.reg f23r3) .ret)))⟩

-- (*fingerpost/slate.Slate).Steps
def f24r0 : List AOper := [
  ⟨(some 2), .move (.c (.int .i64 0)), none⟩]
def f24r1 : List AOper := [
  ⟨(some 3), .move (.t 0), none⟩,
  ⟨(some 4), .eqv false .ptr (.t 3) (.c .nilp), none⟩]
def f24r2 : List AOper := [
  ⟨(some 2), .move (.c (.int .i64 0)), none⟩]
def f24r3 : List AOper := [
  ⟨(some 5), .move (.t 0), none⟩,
  ⟨(some 6), .nilCheck (.t 5), none⟩,
  ⟨(some 7), .fieldAddr 171 4 3 (.t 6), none⟩,
  ⟨(some 8), .load 3 (.t 7), none⟩,
  ⟨(some 2), .move (.t 8), none⟩]
def f24 : AFunc := ⟨[.tmp 2], (.seq (.reg f24r0) (.seq (.seq (.reg f24r1) (.cond (.t 4) (.seq (.reg f24r2) .ret) .skip)) (.seq (.reg f24r3) .ret)))⟩

-- (*fingerpost/slate.Slate).Sectors
def f25r0 : List AOper := [
  ⟨(some 2), .move (.c (.int .i64 0)), none⟩]
def f25r1 : List AOper := [
  ⟨(some 3), .move (.t 0), none⟩,
  ⟨(some 4), .eqv false .ptr (.t 3) (.c .nilp), none⟩]
def f25r2 : List AOper := [
  ⟨(some 2), .move (.c (.int .i64 0)), none⟩]
def f25r3 : List AOper := [
  ⟨(some 5), .move (.t 0), none⟩,
  ⟨(some 6), .nilCheck (.t 5), none⟩,
  ⟨(some 7), .fieldAddr 171 0 169 (.t 6), none⟩,
  ⟨(some 8), .load 169 (.t 7), none⟩,
  ⟨(some 9), .lenS (.t 8), none⟩,
  ⟨(some 2), .move (.t 9), none⟩]
def f25 : AFunc := ⟨[.tmp 2], (.seq (.reg f25r0) (.seq (.seq (.reg f25r1) (.cond (.t 4) (.seq (.reg f25r2) .ret) .skip)) (.seq (.reg f25r3) .ret)))⟩

-- (*fingerpost/slate.Slate).Crash
def f26r0 : List AOper := [
  ⟨(some 6), .move (.c (.int .i64 0)), none⟩]
def f26r1 : List AOper := [
  ⟨(some 11), .move (.t 0), none⟩,
  ⟨(some 12), .eqv false .ptr (.t 11) (.c .nilp), none⟩]
def f26r2 : List AOper := [
  ⟨(some 6), .move (.c (.int .i64 2)), none⟩]
def f26r3 : List AOper := [
  ⟨(some 13), .move (.t 1), none⟩,
  ⟨(some 14), .move (.t 0), none⟩,
  ⟨(some 15), .nilCheck (.t 14), none⟩,
  ⟨(some 16), .fieldAddr 171 1 170 (.t 15), none⟩,
  ⟨(some 17), .load 170 (.t 16), none⟩,
  ⟨(some 18), .lenS (.t 17), none⟩,
  ⟨(some 19), .minmax false (.t 13) (.t 18), none⟩,
  ⟨(some 20), .minmax true (.c (.int .i64 0)) (.t 19), none⟩,
  ⟨(some 1), .move (.t 20), none⟩]
def f26r4 : List AOper := [
  ⟨(some 21), .move (.t 0), none⟩,
  ⟨(some 22), .nilCheck (.t 21), none⟩,
  ⟨(some 23), .fieldAddr 171 1 170 (.t 22), none⟩,
  ⟨(some 24), .load 170 (.t 23), none⟩,
  ⟨(some 25), .move (.t 1), none⟩,
  ⟨(some 26), .sliceS 173 (.t 24) none (some (.t 25)), none⟩,
  ⟨(some 27), .lenS (.t 26), none⟩,
  ⟨(some 28), .move (.c (.int .i64 0)), none⟩]
def f26r5 : List AOper := [
  ⟨(some 29), .bin .lss (.t 28) (.t 27), none⟩]
def f26r6 : List AOper := [
  ⟨(some 30), .idxS 173 (.t 26) (.t 28), none⟩,
  ⟨(some 31), .load 173 (.t 30), none⟩,
  ⟨(some 8), .alloc 173, none⟩,
  ⟨none, .store 173 (.agg 173) (.t 8) (.t 31), none⟩]
def f26r7 : List (AOper × List Nat) := [
  (⟨(some 32), .move (.t 0), none⟩, []),
  (⟨(some 33), .nilCheck (.t 32), none⟩, []),
  (⟨(some 34), .fieldAddr 171 0 169 (.t 33), none⟩, []),
  (⟨(some 35), .load 169 (.t 34), none⟩, []),
  (⟨(some 36), .fieldAddr 173 0 3 (.t 8), none⟩, []),
  (⟨(some 37), .load 3 (.t 36), none⟩, []),
  (⟨(some 38), .fieldAddr 173 1 47 (.t 8), none⟩, []),
  (⟨(some 39), .load 47 (.t 38), none⟩, []),
  (⟨(some 40), .idxS 47 (.t 35) (.t 37), none⟩, []),
  (⟨none, .store 47 (.agg 47) (.t 40) (.t 39), none⟩, [])]
def f26r8 : List AOper := [
  ⟨(some 41), .bin .add (.t 28) (.c (.int .i64 1)), none⟩,
  ⟨(some 28), .move (.t 41), none⟩]
def f26r9 : List AOper := [
  ⟨(some 42), .move (.t 1), none⟩,
  ⟨(some 43), .move (.t 0), none⟩,
  ⟨(some 44), .nilCheck (.t 43), none⟩,
  ⟨(some 45), .fieldAddr 171 1 170 (.t 44), none⟩,
  ⟨(some 46), .load 170 (.t 45), none⟩,
  ⟨(some 47), .lenS (.t 46), none⟩,
  ⟨(some 48), .bin .lss (.t 42) (.t 47), none⟩]
def f26r10 : List AOper := [
  ⟨(some 49), .move (.t 0), none⟩,
  ⟨(some 50), .nilCheck (.t 49), none⟩,
  ⟨(some 51), .fieldAddr 171 1 170 (.t 50), none⟩,
  ⟨(some 52), .load 170 (.t 51), none⟩,
  ⟨(some 53), .move (.t 1), none⟩,
  ⟨(some 54), .idxS 173 (.t 52) (.t 53), none⟩,
  ⟨(some 55), .load 173 (.t 54), none⟩,
  ⟨(some 9), .alloc 173, none⟩,
  ⟨none, .store 173 (.agg 173) (.t 9) (.t 55), none⟩]
def f26r11 : List AOper := [
  ⟨(some 56), .move (.t 2), none⟩,
  ⟨(some 57), .minmax false (.t 56) (.c (.int .i64 64)), none⟩,
  ⟨(some 58), .minmax true (.c (.int .i64 0)) (.t 57), none⟩,
  ⟨(some 10), .move (.t 58), none⟩]
def f26r12 : List (AOper × List Nat) := [
  (⟨(some 59), .move (.t 0), none⟩, []),
  (⟨(some 60), .nilCheck (.t 59), none⟩, []),
  (⟨(some 61), .fieldAddr 171 0 169 (.t 60), none⟩, []),
  (⟨(some 62), .load 169 (.t 61), none⟩, []),
  (⟨(some 63), .fieldAddr 173 0 3 (.t 9), none⟩, []),
  (⟨(some 64), .load 3 (.t 63), none⟩, []),
  (⟨(some 65), .idxS 47 (.t 62) (.t 64), none⟩, []),
  (⟨(some 66), .move (.t 10), none⟩, []),
  (⟨(some 67), .sliceA 64 47 5 (.t 65) none (some (.t 66)), none⟩, []),
  (⟨(some 68), .fieldAddr 173 1 47 (.t 9), none⟩, []),
  (⟨(some 69), .move (.t 10), none⟩, []),
  (⟨(some 70), .sliceA 64 47 5 (.t 68) none (some (.t 69)), none⟩, []),
  (⟨(some 71), .copy 5 false (.t 67) (.t 70), none⟩, [])]
def f26r13 : List AOper := [
  ⟨(some 72), .move (.t 0), none⟩,
  ⟨(some 73), .move (.t 0), none⟩,
  ⟨(some 74), .move (.t 0), none⟩,
  ⟨(some 75), .nilCheck (.t 72), none⟩,
  ⟨(some 76), .fieldAddr 171 1 170 (.t 75), none⟩,
  ⟨none, .store 170 .slice (.t 76) (.c .nils), none⟩,
  ⟨(some 77), .nilCheck (.t 73), none⟩,
  ⟨(some 78), .fieldAddr 171 2 3 (.t 77), none⟩,
  ⟨none, .store 3 (.int .i64) (.t 78) (.c (.int .i64 (-1))), none⟩,
  ⟨(some 79), .nilCheck (.t 74), none⟩,
  ⟨(some 80), .fieldAddr 171 3 4 (.t 79), none⟩,
  ⟨none, .store 4 .bool (.t 80) (.c (.bool false)), none⟩]
def f26r14 : List AOper := [
  ⟨(some 6), .move (.c (.int .i64 0)), none⟩]
def f26 : AFunc := ⟨[.tmp 6], (.seq (.reg f26r0) (.seq (.seq (.reg f26r1) (.cond (.t 12) (.seq (.reg f26r2) .ret) .skip)) (.seq (.reg f26r3) (.seq (.seq (.reg f26r4) (.block 0 (.loop (.seq (.reg f26r5) (.seq (.cond (.t 29) .skip (.exit 0)) (.seq (.block 1 (.seq (.reg f26r6) (.draw f26r7))) (.reg f26r8))))))) (.seq (.seq (.reg f26r9) (.cond (.t 48) (.seq (.reg f26r10) (.seq (.reg f26r11) (.draw f26r12))) .skip)) (.seq (.reg f26r13) (.seq (.reg f26r14) .ret)))))))⟩

-- fingerpost/grove.Height
def f27r0 : List AOper := [
  ⟨(some 2), .move (.c (.int .i64 0)), none⟩]
def f27r1 : List AOper := [
  ⟨(some 4), .move (.c (.int .i64 0)), none⟩]
def f27r2 : List AOper := [
  ⟨(some 5), .bin .lss (.t 4) (.c (.int .i64 7)), none⟩]
def f27r3 : List AOper := [
  ⟨(some 6), .move (.t 4), none⟩,
  ⟨(some 3), .move (.t 6), none⟩]
def f27r4 : List AOper := [
  ⟨(some 7), .move (.t 0), none⟩,
  ⟨(some 8), .move (.t 3), none⟩,
  ⟨(some 9), .bin .shl (.c (.int .i64 1)) (.t 8), none⟩,
  ⟨(some 10), .bin .eql (.t 7) (.t 9), none⟩]
def f27r5 : List AOper := [
  ⟨(some 11), .move (.t 3), none⟩,
  ⟨(some 2), .move (.t 11), none⟩]
def f27r6 : List AOper := [
  ⟨(some 12), .bin .add (.t 4) (.c (.int .i64 1)), none⟩,
  ⟨(some 4), .move (.t 12), none⟩]
def f27r7 : List AOper := [
  ⟨(some 2), .move (.c (.int .i64 (-1))), none⟩]
def f27 : AFunc := ⟨[.tmp 2], (.seq (.reg f27r0) (.seq (.seq (.reg f27r1) (.block 0 (.loop (.seq (.reg f27r2) (.seq (.cond (.t 5) .skip (.exit 0)) (.seq (.block 1 (.seq (.reg f27r3) (.seq (.reg f27r4) (.cond (.t 10) (.seq (.reg f27r5) .ret) .skip)))) (.reg f27r6))))))) (.seq (.reg f27r7) .ret)))⟩

-- fingerpost/grove.New
def f28r0 : List AOper := [
  ⟨(some 6), .move (.c .nilp), none⟩,
  ⟨(some 7), .move (.c (.int .i64 0)), none⟩]
def f28r1 : List AOper := [
  ⟨(some 13), .move (.t 2), none⟩,
  ⟨(some 14), .lenS (.t 13), none⟩,
  ⟨(some 15), .call 27 [(.t 14)], none⟩,
  ⟨(some 16), .bin .lss (.t 15) (.c (.int .i64 0)), none⟩]
def f28r2 : List AOper := [
  ⟨(some 6), .move (.c .nilp), none⟩,
  ⟨(some 7), .move (.c (.int .i64 1)), none⟩]
def f28r3 : List AOper := [
  ⟨(some 17), .move (.t 0), none⟩,
  ⟨(some 18), .move (.t 1), none⟩,
  ⟨(some 19), .build 176 [(0, (.t 17)), (1, (.t 18))], none⟩,
  ⟨(some 20), .box 176 (.agg 176) (.t 19), none⟩,
  ⟨(some 8), .move (.t 20), none⟩]
def f28r4 : List AOper := [
  ⟨(some 21), .buildSlice 62 0 [], none⟩,
  ⟨(some 22), .move (.t 2), none⟩,
  ⟨(some 23), .append 62 false 1034834473200 (.t 21) (.t 22), none⟩,
  ⟨(some 9), .move (.t 23), none⟩]
def f28r5 : List AOper := [
  ⟨(some 24), .move (.t 8), none⟩,
  ⟨(some 25), .move (.t 8), none⟩,
  ⟨(some 26), .nilCheck (.t 25), none⟩,
  ⟨(some 27), .fieldAddr 176 2 175 (.t 26), none⟩,
  ⟨(some 28), .load 175 (.t 27), none⟩,
  ⟨(some 29), .move (.t 9), none⟩,
  ⟨(some 30), .buildSlice 57 1 [(0, (.t 29))], none⟩,
  ⟨(some 31), .append 57 false 703687441776 (.t 28) (.t 30), none⟩,
  ⟨(some 32), .nilCheck (.t 24), none⟩,
  ⟨(some 33), .fieldAddr 176 2 175 (.t 32), none⟩,
  ⟨none, .store 175 .slice (.t 33) (.t 31), none⟩]
def f28r6 : List AOper := [
  ⟨(some 10), .move (.c (.int .i64 1)), none⟩]
def f28r7 : List AOper := [
  ⟨(some 34), .move (.t 9), none⟩,
  ⟨(some 35), .lenS (.t 34), none⟩,
  ⟨(some 36), .bin .gtr (.t 35) (.c (.int .i64 1)), none⟩]
def f28r8 : List AOper := [
  ⟨(some 39), .move (.t 9), none⟩,
  ⟨(some 40), .lenS (.t 39), none⟩,
  ⟨(some 41), .bin .quo (.t 40) (.c (.int .i64 2)), none⟩,
  ⟨(some 42), .mkSlice 62 1034834473200 (.c (.int .i64 0)) (.t 41), none⟩,
  ⟨(some 11), .move (.t 42), none⟩]
def f28r9 : List AOper := [
  ⟨(some 12), .move (.c (.int .i64 0)), none⟩]
def f28r10 : List AOper := [
  ⟨(some 43), .move (.t 12), none⟩,
  ⟨(some 44), .move (.t 9), none⟩,
  ⟨(some 45), .lenS (.t 44), none⟩,
  ⟨(some 46), .bin .lss (.t 43) (.t 45), none⟩]
def f28r11 : List (AOper × List Nat) := [
  (⟨(some 49), .move (.t 11), none⟩, []),
  (⟨(some 50), .move (.t 0), none⟩, []),
  (⟨(some 51), .move (.t 1), none⟩, []),
  (⟨(some 52), .move (.t 10), none⟩, []),
  (⟨(some 53), .move (.t 9), none⟩, []),
  (⟨(some 54), .move (.t 12), none⟩, []),
  (⟨(some 55), .idxS 62 (.t 53) (.t 54), none⟩, []),
  (⟨(some 56), .load 62 (.t 55), none⟩, []),
  (⟨(some 57), .move (.t 9), none⟩, []),
  (⟨(some 58), .move (.t 12), none⟩, []),
  (⟨(some 59), .bin .add (.t 58) (.c (.int .i64 1)), none⟩, []),
  (⟨(some 60), .idxS 62 (.t 57) (.t 59), none⟩, []),
  (⟨(some 61), .load 62 (.t 60), none⟩, []),
  (⟨(some 62), .call 30 [(.t 50), (.t 51), (.t 52), (.t 56), (.t 61)], none⟩, []),
  (⟨(some 63), .buildSlice 62 1 [(0, (.t 62))], none⟩, []),
  (⟨(some 64), .append 62 false 1034834473200 (.t 49) (.t 63), none⟩, []),
  (⟨(some 11), .move (.t 64), none⟩, [])]
def f28r12 : List AOper := [
  ⟨(some 47), .move (.t 12), none⟩,
  ⟨(some 48), .bin .add (.t 47) (.c (.int .i64 2)), none⟩,
  ⟨(some 12), .move (.t 48), none⟩]
def f28r13 : List AOper := [
  ⟨(some 65), .move (.t 8), none⟩,
  ⟨(some 66), .move (.t 8), none⟩,
  ⟨(some 67), .nilCheck (.t 66), none⟩,
  ⟨(some 68), .fieldAddr 176 2 175 (.t 67), none⟩,
  ⟨(some 69), .load 175 (.t 68), none⟩,
  ⟨(some 70), .move (.t 11), none⟩,
  ⟨(some 71), .buildSlice 57 1 [(0, (.t 70))], none⟩,
  ⟨(some 72), .append 57 false 703687441776 (.t 69) (.t 71), none⟩,
  ⟨(some 73), .move (.t 11), none⟩,
  ⟨(some 74), .nilCheck (.t 65), none⟩,
  ⟨(some 75), .fieldAddr 176 2 175 (.t 74), none⟩,
  ⟨none, .store 175 .slice (.t 75) (.t 72), none⟩,
  ⟨(some 9), .move (.t 73), none⟩]
def f28r14 : List AOper := [
  ⟨(some 37), .move (.t 10), none⟩,
  ⟨(some 38), .bin .add (.t 37) (.c (.int .i64 1)), none⟩,
  ⟨(some 10), .move (.t 38), none⟩]
def f28r15 : List AOper := [
  ⟨(some 76), .move (.t 8), none⟩,
  ⟨(some 6), .move (.t 76), none⟩,
  ⟨(some 7), .move (.c (.int .i64 0)), none⟩]
def f28 : AFunc := ⟨[.tmp 6, .tmp 7], (.seq (.reg f28r0) (.seq (.seq (.reg f28r1) (.cond (.t 16) (.seq (.reg f28r2) .ret) .skip)) (.seq (.reg f28r3) (.seq (.reg f28r4) (.seq (.reg f28r5) (.seq (.seq (.reg f28r6) (.block 0 (.loop (.seq (.seq (.reg f28r7) (.cond (.t 36) .skip (.exit 0))) (.seq (.block 1 (.seq (.reg f28r8) (.seq (.seq (.reg f28r9) (.block 2 (.loop (.seq (.seq (.reg f28r10) (.cond (.t 46) .skip (.exit 2))) (.seq (.block 3 (.draw f28r11)) (.reg f28r12)))))) (.reg f28r13)))) (.reg f28r14)))))) (.seq (.reg f28r15) .ret)))))))⟩

-- (*fingerpost/grove.Grove).Root
def f29r0 : List AOper := [
  ⟨(some 2), .alloc 62, none⟩]
def f29r1 : List AOper := [
  ⟨(some 3), .move (.t 0), none⟩,
  ⟨(some 4), .eqv false .ptr (.t 3) (.c .nilp), none⟩]
def f29r2 : List AOper := [
  ⟨(some 5), .build 62 [], none⟩,
  ⟨none, .store 62 (.agg 62) (.t 2) (.t 5), none⟩]
def f29r3 : List (AOper × List Nat) := [
  (⟨(some 6), .move (.t 0), none⟩, []),
  (⟨(some 7), .nilCheck (.t 6), none⟩, []),
  (⟨(some 8), .fieldAddr 176 2 175 (.t 7), none⟩, []),
  (⟨(some 9), .load 175 (.t 8), none⟩, []),
  (⟨(some 10), .move (.t 0), none⟩, []),
  (⟨(some 11), .nilCheck (.t 10), none⟩, []),
  (⟨(some 12), .fieldAddr 176 2 175 (.t 11), none⟩, []),
  (⟨(some 13), .load 175 (.t 12), none⟩, []),
  (⟨(some 14), .lenS (.t 13), none⟩, []),
  (⟨(some 15), .bin .sub (.t 14) (.c (.int .i64 1)), none⟩, []),
  (⟨(some 16), .idxS 57 (.t 9) (.t 15), none⟩, []),
  (⟨(some 17), .load 57 (.t 16), none⟩, []),
  (⟨(some 18), .idxS 62 (.t 17) (.c (.int .i64 0)), none⟩, []),
  (⟨(some 19), .load 62 (.t 18), none⟩, []),
  (⟨none, .store 62 (.agg 62) (.t 2) (.t 19), none⟩, [])]
def f29 : AFunc := ⟨[.cell 2 62], (.seq (.reg f29r0) (.seq (.seq (.reg f29r1) (.cond (.t 4) (.seq (.reg f29r2) .ret) .skip)) (.seq (.draw f29r3) .ret)))⟩

-- fingerpost/grove.Above
def f30r0 : List AOper := [
  ⟨(some 8), .box 62 (.agg 62) (.t 3), none⟩,
  ⟨(some 9), .box 62 (.agg 62) (.t 4), none⟩,
  ⟨(some 10), .alloc 62, none⟩]
def f30r1 : List (AOper × List Nat) := [
  (⟨(some 11), .move (.t 0), none⟩, []),
  (⟨(some 12), .conv .u8 (.t 11), none⟩, []),
  (⟨(some 13), .move (.t 1), none⟩, []),
  (⟨(some 14), .bin .shr (.t 13) (.c (.int .u64 24)), none⟩, []),
  (⟨(some 15), .conv .u8 (.t 14), none⟩, []),
  (⟨(some 16), .move (.t 1), none⟩, []),
  (⟨(some 17), .bin .shr (.t 16) (.c (.int .u64 16)), none⟩, []),
  (⟨(some 18), .conv .u8 (.t 17), none⟩, []),
  (⟨(some 19), .move (.t 1), none⟩, []),
  (⟨(some 20), .bin .shr (.t 19) (.c (.int .u64 8)), none⟩, []),
  (⟨(some 21), .conv .u8 (.t 20), none⟩, []),
  (⟨(some 22), .move (.t 1), none⟩, []),
  (⟨(some 23), .conv .u8 (.t 22), none⟩, []),
  (⟨(some 24), .move (.t 2), none⟩, []),
  (⟨(some 25), .conv .u8 (.t 24), none⟩, []),
  (⟨(some 26), .buildSlice 5 6 [(0, (.t 12)), (1, (.t 15)), (2, (.t 18)), (3, (.t 21)), (4, (.t 23)), (5, (.t 25))], none⟩, []),
  (⟨(some 27), .sliceA 16 62 5 (.t 8) none none, none⟩, []),
  (⟨(some 28), .sliceA 16 62 5 (.t 9) none none, none⟩, []),
  (⟨(some 29), .buildSlice 39 3 [(0, (.t 26)), (1, (.t 27)), (2, (.t 28))], none⟩, []),
  (⟨(some 30), .call 83 [(.c (.int .u8 71)), (.t 29)], none⟩, []),
  (⟨none, .store 62 (.agg 62) (.t 10) (.t 30), none⟩, [])]
def f30 : AFunc := ⟨[.cell 10 62], (.seq (.reg f30r0) (.seq (.draw f30r1) .ret))⟩

-- (*fingerpost/grove.Grove).Path
def f31r0 : List AOper := [
  ⟨(some 4), .move (.c .nils), none⟩,
  ⟨(some 5), .move (.c (.int .i64 0)), none⟩]
def f31r1 : List AOper := [
  ⟨(some 13), .move (.t 0), none⟩,
  ⟨(some 14), .move (.t 1), none⟩,
  ⟨(some 15), .call 84 [(.t 13), (.t 14)], none⟩,
  ⟨(some 12), .move (.t 15), none⟩,
  ⟨(some 16), .extract 0 (.t 12), none⟩,
  ⟨(some 17), .extract 1 (.t 12), none⟩,
  ⟨(some 6), .alloc 62, none⟩,
  ⟨none, .store 62 (.agg 62) (.t 6) (.t 16), none⟩,
  ⟨(some 7), .move (.t 17), none⟩]
def f31r2 : List AOper := [
  ⟨(some 18), .move (.t 7), none⟩,
  ⟨(some 19), .bin .neq (.t 18) (.c (.int .i64 0)), none⟩]
def f31r3 : List AOper := [
  ⟨(some 20), .move (.t 7), none⟩,
  ⟨(some 4), .move (.c .nils), none⟩,
  ⟨(some 5), .move (.t 20), none⟩]
def f31r4 : List AOper := [
  ⟨(some 21), .buildSlice 62 0 [], none⟩,
  ⟨(some 8), .move (.t 21), none⟩]
def f31r5 : List (AOper × List Nat) := [
  (⟨(some 22), .move (.t 0), none⟩, []),
  (⟨(some 23), .nilCheck (.t 22), none⟩, []),
  (⟨(some 24), .fieldAddr 176 2 175 (.t 23), none⟩, []),
  (⟨(some 25), .load 175 (.t 24), none⟩, []),
  (⟨(some 26), .move (.t 0), none⟩, []),
  (⟨(some 27), .nilCheck (.t 26), none⟩, []),
  (⟨(some 28), .fieldAddr 176 2 175 (.t 27), none⟩, []),
  (⟨(some 29), .load 175 (.t 28), none⟩, []),
  (⟨(some 30), .lenS (.t 29), none⟩, []),
  (⟨(some 31), .bin .sub (.t 30) (.c (.int .i64 1)), none⟩, []),
  (⟨(some 32), .sliceS 57 (.t 25) none (some (.t 31)), none⟩, []),
  (⟨(some 33), .lenS (.t 32), none⟩, []),
  (⟨(some 34), .move (.c (.int .i64 0)), none⟩, [])]
def f31r6 : List AOper := [
  ⟨(some 35), .bin .lss (.t 34) (.t 33), none⟩]
def f31r7 : List AOper := [
  ⟨(some 36), .idxS 57 (.t 32) (.t 34), none⟩,
  ⟨(some 37), .load 57 (.t 36), none⟩,
  ⟨(some 10), .move (.t 37), none⟩]
def f31r8 : List AOper := [
  ⟨(some 38), .move (.t 1), none⟩,
  ⟨(some 39), .bin .add (.t 38) (.c (.int .i64 1)), none⟩,
  ⟨(some 11), .move (.t 39), none⟩]
def f31r9 : List AOper := [
  ⟨(some 40), .move (.t 1), none⟩,
  ⟨(some 41), .bin .rem (.t 40) (.c (.int .i64 2)), none⟩,
  ⟨(some 42), .bin .eql (.t 41) (.c (.int .i64 1)), none⟩]
def f31r10 : List AOper := [
  ⟨(some 43), .move (.t 1), none⟩,
  ⟨(some 44), .bin .sub (.t 43) (.c (.int .i64 1)), none⟩,
  ⟨(some 11), .move (.t 44), none⟩]
def f31r11 : List AOper := [
  ⟨(some 45), .move (.t 8), none⟩,
  ⟨(some 46), .move (.t 10), none⟩,
  ⟨(some 47), .move (.t 11), none⟩,
  ⟨(some 48), .idxS 62 (.t 46) (.t 47), none⟩,
  ⟨(some 49), .load 62 (.t 48), none⟩,
  ⟨(some 50), .buildSlice 62 1 [(0, (.t 49))], none⟩,
  ⟨(some 51), .append 62 false 1034834473200 (.t 45) (.t 50), none⟩,
  ⟨(some 8), .move (.t 51), none⟩]
def f31r12 : List AOper := [
  ⟨(some 52), .move (.t 1), none⟩,
  ⟨(some 53), .bin .quo (.t 52) (.c (.int .i64 2)), none⟩,
  ⟨(some 1), .move (.t 53), none⟩]
def f31r13 : List AOper := [
  ⟨(some 54), .bin .add (.t 34) (.c (.int .i64 1)), none⟩,
  ⟨(some 34), .move (.t 54), none⟩]
def f31r14 : List AOper := [
  ⟨(some 55), .move (.t 8), none⟩,
  ⟨(some 4), .move (.t 55), none⟩,
  ⟨(some 5), .move (.c (.int .i64 0)), none⟩]
def f31 : AFunc := ⟨[.tmp 4, .tmp 5], (.seq (.reg f31r0) (.seq (.seq (.reg f31r1) (.seq (.reg f31r2) (.cond (.t 19) (.seq (.reg f31r3) .ret) .skip))) (.seq (.reg f31r4) (.seq (.seq (.draw f31r5) (.block 0 (.loop (.seq (.reg f31r6) (.seq (.cond (.t 35) .skip (.exit 0)) (.seq (.block 1 (.seq (.reg f31r7) (.seq (.reg f31r8) (.seq (.seq (.reg f31r9) (.cond (.t 42) (.reg f31r10) .skip)) (.seq (.reg f31r11) (.reg f31r12)))))) (.reg f31r13))))))) (.seq (.reg f31r14) .ret)))))⟩

-- fingerpost/grove.Fold
def f32r0 : List AOper := [
  ⟨(some 8), .box 62 (.agg 62) (.t 3), none⟩,
  ⟨(some 10), .alloc 62, none⟩,
  ⟨(some 11), .move (.c (.int .i64 0)), none⟩]
def f32r1 : List AOper := [
  ⟨(some 16), .move (.t 2), none⟩,
  ⟨(some 17), .bin .lss (.t 16) (.c (.int .i64 0)), none⟩,
  ⟨(some 18), .move (.t 17), none⟩,
  ⟨(some 19), .move (.t 4), some ((some 18), false)⟩,
  ⟨(some 20), .lenS (.t 19), some ((some 18), false)⟩,
  ⟨(some 21), .bin .gtr (.t 20) (.c (.int .i64 6)), some ((some 18), false)⟩,
  ⟨(some 22), .pick (.t 18) (.c (.bool true)) (.t 21), none⟩,
  ⟨(some 23), .move (.t 22), none⟩,
  ⟨(some 24), .move (.t 2), some ((some 23), false)⟩,
  ⟨(some 25), .move (.t 4), some ((some 23), false)⟩,
  ⟨(some 26), .lenS (.t 25), some ((some 23), false)⟩,
  ⟨(some 27), .bin .shl (.c (.int .i64 1)) (.t 26), some ((some 23), false)⟩,
  ⟨(some 28), .bin .geq (.t 24) (.t 27), some ((some 23), false)⟩,
  ⟨(some 29), .pick (.t 23) (.c (.bool true)) (.t 28), none⟩]
def f32r2 : List AOper := [
  ⟨(some 30), .build 62 [], none⟩,
  ⟨none, .store 62 (.agg 62) (.t 10) (.t 30), none⟩,
  ⟨(some 11), .move (.c (.int .i64 1)), none⟩]
def f32r3 : List AOper := [
  ⟨(some 31), .move (.t 4), none⟩,
  ⟨(some 32), .lenS (.t 31), none⟩,
  ⟨(some 33), .move (.c (.int .i64 0)), none⟩]
def f32r4 : List AOper := [
  ⟨(some 34), .bin .lss (.t 33) (.t 32), none⟩]
def f32r5 : List AOper := [
  ⟨(some 35), .move (.t 33), none⟩,
  ⟨(some 36), .idxS 62 (.t 31) (.t 33), none⟩,
  ⟨(some 37), .load 62 (.t 36), none⟩,
  ⟨(some 13), .alloc 62, none⟩,
  ⟨(some 12), .move (.t 35), none⟩,
  ⟨none, .store 62 (.agg 62) (.t 13) (.t 37), none⟩]
def f32r6 : List (AOper × List Nat) := [
  (⟨(some 38), .load 62 (.t 8), none⟩, []),
  (⟨(some 39), .load 62 (.t 13), none⟩, []),
  (⟨(some 14), .alloc 62, none⟩, []),
  (⟨(some 15), .alloc 62, none⟩, []),
  (⟨none, .store 62 (.agg 62) (.t 14) (.t 38), none⟩, [1]),
  (⟨none, .store 62 (.agg 62) (.t 15) (.t 39), none⟩, [])]
def f32r7 : List AOper := [
  ⟨(some 40), .move (.t 2), none⟩,
  ⟨(some 41), .bin .rem (.t 40) (.c (.int .i64 2)), none⟩,
  ⟨(some 42), .bin .eql (.t 41) (.c (.int .i64 1)), none⟩]
def f32r8 : List (AOper × List Nat) := [
  (⟨(some 43), .load 62 (.t 13), none⟩, []),
  (⟨(some 44), .load 62 (.t 8), none⟩, []),
  (⟨none, .store 62 (.agg 62) (.t 14) (.t 43), none⟩, [1]),
  (⟨none, .store 62 (.agg 62) (.t 15) (.t 44), none⟩, [])]
def f32r9 : List AOper := [
  ⟨(some 45), .move (.t 0), none⟩,
  ⟨(some 46), .move (.t 1), none⟩,
  ⟨(some 47), .move (.t 12), none⟩,
  ⟨(some 48), .bin .add (.t 47) (.c (.int .i64 1)), none⟩,
  ⟨(some 49), .load 62 (.t 14), none⟩,
  ⟨(some 50), .load 62 (.t 15), none⟩,
  ⟨(some 51), .call 30 [(.t 45), (.t 46), (.t 48), (.t 49), (.t 50)], none⟩,
  ⟨none, .store 62 (.agg 62) (.t 8) (.t 51), none⟩]
def f32r10 : List AOper := [
  ⟨(some 52), .move (.t 2), none⟩,
  ⟨(some 53), .bin .quo (.t 52) (.c (.int .i64 2)), none⟩,
  ⟨(some 2), .move (.t 53), none⟩]
def f32r11 : List AOper := [
  ⟨(some 54), .bin .add (.t 33) (.c (.int .i64 1)), none⟩,
  ⟨(some 33), .move (.t 54), none⟩]
def f32r12 : List AOper := [
  ⟨(some 55), .load 62 (.t 8), none⟩,
  ⟨none, .store 62 (.agg 62) (.t 10) (.t 55), none⟩,
  ⟨(some 11), .move (.c (.int .i64 0)), none⟩]
def f32 : AFunc := ⟨[.cell 10 62, .tmp 11], (.seq (.reg f32r0) (.seq (.seq (.reg f32r1) (.cond (.t 29) (.seq (.reg f32r2) .ret) .skip)) (.seq (.seq (.reg f32r3) (.block 0 (.loop (.seq (.reg f32r4) (.seq (.cond (.t 34) .skip (.exit 0)) (.seq (.block 1 (.seq (.reg f32r5) (.seq (.draw f32r6) (.seq (.seq (.reg f32r7) (.cond (.t 42) (.draw f32r8) .skip)) (.seq (.reg f32r9) (.reg f32r10)))))) (.reg f32r11))))))) (.seq (.reg f32r12) .ret))))⟩

-- slices.Equal[[]fingerpost/api.Sum,fingerpost/api.Sum]
def f33r0 : List AOper := [
  ⟨(some 4), .move (.c (.bool false)), none⟩]
def f33r1 : List AOper := [
  ⟨(some 6), .move (.t 0), none⟩,
  ⟨(some 7), .lenS (.t 6), none⟩,
  ⟨(some 8), .move (.t 1), none⟩,
  ⟨(some 9), .lenS (.t 8), none⟩,
  ⟨(some 10), .bin .neq (.t 7) (.t 9), none⟩]
def f33r2 : List AOper := [
  ⟨(some 4), .move (.c (.bool false)), none⟩]
def f33r3 : List AOper := [
  ⟨(some 11), .move (.t 0), none⟩,
  ⟨(some 12), .lenS (.t 11), none⟩,
  ⟨(some 13), .move (.c (.int .i64 0)), none⟩]
def f33r4 : List AOper := [
  ⟨(some 14), .bin .lss (.t 13) (.t 12), none⟩]
def f33r5 : List AOper := [
  ⟨(some 15), .move (.t 13), none⟩,
  ⟨(some 5), .move (.t 15), none⟩]
def f33r6 : List (AOper × List Nat) := [
  (⟨(some 16), .move (.t 0), none⟩, []),
  (⟨(some 17), .move (.t 5), none⟩, []),
  (⟨(some 18), .idxS 62 (.t 16) (.t 17), none⟩, []),
  (⟨(some 19), .load 62 (.t 18), none⟩, []),
  (⟨(some 20), .move (.t 1), none⟩, []),
  (⟨(some 21), .move (.t 5), none⟩, []),
  (⟨(some 22), .idxS 62 (.t 20) (.t 21), none⟩, []),
  (⟨(some 23), .load 62 (.t 22), none⟩, []),
  (⟨(some 24), .eqv true (.agg 62) (.t 19) (.t 23), none⟩, [])]
def f33r7 : List AOper := [
  ⟨(some 4), .move (.c (.bool false)), none⟩]
def f33r8 : List AOper := [
  ⟨(some 25), .bin .add (.t 13) (.c (.int .i64 1)), none⟩,
  ⟨(some 13), .move (.t 25), none⟩]
def f33r9 : List AOper := [
  ⟨(some 4), .move (.c (.bool true)), none⟩]
def f33 : AFunc := ⟨[.tmp 4], (.seq (.reg f33r0) (.seq (.seq (.reg f33r1) (.cond (.t 10) (.seq (.reg f33r2) .ret) .skip)) (.seq (.seq (.reg f33r3) (.block 0 (.loop (.seq (.reg f33r4) (.seq (.cond (.t 14) .skip (.exit 0)) (.seq (.block 1 (.seq (.reg f33r5) (.seq (.draw f33r6) (.cond (.t 24) (.seq (.reg f33r7) .ret) .skip)))) (.reg f33r8))))))) (.seq (.reg f33r9) .ret))))⟩

-- slices.Clone[[]fingerpost/api.Sum,fingerpost/api.Sum]
def f34r0 : List AOper := [
  ⟨(some 2), .move (.c .nils), none⟩]
def f34r1 : List AOper := [
  ⟨(some 3), .move (.t 0), none⟩,
  ⟨(some 4), .eqv false .slice (.t 3) (.c .nils), none⟩]
def f34r2 : List AOper := [
  ⟨(some 2), .move (.c .nils), none⟩]
def f34r3 : List AOper := [
  ⟨(some 5), .buildSlice 62 0 [], none⟩,
  ⟨(some 6), .move (.t 0), none⟩,
  ⟨(some 7), .append 62 false 1034834473200 (.t 5) (.t 6), none⟩,
  ⟨(some 2), .move (.t 7), none⟩]
def f34 : AFunc := ⟨[.tmp 2], (.seq (.reg f34r0) (.seq (.seq (.reg f34r1) (.cond (.t 4) (.seq (.reg f34r2) .ret) .skip)) (.seq (.reg f34r3) .ret)))⟩

-- fingerpost/toll.Right
def f35r0 : List AOper := [
  ⟨(some 1), .box 73 (.agg 73) (.t 0), none⟩,
  ⟨(some 2), .move (.c (.bool false)), none⟩]
def f35r1 : List AOper := [
  ⟨(some 5), .fieldAddr 73 0 3 (.t 1), none⟩,
  ⟨(some 6), .load 3 (.t 5), none⟩,
  ⟨(some 7), .fieldAddr 73 1 3 (.t 1), none⟩,
  ⟨(some 8), .load 3 (.t 7), none⟩,
  ⟨(some 9), .fieldAddr 73 2 3 (.t 1), none⟩,
  ⟨(some 10), .load 3 (.t 9), none⟩,
  ⟨(some 11), .fieldAddr 73 3 3 (.t 1), none⟩,
  ⟨(some 12), .load 3 (.t 11), none⟩,
  ⟨(some 13), .build 181 [(0, (.t 6)), (1, (.t 8)), (2, (.t 10)), (3, (.t 12))], none⟩,
  ⟨(some 14), .move (.c (.int .i64 0)), none⟩]
def f35r2 : List AOper := [
  ⟨(some 15), .bin .lss (.t 14) (.c (.int .i64 4)), none⟩]
def f35r3 : List AOper := [
  ⟨(some 16), .idxV 4 181 (.t 13) (.t 14), none⟩,
  ⟨(some 4), .move (.t 16), none⟩]
def f35r4 : List AOper := [
  ⟨(some 17), .move (.t 4), none⟩,
  ⟨(some 18), .bin .lss (.t 17) (.c (.int .i64 0)), none⟩,
  ⟨(some 19), .move (.t 18), none⟩,
  ⟨(some 20), .move (.t 4), some ((some 19), false)⟩,
  ⟨(some 21), .bin .gtr (.t 20) (.c (.int .i64 1073741824)), some ((some 19), false)⟩,
  ⟨(some 22), .pick (.t 19) (.c (.bool true)) (.t 21), none⟩]
def f35r5 : List AOper := [
  ⟨(some 2), .move (.c (.bool false)), none⟩]
def f35r6 : List AOper := [
  ⟨(some 23), .bin .add (.t 14) (.c (.int .i64 1)), none⟩,
  ⟨(some 14), .move (.t 23), none⟩]
def f35r7 : List AOper := [
  ⟨(some 24), .fieldAddr 73 0 3 (.t 1), none⟩,
  ⟨(some 25), .load 3 (.t 24), none⟩,
  ⟨(some 26), .bin .geq (.t 25) (.c (.int .i64 1)), none⟩,
  ⟨(some 27), .move (.t 26), none⟩,
  ⟨(some 28), .fieldAddr 73 2 3 (.t 1), some ((some 27), true)⟩,
  ⟨(some 29), .load 3 (.t 28), some ((some 27), true)⟩,
  ⟨(some 30), .bin .geq (.t 29) (.c (.int .i64 1)), some ((some 27), true)⟩,
  ⟨(some 31), .pick (.t 27) (.t 30) (.c (.bool false)), none⟩,
  ⟨(some 2), .move (.t 31), none⟩]
def f35 : AFunc := ⟨[.tmp 2], (.seq (.reg f35r0) (.seq (.seq (.reg f35r1) (.block 0 (.loop (.seq (.reg f35r2) (.seq (.cond (.t 15) .skip (.exit 0)) (.seq (.block 1 (.seq (.reg f35r3) (.seq (.reg f35r4) (.cond (.t 22) (.seq (.reg f35r5) .ret) .skip)))) (.reg f35r6))))))) (.seq (.reg f35r7) .ret)))⟩

-- fingerpost/toll.New
def f36r0 : List AOper := [
  ⟨(some 1), .box 73 (.agg 73) (.t 0), none⟩,
  ⟨(some 2), .move (.c .nilp), none⟩,
  ⟨(some 3), .move (.c (.int .i64 0)), none⟩]
def f36r1 : List AOper := [
  ⟨(some 4), .load 73 (.t 1), none⟩,
  ⟨(some 5), .call 35 [(.t 4)], none⟩,
  ⟨(some 6), .un .not (.t 5), none⟩]
def f36r2 : List AOper := [
  ⟨(some 2), .move (.c .nilp), none⟩,
  ⟨(some 3), .move (.c (.int .i64 1)), none⟩]
def f36r3 : List AOper := [
  ⟨(some 7), .load 73 (.t 1), none⟩,
  ⟨(some 8), .fieldAddr 73 0 3 (.t 1), none⟩,
  ⟨(some 9), .load 3 (.t 8), none⟩,
  ⟨(some 10), .fieldAddr 73 2 3 (.t 1), none⟩,
  ⟨(some 11), .load 3 (.t 10), none⟩,
  ⟨(some 12), .build 182 [(0, (.t 7)), (1, (.t 9)), (2, (.t 11))], none⟩,
  ⟨(some 13), .box 182 (.agg 182) (.t 12), none⟩,
  ⟨(some 2), .move (.t 13), none⟩,
  ⟨(some 3), .move (.c (.int .i64 0)), none⟩]
def f36 : AFunc := ⟨[.tmp 2, .tmp 3], (.seq (.reg f36r0) (.seq (.seq (.reg f36r1) (.cond (.t 6) (.seq (.reg f36r2) .ret) .skip)) (.seq (.reg f36r3) .ret)))⟩

-- (fingerpost/fingerposttop.Charge).does
def f37r0 : List AOper := [
  ⟨(some 4), .box 80 (.agg 80) (.t 0), none⟩,
  ⟨(some 8), .move (.c (.int .i64 0)), none⟩]
def f37r1 : List AOper := [
  ⟨(some 12), .fieldAddr 80 1 21 (.t 4), none⟩,
  ⟨(some 13), .load 21 (.t 12), none⟩,
  ⟨(some 14), .conv .i64 (.t 13), none⟩,
  ⟨(some 9), .move (.t 14), none⟩]
def f37r2 : List AOper := [
  ⟨(some 15), .fieldAddr 80 0 5 (.t 4), none⟩,
  ⟨(some 16), .load 5 (.t 15), none⟩]
def f37r3 : List AOper := [
  ⟨(some 18), .bin .eql (.t 16) (.c (.int .u8 0)), none⟩,
  ⟨(some 17), .move (.t 18), none⟩]
def f37r4 : List AOper := [
  ⟨(some 19), .move (.t 3), none⟩,
  ⟨(some 20), .move (.t 9), none⟩,
  ⟨(some 21), .minmax false (.t 19) (.t 20), none⟩,
  ⟨(some 10), .move (.t 21), none⟩]
def f37r5 : List AOper := [
  ⟨(some 22), .move (.t 10), none⟩,
  ⟨(some 23), .bin .gtr (.t 22) (.c (.int .i64 0)), none⟩]
def f37r6 : List AOper := [
  ⟨(some 24), .move (.t 1), none⟩,
  ⟨(some 25), .move (.t 10), none⟩,
  ⟨(some 26), .call 85 [(.t 24), (.t 25)], none⟩,
  ⟨(some 11), .move (.t 26), none⟩]
def f37r7 : List AOper := [
  ⟨(some 27), .move (.t 11), none⟩,
  ⟨(some 28), .bin .neq (.t 27) (.c (.int .i64 0)), none⟩]
def f37r8 : List AOper := [
  ⟨(some 29), .move (.t 11), none⟩,
  ⟨(some 8), .move (.t 29), none⟩]
def f37r9 : List AOper := [
  ⟨(some 30), .move (.t 9), none⟩,
  ⟨(some 31), .move (.t 10), none⟩,
  ⟨(some 32), .bin .sub (.t 30) (.t 31), none⟩,
  ⟨(some 9), .move (.t 32), none⟩]
def f37r10 : List AOper := [
  ⟨(some 33), .move (.t 1), none⟩,
  ⟨(some 34), .move (.t 9), none⟩,
  ⟨(some 35), .call 85 [(.t 33), (.t 34)], none⟩,
  ⟨(some 8), .move (.t 35), none⟩]
def f37r11 : List AOper := [
  ⟨(some 37), .bin .eql (.t 16) (.c (.int .u8 1)), none⟩,
  ⟨(some 36), .move (.t 37), none⟩]
def f37r12 : List AOper := [
  ⟨(some 38), .move (.t 1), none⟩,
  ⟨(some 39), .move (.t 9), none⟩,
  ⟨(some 40), .move (.t 2), none⟩,
  ⟨(some 41), .bin .mul (.t 39) (.t 40), none⟩,
  ⟨(some 42), .call 80 [(.t 38), (.t 41)], none⟩,
  ⟨(some 8), .move (.t 42), none⟩]
def f37r13 : List AOper := [
  ⟨(some 44), .bin .eql (.t 16) (.c (.int .u8 2)), none⟩,
  ⟨(some 43), .move (.t 44), none⟩]
def f37r14 : List AOper := [
  ⟨(some 45), .move (.t 1), none⟩,
  ⟨(some 46), .move (.t 9), none⟩,
  ⟨(some 47), .move (.t 2), none⟩,
  ⟨(some 48), .bin .mul (.t 46) (.t 47), none⟩,
  ⟨(some 49), .call 86 [(.t 45), (.t 48)], none⟩,
  ⟨(some 8), .move (.t 49), none⟩]
def f37r15 : List AOper := [
  ⟨(some 51), .bin .eql (.t 16) (.c (.int .u8 3)), none⟩,
  ⟨(some 50), .move (.t 51), none⟩]
def f37r16 : List AOper := [
  ⟨(some 52), .move (.t 1), none⟩,
  ⟨(some 53), .move (.t 9), none⟩,
  ⟨(some 54), .move (.t 2), none⟩,
  ⟨(some 55), .bin .mul (.t 53) (.t 54), none⟩,
  ⟨(some 56), .call 87 [(.t 52), (.t 55)], none⟩,
  ⟨(some 8), .move (.t 56), none⟩]
def f37r17 : List AOper := [
  ⟨(some 8), .move (.c (.int .i64 0)), none⟩]
def f37 : AFunc := ⟨[.tmp 8], (.seq (.reg f37r0) (.seq (.reg f37r1) (.seq (.seq (.reg f37r2) (.block 0 (.seq (.reg f37r3) (.cond (.t 17) (.seq (.seq (.reg f37r4) (.seq (.reg f37r5) (.cond (.t 23) (.seq (.seq (.reg f37r6) (.seq (.reg f37r7) (.cond (.t 28) (.seq (.reg f37r8) .ret) .skip))) (.reg f37r9)) .skip))) (.seq (.reg f37r10) .ret)) (.seq (.reg f37r11) (.cond (.t 36) (.seq (.reg f37r12) .ret) (.seq (.reg f37r13) (.cond (.t 43) (.seq (.reg f37r14) .ret) (.seq (.reg f37r15) (.cond (.t 50) (.seq (.reg f37r16) .ret) .skip)))))))))) (.seq (.reg f37r17) .ret))))⟩

-- (*fingerpost/toll.Toll).Left
def f38r0 : List AOper := [
  ⟨(some 2), .move (.c (.int .i64 0)), none⟩,
  ⟨(some 3), .move (.c (.int .i64 0)), none⟩]
def f38r1 : List AOper := [
  ⟨(some 4), .move (.t 0), none⟩,
  ⟨(some 5), .eqv false .ptr (.t 4) (.c .nilp), none⟩]
def f38r2 : List AOper := [
  ⟨(some 2), .move (.c (.int .i64 0)), none⟩,
  ⟨(some 3), .move (.c (.int .i64 0)), none⟩]
def f38r3 : List (AOper × List Nat) := [
  (⟨(some 6), .move (.t 0), none⟩, []),
  (⟨(some 7), .nilCheck (.t 6), none⟩, []),
  (⟨(some 8), .fieldAddr 182 1 3 (.t 7), none⟩, []),
  (⟨(some 9), .load 3 (.t 8), none⟩, []),
  (⟨(some 10), .move (.t 0), none⟩, []),
  (⟨(some 11), .nilCheck (.t 10), none⟩, []),
  (⟨(some 12), .fieldAddr 182 2 3 (.t 11), none⟩, []),
  (⟨(some 13), .load 3 (.t 12), none⟩, []),
  (⟨(some 2), .move (.t 9), none⟩, []),
  (⟨(some 3), .move (.t 13), none⟩, [])]
def f38 : AFunc := ⟨[.tmp 2, .tmp 3], (.seq (.reg f38r0) (.seq (.seq (.reg f38r1) (.cond (.t 5) (.seq (.reg f38r2) .ret) .skip)) (.seq (.draw f38r3) .ret)))⟩

-- fingerpost/toll.Most
def f39r0 : List AOper := [
  ⟨(some 2), .box 73 (.agg 73) (.t 0), none⟩,
  ⟨(some 4), .move (.c (.int .i64 0)), none⟩]
def f39r1 : List AOper := [
  ⟨(some 5), .load 73 (.t 2), none⟩,
  ⟨(some 6), .call 35 [(.t 5)], none⟩,
  ⟨(some 7), .un .not (.t 6), none⟩,
  ⟨(some 8), .move (.t 7), none⟩,
  ⟨(some 9), .move (.t 1), some ((some 8), false)⟩,
  ⟨(some 10), .bin .lss (.t 9) (.c (.int .i64 0)), some ((some 8), false)⟩,
  ⟨(some 11), .pick (.t 8) (.c (.bool true)) (.t 10), none⟩,
  ⟨(some 12), .move (.t 11), none⟩,
  ⟨(some 13), .move (.t 1), some ((some 12), false)⟩,
  ⟨(some 14), .bin .gtr (.t 13) (.c (.int .i64 1073741824)), some ((some 12), false)⟩,
  ⟨(some 15), .pick (.t 12) (.c (.bool true)) (.t 14), none⟩]
def f39r2 : List AOper := [
  ⟨(some 4), .move (.c (.int .i64 0)), none⟩]
def f39r3 : List AOper := [
  ⟨(some 16), .fieldAddr 73 2 3 (.t 2), none⟩,
  ⟨(some 17), .load 3 (.t 16), none⟩,
  ⟨(some 18), .fieldAddr 73 3 3 (.t 2), none⟩,
  ⟨(some 19), .load 3 (.t 18), none⟩,
  ⟨(some 20), .move (.t 1), none⟩,
  ⟨(some 21), .bin .mul (.t 19) (.t 20), none⟩,
  ⟨(some 22), .bin .add (.t 17) (.t 21), none⟩,
  ⟨(some 4), .move (.t 22), none⟩]
def f39 : AFunc := ⟨[.tmp 4], (.seq (.reg f39r0) (.seq (.seq (.reg f39r1) (.cond (.t 15) (.seq (.reg f39r2) .ret) .skip)) (.seq (.reg f39r3) .ret)))⟩

-- fingerpost/piece.New
def f40r0 : List AOper := [
  ⟨(some 0), .move (.c .nilp), none⟩]
def f40r1 : List AOper := [
  ⟨(some 1), .build 185 [], none⟩,
  ⟨(some 2), .box 185 (.agg 185) (.t 1), none⟩,
  ⟨(some 0), .move (.t 2), none⟩]
def f40 : AFunc := ⟨[.tmp 0], (.seq (.reg f40r0) (.seq (.reg f40r1) .ret))⟩

-- slices.ContainsFunc[[]fingerpost/piece.Piece,fingerpost/piece.Piece]
def f41r0 : List AOper := [
  ⟨(some 4), .move (.c (.bool false)), none⟩]
def f41r1 : List AOper := [
  ⟨(some 5), .move (.t 0), none⟩,
  ⟨(some 6), .move (.t 1), none⟩,
  ⟨(some 7), .call 88 [(.t 5), (.t 6)], none⟩,
  ⟨(some 8), .bin .geq (.t 7) (.c (.int .i64 0)), none⟩,
  ⟨(some 4), .move (.t 8), none⟩]
def f41 : AFunc := ⟨[.tmp 4], (.seq (.reg f41r0) (.seq (.reg f41r1) .ret))⟩

-- fingerpost/fingerposttop.WholeJoinerLater$1
def f42r0 : List AOper := [
  ⟨(some 1), .box 91 (.agg 91) (.t 0), none⟩,
  ⟨(some 2), .move (.c (.bool false)), none⟩]
def f42r1 : List AOper := [
  ⟨(some 3), .fieldAddr 91 3 39 (.t 1), none⟩,
  ⟨(some 4), .load 39 (.t 3), none⟩,
  ⟨(some 5), .lenS (.t 4), none⟩,
  ⟨(some 6), .bin .gtr (.t 5) (.c (.int .i64 600)), none⟩,
  ⟨(some 7), .move (.t 6), none⟩,
  ⟨(some 8), .fieldAddr 91 0 23 (.t 1), some ((some 7), false)⟩,
  ⟨(some 9), .load 23 (.t 8), some ((some 7), false)⟩,
  ⟨(some 10), .bin .geq (.t 9) (.c (.int .u32 2147483648)), some ((some 7), false)⟩,
  ⟨(some 11), .pick (.t 7) (.c (.bool true)) (.t 10), none⟩,
  ⟨(some 2), .move (.t 11), none⟩]
def f42 : AFunc := ⟨[.tmp 2], (.seq (.reg f42r0) (.seq (.reg f42r1) .ret))⟩

-- slices.Clone[[]byte,byte]
def f43r0 : List AOper := [
  ⟨(some 2), .move (.c .nils), none⟩]
def f43r1 : List AOper := [
  ⟨(some 3), .move (.t 0), none⟩,
  ⟨(some 4), .eqv false .slice (.t 3) (.c .nils), none⟩]
def f43r2 : List AOper := [
  ⟨(some 2), .move (.c .nils), none⟩]
def f43r3 : List AOper := [
  ⟨(some 5), .buildSlice 5 0 [], none⟩,
  ⟨(some 6), .move (.t 0), none⟩,
  ⟨(some 7), .append 5 false 8796093022208 (.t 5) (.t 6), none⟩,
  ⟨(some 2), .move (.t 7), none⟩]
def f43 : AFunc := ⟨[.tmp 2], (.seq (.reg f43r0) (.seq (.seq (.reg f43r1) (.cond (.t 4) (.seq (.reg f43r2) .ret) .skip)) (.seq (.reg f43r3) .ret)))⟩

-- (*fingerpost/piece.Joiner).Take
def f44r0 : List AOper := [
  ⟨(some 3), .box 91 (.agg 91) (.t 1), none⟩,
  ⟨(some 4), .move (.c .nils), none⟩,
  ⟨(some 5), .move (.c (.bool false)), none⟩,
  ⟨(some 6), .move (.c (.int .i64 0)), none⟩]
def f44r1 : List AOper := [
  ⟨(some 10), .move (.t 0), none⟩,
  ⟨(some 11), .eqv false .ptr (.t 10) (.c .nilp), none⟩,
  ⟨(some 9), .move (.t 11), none⟩]
def f44r2 : List AOper := [
  ⟨(some 4), .move (.c .nils), none⟩,
  ⟨(some 5), .move (.c (.bool false)), none⟩,
  ⟨(some 6), .move (.c (.int .i64 2)), none⟩]
def f44r3 : List AOper := [
  ⟨(some 13), .load 91 (.t 3), none⟩,
  ⟨(some 14), .call 89 [(.t 13)], none⟩,
  ⟨(some 15), .un .not (.t 14), none⟩,
  ⟨(some 12), .move (.t 15), none⟩]
def f44r4 : List AOper := [
  ⟨(some 4), .move (.c .nils), none⟩,
  ⟨(some 5), .move (.c (.bool false)), none⟩,
  ⟨(some 6), .move (.c (.int .i64 1)), none⟩]
def f44r5 : List (AOper × List Nat) := [
  (⟨(some 17), .move (.t 0), none⟩, []),
  (⟨(some 18), .nilCheck (.t 17), none⟩, []),
  (⟨(some 19), .fieldAddr 185 6 4 (.t 18), none⟩, []),
  (⟨(some 20), .load 4 (.t 19), none⟩, []),
  (⟨(some 21), .move (.t 20), none⟩, []),
  (⟨(some 22), .fieldAddr 91 0 23 (.t 3), some ((some 21), true)⟩, []),
  (⟨(some 23), .load 23 (.t 22), some ((some 21), true)⟩, []),
  (⟨(some 24), .move (.t 0), some ((some 21), true)⟩, []),
  (⟨(some 25), .nilCheck (.t 24), some ((some 21), true)⟩, []),
  (⟨(some 26), .fieldAddr 185 0 23 (.t 25), some ((some 21), true)⟩, []),
  (⟨(some 27), .load 23 (.t 26), some ((some 21), true)⟩, []),
  (⟨(some 28), .bin .lss (.t 23) (.t 27), some ((some 21), true)⟩, []),
  (⟨(some 29), .move (.t 28), some ((some 21), true)⟩, []),
  (⟨(some 30), .fieldAddr 91 0 23 (.t 3), some ((some 29), false)⟩, []),
  (⟨(some 31), .load 23 (.t 30), some ((some 29), false)⟩, []),
  (⟨(some 32), .move (.t 0), some ((some 29), false)⟩, []),
  (⟨(some 33), .nilCheck (.t 32), some ((some 29), false)⟩, []),
  (⟨(some 34), .fieldAddr 185 0 23 (.t 33), some ((some 29), false)⟩, []),
  (⟨(some 35), .load 23 (.t 34), some ((some 29), false)⟩, []),
  (⟨(some 36), .bin .eql (.t 31) (.t 35), some ((some 29), false)⟩, []),
  (⟨(some 37), .move (.t 36), some ((some 29), false)⟩, []),
  (⟨(some 38), .move (.t 0), some ((some 37), true)⟩, []),
  (⟨(some 39), .nilCheck (.t 38), some ((some 37), true)⟩, []),
  (⟨(some 40), .fieldAddr 185 7 4 (.t 39), some ((some 37), true)⟩, []),
  (⟨(some 41), .load 4 (.t 40), some ((some 37), true)⟩, []),
  (⟨(some 42), .pick (.t 37) (.t 41) (.c (.bool false)), some ((some 29), false)⟩, []),
  (⟨(some 43), .pick (.t 29) (.c (.bool true)) (.t 42), some ((some 21), true)⟩, []),
  (⟨(some 44), .pick (.t 21) (.t 43) (.c (.bool false)), none⟩, []),
  (⟨(some 16), .move (.t 44), none⟩, [])]
def f44r6 : List AOper := [
  ⟨(some 4), .move (.c .nils), none⟩,
  ⟨(some 5), .move (.c (.bool false)), none⟩,
  ⟨(some 6), .move (.c (.int .i64 27)), none⟩]
def f44r7 : List (AOper × List Nat) := [
  (⟨(some 46), .move (.t 0), none⟩, []),
  (⟨(some 47), .nilCheck (.t 46), none⟩, []),
  (⟨(some 48), .fieldAddr 185 6 4 (.t 47), none⟩, []),
  (⟨(some 49), .load 4 (.t 48), none⟩, []),
  (⟨(some 50), .un .not (.t 49), none⟩, []),
  (⟨(some 51), .move (.t 50), none⟩, []),
  (⟨(some 52), .fieldAddr 91 0 23 (.t 3), some ((some 51), false)⟩, []),
  (⟨(some 53), .load 23 (.t 52), some ((some 51), false)⟩, []),
  (⟨(some 54), .move (.t 0), some ((some 51), false)⟩, []),
  (⟨(some 55), .nilCheck (.t 54), some ((some 51), false)⟩, []),
  (⟨(some 56), .fieldAddr 185 0 23 (.t 55), some ((some 51), false)⟩, []),
  (⟨(some 57), .load 23 (.t 56), some ((some 51), false)⟩, []),
  (⟨(some 58), .bin .gtr (.t 53) (.t 57), some ((some 51), false)⟩, []),
  (⟨(some 59), .pick (.t 51) (.c (.bool true)) (.t 58), none⟩, []),
  (⟨(some 45), .move (.t 59), none⟩, [])]
def f44r8 : List AOper := [
  ⟨(some 60), .move (.t 0), none⟩,
  ⟨(some 61), .load 91 (.t 3), none⟩,
  ⟨(some 62), .call 90 [(.t 60), (.t 61)], none⟩]
def f44r9 : List (AOper × List Nat) := [
  (⟨(some 64), .fieldAddr 91 2 3 (.t 3), none⟩, []),
  (⟨(some 65), .load 3 (.t 64), none⟩, []),
  (⟨(some 66), .move (.t 0), none⟩, []),
  (⟨(some 67), .nilCheck (.t 66), none⟩, []),
  (⟨(some 68), .fieldAddr 185 1 3 (.t 67), none⟩, []),
  (⟨(some 69), .load 3 (.t 68), none⟩, []),
  (⟨(some 70), .bin .neq (.t 65) (.t 69), none⟩, []),
  (⟨(some 63), .move (.t 70), none⟩, [])]
def f44r10 : List AOper := [
  ⟨(some 4), .move (.c .nils), none⟩,
  ⟨(some 5), .move (.c (.bool false)), none⟩,
  ⟨(some 6), .move (.c (.int .i64 10)), none⟩]
def f44r11 : List (AOper × List Nat) := [
  (⟨(some 72), .move (.t 0), none⟩, []),
  (⟨(some 73), .nilCheck (.t 72), none⟩, []),
  (⟨(some 74), .fieldAddr 185 5 184 (.t 73), none⟩, []),
  (⟨(some 75), .load 184 (.t 74), none⟩, []),
  (⟨(some 76), .fieldAddr 91 1 3 (.t 3), none⟩, []),
  (⟨(some 77), .load 3 (.t 76), none⟩, []),
  (⟨(some 78), .idxS 4 (.t 75) (.t 77), none⟩, []),
  (⟨(some 79), .load 4 (.t 78), none⟩, []),
  (⟨(some 80), .move (.t 79), none⟩, []),
  (⟨(some 81), .move (.t 0), some ((some 80), true)⟩, []),
  (⟨(some 82), .nilCheck (.t 81), some ((some 80), true)⟩, []),
  (⟨(some 83), .fieldAddr 185 4 135 (.t 82), some ((some 80), true)⟩, []),
  (⟨(some 84), .load 135 (.t 83), some ((some 80), true)⟩, []),
  (⟨(some 85), .fieldAddr 91 1 3 (.t 3), some ((some 80), true)⟩, []),
  (⟨(some 86), .load 3 (.t 85), some ((some 80), true)⟩, []),
  (⟨(some 87), .idxS 39 (.t 84) (.t 86), some ((some 80), true)⟩, []),
  (⟨(some 88), .load 39 (.t 87), some ((some 80), true)⟩, []),
  (⟨(some 89), .toStr (.t 88), some ((some 80), true)⟩, []),
  (⟨(some 90), .fieldAddr 91 3 39 (.t 3), some ((some 80), true)⟩, []),
  (⟨(some 91), .load 39 (.t 90), some ((some 80), true)⟩, []),
  (⟨(some 92), .toStr (.t 91), some ((some 80), true)⟩, []),
  (⟨(some 93), .bin .neq (.t 89) (.t 92), some ((some 80), true)⟩, []),
  (⟨(some 94), .pick (.t 80) (.t 93) (.c (.bool false)), none⟩, []),
  (⟨(some 71), .move (.t 94), none⟩, [])]
def f44r12 : List AOper := [
  ⟨(some 4), .move (.c .nils), none⟩,
  ⟨(some 5), .move (.c (.bool false)), none⟩,
  ⟨(some 6), .move (.c (.int .i64 7)), none⟩]
def f44r13 : List (AOper × List Nat) := [
  (⟨(some 96), .move (.t 0), none⟩, []),
  (⟨(some 97), .nilCheck (.t 96), none⟩, []),
  (⟨(some 98), .fieldAddr 185 5 184 (.t 97), none⟩, []),
  (⟨(some 99), .load 184 (.t 98), none⟩, []),
  (⟨(some 100), .fieldAddr 91 1 3 (.t 3), none⟩, []),
  (⟨(some 101), .load 3 (.t 100), none⟩, []),
  (⟨(some 102), .idxS 4 (.t 99) (.t 101), none⟩, []),
  (⟨(some 103), .load 4 (.t 102), none⟩, []),
  (⟨(some 95), .move (.t 103), none⟩, [])]
def f44r14 : List AOper := [
  ⟨(some 4), .move (.c .nils), none⟩,
  ⟨(some 5), .move (.c (.bool false)), none⟩,
  ⟨(some 6), .move (.c (.int .i64 0)), none⟩]
def f44r15 : List (AOper × List Nat) := [
  (⟨(some 105), .move (.t 0), none⟩, []),
  (⟨(some 106), .nilCheck (.t 105), none⟩, []),
  (⟨(some 107), .fieldAddr 185 3 3 (.t 106), none⟩, []),
  (⟨(some 108), .load 3 (.t 107), none⟩, []),
  (⟨(some 109), .fieldAddr 91 3 39 (.t 3), none⟩, []),
  (⟨(some 110), .load 39 (.t 109), none⟩, []),
  (⟨(some 111), .lenS (.t 110), none⟩, []),
  (⟨(some 112), .bin .add (.t 108) (.t 111), none⟩, []),
  (⟨(some 113), .bin .gtr (.t 112) (.c (.int .i64 16384)), none⟩, []),
  (⟨(some 104), .move (.t 113), none⟩, [])]
def f44r16 : List AOper := [
  ⟨(some 114), .move (.t 0), none⟩,
  ⟨(some 115), .move (.t 0), none⟩,
  ⟨(some 116), .nilCheck (.t 114), none⟩,
  ⟨(some 117), .fieldAddr 185 7 4 (.t 116), none⟩,
  ⟨none, .store 4 .bool (.t 117) (.c (.bool true)), none⟩,
  ⟨(some 118), .nilCheck (.t 115), none⟩,
  ⟨(some 119), .fieldAddr 185 4 135 (.t 118), none⟩,
  ⟨none, .store 135 .slice (.t 119) (.c .nils), none⟩]
def f44r17 : List AOper := [
  ⟨(some 4), .move (.c .nils), none⟩,
  ⟨(some 5), .move (.c (.bool false)), none⟩,
  ⟨(some 6), .move (.c (.int .i64 8)), none⟩]
def f44r18 : List (AOper × List Nat) := [
  (⟨(some 120), .move (.t 0), none⟩, []),
  (⟨(some 121), .nilCheck (.t 120), none⟩, []),
  (⟨(some 122), .fieldAddr 185 5 184 (.t 121), none⟩, []),
  (⟨(some 123), .load 184 (.t 122), none⟩, []),
  (⟨(some 124), .fieldAddr 91 1 3 (.t 3), none⟩, []),
  (⟨(some 125), .load 3 (.t 124), none⟩, []),
  (⟨(some 126), .move (.t 0), none⟩, []),
  (⟨(some 127), .nilCheck (.t 126), none⟩, []),
  (⟨(some 128), .fieldAddr 185 4 135 (.t 127), none⟩, []),
  (⟨(some 129), .load 135 (.t 128), none⟩, []),
  (⟨(some 130), .fieldAddr 91 1 3 (.t 3), none⟩, []),
  (⟨(some 131), .load 3 (.t 130), none⟩, []),
  (⟨(some 132), .buildSlice 5 0 [], none⟩, []),
  (⟨(some 133), .fieldAddr 91 3 39 (.t 3), none⟩, []),
  (⟨(some 134), .load 39 (.t 133), none⟩, []),
  (⟨(some 135), .append 5 false 8796093022208 (.t 132) (.t 134), none⟩, [3, 5, 9, 11]),
  (⟨(some 136), .idxS 4 (.t 123) (.t 125), none⟩, []),
  (⟨none, .store 4 .bool (.t 136) (.c (.bool true)), none⟩, [11]),
  (⟨(some 137), .idxS 39 (.t 129) (.t 131), none⟩, []),
  (⟨none, .store 39 .slice (.t 137) (.t 135), none⟩, [])]
def f44r19 : List (AOper × List Nat) := [
  (⟨(some 138), .move (.t 0), none⟩, []),
  (⟨(some 139), .nilCheck (.t 138), none⟩, []),
  (⟨(some 140), .fieldAddr 185 3 3 (.t 139), none⟩, []),
  (⟨(some 141), .load 3 (.t 140), none⟩, []),
  (⟨(some 142), .fieldAddr 91 3 39 (.t 3), none⟩, []),
  (⟨(some 143), .load 39 (.t 142), none⟩, []),
  (⟨(some 144), .lenS (.t 143), none⟩, []),
  (⟨(some 145), .bin .add (.t 141) (.t 144), none⟩, []),
  (⟨(some 146), .nilCheck (.t 138), none⟩, []),
  (⟨(some 147), .fieldAddr 185 3 3 (.t 146), none⟩, []),
  (⟨none, .store 3 (.int .i64) (.t 147) (.t 145), none⟩, [])]
def f44r20 : List AOper := [
  ⟨(some 148), .move (.t 0), none⟩,
  ⟨(some 149), .nilCheck (.t 148), none⟩,
  ⟨(some 150), .fieldAddr 185 2 3 (.t 149), none⟩,
  ⟨(some 151), .load 3 (.t 150), none⟩,
  ⟨(some 152), .bin .add (.t 151) (.c (.int .i64 1)), none⟩,
  ⟨(some 153), .nilCheck (.t 148), none⟩,
  ⟨(some 154), .fieldAddr 185 2 3 (.t 153), none⟩,
  ⟨none, .store 3 (.int .i64) (.t 154) (.t 152), none⟩]
def f44r21 : List (AOper × List Nat) := [
  (⟨(some 155), .move (.t 0), none⟩, []),
  (⟨(some 156), .nilCheck (.t 155), none⟩, []),
  (⟨(some 157), .fieldAddr 185 2 3 (.t 156), none⟩, []),
  (⟨(some 158), .load 3 (.t 157), none⟩, []),
  (⟨(some 159), .move (.t 0), none⟩, []),
  (⟨(some 160), .nilCheck (.t 159), none⟩, []),
  (⟨(some 161), .fieldAddr 185 1 3 (.t 160), none⟩, []),
  (⟨(some 162), .load 3 (.t 161), none⟩, []),
  (⟨(some 163), .bin .lss (.t 158) (.t 162), none⟩, [])]
def f44r22 : List AOper := [
  ⟨(some 4), .move (.c .nils), none⟩,
  ⟨(some 5), .move (.c (.bool false)), none⟩,
  ⟨(some 6), .move (.c (.int .i64 0)), none⟩]
def f44r23 : List AOper := [
  ⟨(some 164), .buildSlice 5 0 [], none⟩,
  ⟨(some 4), .move (.t 164), none⟩]
def f44r24 : List AOper := [
  ⟨(some 165), .move (.t 0), none⟩,
  ⟨(some 166), .nilCheck (.t 165), none⟩,
  ⟨(some 167), .fieldAddr 185 4 135 (.t 166), none⟩,
  ⟨(some 168), .load 135 (.t 167), none⟩,
  ⟨(some 169), .lenS (.t 168), none⟩,
  ⟨(some 170), .move (.c (.int .i64 0)), none⟩]
def f44r25 : List AOper := [
  ⟨(some 171), .bin .lss (.t 170) (.t 169), none⟩]
def f44r26 : List AOper := [
  ⟨(some 172), .idxS 39 (.t 168) (.t 170), none⟩,
  ⟨(some 173), .load 39 (.t 172), none⟩,
  ⟨(some 8), .move (.t 173), none⟩]
def f44r27 : List AOper := [
  ⟨(some 174), .move (.t 4), none⟩,
  ⟨(some 175), .move (.t 8), none⟩,
  ⟨(some 176), .append 5 false 8796093022208 (.t 174) (.t 175), none⟩,
  ⟨(some 4), .move (.t 176), none⟩]
def f44r28 : List AOper := [
  ⟨(some 177), .bin .add (.t 170) (.c (.int .i64 1)), none⟩,
  ⟨(some 170), .move (.t 177), none⟩]
def f44r29 : List AOper := [
  ⟨(some 178), .move (.t 0), none⟩,
  ⟨(some 179), .move (.t 0), none⟩,
  ⟨(some 180), .nilCheck (.t 178), none⟩,
  ⟨(some 181), .fieldAddr 185 7 4 (.t 180), none⟩,
  ⟨none, .store 4 .bool (.t 181) (.c (.bool true)), none⟩,
  ⟨(some 182), .nilCheck (.t 179), none⟩,
  ⟨(some 183), .fieldAddr 185 4 135 (.t 182), none⟩,
  ⟨none, .store 135 .slice (.t 183) (.c .nils), none⟩]
def f44r30 : List AOper := [
  ⟨(some 184), .move (.t 4), none⟩,
  ⟨(some 4), .move (.t 184), none⟩,
  ⟨(some 5), .move (.c (.bool true)), none⟩,
  ⟨(some 6), .move (.c (.int .i64 0)), none⟩]
def f44 : AFunc := ⟨[.tmp 4, .tmp 5, .tmp 6], (.seq (.reg f44r0) (.seq (.block 0 (.seq (.reg f44r1) (.cond (.t 9) (.seq (.reg f44r2) .ret) (.seq (.reg f44r3) (.cond (.t 12) (.seq (.reg f44r4) .ret) (.seq (.draw f44r5) (.cond (.t 16) (.seq (.reg f44r6) .ret) (.seq (.draw f44r7) (.cond (.t 45) (.reg f44r8) .skip))))))))) (.seq (.block 1 (.seq (.draw f44r9) (.cond (.t 63) (.seq (.reg f44r10) .ret) (.seq (.draw f44r11) (.cond (.t 71) (.seq (.reg f44r12) .ret) (.seq (.draw f44r13) (.cond (.t 95) (.seq (.reg f44r14) .ret) (.seq (.draw f44r15) (.cond (.t 104) (.seq (.reg f44r16) (.seq (.reg f44r17) .ret)) .skip))))))))) (.seq (.draw f44r18) (.seq (.draw f44r19) (.seq (.seq (.reg f44r20) (.seq (.draw f44r21) (.cond (.t 163) (.seq (.reg f44r22) .ret) .skip))) (.seq (.reg f44r23) (.seq (.seq (.reg f44r24) (.block 2 (.loop (.seq (.reg f44r25) (.seq (.cond (.t 171) .skip (.exit 2)) (.seq (.block 3 (.seq (.reg f44r26) (.reg f44r27))) (.reg f44r28))))))) (.seq (.reg f44r29) (.seq (.reg f44r30) .ret))))))))))⟩

-- slices.Equal[[]byte,byte]
def f45r0 : List AOper := [
  ⟨(some 4), .move (.c (.bool false)), none⟩]
def f45r1 : List AOper := [
  ⟨(some 6), .move (.t 0), none⟩,
  ⟨(some 7), .lenS (.t 6), none⟩,
  ⟨(some 8), .move (.t 1), none⟩,
  ⟨(some 9), .lenS (.t 8), none⟩,
  ⟨(some 10), .bin .neq (.t 7) (.t 9), none⟩]
def f45r2 : List AOper := [
  ⟨(some 4), .move (.c (.bool false)), none⟩]
def f45r3 : List AOper := [
  ⟨(some 11), .move (.t 0), none⟩,
  ⟨(some 12), .lenS (.t 11), none⟩,
  ⟨(some 13), .move (.c (.int .i64 0)), none⟩]
def f45r4 : List AOper := [
  ⟨(some 14), .bin .lss (.t 13) (.t 12), none⟩]
def f45r5 : List AOper := [
  ⟨(some 15), .move (.t 13), none⟩,
  ⟨(some 5), .move (.t 15), none⟩]
def f45r6 : List (AOper × List Nat) := [
  (⟨(some 16), .move (.t 0), none⟩, []),
  (⟨(some 17), .move (.t 5), none⟩, []),
  (⟨(some 18), .idxS 5 (.t 16) (.t 17), none⟩, []),
  (⟨(some 19), .load 5 (.t 18), none⟩, []),
  (⟨(some 20), .move (.t 1), none⟩, []),
  (⟨(some 21), .move (.t 5), none⟩, []),
  (⟨(some 22), .idxS 5 (.t 20) (.t 21), none⟩, []),
  (⟨(some 23), .load 5 (.t 22), none⟩, []),
  (⟨(some 24), .bin .neq (.t 19) (.t 23), none⟩, [])]
def f45r7 : List AOper := [
  ⟨(some 4), .move (.c (.bool false)), none⟩]
def f45r8 : List AOper := [
  ⟨(some 25), .bin .add (.t 13) (.c (.int .i64 1)), none⟩,
  ⟨(some 13), .move (.t 25), none⟩]
def f45r9 : List AOper := [
  ⟨(some 4), .move (.c (.bool true)), none⟩]
def f45 : AFunc := ⟨[.tmp 4], (.seq (.reg f45r0) (.seq (.seq (.reg f45r1) (.cond (.t 10) (.seq (.reg f45r2) .ret) .skip)) (.seq (.seq (.reg f45r3) (.block 0 (.loop (.seq (.reg f45r4) (.seq (.cond (.t 14) .skip (.exit 0)) (.seq (.block 1 (.seq (.reg f45r5) (.seq (.draw f45r6) (.cond (.t 24) (.seq (.reg f45r7) .ret) .skip)))) (.reg f45r8))))))) (.seq (.reg f45r9) .ret))))⟩

-- (*fingerpost/piece.Joiner).Waits
def f46r0 : List AOper := [
  ⟨(some 2), .move (.c (.int .i64 0)), none⟩,
  ⟨(some 3), .move (.c (.int .i64 0)), none⟩]
def f46r1 : List AOper := [
  ⟨(some 4), .move (.t 0), none⟩,
  ⟨(some 5), .eqv false .ptr (.t 4) (.c .nilp), none⟩,
  ⟨(some 6), .move (.t 5), none⟩,
  ⟨(some 7), .move (.t 0), some ((some 6), false)⟩,
  ⟨(some 8), .nilCheck (.t 7), some ((some 6), false)⟩,
  ⟨(some 9), .fieldAddr 185 6 4 (.t 8), some ((some 6), false)⟩,
  ⟨(some 10), .load 4 (.t 9), some ((some 6), false)⟩,
  ⟨(some 11), .un .not (.t 10), some ((some 6), false)⟩,
  ⟨(some 12), .pick (.t 6) (.c (.bool true)) (.t 11), none⟩,
  ⟨(some 13), .move (.t 12), none⟩,
  ⟨(some 14), .move (.t 0), some ((some 13), false)⟩,
  ⟨(some 15), .nilCheck (.t 14), some ((some 13), false)⟩,
  ⟨(some 16), .fieldAddr 185 7 4 (.t 15), some ((some 13), false)⟩,
  ⟨(some 17), .load 4 (.t 16), some ((some 13), false)⟩,
  ⟨(some 18), .pick (.t 13) (.c (.bool true)) (.t 17), none⟩]
def f46r2 : List AOper := [
  ⟨(some 2), .move (.c (.int .i64 0)), none⟩,
  ⟨(some 3), .move (.c (.int .i64 0)), none⟩]
def f46r3 : List (AOper × List Nat) := [
  (⟨(some 19), .move (.t 0), none⟩, []),
  (⟨(some 20), .nilCheck (.t 19), none⟩, []),
  (⟨(some 21), .fieldAddr 185 2 3 (.t 20), none⟩, []),
  (⟨(some 22), .load 3 (.t 21), none⟩, []),
  (⟨(some 23), .move (.t 0), none⟩, []),
  (⟨(some 24), .nilCheck (.t 23), none⟩, []),
  (⟨(some 25), .fieldAddr 185 1 3 (.t 24), none⟩, []),
  (⟨(some 26), .load 3 (.t 25), none⟩, []),
  (⟨(some 2), .move (.t 22), none⟩, []),
  (⟨(some 3), .move (.t 26), none⟩, [])]
def f46 : AFunc := ⟨[.tmp 2, .tmp 3], (.seq (.reg f46r0) (.seq (.seq (.reg f46r1) (.cond (.t 18) (.seq (.reg f46r2) .ret) .skip)) (.seq (.draw f46r3) .ret)))⟩

-- fingerpost/rib.New
def f47r0 : List AOper := [
  ⟨(some 3), .box 99 (.agg 99) (.t 1), none⟩,
  ⟨(some 4), .move (.c .nilp), none⟩,
  ⟨(some 5), .move (.c (.int .i64 0)), none⟩]
def f47r1 : List AOper := [
  ⟨(some 8), .move (.t 0), none⟩,
  ⟨(some 9), .bin .lss (.t 8) (.c (.int .i64 0)), none⟩,
  ⟨(some 10), .move (.t 9), none⟩,
  ⟨(some 11), .move (.t 0), some ((some 10), false)⟩,
  ⟨(some 12), .bin .geq (.t 11) (.c (.int .i64 8)), some ((some 10), false)⟩,
  ⟨(some 13), .pick (.t 10) (.c (.bool true)) (.t 12), none⟩,
  ⟨(some 14), .move (.t 13), none⟩,
  ⟨(some 15), .load 99 (.t 3), some ((some 14), false)⟩,
  ⟨(some 16), .call 91 [(.t 15)], some ((some 14), false)⟩,
  ⟨(some 17), .un .not (.t 16), some ((some 14), false)⟩,
  ⟨(some 18), .pick (.t 14) (.c (.bool true)) (.t 17), none⟩]
def f47r2 : List AOper := [
  ⟨(some 4), .move (.c .nilp), none⟩,
  ⟨(some 5), .move (.c (.int .i64 1)), none⟩]
def f47r3 : List AOper := [
  ⟨(some 19), .move (.t 0), none⟩,
  ⟨(some 20), .load 99 (.t 3), none⟩,
  ⟨(some 21), .build 195 [(0, (.t 19)), (1, (.t 20))], none⟩,
  ⟨(some 22), .box 195 (.agg 195) (.t 21), none⟩,
  ⟨(some 6), .move (.t 22), none⟩]
def f47r4 : List AOper := [
  ⟨(some 23), .move (.c (.int .i64 0)), none⟩]
def f47r5 : List AOper := [
  ⟨(some 24), .bin .lss (.t 23) (.c (.int .i64 8)), none⟩]
def f47r6 : List AOper := [
  ⟨(some 25), .move (.t 23), none⟩,
  ⟨(some 7), .move (.t 25), none⟩]
def f47r7 : List AOper := [
  ⟨(some 26), .move (.t 6), none⟩,
  ⟨(some 27), .move (.t 7), none⟩,
  ⟨(some 28), .nilCheck (.t 26), none⟩,
  ⟨(some 29), .fieldAddr 195 3 194 (.t 28), none⟩,
  ⟨(some 30), .idxA 8 194 3 (.t 29) (.t 27), none⟩,
  ⟨none, .store 3 (.int .i64) (.t 30) (.c (.int .i64 (-1))), none⟩]
def f47r8 : List AOper := [
  ⟨(some 31), .bin .add (.t 23) (.c (.int .i64 1)), none⟩,
  ⟨(some 23), .move (.t 31), none⟩]
def f47r9 : List AOper := [
  ⟨(some 32), .move (.t 6), none⟩,
  ⟨(some 4), .move (.t 32), none⟩,
  ⟨(some 5), .move (.c (.int .i64 0)), none⟩]
def f47 : AFunc := ⟨[.tmp 4, .tmp 5], (.seq (.reg f47r0) (.seq (.seq (.reg f47r1) (.cond (.t 18) (.seq (.reg f47r2) .ret) .skip)) (.seq (.reg f47r3) (.seq (.seq (.reg f47r4) (.block 0 (.loop (.seq (.reg f47r5) (.seq (.cond (.t 24) .skip (.exit 0)) (.seq (.block 1 (.seq (.reg f47r6) (.reg f47r7))) (.reg f47r8))))))) (.seq (.reg f47r9) .ret)))))⟩

-- (*fingerpost/rib.Table).Break
def f48r0 : List AOper := [
  ⟨(some 6), .move (.c .nils), none⟩]
def f48r1 : List AOper := [
  ⟨(some 9), .move (.t 0), none⟩,
  ⟨(some 10), .eqv false .ptr (.t 9) (.c .nilp), none⟩,
  ⟨(some 11), .move (.t 10), none⟩,
  ⟨(some 12), .move (.t 1), some ((some 11), false)⟩,
  ⟨(some 13), .call 92 [(.t 12)], some ((some 11), false)⟩,
  ⟨(some 14), .un .not (.t 13), some ((some 11), false)⟩,
  ⟨(some 15), .pick (.t 11) (.c (.bool true)) (.t 14), none⟩,
  ⟨(some 16), .move (.t 15), none⟩,
  ⟨(some 17), .move (.t 2), some ((some 16), false)⟩,
  ⟨(some 18), .bin .lss (.t 17) (.c (.int .i64 0)), some ((some 16), false)⟩,
  ⟨(some 19), .pick (.t 16) (.c (.bool true)) (.t 18), none⟩,
  ⟨(some 20), .move (.t 19), none⟩,
  ⟨(some 21), .move (.t 2), some ((some 20), false)⟩,
  ⟨(some 22), .bin .geq (.t 21) (.c (.int .i64 8)), some ((some 20), false)⟩,
  ⟨(some 23), .pick (.t 20) (.c (.bool true)) (.t 22), none⟩]
def f48r2 : List AOper := [
  ⟨(some 6), .move (.c .nils), none⟩]
def f48r3 : List AOper := [
  ⟨(some 7), .move (.c .nils), none⟩]
def f48r4 : List AOper := [
  ⟨(some 24), .move (.c (.int .i64 0)), none⟩]
def f48r5 : List AOper := [
  ⟨(some 25), .bin .lss (.t 24) (.c (.int .i64 8)), none⟩]
def f48r6 : List AOper := [
  ⟨(some 26), .move (.t 24), none⟩,
  ⟨(some 8), .move (.t 26), none⟩]
def f48r7 : List AOper := [
  ⟨(some 27), .move (.t 0), none⟩,
  ⟨(some 28), .move (.t 8), none⟩,
  ⟨(some 29), .move (.t 2), none⟩,
  ⟨(some 30), .nilCheck (.t 27), none⟩,
  ⟨(some 31), .fieldAddr 195 2 193 (.t 30), none⟩,
  ⟨(some 32), .idxA 8 193 192 (.t 31) (.t 28), none⟩,
  ⟨(some 33), .idxA 8 192 190 (.t 32) (.t 29), none⟩,
  ⟨(some 34), .fieldAddr 190 0 4 (.t 33), none⟩,
  ⟨(some 35), .load 4 (.t 34), none⟩,
  ⟨(some 36), .un .not (.t 35), none⟩]
def f48r8 : List AOper := [
  ⟨(some 37), .move (.t 0), none⟩,
  ⟨(some 38), .move (.t 8), none⟩,
  ⟨(some 39), .move (.t 2), none⟩,
  ⟨(some 40), .move (.t 1), none⟩,
  ⟨(some 41), .call 93 [(.t 37), (.t 38), (.t 39), (.t 40)], none⟩]
def f48r9 : List AOper := [
  ⟨(some 42), .move (.t 0), none⟩,
  ⟨(some 43), .move (.t 8), none⟩,
  ⟨(some 44), .nilCheck (.t 42), none⟩,
  ⟨(some 45), .fieldAddr 195 3 194 (.t 44), none⟩,
  ⟨(some 46), .idxA 8 194 3 (.t 45) (.t 43), none⟩,
  ⟨(some 47), .load 3 (.t 46), none⟩,
  ⟨(some 48), .move (.t 2), none⟩,
  ⟨(some 49), .bin .eql (.t 47) (.t 48), none⟩]
def f48r10 : List AOper := [
  ⟨(some 50), .move (.t 7), none⟩,
  ⟨(some 51), .move (.t 8), none⟩,
  ⟨(some 52), .buildSlice 3 1 [(0, (.t 51))], none⟩,
  ⟨(some 53), .append 3 false 1954687338268 (.t 50) (.t 52), none⟩,
  ⟨(some 7), .move (.t 53), none⟩]
def f48r11 : List AOper := [
  ⟨(some 54), .move (.t 0), none⟩,
  ⟨(some 55), .move (.t 8), none⟩,
  ⟨(some 56), .call 94 [(.t 54), (.t 55)], none⟩]
def f48r12 : List AOper := [
  ⟨(some 57), .bin .add (.t 24) (.c (.int .i64 1)), none⟩,
  ⟨(some 24), .move (.t 57), none⟩]
def f48r13 : List AOper := [
  ⟨(some 58), .move (.t 7), none⟩,
  ⟨(some 6), .move (.t 58), none⟩]
def f48 : AFunc := ⟨[.tmp 6], (.seq (.reg f48r0) (.seq (.seq (.reg f48r1) (.cond (.t 23) (.seq (.reg f48r2) .ret) .skip)) (.seq (.reg f48r3) (.seq (.seq (.reg f48r4) (.block 0 (.loop (.seq (.reg f48r5) (.seq (.cond (.t 25) .skip (.exit 0)) (.seq (.block 1 (.seq (.reg f48r6) (.seq (.seq (.reg f48r7) (.cond (.t 36) (.exit 1) .skip)) (.seq (.reg f48r8) (.seq (.seq (.reg f48r9) (.cond (.t 49) (.reg f48r10) .skip)) (.reg f48r11)))))) (.reg f48r12))))))) (.seq (.reg f48r13) .ret)))))⟩

-- (fingerpost/fingerposttop.Deed).does
def f49r0 : List AOper := [
  ⟨(some 2), .box 108 (.agg 108) (.t 0), none⟩,
  ⟨(some 4), .move (.c (.int .i64 0)), none⟩,
  ⟨(some 5), .move (.c (.int .i64 0)), none⟩,
  ⟨(some 6), .move (.c .nils), none⟩]
def f49r1 : List AOper := [
  ⟨(some 9), .fieldAddr 108 0 5 (.t 2), none⟩,
  ⟨(some 10), .load 5 (.t 9), none⟩]
def f49r2 : List AOper := [
  ⟨(some 12), .bin .eql (.t 10) (.c (.int .u8 0)), none⟩,
  ⟨(some 11), .move (.t 12), none⟩]
def f49r3 : List AOper := [
  ⟨(some 14), .move (.t 1), none⟩,
  ⟨(some 15), .fieldAddr 108 1 2 (.t 2), none⟩,
  ⟨(some 16), .load 2 (.t 15), none⟩,
  ⟨(some 17), .fieldAddr 108 2 3 (.t 2), none⟩,
  ⟨(some 18), .load 3 (.t 17), none⟩,
  ⟨(some 19), .fieldAddr 108 3 3 (.t 2), none⟩,
  ⟨(some 20), .load 3 (.t 19), none⟩,
  ⟨(some 21), .fieldAddr 108 4 106 (.t 2), none⟩,
  ⟨(some 22), .load 106 (.t 21), none⟩,
  ⟨(some 23), .build 154 [(0, (.t 20)), (1, (.t 22))], none⟩,
  ⟨(some 24), .fieldAddr 108 5 106 (.t 2), none⟩,
  ⟨(some 25), .load 106 (.t 24), none⟩,
  ⟨(some 26), .fieldAddr 108 6 4 (.t 2), none⟩,
  ⟨(some 27), .load 4 (.t 26), none⟩,
  ⟨(some 28), .call 75 [(.t 14), (.t 16), (.t 18), (.t 23), (.t 25), (.t 27)], none⟩,
  ⟨(some 13), .move (.t 28), none⟩,
  ⟨(some 29), .extract 0 (.t 13), none⟩,
  ⟨(some 30), .extract 1 (.t 13), none⟩,
  ⟨(some 7), .move (.t 29), none⟩,
  ⟨(some 8), .move (.t 30), none⟩]
def f49r4 : List AOper := [
  ⟨(some 31), .move (.t 7), none⟩,
  ⟨(some 32), .move (.t 8), none⟩,
  ⟨(some 4), .move (.t 31), none⟩,
  ⟨(some 5), .move (.t 32), none⟩,
  ⟨(some 6), .move (.c .nils), none⟩]
def f49r5 : List AOper := [
  ⟨(some 34), .bin .eql (.t 10) (.c (.int .u8 1)), none⟩,
  ⟨(some 33), .move (.t 34), none⟩]
def f49r6 : List AOper := [
  ⟨(some 35), .move (.t 1), none⟩,
  ⟨(some 36), .fieldAddr 108 1 2 (.t 2), none⟩,
  ⟨(some 37), .load 2 (.t 36), none⟩,
  ⟨(some 38), .fieldAddr 108 2 3 (.t 2), none⟩,
  ⟨(some 39), .load 3 (.t 38), none⟩,
  ⟨(some 40), .call 48 [(.t 35), (.t 37), (.t 39)], none⟩,
  ⟨(some 4), .move (.c (.int .i64 0)), none⟩,
  ⟨(some 5), .move (.c (.int .i64 0)), none⟩,
  ⟨(some 6), .move (.t 40), none⟩]
def f49r7 : List AOper := [
  ⟨(some 42), .bin .eql (.t 10) (.c (.int .u8 2)), none⟩,
  ⟨(some 41), .move (.t 42), none⟩]
def f49r8 : List AOper := [
  ⟨(some 43), .move (.t 1), none⟩,
  ⟨(some 44), .fieldAddr 108 1 2 (.t 2), none⟩,
  ⟨(some 45), .load 2 (.t 44), none⟩,
  ⟨(some 46), .call 95 [(.t 43), (.t 45)], none⟩,
  ⟨(some 4), .move (.c (.int .i64 0)), none⟩,
  ⟨(some 5), .move (.c (.int .i64 0)), none⟩,
  ⟨(some 6), .move (.t 46), none⟩]
def f49r9 : List AOper := [
  ⟨(some 48), .bin .eql (.t 10) (.c (.int .u8 3)), none⟩,
  ⟨(some 47), .move (.t 48), none⟩]
def f49r10 : List AOper := [
  ⟨(some 49), .move (.t 1), none⟩,
  ⟨(some 50), .fieldAddr 108 3 3 (.t 2), none⟩,
  ⟨(some 51), .load 3 (.t 50), none⟩,
  ⟨(some 52), .fieldAddr 108 5 106 (.t 2), none⟩,
  ⟨(some 53), .load 106 (.t 52), none⟩,
  ⟨(some 54), .call 96 [(.t 49), (.t 51), (.t 53)], none⟩,
  ⟨(some 4), .move (.c (.int .i64 0)), none⟩,
  ⟨(some 5), .move (.t 54), none⟩,
  ⟨(some 6), .move (.c .nils), none⟩]
def f49r11 : List AOper := [
  ⟨(some 4), .move (.c (.int .i64 0)), none⟩,
  ⟨(some 5), .move (.c (.int .i64 0)), none⟩,
  ⟨(some 6), .move (.c .nils), none⟩]
def f49 : AFunc := ⟨[.tmp 4, .tmp 5, .tmp 6], (.seq (.reg f49r0) (.seq (.seq (.reg f49r1) (.block 0 (.seq (.reg f49r2) (.cond (.t 11) (.seq (.reg f49r3) (.seq (.reg f49r4) .ret)) (.seq (.reg f49r5) (.cond (.t 33) (.seq (.reg f49r6) .ret) (.seq (.reg f49r7) (.cond (.t 41) (.seq (.reg f49r8) .ret) (.seq (.reg f49r9) (.cond (.t 47) (.seq (.reg f49r10) .ret) .skip)))))))))) (.seq (.reg f49r11) .ret)))⟩

-- slices.Equal[[]int,int]
def f50r0 : List AOper := [
  ⟨(some 4), .move (.c (.bool false)), none⟩]
def f50r1 : List AOper := [
  ⟨(some 6), .move (.t 0), none⟩,
  ⟨(some 7), .lenS (.t 6), none⟩,
  ⟨(some 8), .move (.t 1), none⟩,
  ⟨(some 9), .lenS (.t 8), none⟩,
  ⟨(some 10), .bin .neq (.t 7) (.t 9), none⟩]
def f50r2 : List AOper := [
  ⟨(some 4), .move (.c (.bool false)), none⟩]
def f50r3 : List AOper := [
  ⟨(some 11), .move (.t 0), none⟩,
  ⟨(some 12), .lenS (.t 11), none⟩,
  ⟨(some 13), .move (.c (.int .i64 0)), none⟩]
def f50r4 : List AOper := [
  ⟨(some 14), .bin .lss (.t 13) (.t 12), none⟩]
def f50r5 : List AOper := [
  ⟨(some 15), .move (.t 13), none⟩,
  ⟨(some 5), .move (.t 15), none⟩]
def f50r6 : List (AOper × List Nat) := [
  (⟨(some 16), .move (.t 0), none⟩, []),
  (⟨(some 17), .move (.t 5), none⟩, []),
  (⟨(some 18), .idxS 3 (.t 16) (.t 17), none⟩, []),
  (⟨(some 19), .load 3 (.t 18), none⟩, []),
  (⟨(some 20), .move (.t 1), none⟩, []),
  (⟨(some 21), .move (.t 5), none⟩, []),
  (⟨(some 22), .idxS 3 (.t 20) (.t 21), none⟩, []),
  (⟨(some 23), .load 3 (.t 22), none⟩, []),
  (⟨(some 24), .bin .neq (.t 19) (.t 23), none⟩, [])]
def f50r7 : List AOper := [
  ⟨(some 4), .move (.c (.bool false)), none⟩]
def f50r8 : List AOper := [
  ⟨(some 25), .bin .add (.t 13) (.c (.int .i64 1)), none⟩,
  ⟨(some 13), .move (.t 25), none⟩]
def f50r9 : List AOper := [
  ⟨(some 4), .move (.c (.bool true)), none⟩]
def f50 : AFunc := ⟨[.tmp 4], (.seq (.reg f50r0) (.seq (.seq (.reg f50r1) (.cond (.t 10) (.seq (.reg f50r2) .ret) .skip)) (.seq (.seq (.reg f50r3) (.block 0 (.loop (.seq (.reg f50r4) (.seq (.cond (.t 14) .skip (.exit 0)) (.seq (.block 1 (.seq (.reg f50r5) (.seq (.draw f50r6) (.cond (.t 24) (.seq (.reg f50r7) .ret) .skip)))) (.reg f50r8))))))) (.seq (.reg f50r9) .ret))))⟩

-- fingerpost/fingerposttop.plainly
def f51r0 : List AOper := [
  ⟨(some 0), .alloc 114, none⟩]
def f51r1 : List AOper := [
  ⟨(some 1), .build 114 [(0, (.c (.fn 97 [] [])))], none⟩,
  ⟨none, .store 114 (.agg 114) (.t 0) (.t 1), none⟩]
def f51 : AFunc := ⟨[.cell 0 114], (.seq (.reg f51r0) (.seq (.reg f51r1) .ret))⟩

-- (fingerpost/fingerposttop.turn).alike
def f52r0 : List AOper := [
  ⟨(some 3), .box 114 (.agg 114) (.t 0), none⟩,
  ⟨(some 6), .move (.c (.bool false)), none⟩]
def f52r1 : List AOper := [
  ⟨(some 16), .move (.t 1), none⟩,
  ⟨(some 17), .call 98 [(.t 16)], none⟩,
  ⟨(some 18), .lenS (.t 17), none⟩,
  ⟨(some 19), .move (.t 2), none⟩,
  ⟨(some 20), .call 98 [(.t 19)], none⟩,
  ⟨(some 21), .lenS (.t 20), none⟩,
  ⟨(some 22), .bin .neq (.t 18) (.t 21), none⟩]
def f52r2 : List AOper := [
  ⟨(some 6), .move (.c (.bool false)), none⟩]
def f52r3 : List AOper := [
  ⟨(some 23), .move (.c (.int .i64 0)), none⟩]
def f52r4 : List AOper := [
  ⟨(some 24), .bin .lss (.t 23) (.c (.int .i64 8)), none⟩]
def f52r5 : List AOper := [
  ⟨(some 25), .move (.t 23), none⟩,
  ⟨(some 7), .move (.t 25), none⟩]
def f52r6 : List AOper := [
  ⟨(some 27), .move (.t 1), none⟩,
  ⟨(some 28), .move (.t 7), none⟩,
  ⟨(some 29), .call 99 [(.t 27), (.t 28)], none⟩,
  ⟨(some 26), .move (.t 29), none⟩,
  ⟨(some 30), .extract 0 (.t 26), none⟩,
  ⟨(some 31), .extract 1 (.t 26), none⟩,
  ⟨(some 8), .alloc 204, none⟩,
  ⟨none, .store 204 (.agg 204) (.t 8) (.t 30), none⟩,
  ⟨(some 9), .move (.t 31), none⟩]
def f52r7 : List AOper := [
  ⟨(some 33), .move (.t 2), none⟩,
  ⟨(some 34), .fieldAddr 114 0 58 (.t 3), none⟩,
  ⟨(some 35), .load 58 (.t 34), none⟩,
  ⟨(some 36), .move (.t 7), none⟩,
  ⟨(some 37), .callv (.t 35) [(.t 36)], none⟩,
  ⟨(some 38), .call 99 [(.t 33), (.t 37)], none⟩,
  ⟨(some 32), .move (.t 38), none⟩,
  ⟨(some 39), .extract 0 (.t 32), none⟩,
  ⟨(some 40), .extract 1 (.t 32), none⟩,
  ⟨(some 10), .alloc 204, none⟩,
  ⟨none, .store 204 (.agg 204) (.t 10) (.t 39), none⟩,
  ⟨(some 11), .move (.t 40), none⟩]
def f52r8 : List AOper := [
  ⟨(some 42), .move (.t 1), none⟩,
  ⟨(some 43), .move (.t 7), none⟩,
  ⟨(some 44), .call 100 [(.t 42), (.t 43)], none⟩,
  ⟨(some 41), .move (.t 44), none⟩,
  ⟨(some 45), .extract 0 (.t 41), none⟩,
  ⟨(some 46), .extract 1 (.t 41), none⟩,
  ⟨(some 12), .move (.t 45), none⟩,
  ⟨(some 13), .move (.t 46), none⟩]
def f52r9 : List AOper := [
  ⟨(some 48), .move (.t 2), none⟩,
  ⟨(some 49), .fieldAddr 114 0 58 (.t 3), none⟩,
  ⟨(some 50), .load 58 (.t 49), none⟩,
  ⟨(some 51), .move (.t 7), none⟩,
  ⟨(some 52), .callv (.t 50) [(.t 51)], none⟩,
  ⟨(some 53), .call 100 [(.t 48), (.t 52)], none⟩,
  ⟨(some 47), .move (.t 53), none⟩,
  ⟨(some 54), .extract 0 (.t 47), none⟩,
  ⟨(some 55), .extract 1 (.t 47), none⟩,
  ⟨(some 14), .move (.t 54), none⟩,
  ⟨(some 15), .move (.t 55), none⟩]
def f52r10 : List (AOper × List Nat) := [
  (⟨(some 56), .move (.t 9), none⟩, []),
  (⟨(some 57), .move (.t 11), none⟩, []),
  (⟨(some 58), .eqv true .bool (.t 56) (.t 57), none⟩, []),
  (⟨(some 59), .move (.t 58), none⟩, []),
  (⟨(some 60), .move (.t 12), some ((some 59), false)⟩, []),
  (⟨(some 61), .move (.t 14), some ((some 59), false)⟩, []),
  (⟨(some 62), .bin .neq (.t 60) (.t 61), some ((some 59), false)⟩, []),
  (⟨(some 63), .pick (.t 59) (.c (.bool true)) (.t 62), none⟩, []),
  (⟨(some 64), .move (.t 63), none⟩, []),
  (⟨(some 65), .move (.t 13), some ((some 64), false)⟩, []),
  (⟨(some 66), .move (.t 15), some ((some 64), false)⟩, []),
  (⟨(some 67), .eqv true .bool (.t 65) (.t 66), some ((some 64), false)⟩, []),
  (⟨(some 68), .pick (.t 64) (.c (.bool true)) (.t 67), none⟩, []),
  (⟨(some 69), .move (.t 68), none⟩, []),
  (⟨(some 70), .move (.t 1), some ((some 69), false)⟩, []),
  (⟨(some 71), .move (.t 7), some ((some 69), false)⟩, []),
  (⟨(some 72), .call 101 [(.t 70), (.t 71)], some ((some 69), false)⟩, []),
  (⟨(some 73), .move (.t 2), some ((some 69), false)⟩, []),
  (⟨(some 74), .fieldAddr 114 0 58 (.t 3), some ((some 69), false)⟩, []),
  (⟨(some 75), .load 58 (.t 74), some ((some 69), false)⟩, [16]),
  (⟨(some 76), .move (.t 7), some ((some 69), false)⟩, []),
  (⟨(some 77), .callv (.t 75) [(.t 76)], some ((some 69), false)⟩, []),
  (⟨(some 78), .call 101 [(.t 73), (.t 77)], some ((some 69), false)⟩, []),
  (⟨(some 79), .bin .neq (.t 72) (.t 78), some ((some 69), false)⟩, []),
  (⟨(some 80), .pick (.t 69) (.c (.bool true)) (.t 79), none⟩, [])]
def f52r11 : List AOper := [
  ⟨(some 6), .move (.c (.bool false)), none⟩]
def f52r12 : List (AOper × List Nat) := [
  (⟨(some 81), .move (.t 9), none⟩, []),
  (⟨(some 82), .move (.t 81), none⟩, []),
  (⟨(some 83), .fieldAddr 204 0 3 (.t 10), some ((some 82), true)⟩, []),
  (⟨(some 84), .load 3 (.t 83), some ((some 82), true)⟩, []),
  (⟨(some 85), .fieldAddr 114 0 58 (.t 3), some ((some 82), true)⟩, []),
  (⟨(some 86), .load 58 (.t 85), some ((some 82), true)⟩, []),
  (⟨(some 87), .fieldAddr 204 0 3 (.t 8), some ((some 82), true)⟩, []),
  (⟨(some 88), .load 3 (.t 87), some ((some 82), true)⟩, []),
  (⟨(some 89), .callv (.t 86) [(.t 88)], some ((some 82), true)⟩, [3]),
  (⟨(some 90), .bin .neq (.t 84) (.t 89), some ((some 82), true)⟩, []),
  (⟨(some 91), .move (.t 90), some ((some 82), true)⟩, []),
  (⟨(some 92), .fieldAddr 204 1 106 (.t 10), some ((some 91), false)⟩, []),
  (⟨(some 93), .load 106 (.t 92), some ((some 91), false)⟩, []),
  (⟨(some 94), .load 114 (.t 3), some ((some 91), false)⟩, []),
  (⟨(some 95), .fieldAddr 204 1 106 (.t 8), some ((some 91), false)⟩, []),
  (⟨(some 96), .load 106 (.t 95), some ((some 91), false)⟩, []),
  (⟨(some 97), .call 102 [(.t 94), (.t 96)], some ((some 91), false)⟩, [12]),
  (⟨(some 98), .eqv true (.agg 106) (.t 93) (.t 97), some ((some 91), false)⟩, []),
  (⟨(some 99), .pick (.t 91) (.c (.bool true)) (.t 98), some ((some 82), true)⟩, []),
  (⟨(some 100), .move (.t 99), some ((some 82), true)⟩, []),
  (⟨(some 101), .fieldAddr 204 2 3 (.t 10), some ((some 100), false)⟩, []),
  (⟨(some 102), .load 3 (.t 101), some ((some 100), false)⟩, []),
  (⟨(some 103), .fieldAddr 204 2 3 (.t 8), some ((some 100), false)⟩, []),
  (⟨(some 104), .load 3 (.t 103), some ((some 100), false)⟩, []),
  (⟨(some 105), .bin .neq (.t 102) (.t 104), some ((some 100), false)⟩, []),
  (⟨(some 106), .pick (.t 100) (.c (.bool true)) (.t 105), some ((some 82), true)⟩, []),
  (⟨(some 107), .move (.t 106), some ((some 82), true)⟩, []),
  (⟨(some 108), .fieldAddr 204 3 4 (.t 10), some ((some 107), false)⟩, []),
  (⟨(some 109), .load 4 (.t 108), some ((some 107), false)⟩, []),
  (⟨(some 110), .fieldAddr 204 3 4 (.t 8), some ((some 107), false)⟩, []),
  (⟨(some 111), .load 4 (.t 110), some ((some 107), false)⟩, []),
  (⟨(some 112), .eqv true .bool (.t 109) (.t 111), some ((some 107), false)⟩, []),
  (⟨(some 113), .pick (.t 107) (.c (.bool true)) (.t 112), some ((some 82), true)⟩, []),
  (⟨(some 114), .move (.t 113), some ((some 82), true)⟩, []),
  (⟨(some 115), .fieldAddr 204 4 2 (.t 10), some ((some 114), false)⟩, []),
  (⟨(some 116), .load 2 (.t 115), some ((some 114), false)⟩, []),
  (⟨(some 117), .fieldAddr 204 4 2 (.t 8), some ((some 114), false)⟩, []),
  (⟨(some 118), .load 2 (.t 117), some ((some 114), false)⟩, []),
  (⟨(some 119), .fieldAddr 114 1 2 (.t 3), some ((some 114), false)⟩, []),
  (⟨(some 120), .load 2 (.t 119), some ((some 114), false)⟩, []),
  (⟨(some 121), .bin .add (.t 118) (.t 120), some ((some 114), false)⟩, []),
  (⟨(some 122), .bin .neq (.t 116) (.t 121), some ((some 114), false)⟩, []),
  (⟨(some 123), .pick (.t 114) (.c (.bool true)) (.t 122), some ((some 82), true)⟩, []),
  (⟨(some 124), .move (.t 123), some ((some 82), true)⟩, []),
  (⟨(some 125), .fieldAddr 204 5 154 (.t 10), some ((some 124), false)⟩, []),
  (⟨(some 126), .fieldAddr 154 0 3 (.t 125), some ((some 124), false)⟩, []),
  (⟨(some 127), .load 3 (.t 126), some ((some 124), false)⟩, []),
  (⟨(some 128), .fieldAddr 114 0 58 (.t 3), some ((some 124), false)⟩, []),
  (⟨(some 129), .load 58 (.t 128), some ((some 124), false)⟩, []),
  (⟨(some 130), .fieldAddr 204 5 154 (.t 8), some ((some 124), false)⟩, []),
  (⟨(some 131), .fieldAddr 154 0 3 (.t 130), some ((some 124), false)⟩, []),
  (⟨(some 132), .load 3 (.t 131), some ((some 124), false)⟩, []),
  (⟨(some 133), .callv (.t 129) [(.t 132)], some ((some 124), false)⟩, [46]),
  (⟨(some 134), .bin .neq (.t 127) (.t 133), some ((some 124), false)⟩, []),
  (⟨(some 135), .pick (.t 124) (.c (.bool true)) (.t 134), some ((some 82), true)⟩, []),
  (⟨(some 136), .move (.t 135), some ((some 82), true)⟩, []),
  (⟨(some 137), .fieldAddr 204 5 154 (.t 10), some ((some 136), false)⟩, []),
  (⟨(some 138), .fieldAddr 154 1 106 (.t 137), some ((some 136), false)⟩, []),
  (⟨(some 139), .load 106 (.t 138), some ((some 136), false)⟩, []),
  (⟨(some 140), .load 114 (.t 3), some ((some 136), false)⟩, []),
  (⟨(some 141), .fieldAddr 204 5 154 (.t 8), some ((some 136), false)⟩, []),
  (⟨(some 142), .fieldAddr 154 1 106 (.t 141), some ((some 136), false)⟩, []),
  (⟨(some 143), .load 106 (.t 142), some ((some 136), false)⟩, []),
  (⟨(some 144), .call 102 [(.t 140), (.t 143)], some ((some 136), false)⟩, [58]),
  (⟨(some 145), .eqv true (.agg 106) (.t 139) (.t 144), some ((some 136), false)⟩, []),
  (⟨(some 146), .pick (.t 136) (.c (.bool true)) (.t 145), some ((some 82), true)⟩, []),
  (⟨(some 147), .pick (.t 82) (.t 146) (.c (.bool false)), none⟩, [])]
def f52r13 : List AOper := [
  ⟨(some 6), .move (.c (.bool false)), none⟩]
def f52r14 : List AOper := [
  ⟨(some 148), .bin .add (.t 23) (.c (.int .i64 1)), none⟩,
  ⟨(some 23), .move (.t 148), none⟩]
def f52r15 : List AOper := [
  ⟨(some 6), .move (.c (.bool true)), none⟩]
def f52 : AFunc := ⟨[.tmp 6], (.seq (.reg f52r0) (.seq (.seq (.reg f52r1) (.cond (.t 22) (.seq (.reg f52r2) .ret) .skip)) (.seq (.seq (.reg f52r3) (.block 0 (.loop (.seq (.reg f52r4) (.seq (.cond (.t 24) .skip (.exit 0)) (.seq (.block 1 (.seq (.reg f52r5) (.seq (.reg f52r6) (.seq (.reg f52r7) (.seq (.reg f52r8) (.seq (.reg f52r9) (.seq (.seq (.draw f52r10) (.cond (.t 80) (.seq (.reg f52r11) .ret) .skip)) (.seq (.draw f52r12) (.cond (.t 147) (.seq (.reg f52r13) .ret) .skip))))))))) (.reg f52r14))))))) (.seq (.reg f52r15) .ret))))⟩

-- fingerpost/fingerposttop.WholeFieldsJoined$1
def f53r0 : List AOper := [
  ⟨(some 1), .box 120 (.agg 120) (.t 0), none⟩,
  ⟨(some 2), .move (.c (.bool false)), none⟩]
def f53r1 : List AOper := [
  ⟨(some 3), .fieldAddr 120 4 39 (.t 1), none⟩,
  ⟨(some 4), .load 39 (.t 3), none⟩,
  ⟨(some 5), .lenS (.t 4), none⟩,
  ⟨(some 6), .bin .gtr (.t 5) (.c (.int .i64 600)), none⟩,
  ⟨(some 7), .move (.t 6), none⟩,
  ⟨(some 8), .fieldAddr 120 3 57 (.t 1), some ((some 7), false)⟩,
  ⟨(some 9), .load 57 (.t 8), some ((some 7), false)⟩,
  ⟨(some 10), .lenS (.t 9), some ((some 7), false)⟩,
  ⟨(some 11), .bin .gtr (.t 10) (.c (.int .i64 300)), some ((some 7), false)⟩,
  ⟨(some 12), .pick (.t 7) (.c (.bool true)) (.t 11), none⟩,
  ⟨(some 2), .move (.t 12), none⟩]
def f53 : AFunc := ⟨[.tmp 2], (.seq (.reg f53r0) (.seq (.reg f53r1) .ret))⟩

-- slices.ContainsFunc[[]fingerpost/fingerposttop.Part,fingerpost/fingerposttop.Part]
def f54r0 : List AOper := [
  ⟨(some 4), .move (.c (.bool false)), none⟩]
def f54r1 : List AOper := [
  ⟨(some 5), .move (.t 0), none⟩,
  ⟨(some 6), .move (.t 1), none⟩,
  ⟨(some 7), .call 103 [(.t 5), (.t 6)], none⟩,
  ⟨(some 8), .bin .geq (.t 7) (.c (.int .i64 0)), none⟩,
  ⟨(some 4), .move (.t 8), none⟩]
def f54 : AFunc := ⟨[.tmp 4], (.seq (.reg f54r0) (.seq (.reg f54r1) .ret))⟩

-- fingerpost/fingerposttop.WholeFieldsJoined$2
def f55r0 : List AOper := [
  ⟨(some 2), .move (.c .nils), none⟩,
  ⟨(some 3), .move (.c (.int .i64 0)), none⟩]
def f55r1 : List AOper := [
  ⟨(some 9), .call 56 [], none⟩,
  ⟨(some 4), .move (.t 9), none⟩]
def f55r2 : List AOper := [
  ⟨(some 10), .move (.t 0), none⟩,
  ⟨(some 11), .lenS (.t 10), none⟩,
  ⟨(some 12), .move (.c (.int .i64 0)), none⟩]
def f55r3 : List AOper := [
  ⟨(some 13), .bin .lss (.t 12) (.t 11), none⟩]
def f55r4 : List AOper := [
  ⟨(some 14), .idxS 119 (.t 10) (.t 12), none⟩,
  ⟨(some 15), .load 119 (.t 14), none⟩,
  ⟨(some 6), .move (.t 15), none⟩]
def f55r5 : List AOper := [
  ⟨(some 16), .move (.t 6), none⟩,
  ⟨(some 17), .lenS (.t 16), none⟩,
  ⟨(some 18), .move (.c (.int .i64 0)), none⟩]
def f55r6 : List AOper := [
  ⟨(some 19), .bin .lss (.t 18) (.t 17), none⟩]
def f55r7 : List AOper := [
  ⟨(some 20), .idxS 120 (.t 16) (.t 18), none⟩,
  ⟨(some 21), .load 120 (.t 20), none⟩,
  ⟨(some 8), .alloc 120, none⟩,
  ⟨none, .store 120 (.agg 120) (.t 8) (.t 21), none⟩]
def f55r8 : List AOper := [
  ⟨(some 22), .load 120 (.t 8), none⟩,
  ⟨(some 23), .move (.t 4), none⟩,
  ⟨(some 24), .call 57 [(.t 22), (.t 23)], none⟩]
def f55r9 : List AOper := [
  ⟨(some 25), .bin .add (.t 18) (.c (.int .i64 1)), none⟩,
  ⟨(some 18), .move (.t 25), none⟩]
def f55r10 : List AOper := [
  ⟨(some 26), .bin .add (.t 12) (.c (.int .i64 1)), none⟩,
  ⟨(some 12), .move (.t 26), none⟩]
def f55r11 : List AOper := [
  ⟨(some 27), .move (.t 4), none⟩,
  ⟨(some 28), .call 58 [(.t 27)], none⟩,
  ⟨(some 29), .extract 0 (.t 28), none⟩,
  ⟨(some 30), .extract 1 (.t 28), none⟩,
  ⟨(some 2), .move (.t 29), none⟩,
  ⟨(some 3), .move (.t 30), none⟩]
def f55 : AFunc := ⟨[.tmp 2, .tmp 3], (.seq (.reg f55r0) (.seq (.reg f55r1) (.seq (.seq (.reg f55r2) (.block 0 (.loop (.seq (.reg f55r3) (.seq (.cond (.t 13) .skip (.exit 0)) (.seq (.block 1 (.seq (.reg f55r4) (.seq (.reg f55r5) (.block 2 (.loop (.seq (.reg f55r6) (.seq (.cond (.t 19) .skip (.exit 2)) (.seq (.block 3 (.seq (.reg f55r7) (.reg f55r8))) (.reg f55r9))))))))) (.reg f55r10))))))) (.seq (.reg f55r11) .ret))))⟩

-- fingerpost/field.Lay
def f56r0 : List AOper := [
  ⟨(some 0), .move (.c .nilp), none⟩]
def f56r1 : List AOper := [
  ⟨(some 1), .build 212 [], none⟩,
  ⟨(some 2), .box 212 (.agg 212) (.t 1), none⟩,
  ⟨(some 0), .move (.t 2), none⟩]
def f56 : AFunc := ⟨[.tmp 0], (.seq (.reg f56r0) (.seq (.reg f56r1) .ret))⟩

-- (fingerpost/fingerposttop.Part).lays
def f57r0 : List AOper := [
  ⟨(some 2), .box 120 (.agg 120) (.t 0), none⟩]
def f57r1 : List AOper := [
  ⟨(some 4), .fieldAddr 120 0 5 (.t 2), none⟩,
  ⟨(some 5), .load 5 (.t 4), none⟩]
def f57r2 : List AOper := [
  ⟨(some 7), .bin .eql (.t 5) (.c (.int .u8 0)), none⟩,
  ⟨(some 6), .move (.t 7), none⟩]
def f57r3 : List AOper := [
  ⟨(some 8), .move (.t 1), none⟩,
  ⟨(some 9), .fieldAddr 120 1 29 (.t 2), none⟩,
  ⟨(some 10), .load 29 (.t 9), none⟩,
  ⟨(some 11), .call 104 [(.t 8), (.t 10)], none⟩]
def f57r4 : List AOper := [
  ⟨(some 13), .bin .eql (.t 5) (.c (.int .u8 1)), none⟩,
  ⟨(some 12), .move (.t 13), none⟩]
def f57r5 : List AOper := [
  ⟨(some 14), .move (.t 1), none⟩,
  ⟨(some 15), .fieldAddr 120 1 29 (.t 2), none⟩,
  ⟨(some 16), .load 29 (.t 15), none⟩,
  ⟨(some 17), .call 78 [(.t 14), (.t 16)], none⟩]
def f57r6 : List AOper := [
  ⟨(some 19), .bin .eql (.t 5) (.c (.int .u8 2)), none⟩,
  ⟨(some 18), .move (.t 19), none⟩]
def f57r7 : List AOper := [
  ⟨(some 20), .move (.t 1), none⟩,
  ⟨(some 21), .fieldAddr 120 1 29 (.t 2), none⟩,
  ⟨(some 22), .load 29 (.t 21), none⟩,
  ⟨(some 23), .call 105 [(.t 20), (.t 22)], none⟩]
def f57r8 : List AOper := [
  ⟨(some 25), .bin .eql (.t 5) (.c (.int .u8 3)), none⟩,
  ⟨(some 24), .move (.t 25), none⟩]
def f57r9 : List AOper := [
  ⟨(some 26), .move (.t 1), none⟩,
  ⟨(some 27), .fieldAddr 120 1 29 (.t 2), none⟩,
  ⟨(some 28), .load 29 (.t 27), none⟩,
  ⟨(some 29), .call 106 [(.t 26), (.t 28)], none⟩]
def f57r10 : List AOper := [
  ⟨(some 31), .bin .eql (.t 5) (.c (.int .u8 4)), none⟩,
  ⟨(some 30), .move (.t 31), none⟩]
def f57r11 : List AOper := [
  ⟨(some 32), .move (.t 1), none⟩,
  ⟨(some 33), .fieldAddr 120 2 62 (.t 2), none⟩,
  ⟨(some 34), .load 62 (.t 33), none⟩,
  ⟨(some 35), .call 107 [(.t 32), (.t 34)], none⟩]
def f57r12 : List AOper := [
  ⟨(some 37), .bin .eql (.t 5) (.c (.int .u8 5)), none⟩,
  ⟨(some 36), .move (.t 37), none⟩]
def f57r13 : List AOper := [
  ⟨(some 38), .move (.t 1), none⟩,
  ⟨(some 39), .fieldAddr 120 3 57 (.t 2), none⟩,
  ⟨(some 40), .load 57 (.t 39), none⟩,
  ⟨(some 41), .call 108 [(.t 38), (.t 40)], none⟩]
def f57r14 : List AOper := [
  ⟨(some 43), .bin .eql (.t 5) (.c (.int .u8 6)), none⟩,
  ⟨(some 42), .move (.t 43), none⟩]
def f57r15 : List AOper := [
  ⟨(some 44), .move (.t 1), none⟩,
  ⟨(some 45), .fieldAddr 120 4 39 (.t 2), none⟩,
  ⟨(some 46), .load 39 (.t 45), none⟩,
  ⟨(some 47), .call 79 [(.t 44), (.t 46)], none⟩]
def f57 : AFunc := ⟨[], (.seq (.reg f57r0) (.seq (.reg f57r1) (.block 0 (.seq (.reg f57r2) (.cond (.t 6) (.reg f57r3) (.seq (.reg f57r4) (.cond (.t 12) (.reg f57r5) (.seq (.reg f57r6) (.cond (.t 18) (.reg f57r7) (.seq (.reg f57r8) (.cond (.t 24) (.reg f57r9) (.seq (.reg f57r10) (.cond (.t 30) (.reg f57r11) (.seq (.reg f57r12) (.cond (.t 36) (.reg f57r13) (.seq (.reg f57r14) (.cond (.t 42) (.reg f57r15) .skip)))))))))))))))))⟩

-- (*fingerpost/field.Out).Bytes
def f58r0 : List AOper := [
  ⟨(some 2), .move (.c .nils), none⟩,
  ⟨(some 3), .move (.c (.int .i64 0)), none⟩]
def f58r1 : List AOper := [
  ⟨(some 5), .move (.t 0), none⟩,
  ⟨(some 6), .eqv false .ptr (.t 5) (.c .nilp), none⟩,
  ⟨(some 4), .move (.t 6), none⟩]
def f58r2 : List AOper := [
  ⟨(some 2), .move (.c .nils), none⟩,
  ⟨(some 3), .move (.c (.int .i64 2)), none⟩]
def f58r3 : List AOper := [
  ⟨(some 8), .move (.t 0), none⟩,
  ⟨(some 9), .nilCheck (.t 8), none⟩,
  ⟨(some 10), .fieldAddr 212 1 4 (.t 9), none⟩,
  ⟨(some 11), .load 4 (.t 10), none⟩,
  ⟨(some 7), .move (.t 11), none⟩]
def f58r4 : List AOper := [
  ⟨(some 2), .move (.c .nils), none⟩,
  ⟨(some 3), .move (.c (.int .i64 8)), none⟩]
def f58r5 : List AOper := [
  ⟨(some 12), .buildSlice 5 0 [], none⟩,
  ⟨(some 13), .move (.t 0), none⟩,
  ⟨(some 14), .nilCheck (.t 13), none⟩,
  ⟨(some 15), .fieldAddr 212 0 39 (.t 14), none⟩,
  ⟨(some 16), .load 39 (.t 15), none⟩,
  ⟨(some 17), .append 5 false 8796093022208 (.t 12) (.t 16), none⟩,
  ⟨(some 2), .move (.t 17), none⟩,
  ⟨(some 3), .move (.c (.int .i64 0)), none⟩]
def f58 : AFunc := ⟨[.tmp 2, .tmp 3], (.seq (.reg f58r0) (.seq (.block 0 (.seq (.reg f58r1) (.cond (.t 4) (.seq (.reg f58r2) .ret) (.seq (.reg f58r3) (.cond (.t 7) (.seq (.reg f58r4) .ret) .skip))))) (.seq (.reg f58r5) .ret)))⟩

-- fingerpost/field.Take
def f59r0 : List AOper := [
  ⟨(some 2), .move (.c .nilp), none⟩]
def f59r1 : List AOper := [
  ⟨(some 3), .buildSlice 5 0 [], none⟩,
  ⟨(some 4), .move (.t 0), none⟩,
  ⟨(some 5), .append 5 false 8796093022208 (.t 3) (.t 4), none⟩,
  ⟨(some 6), .build 216 [(0, (.t 5))], none⟩,
  ⟨(some 7), .box 216 (.agg 216) (.t 6), none⟩,
  ⟨(some 2), .move (.t 7), none⟩]
def f59 : AFunc := ⟨[.tmp 2], (.seq (.reg f59r0) (.seq (.reg f59r1) .ret))⟩

-- (fingerpost/fingerposttop.Part).reads
def f60r0 : List AOper := [
  ⟨(some 2), .box 120 (.agg 120) (.t 0), none⟩,
  ⟨(some 4), .move (.c (.bool false)), none⟩]
def f60r1 : List AOper := [
  ⟨(some 5), .fieldAddr 120 0 5 (.t 2), none⟩,
  ⟨(some 6), .load 5 (.t 5), none⟩]
def f60r2 : List AOper := [
  ⟨(some 8), .bin .eql (.t 6) (.c (.int .u8 0)), none⟩,
  ⟨(some 7), .move (.t 8), none⟩]
def f60r3 : List (AOper × List Nat) := [
  (⟨(some 9), .move (.t 1), none⟩, []),
  (⟨(some 10), .call 109 [(.t 9)], none⟩, []),
  (⟨(some 11), .fieldAddr 120 1 29 (.t 2), none⟩, []),
  (⟨(some 12), .load 29 (.t 11), none⟩, [1]),
  (⟨(some 13), .bin .eql (.t 10) (.t 12), none⟩, []),
  (⟨(some 4), .move (.t 13), none⟩, [])]
def f60r4 : List AOper := [
  ⟨(some 15), .bin .eql (.t 6) (.c (.int .u8 1)), none⟩,
  ⟨(some 14), .move (.t 15), none⟩]
def f60r5 : List (AOper × List Nat) := [
  (⟨(some 16), .move (.t 1), none⟩, []),
  (⟨(some 17), .call 110 [(.t 16)], none⟩, []),
  (⟨(some 18), .fieldAddr 120 1 29 (.t 2), none⟩, []),
  (⟨(some 19), .load 29 (.t 18), none⟩, [1]),
  (⟨(some 20), .bin .eql (.t 17) (.t 19), none⟩, []),
  (⟨(some 4), .move (.t 20), none⟩, [])]
def f60r6 : List AOper := [
  ⟨(some 22), .bin .eql (.t 6) (.c (.int .u8 2)), none⟩,
  ⟨(some 21), .move (.t 22), none⟩]
def f60r7 : List (AOper × List Nat) := [
  (⟨(some 23), .move (.t 1), none⟩, []),
  (⟨(some 24), .call 111 [(.t 23)], none⟩, []),
  (⟨(some 25), .fieldAddr 120 1 29 (.t 2), none⟩, []),
  (⟨(some 26), .load 29 (.t 25), none⟩, [1]),
  (⟨(some 27), .bin .eql (.t 24) (.t 26), none⟩, []),
  (⟨(some 4), .move (.t 27), none⟩, [])]
def f60r8 : List AOper := [
  ⟨(some 29), .bin .eql (.t 6) (.c (.int .u8 3)), none⟩,
  ⟨(some 28), .move (.t 29), none⟩]
def f60r9 : List (AOper × List Nat) := [
  (⟨(some 30), .move (.t 1), none⟩, []),
  (⟨(some 31), .call 112 [(.t 30)], none⟩, []),
  (⟨(some 32), .fieldAddr 120 1 29 (.t 2), none⟩, []),
  (⟨(some 33), .load 29 (.t 32), none⟩, [1]),
  (⟨(some 34), .bin .eql (.t 31) (.t 33), none⟩, []),
  (⟨(some 4), .move (.t 34), none⟩, [])]
def f60r10 : List AOper := [
  ⟨(some 36), .bin .eql (.t 6) (.c (.int .u8 4)), none⟩,
  ⟨(some 35), .move (.t 36), none⟩]
def f60r11 : List (AOper × List Nat) := [
  (⟨(some 37), .move (.t 1), none⟩, []),
  (⟨(some 38), .call 113 [(.t 37)], none⟩, []),
  (⟨(some 39), .fieldAddr 120 2 62 (.t 2), none⟩, []),
  (⟨(some 40), .load 62 (.t 39), none⟩, [1]),
  (⟨(some 41), .eqv false (.agg 62) (.t 38) (.t 40), none⟩, []),
  (⟨(some 4), .move (.t 41), none⟩, [])]
def f60r12 : List AOper := [
  ⟨(some 43), .bin .eql (.t 6) (.c (.int .u8 5)), none⟩,
  ⟨(some 42), .move (.t 43), none⟩]
def f60r13 : List (AOper × List Nat) := [
  (⟨(some 44), .move (.t 1), none⟩, []),
  (⟨(some 45), .call 114 [(.t 44), (.c (.int .i64 255))], none⟩, []),
  (⟨(some 46), .fieldAddr 120 3 57 (.t 2), none⟩, []),
  (⟨(some 47), .load 57 (.t 46), none⟩, [1]),
  (⟨(some 48), .call 33 [(.t 45), (.t 47)], none⟩, []),
  (⟨(some 4), .move (.t 48), none⟩, [])]
def f60r14 : List AOper := [
  ⟨(some 50), .bin .eql (.t 6) (.c (.int .u8 6)), none⟩,
  ⟨(some 49), .move (.t 50), none⟩]
def f60r15 : List (AOper × List Nat) := [
  (⟨(some 51), .move (.t 1), none⟩, []),
  (⟨(some 52), .call 115 [(.t 51), (.c (.int .i64 4096))], none⟩, []),
  (⟨(some 53), .fieldAddr 120 4 39 (.t 2), none⟩, []),
  (⟨(some 54), .load 39 (.t 53), none⟩, [1]),
  (⟨(some 55), .call 45 [(.t 52), (.t 54)], none⟩, []),
  (⟨(some 4), .move (.t 55), none⟩, [])]
def f60r16 : List AOper := [
  ⟨(some 4), .move (.c (.bool true)), none⟩]
def f60 : AFunc := ⟨[.tmp 4], (.seq (.reg f60r0) (.seq (.seq (.reg f60r1) (.block 0 (.seq (.reg f60r2) (.cond (.t 7) (.seq (.draw f60r3) .ret) (.seq (.reg f60r4) (.cond (.t 14) (.seq (.draw f60r5) .ret) (.seq (.reg f60r6) (.cond (.t 21) (.seq (.draw f60r7) .ret) (.seq (.reg f60r8) (.cond (.t 28) (.seq (.draw f60r9) .ret) (.seq (.reg f60r10) (.cond (.t 35) (.seq (.draw f60r11) .ret) (.seq (.reg f60r12) (.cond (.t 42) (.seq (.draw f60r13) .ret) (.seq (.reg f60r14) (.cond (.t 49) (.seq (.draw f60r15) .ret) .skip)))))))))))))))) (.seq (.reg f60r16) .ret)))⟩

-- (*fingerpost/field.In).Left
def f61r0 : List AOper := [
  ⟨(some 2), .move (.c (.int .i64 0)), none⟩]
def f61r1 : List AOper := [
  ⟨(some 3), .move (.t 0), none⟩,
  ⟨(some 4), .eqv false .ptr (.t 3) (.c .nilp), none⟩]
def f61r2 : List AOper := [
  ⟨(some 2), .move (.c (.int .i64 0)), none⟩]
def f61r3 : List AOper := [
  ⟨(some 5), .move (.t 0), none⟩,
  ⟨(some 6), .nilCheck (.t 5), none⟩,
  ⟨(some 7), .fieldAddr 216 0 39 (.t 6), none⟩,
  ⟨(some 8), .load 39 (.t 7), none⟩,
  ⟨(some 9), .lenS (.t 8), none⟩,
  ⟨(some 2), .move (.t 9), none⟩]
def f61 : AFunc := ⟨[.tmp 2], (.seq (.reg f61r0) (.seq (.seq (.reg f61r1) (.cond (.t 4) (.seq (.reg f61r2) .ret) .skip)) (.seq (.reg f61r3) .ret)))⟩

-- (*fingerpost/field.In).Err
def f62r0 : List AOper := [
  ⟨(some 2), .move (.c (.int .i64 0)), none⟩]
def f62r1 : List AOper := [
  ⟨(some 3), .move (.t 0), none⟩,
  ⟨(some 4), .eqv false .ptr (.t 3) (.c .nilp), none⟩]
def f62r2 : List AOper := [
  ⟨(some 2), .move (.c (.int .i64 2)), none⟩]
def f62r3 : List AOper := [
  ⟨(some 5), .move (.t 0), none⟩,
  ⟨(some 6), .nilCheck (.t 5), none⟩,
  ⟨(some 7), .fieldAddr 216 1 3 (.t 6), none⟩,
  ⟨(some 8), .load 3 (.t 7), none⟩,
  ⟨(some 2), .move (.t 8), none⟩]
def f62 : AFunc := ⟨[.tmp 2], (.seq (.reg f62r0) (.seq (.seq (.reg f62r1) (.cond (.t 4) (.seq (.reg f62r2) .ret) .skip)) (.seq (.reg f62r3) .ret)))⟩

-- (*fingerpost/field.In).End
def f63r0 : List AOper := [
  ⟨(some 2), .move (.c (.int .i64 0)), none⟩]
def f63r1 : List AOper := [
  ⟨(some 3), .move (.t 0), none⟩,
  ⟨(some 4), .call 61 [(.t 3)], none⟩,
  ⟨(some 5), .bin .gtr (.t 4) (.c (.int .i64 0)), none⟩]
def f63r2 : List AOper := [
  ⟨(some 6), .move (.t 0), none⟩,
  ⟨(some 7), .call 116 [(.t 6), (.c (.int .i64 10))], none⟩]
def f63r3 : List AOper := [
  ⟨(some 8), .move (.t 0), none⟩,
  ⟨(some 9), .call 62 [(.t 8)], none⟩,
  ⟨(some 2), .move (.t 9), none⟩]
def f63 : AFunc := ⟨[.tmp 2], (.seq (.reg f63r0) (.seq (.seq (.reg f63r1) (.cond (.t 5) (.reg f63r2) .skip)) (.seq (.reg f63r3) .ret)))⟩

-- slices.ContainsFunc[[][]byte,[]byte]
def f64r0 : List AOper := [
  ⟨(some 4), .move (.c (.bool false)), none⟩]
def f64r1 : List AOper := [
  ⟨(some 5), .move (.t 0), none⟩,
  ⟨(some 6), .move (.t 1), none⟩,
  ⟨(some 7), .call 117 [(.t 5), (.t 6)], none⟩,
  ⟨(some 8), .bin .geq (.t 7) (.c (.int .i64 0)), none⟩,
  ⟨(some 4), .move (.t 8), none⟩]
def f64 : AFunc := ⟨[.tmp 4], (.seq (.reg f64r0) (.seq (.reg f64r1) .ret))⟩

-- fingerpost/fingerposttop.WholeSnapshots$1
def f65r0 : List AOper := [
  ⟨(some 2), .move (.c (.bool false)), none⟩]
def f65r1 : List AOper := [
  ⟨(some 3), .move (.t 0), none⟩,
  ⟨(some 4), .lenS (.t 3), none⟩,
  ⟨(some 5), .bin .gtr (.t 4) (.c (.int .i64 300)), none⟩,
  ⟨(some 2), .move (.t 5), none⟩]
def f65 : AFunc := ⟨[.tmp 2], (.seq (.reg f65r0) (.seq (.reg f65r1) .ret))⟩

-- fingerpost/diary.Start
def f66r0 : List AOper := [
  ⟨(some 6), .move (.c .nilp), none⟩,
  ⟨(some 7), .move (.c (.int .i64 0)), none⟩]
def f66r1 : List AOper := [
  ⟨(some 14), .move (.t 0), none⟩,
  ⟨(some 15), .eqv false .ptr (.t 14) (.c .nilp), none⟩,
  ⟨(some 13), .move (.t 15), none⟩]
def f66r2 : List AOper := [
  ⟨(some 6), .move (.c .nilp), none⟩,
  ⟨(some 7), .move (.c (.int .i64 2)), none⟩]
def f66r3 : List AOper := [
  ⟨(some 17), .move (.t 0), none⟩,
  ⟨(some 18), .call 25 [(.t 17)], none⟩,
  ⟨(some 19), .bin .lss (.t 18) (.c (.int .i64 2)), none⟩,
  ⟨(some 20), .move (.t 19), none⟩,
  ⟨(some 21), .move (.t 1), some ((some 20), false)⟩,
  ⟨(some 22), .bin .eql (.t 21) (.c (.int .u32 0)), some ((some 20), false)⟩,
  ⟨(some 23), .pick (.t 20) (.c (.bool true)) (.t 22), none⟩,
  ⟨(some 16), .move (.t 23), none⟩]
def f66r4 : List AOper := [
  ⟨(some 6), .move (.c .nilp), none⟩,
  ⟨(some 7), .move (.c (.int .i64 1)), none⟩]
def f66r5 : List AOper := [
  ⟨(some 24), .move (.t 0), none⟩,
  ⟨(some 25), .move (.t 1), none⟩,
  ⟨(some 26), .build 223 [(0, (.t 24)), (1, (.t 25))], none⟩,
  ⟨(some 27), .box 223 (.agg 223) (.t 26), none⟩,
  ⟨(some 8), .move (.t 27), none⟩]
def f66r6 : List AOper := [
  ⟨(some 28), .move (.t 2), none⟩,
  ⟨(some 29), .lenS (.t 28), none⟩,
  ⟨(some 30), .move (.c (.int .i64 0)), none⟩]
def f66r7 : List AOper := [
  ⟨(some 31), .bin .lss (.t 30) (.t 29), none⟩]
def f66r8 : List AOper := [
  ⟨(some 32), .idxS 39 (.t 28) (.t 30), none⟩,
  ⟨(some 33), .load 39 (.t 32), none⟩,
  ⟨(some 10), .move (.t 33), none⟩]
def f66r9 : List AOper := [
  ⟨(some 34), .move (.t 8), none⟩,
  ⟨(some 35), .move (.t 10), none⟩,
  ⟨(some 36), .call 118 [(.t 34), (.t 35), (.c (.int .u8 0))], none⟩,
  ⟨(some 11), .move (.t 36), none⟩]
def f66r10 : List AOper := [
  ⟨(some 37), .move (.t 11), none⟩,
  ⟨(some 38), .bin .neq (.t 37) (.c (.int .i64 0)), none⟩]
def f66r11 : List AOper := [
  ⟨(some 39), .move (.t 11), none⟩,
  ⟨(some 6), .move (.c .nilp), none⟩,
  ⟨(some 7), .move (.t 39), none⟩]
def f66r12 : List AOper := [
  ⟨(some 40), .bin .add (.t 30) (.c (.int .i64 1)), none⟩,
  ⟨(some 30), .move (.t 40), none⟩]
def f66r13 : List AOper := [
  ⟨(some 41), .move (.t 8), none⟩,
  ⟨(some 42), .call 118 [(.t 41), (.c .nils), (.c (.int .u8 4))], none⟩,
  ⟨(some 12), .move (.t 42), none⟩]
def f66r14 : List AOper := [
  ⟨(some 43), .move (.t 12), none⟩,
  ⟨(some 44), .bin .neq (.t 43) (.c (.int .i64 0)), none⟩]
def f66r15 : List AOper := [
  ⟨(some 45), .move (.t 12), none⟩,
  ⟨(some 6), .move (.c .nilp), none⟩,
  ⟨(some 7), .move (.t 45), none⟩]
def f66r16 : List AOper := [
  ⟨(some 46), .move (.t 8), none⟩,
  ⟨(some 47), .move (.t 0), none⟩,
  ⟨(some 48), .call 19 [(.t 47)], none⟩,
  ⟨(some 6), .move (.t 46), none⟩,
  ⟨(some 7), .move (.t 48), none⟩]
def f66 : AFunc := ⟨[.tmp 6, .tmp 7], (.seq (.reg f66r0) (.seq (.block 0 (.seq (.reg f66r1) (.cond (.t 13) (.seq (.reg f66r2) .ret) (.seq (.reg f66r3) (.cond (.t 16) (.seq (.reg f66r4) .ret) .skip))))) (.seq (.reg f66r5) (.seq (.seq (.reg f66r6) (.block 1 (.loop (.seq (.reg f66r7) (.seq (.cond (.t 31) .skip (.exit 1)) (.seq (.block 2 (.seq (.reg f66r8) (.seq (.reg f66r9) (.seq (.reg f66r10) (.cond (.t 38) (.seq (.reg f66r11) .ret) .skip))))) (.reg f66r12))))))) (.seq (.seq (.reg f66r13) (.seq (.reg f66r14) (.cond (.t 44) (.seq (.reg f66r15) .ret) .skip))) (.seq (.reg f66r16) .ret))))))⟩

-- fingerpost/diary.Load
def f67r0 : List AOper := [
  ⟨(some 2), .move (.c .nils), none⟩,
  ⟨(some 3), .move (.c (.int .u32 0)), none⟩,
  ⟨(some 4), .move (.c (.int .i64 0)), none⟩]
def f67r1 : List AOper := [
  ⟨(some 14), .move (.t 0), none⟩,
  ⟨(some 15), .eqv false .ptr (.t 14) (.c .nilp), none⟩,
  ⟨(some 13), .move (.t 15), none⟩]
def f67r2 : List AOper := [
  ⟨(some 2), .move (.c .nils), none⟩,
  ⟨(some 3), .move (.c (.int .u32 0)), none⟩,
  ⟨(some 4), .move (.c (.int .i64 2)), none⟩]
def f67r3 : List AOper := [
  ⟨(some 17), .move (.t 0), none⟩,
  ⟨(some 18), .call 25 [(.t 17)], none⟩,
  ⟨(some 19), .bin .lss (.t 18) (.c (.int .i64 2)), none⟩,
  ⟨(some 16), .move (.t 19), none⟩]
def f67r4 : List AOper := [
  ⟨(some 2), .move (.c .nils), none⟩,
  ⟨(some 3), .move (.c (.int .u32 0)), none⟩,
  ⟨(some 4), .move (.c (.int .i64 1)), none⟩]
def f67r5 : List AOper := [
  ⟨(some 5), .alloc 228, none⟩]
def f67r6 : List AOper := [
  ⟨(some 20), .move (.c (.int .u32 0)), none⟩]
def f67r7 : List AOper := [
  ⟨(some 21), .bin .lss (.t 20) (.c (.int .u32 2)), none⟩]
def f67r8 : List AOper := [
  ⟨(some 22), .move (.t 20), none⟩,
  ⟨(some 6), .move (.t 22), none⟩]
def f67r9 : List AOper := [
  ⟨(some 24), .move (.t 0), none⟩,
  ⟨(some 25), .move (.t 6), none⟩,
  ⟨(some 26), .call 119 [(.t 24), (.t 25)], none⟩,
  ⟨(some 23), .move (.t 26), none⟩,
  ⟨(some 27), .extract 0 (.t 23), none⟩,
  ⟨(some 28), .extract 1 (.t 23), none⟩,
  ⟨(some 7), .move (.t 27), none⟩,
  ⟨(some 8), .move (.t 28), none⟩]
def f67r10 : List AOper := [
  ⟨(some 30), .move (.t 0), none⟩,
  ⟨(some 31), .move (.t 7), none⟩,
  ⟨(some 32), .move (.t 8), none⟩,
  ⟨(some 33), .call 120 [(.t 30), (.t 31), (.t 32)], none⟩,
  ⟨(some 29), .move (.t 33), none⟩,
  ⟨(some 34), .extract 0 (.t 29), none⟩,
  ⟨(some 35), .extract 1 (.t 29), none⟩,
  ⟨(some 9), .alloc 226, none⟩,
  ⟨none, .store 226 (.agg 226) (.t 9) (.t 34), none⟩,
  ⟨(some 10), .move (.t 35), none⟩]
def f67r11 : List AOper := [
  ⟨(some 36), .move (.t 10), none⟩,
  ⟨(some 37), .bin .neq (.t 36) (.c (.int .i64 0)), none⟩]
def f67r12 : List AOper := [
  ⟨(some 38), .move (.t 10), none⟩,
  ⟨(some 2), .move (.c .nils), none⟩,
  ⟨(some 3), .move (.c (.int .u32 0)), none⟩,
  ⟨(some 4), .move (.t 38), none⟩]
def f67r13 : List AOper := [
  ⟨(some 39), .move (.t 6), none⟩,
  ⟨(some 40), .load 226 (.t 9), none⟩,
  ⟨(some 41), .idxA 2 228 226 (.t 5) (.t 39), none⟩,
  ⟨none, .store 226 (.agg 226) (.t 41) (.t 40), none⟩]
def f67r14 : List AOper := [
  ⟨(some 42), .bin .add (.t 20) (.c (.int .u32 1)), none⟩,
  ⟨(some 20), .move (.t 42), none⟩]
def f67r15 : List (AOper × List Nat) := [
  (⟨(some 43), .idxA 2 228 226 (.t 5) (.c (.int .i64 0)), none⟩, []),
  (⟨(some 44), .load 226 (.t 43), none⟩, []),
  (⟨(some 45), .idxA 2 228 226 (.t 5) (.c (.int .i64 1)), none⟩, []),
  (⟨(some 46), .load 226 (.t 45), none⟩, []),
  (⟨(some 11), .alloc 226, none⟩, []),
  (⟨(some 12), .alloc 226, none⟩, []),
  (⟨none, .store 226 (.agg 226) (.t 11) (.t 44), none⟩, [3]),
  (⟨none, .store 226 (.agg 226) (.t 12) (.t 46), none⟩, [])]
def f67r16 : List AOper := [
  ⟨(some 48), .fieldAddr 226 2 4 (.t 11), none⟩,
  ⟨(some 49), .load 4 (.t 48), none⟩,
  ⟨(some 50), .move (.t 49), none⟩,
  ⟨(some 51), .fieldAddr 226 2 4 (.t 12), some ((some 50), true)⟩,
  ⟨(some 52), .load 4 (.t 51), some ((some 50), true)⟩,
  ⟨(some 53), .un .not (.t 52), some ((some 50), true)⟩,
  ⟨(some 54), .move (.t 53), some ((some 50), true)⟩,
  ⟨(some 55), .fieldAddr 226 0 23 (.t 11), some ((some 54), false)⟩,
  ⟨(some 56), .load 23 (.t 55), some ((some 54), false)⟩,
  ⟨(some 57), .fieldAddr 226 0 23 (.t 12), some ((some 54), false)⟩,
  ⟨(some 58), .load 23 (.t 57), some ((some 54), false)⟩,
  ⟨(some 59), .bin .gtr (.t 56) (.t 58), some ((some 54), false)⟩,
  ⟨(some 60), .pick (.t 54) (.c (.bool true)) (.t 59), some ((some 50), true)⟩,
  ⟨(some 61), .pick (.t 50) (.t 60) (.c (.bool false)), none⟩,
  ⟨(some 47), .move (.t 61), none⟩]
def f67r17 : List (AOper × List Nat) := [
  (⟨(some 62), .fieldAddr 226 1 135 (.t 11), none⟩, []),
  (⟨(some 63), .load 135 (.t 62), none⟩, []),
  (⟨(some 64), .fieldAddr 226 0 23 (.t 11), none⟩, []),
  (⟨(some 65), .load 23 (.t 64), none⟩, []),
  (⟨(some 66), .fieldAddr 226 0 23 (.t 12), none⟩, []),
  (⟨(some 67), .load 23 (.t 66), none⟩, []),
  (⟨(some 68), .call 121 [(.t 65), (.t 67)], none⟩, [1]),
  (⟨(some 2), .move (.t 63), none⟩, []),
  (⟨(some 3), .move (.t 68), none⟩, []),
  (⟨(some 4), .move (.c (.int .i64 0)), none⟩, [])]
def f67r18 : List AOper := [
  ⟨(some 70), .fieldAddr 226 2 4 (.t 12), none⟩,
  ⟨(some 71), .load 4 (.t 70), none⟩,
  ⟨(some 69), .move (.t 71), none⟩]
def f67r19 : List (AOper × List Nat) := [
  (⟨(some 72), .fieldAddr 226 1 135 (.t 12), none⟩, []),
  (⟨(some 73), .load 135 (.t 72), none⟩, []),
  (⟨(some 74), .fieldAddr 226 0 23 (.t 12), none⟩, []),
  (⟨(some 75), .load 23 (.t 74), none⟩, []),
  (⟨(some 76), .fieldAddr 226 0 23 (.t 11), none⟩, []),
  (⟨(some 77), .load 23 (.t 76), none⟩, []),
  (⟨(some 78), .call 121 [(.t 75), (.t 77)], none⟩, [1]),
  (⟨(some 2), .move (.t 73), none⟩, []),
  (⟨(some 3), .move (.t 78), none⟩, []),
  (⟨(some 4), .move (.c (.int .i64 0)), none⟩, [])]
def f67r20 : List AOper := [
  ⟨(some 80), .fieldAddr 226 0 23 (.t 11), none⟩,
  ⟨(some 81), .load 23 (.t 80), none⟩,
  ⟨(some 82), .bin .gtr (.t 81) (.c (.int .u32 0)), none⟩,
  ⟨(some 79), .move (.t 82), none⟩]
def f67r21 : List AOper := [
  ⟨(some 2), .move (.c .nils), none⟩,
  ⟨(some 3), .move (.c (.int .u32 0)), none⟩,
  ⟨(some 4), .move (.c (.int .i64 31)), none⟩]
def f67r22 : List AOper := [
  ⟨(some 84), .fieldAddr 226 0 23 (.t 12), none⟩,
  ⟨(some 85), .load 23 (.t 84), none⟩,
  ⟨(some 86), .bin .gtr (.t 85) (.c (.int .u32 0)), none⟩,
  ⟨(some 83), .move (.t 86), none⟩]
def f67r23 : List (AOper × List Nat) := [
  (⟨(some 87), .fieldAddr 226 0 23 (.t 12), none⟩, []),
  (⟨(some 88), .load 23 (.t 87), none⟩, []),
  (⟨(some 89), .bin .add (.t 88) (.c (.int .u32 2)), none⟩, []),
  (⟨(some 2), .move (.c .nils), none⟩, []),
  (⟨(some 3), .move (.t 89), none⟩, []),
  (⟨(some 4), .move (.c (.int .i64 0)), none⟩, [])]
def f67r24 : List AOper := [
  ⟨(some 2), .move (.c .nils), none⟩,
  ⟨(some 3), .move (.c (.int .u32 1)), none⟩,
  ⟨(some 4), .move (.c (.int .i64 0)), none⟩]
def f67 : AFunc := ⟨[.tmp 2, .tmp 3, .tmp 4], (.seq (.reg f67r0) (.seq (.block 0 (.seq (.reg f67r1) (.cond (.t 13) (.seq (.reg f67r2) .ret) (.seq (.reg f67r3) (.cond (.t 16) (.seq (.reg f67r4) .ret) .skip))))) (.seq (.reg f67r5) (.seq (.seq (.reg f67r6) (.block 1 (.loop (.seq (.reg f67r7) (.seq (.cond (.t 21) .skip (.exit 1)) (.seq (.block 2 (.seq (.reg f67r8) (.seq (.reg f67r9) (.seq (.reg f67r10) (.seq (.seq (.reg f67r11) (.cond (.t 37) (.seq (.reg f67r12) .ret) .skip)) (.reg f67r13)))))) (.reg f67r14))))))) (.seq (.draw f67r15) (.seq (.block 3 (.seq (.reg f67r16) (.cond (.t 47) (.seq (.draw f67r17) .ret) (.seq (.reg f67r18) (.cond (.t 69) (.seq (.draw f67r19) .ret) (.seq (.reg f67r20) (.cond (.t 79) (.seq (.reg f67r21) .ret) (.seq (.reg f67r22) (.cond (.t 83) (.seq (.draw f67r23) .ret) .skip))))))))) (.seq (.reg f67r24) .ret)))))))⟩

-- (*fingerpost/diary.Diary).Append
def f68r0 : List AOper := [
  ⟨(some 4), .move (.c (.int .i64 0)), none⟩]
def f68r1 : List AOper := [
  ⟨(some 5), .move (.t 0), none⟩,
  ⟨(some 6), .eqv false .ptr (.t 5) (.c .nilp), none⟩]
def f68r2 : List AOper := [
  ⟨(some 4), .move (.c (.int .i64 2)), none⟩]
def f68r3 : List AOper := [
  ⟨(some 7), .move (.t 0), none⟩,
  ⟨(some 8), .move (.t 1), none⟩,
  ⟨(some 9), .call 118 [(.t 7), (.t 8), (.c (.int .u8 0))], none⟩,
  ⟨(some 4), .move (.t 9), none⟩]
def f68 : AFunc := ⟨[.tmp 4], (.seq (.reg f68r0) (.seq (.seq (.reg f68r1) (.cond (.t 6) (.seq (.reg f68r2) .ret) .skip)) (.seq (.reg f68r3) .ret)))⟩

-- (*fingerpost/diary.Diary).Flush
def f69r0 : List AOper := [
  ⟨(some 2), .move (.c (.int .i64 0)), none⟩]
def f69r1 : List AOper := [
  ⟨(some 3), .move (.t 0), none⟩,
  ⟨(some 4), .eqv false .ptr (.t 3) (.c .nilp), none⟩]
def f69r2 : List AOper := [
  ⟨(some 2), .move (.c (.int .i64 2)), none⟩]
def f69r3 : List AOper := [
  ⟨(some 5), .move (.t 0), none⟩,
  ⟨(some 6), .nilCheck (.t 5), none⟩,
  ⟨(some 7), .fieldAddr 223 0 40 (.t 6), none⟩,
  ⟨(some 8), .load 40 (.t 7), none⟩,
  ⟨(some 9), .call 19 [(.t 8)], none⟩,
  ⟨(some 2), .move (.t 9), none⟩]
def f69 : AFunc := ⟨[.tmp 2], (.seq (.reg f69r0) (.seq (.seq (.reg f69r1) (.cond (.t 4) (.seq (.reg f69r2) .ret) .skip)) (.seq (.reg f69r3) .ret)))⟩

-- (*fingerpost/diary.Diary).Free
def f70r0 : List AOper := [
  ⟨(some 2), .move (.c (.int .i64 0)), none⟩]
def f70r1 : List AOper := [
  ⟨(some 5), .move (.t 0), none⟩,
  ⟨(some 6), .eqv false .ptr (.t 5) (.c .nilp), none⟩]
def f70r2 : List AOper := [
  ⟨(some 2), .move (.c (.int .i64 0)), none⟩]
def f70r3 : List (AOper × List Nat) := [
  (⟨(some 8), .move (.t 0), none⟩, []),
  (⟨(some 9), .nilCheck (.t 8), none⟩, []),
  (⟨(some 10), .fieldAddr 223 0 40 (.t 9), none⟩, []),
  (⟨(some 11), .load 40 (.t 10), none⟩, []),
  (⟨(some 12), .move (.t 0), none⟩, []),
  (⟨(some 13), .nilCheck (.t 12), none⟩, []),
  (⟨(some 14), .fieldAddr 223 1 23 (.t 13), none⟩, []),
  (⟨(some 15), .load 23 (.t 14), none⟩, []),
  (⟨(some 16), .call 119 [(.t 11), (.t 15)], none⟩, []),
  (⟨(some 7), .move (.t 16), none⟩, []),
  (⟨(some 17), .extract 0 (.t 7), none⟩, []),
  (⟨(some 18), .extract 1 (.t 7), none⟩, []),
  (⟨(some 3), .move (.t 17), none⟩, []),
  (⟨(some 4), .move (.t 18), none⟩, [])]
def f70r4 : List AOper := [
  ⟨(some 19), .move (.t 4), none⟩,
  ⟨(some 20), .move (.t 0), none⟩,
  ⟨(some 21), .nilCheck (.t 20), none⟩,
  ⟨(some 22), .fieldAddr 223 2 3 (.t 21), none⟩,
  ⟨(some 23), .load 3 (.t 22), none⟩,
  ⟨(some 24), .bin .sub (.t 19) (.t 23), none⟩,
  ⟨(some 2), .move (.t 24), none⟩]
def f70 : AFunc := ⟨[.tmp 2], (.seq (.reg f70r0) (.seq (.seq (.reg f70r1) (.cond (.t 6) (.seq (.reg f70r2) .ret) .skip)) (.seq (.draw f70r3) (.seq (.reg f70r4) .ret))))⟩

-- (*fingerpost/diary.Diary).Gen
def f71r0 : List AOper := [
  ⟨(some 2), .move (.c (.int .u32 0)), none⟩]
def f71r1 : List AOper := [
  ⟨(some 3), .move (.t 0), none⟩,
  ⟨(some 4), .eqv false .ptr (.t 3) (.c .nilp), none⟩]
def f71r2 : List AOper := [
  ⟨(some 2), .move (.c (.int .u32 0)), none⟩]
def f71r3 : List AOper := [
  ⟨(some 5), .move (.t 0), none⟩,
  ⟨(some 6), .nilCheck (.t 5), none⟩,
  ⟨(some 7), .fieldAddr 223 1 23 (.t 6), none⟩,
  ⟨(some 8), .load 23 (.t 7), none⟩,
  ⟨(some 2), .move (.t 8), none⟩]
def f71 : AFunc := ⟨[.tmp 2], (.seq (.reg f71r0) (.seq (.seq (.reg f71r1) (.cond (.t 4) (.seq (.reg f71r2) .ret) .skip)) (.seq (.reg f71r3) .ret)))⟩

-- slices.EqualFunc[[][]byte,[][]byte,[]byte,[]byte]
def f72r0 : List AOper := [
  ⟨(some 6), .move (.c (.bool false)), none⟩]
def f72r1 : List AOper := [
  ⟨(some 10), .move (.t 0), none⟩,
  ⟨(some 11), .lenS (.t 10), none⟩,
  ⟨(some 12), .move (.t 1), none⟩,
  ⟨(some 13), .lenS (.t 12), none⟩,
  ⟨(some 14), .bin .neq (.t 11) (.t 13), none⟩]
def f72r2 : List AOper := [
  ⟨(some 6), .move (.c (.bool false)), none⟩]
def f72r3 : List AOper := [
  ⟨(some 15), .move (.t 0), none⟩,
  ⟨(some 16), .lenS (.t 15), none⟩,
  ⟨(some 17), .move (.c (.int .i64 0)), none⟩]
def f72r4 : List AOper := [
  ⟨(some 18), .bin .lss (.t 17) (.t 16), none⟩]
def f72r5 : List AOper := [
  ⟨(some 19), .move (.t 17), none⟩,
  ⟨(some 20), .idxS 39 (.t 15) (.t 17), none⟩,
  ⟨(some 21), .load 39 (.t 20), none⟩,
  ⟨(some 7), .move (.t 19), none⟩,
  ⟨(some 8), .move (.t 21), none⟩]
def f72r6 : List AOper := [
  ⟨(some 22), .move (.t 1), none⟩,
  ⟨(some 23), .move (.t 7), none⟩,
  ⟨(some 24), .idxS 39 (.t 22) (.t 23), none⟩,
  ⟨(some 25), .load 39 (.t 24), none⟩,
  ⟨(some 9), .move (.t 25), none⟩]
def f72r7 : List AOper := [
  ⟨(some 26), .move (.t 2), none⟩,
  ⟨(some 27), .move (.t 8), none⟩,
  ⟨(some 28), .move (.t 9), none⟩,
  ⟨(some 29), .callv (.t 26) [(.t 27), (.t 28)], none⟩,
  ⟨(some 30), .un .not (.t 29), none⟩]
def f72r8 : List AOper := [
  ⟨(some 6), .move (.c (.bool false)), none⟩]
def f72r9 : List AOper := [
  ⟨(some 31), .bin .add (.t 17) (.c (.int .i64 1)), none⟩,
  ⟨(some 17), .move (.t 31), none⟩]
def f72r10 : List AOper := [
  ⟨(some 6), .move (.c (.bool true)), none⟩]
def f72 : AFunc := ⟨[.tmp 6], (.seq (.reg f72r0) (.seq (.seq (.reg f72r1) (.cond (.t 14) (.seq (.reg f72r2) .ret) .skip)) (.seq (.seq (.reg f72r3) (.block 0 (.loop (.seq (.reg f72r4) (.seq (.cond (.t 18) .skip (.exit 0)) (.seq (.block 1 (.seq (.reg f72r5) (.seq (.reg f72r6) (.seq (.reg f72r7) (.cond (.t 30) (.seq (.reg f72r8) .ret) .skip))))) (.reg f72r9))))))) (.seq (.reg f72r10) .ret))))⟩

-- fingerpost/fingerposttop.WholeSnapshots$2
def f73r0 : List AOper := [
  ⟨(some 4), .move (.c (.bool false)), none⟩]
def f73r1 : List AOper := [
  ⟨(some 5), .move (.t 0), none⟩,
  ⟨(some 6), .move (.t 1), none⟩,
  ⟨(some 7), .call 45 [(.t 5), (.t 6)], none⟩,
  ⟨(some 4), .move (.t 7), none⟩]
def f73 : AFunc := ⟨[.tmp 4], (.seq (.reg f73r0) (.seq (.reg f73r1) .ret))⟩

-- fingerpost/settle.New
def f74r0 : List AOper := [
  ⟨(some 1), .box 150 (.agg 150) (.t 0), none⟩,
  ⟨(some 2), .move (.c .nilp), none⟩,
  ⟨(some 3), .move (.c (.int .i64 0)), none⟩]
def f74r1 : List AOper := [
  ⟨(some 4), .load 150 (.t 1), none⟩,
  ⟨(some 5), .call 122 [(.t 4)], none⟩,
  ⟨(some 6), .un .not (.t 5), none⟩]
def f74r2 : List AOper := [
  ⟨(some 2), .move (.c .nilp), none⟩,
  ⟨(some 3), .move (.c (.int .i64 1)), none⟩]
def f74r3 : List AOper := [
  ⟨(some 7), .load 150 (.t 1), none⟩,
  ⟨(some 8), .build 237 [(0, (.t 7))], none⟩,
  ⟨(some 9), .box 237 (.agg 237) (.t 8), none⟩,
  ⟨(some 2), .move (.t 9), none⟩,
  ⟨(some 3), .move (.c (.int .i64 0)), none⟩]
def f74 : AFunc := ⟨[.tmp 2, .tmp 3], (.seq (.reg f74r0) (.seq (.seq (.reg f74r1) (.cond (.t 6) (.seq (.reg f74r2) .ret) .skip)) (.seq (.reg f74r3) .ret)))⟩

-- (*fingerpost/rib.Table).Offer
def f75r0 : List AOper := [
  ⟨(some 9), .box 154 (.agg 154) (.t 3), none⟩,
  ⟨(some 10), .box 106 (.agg 106) (.t 4), none⟩,
  ⟨(some 12), .move (.c (.int .i64 0)), none⟩,
  ⟨(some 13), .move (.c (.int .i64 0)), none⟩]
def f75r1 : List AOper := [
  ⟨(some 18), .move (.t 0), none⟩,
  ⟨(some 19), .eqv false .ptr (.t 18) (.c .nilp), none⟩,
  ⟨(some 17), .move (.t 19), none⟩]
def f75r2 : List AOper := [
  ⟨(some 12), .move (.c (.int .i64 0)), none⟩,
  ⟨(some 13), .move (.c (.int .i64 2)), none⟩]
def f75r3 : List AOper := [
  ⟨(some 21), .move (.t 0), none⟩,
  ⟨(some 22), .fieldAddr 154 0 3 (.t 9), none⟩,
  ⟨(some 23), .load 3 (.t 22), none⟩,
  ⟨(some 24), .call 123 [(.t 21), (.t 23)], none⟩,
  ⟨(some 25), .un .not (.t 24), none⟩,
  ⟨(some 26), .move (.t 25), none⟩,
  ⟨(some 27), .move (.t 0), some ((some 26), false)⟩,
  ⟨(some 28), .move (.t 2), some ((some 26), false)⟩,
  ⟨(some 29), .call 123 [(.t 27), (.t 28)], some ((some 26), false)⟩,
  ⟨(some 30), .un .not (.t 29), some ((some 26), false)⟩,
  ⟨(some 31), .pick (.t 26) (.c (.bool true)) (.t 30), none⟩,
  ⟨(some 32), .move (.t 31), none⟩,
  ⟨(some 33), .fieldAddr 154 1 106 (.t 9), some ((some 32), false)⟩,
  ⟨(some 34), .load 106 (.t 33), some ((some 32), false)⟩,
  ⟨(some 35), .call 124 [(.t 34)], some ((some 32), false)⟩,
  ⟨(some 36), .un .not (.t 35), some ((some 32), false)⟩,
  ⟨(some 37), .pick (.t 32) (.c (.bool true)) (.t 36), none⟩,
  ⟨(some 38), .move (.t 37), none⟩,
  ⟨(some 39), .move (.t 1), some ((some 38), false)⟩,
  ⟨(some 40), .call 92 [(.t 39)], some ((some 38), false)⟩,
  ⟨(some 41), .un .not (.t 40), some ((some 38), false)⟩,
  ⟨(some 42), .pick (.t 38) (.c (.bool true)) (.t 41), none⟩,
  ⟨(some 20), .move (.t 42), none⟩]
def f75r4 : List AOper := [
  ⟨(some 12), .move (.c (.int .i64 0)), none⟩,
  ⟨(some 13), .move (.c (.int .i64 1)), none⟩]
def f75r5 : List AOper := [
  ⟨(some 44), .move (.t 5), none⟩,
  ⟨(some 45), .move (.t 44), none⟩,
  ⟨(some 46), .fieldAddr 154 1 106 (.t 9), some ((some 45), true)⟩,
  ⟨(some 47), .load 106 (.t 46), some ((some 45), true)⟩,
  ⟨(some 48), .load 106 (.t 10), some ((some 45), true)⟩,
  ⟨(some 49), .call 125 [(.t 47), (.t 48)], some ((some 45), true)⟩,
  ⟨(some 50), .bin .lss (.t 49) (.c (.int .i64 0)), some ((some 45), true)⟩,
  ⟨(some 51), .pick (.t 45) (.t 50) (.c (.bool false)), none⟩,
  ⟨(some 43), .move (.t 51), none⟩]
def f75r6 : List AOper := [
  ⟨(some 12), .move (.c (.int .i64 0)), none⟩,
  ⟨(some 13), .move (.c (.int .i64 27)), none⟩]
def f75r7 : List (AOper × List Nat) := [
  (⟨(some 52), .move (.t 0), none⟩, []),
  (⟨(some 53), .fieldAddr 154 0 3 (.t 9), none⟩, []),
  (⟨(some 54), .load 3 (.t 53), none⟩, []),
  (⟨(some 55), .move (.t 2), none⟩, []),
  (⟨(some 56), .nilCheck (.t 52), none⟩, []),
  (⟨(some 57), .fieldAddr 195 2 193 (.t 56), none⟩, []),
  (⟨(some 58), .idxA 8 193 192 (.t 57) (.t 54), none⟩, []),
  (⟨(some 59), .idxA 8 192 190 (.t 58) (.t 55), none⟩, []),
  (⟨(some 14), .move (.t 59), none⟩, [])]
def f75r8 : List (AOper × List Nat) := [
  (⟨(some 61), .move (.t 14), none⟩, []),
  (⟨(some 62), .nilCheck (.t 61), none⟩, []),
  (⟨(some 63), .fieldAddr 190 0 4 (.t 62), none⟩, []),
  (⟨(some 64), .load 4 (.t 63), none⟩, []),
  (⟨(some 65), .move (.t 64), none⟩, []),
  (⟨(some 66), .fieldAddr 154 1 106 (.t 9), some ((some 65), true)⟩, []),
  (⟨(some 67), .load 106 (.t 66), some ((some 65), true)⟩, []),
  (⟨(some 68), .move (.t 14), some ((some 65), true)⟩, []),
  (⟨(some 69), .nilCheck (.t 68), some ((some 65), true)⟩, []),
  (⟨(some 70), .fieldAddr 190 1 106 (.t 69), some ((some 65), true)⟩, []),
  (⟨(some 71), .load 106 (.t 70), some ((some 65), true)⟩, []),
  (⟨(some 72), .call 125 [(.t 67), (.t 71)], some ((some 65), true)⟩, []),
  (⟨(some 73), .bin .lss (.t 72) (.c (.int .i64 0)), some ((some 65), true)⟩, []),
  (⟨(some 74), .pick (.t 65) (.t 73) (.c (.bool false)), none⟩, []),
  (⟨(some 60), .move (.t 74), none⟩, [])]
def f75r9 : List AOper := [
  ⟨(some 12), .move (.c (.int .i64 0)), none⟩,
  ⟨(some 13), .move (.c (.int .i64 27)), none⟩]
def f75r10 : List (AOper × List Nat) := [
  (⟨(some 76), .move (.t 14), none⟩, []),
  (⟨(some 77), .nilCheck (.t 76), none⟩, []),
  (⟨(some 78), .fieldAddr 190 0 4 (.t 77), none⟩, []),
  (⟨(some 79), .load 4 (.t 78), none⟩, []),
  (⟨(some 80), .move (.t 79), none⟩, []),
  (⟨(some 81), .fieldAddr 154 1 106 (.t 9), some ((some 80), true)⟩, []),
  (⟨(some 82), .load 106 (.t 81), some ((some 80), true)⟩, []),
  (⟨(some 83), .move (.t 14), some ((some 80), true)⟩, []),
  (⟨(some 84), .nilCheck (.t 83), some ((some 80), true)⟩, []),
  (⟨(some 85), .fieldAddr 190 1 106 (.t 84), some ((some 80), true)⟩, []),
  (⟨(some 86), .load 106 (.t 85), some ((some 80), true)⟩, []),
  (⟨(some 87), .eqv false (.agg 106) (.t 82) (.t 86), some ((some 80), true)⟩, []),
  (⟨(some 88), .pick (.t 80) (.t 87) (.c (.bool false)), none⟩, []),
  (⟨(some 75), .move (.t 88), none⟩, [])]
def f75r11 : List AOper := [
  ⟨(some 89), .move (.t 14), none⟩,
  ⟨(some 90), .move (.t 1), none⟩,
  ⟨(some 91), .nilCheck (.t 89), none⟩,
  ⟨(some 92), .fieldAddr 190 2 2 (.t 91), none⟩,
  ⟨none, .store 2 (.int .i64) (.t 92) (.t 90), none⟩]
def f75r12 : List AOper := [
  ⟨(some 12), .move (.c (.int .i64 2)), none⟩,
  ⟨(some 13), .move (.c (.int .i64 0)), none⟩]
def f75r13 : List (AOper × List Nat) := [
  (⟨(some 94), .move (.t 14), none⟩, []),
  (⟨(some 95), .nilCheck (.t 94), none⟩, []),
  (⟨(some 96), .fieldAddr 190 4 4 (.t 95), none⟩, []),
  (⟨(some 97), .load 4 (.t 96), none⟩, []),
  (⟨(some 98), .move (.t 97), none⟩, []),
  (⟨(some 99), .move (.t 1), some ((some 98), true)⟩, []),
  (⟨(some 100), .move (.t 14), some ((some 98), true)⟩, []),
  (⟨(some 101), .nilCheck (.t 100), some ((some 98), true)⟩, []),
  (⟨(some 102), .fieldAddr 190 5 2 (.t 101), some ((some 98), true)⟩, []),
  (⟨(some 103), .load 2 (.t 102), some ((some 98), true)⟩, []),
  (⟨(some 104), .bin .lss (.t 99) (.t 103), some ((some 98), true)⟩, []),
  (⟨(some 105), .pick (.t 98) (.t 104) (.c (.bool false)), none⟩, []),
  (⟨(some 106), .move (.t 105), none⟩, []),
  (⟨(some 107), .fieldAddr 154 1 106 (.t 9), some ((some 106), true)⟩, []),
  (⟨(some 108), .load 106 (.t 107), some ((some 106), true)⟩, []),
  (⟨(some 109), .move (.t 14), some ((some 106), true)⟩, []),
  (⟨(some 110), .nilCheck (.t 109), some ((some 106), true)⟩, []),
  (⟨(some 111), .fieldAddr 190 6 106 (.t 110), some ((some 106), true)⟩, []),
  (⟨(some 112), .load 106 (.t 111), some ((some 106), true)⟩, []),
  (⟨(some 113), .call 126 [(.t 108), (.t 112)], some ((some 106), true)⟩, []),
  (⟨(some 114), .un .not (.t 113), some ((some 106), true)⟩, []),
  (⟨(some 115), .pick (.t 106) (.t 114) (.c (.bool false)), none⟩, []),
  (⟨(some 93), .move (.t 115), none⟩, [])]
def f75r14 : List AOper := [
  ⟨(some 12), .move (.c (.int .i64 0)), none⟩,
  ⟨(some 13), .move (.c (.int .i64 28)), none⟩]
def f75r15 : List AOper := [
  ⟨(some 117), .move (.t 0), none⟩,
  ⟨(some 118), .fieldAddr 154 0 3 (.t 9), none⟩,
  ⟨(some 119), .load 3 (.t 118), none⟩,
  ⟨(some 120), .call 99 [(.t 117), (.t 119)], none⟩,
  ⟨(some 116), .move (.t 120), none⟩,
  ⟨(some 121), .extract 0 (.t 116), none⟩,
  ⟨(some 122), .extract 1 (.t 116), none⟩,
  ⟨(some 15), .alloc 204, none⟩,
  ⟨none, .store 204 (.agg 204) (.t 15) (.t 121), none⟩,
  ⟨(some 16), .move (.t 122), none⟩]
def f75r16 : List (AOper × List Nat) := [
  (⟨(some 123), .move (.t 14), none⟩, []),
  (⟨(some 124), .fieldAddr 154 1 106 (.t 9), none⟩, []),
  (⟨(some 125), .load 106 (.t 124), none⟩, []),
  (⟨(some 126), .move (.t 1), none⟩, []),
  (⟨(some 127), .load 154 (.t 9), none⟩, []),
  (⟨(some 128), .call 127 [(.t 127)], none⟩, [2]),
  (⟨(some 129), .build 190 [(0, (.c (.bool true))), (1, (.t 125)), (2, (.t 126)), (3, (.t 128))], none⟩, []),
  (⟨(some 130), .nilCheck (.t 123), none⟩, []),
  (⟨none, .store 190 (.agg 190) (.t 130) (.t 129), none⟩, [])]
def f75r17 : List AOper := [
  ⟨(some 131), .move (.t 0), none⟩,
  ⟨(some 132), .fieldAddr 154 0 3 (.t 9), none⟩,
  ⟨(some 133), .load 3 (.t 132), none⟩,
  ⟨(some 134), .call 94 [(.t 131), (.t 133)], none⟩]
def f75r18 : List (AOper × List Nat) := [
  (⟨(some 136), .move (.t 0), none⟩, []),
  (⟨(some 137), .fieldAddr 154 0 3 (.t 9), none⟩, []),
  (⟨(some 138), .load 3 (.t 137), none⟩, []),
  (⟨(some 139), .nilCheck (.t 136), none⟩, []),
  (⟨(some 140), .fieldAddr 195 3 194 (.t 139), none⟩, []),
  (⟨(some 141), .idxA 8 194 3 (.t 140) (.t 138), none⟩, []),
  (⟨(some 142), .load 3 (.t 141), none⟩, []),
  (⟨(some 143), .move (.t 2), none⟩, []),
  (⟨(some 144), .bin .neq (.t 142) (.t 143), none⟩, []),
  (⟨(some 135), .move (.t 144), none⟩, [])]
def f75r19 : List AOper := [
  ⟨(some 12), .move (.c (.int .i64 1)), none⟩,
  ⟨(some 13), .move (.c (.int .i64 0)), none⟩]
def f75r20 : List AOper := [
  ⟨(some 146), .move (.t 16), none⟩,
  ⟨(some 147), .un .not (.t 146), none⟩,
  ⟨(some 145), .move (.t 147), none⟩]
def f75r21 : List AOper := [
  ⟨(some 12), .move (.c (.int .i64 5)), none⟩,
  ⟨(some 13), .move (.c (.int .i64 0)), none⟩]
def f75r22 : List AOper := [
  ⟨(some 149), .fieldAddr 154 1 106 (.t 9), none⟩,
  ⟨(some 150), .load 106 (.t 149), none⟩,
  ⟨(some 151), .fieldAddr 204 1 106 (.t 15), none⟩,
  ⟨(some 152), .load 106 (.t 151), none⟩,
  ⟨(some 153), .call 126 [(.t 150), (.t 152)], none⟩,
  ⟨(some 148), .move (.t 153), none⟩]
def f75r23 : List AOper := [
  ⟨(some 12), .move (.c (.int .i64 4)), none⟩,
  ⟨(some 13), .move (.c (.int .i64 0)), none⟩]
def f75r24 : List AOper := [
  ⟨(some 12), .move (.c (.int .i64 3)), none⟩,
  ⟨(some 13), .move (.c (.int .i64 0)), none⟩]
def f75 : AFunc := ⟨[.tmp 12, .tmp 13], (.seq (.reg f75r0) (.seq (.block 0 (.seq (.reg f75r1) (.cond (.t 17) (.seq (.reg f75r2) .ret) (.seq (.reg f75r3) (.cond (.t 20) (.seq (.reg f75r4) .ret) (.seq (.reg f75r5) (.cond (.t 43) (.seq (.reg f75r6) .ret) .skip))))))) (.seq (.draw f75r7) (.seq (.block 1 (.seq (.draw f75r8) (.cond (.t 60) (.seq (.reg f75r9) .ret) (.seq (.draw f75r10) (.cond (.t 75) (.seq (.reg f75r11) (.seq (.reg f75r12) .ret)) (.seq (.draw f75r13) (.cond (.t 93) (.seq (.reg f75r14) .ret) .skip))))))) (.seq (.reg f75r15) (.seq (.draw f75r16) (.seq (.reg f75r17) (.seq (.block 2 (.seq (.draw f75r18) (.cond (.t 135) (.seq (.reg f75r19) .ret) (.seq (.reg f75r20) (.cond (.t 145) (.seq (.reg f75r21) .ret) (.seq (.reg f75r22) (.cond (.t 148) (.seq (.reg f75r23) .ret) .skip))))))) (.seq (.reg f75r24) .ret)))))))))⟩

-- (*fingerpost/settle.Plan).Due
def f76r0 : List AOper := [
  ⟨(some 4), .move (.c (.bool false)), none⟩,
  ⟨(some 5), .move (.c .nils), none⟩]
def f76r1 : List AOper := [
  ⟨(some 9), .move (.t 0), none⟩,
  ⟨(some 10), .eqv false .ptr (.t 9) (.c .nilp), none⟩,
  ⟨(some 11), .move (.t 10), none⟩,
  ⟨(some 12), .move (.t 1), some ((some 11), false)⟩,
  ⟨(some 13), .call 128 [(.t 12)], some ((some 11), false)⟩,
  ⟨(some 14), .un .not (.t 13), some ((some 11), false)⟩,
  ⟨(some 15), .pick (.t 11) (.c (.bool true)) (.t 14), none⟩]
def f76r2 : List AOper := [
  ⟨(some 4), .move (.c (.bool false)), none⟩,
  ⟨(some 5), .move (.c .nils), none⟩]
def f76r3 : List (AOper × List Nat) := [
  (⟨(some 16), .move (.t 0), none⟩, []),
  (⟨(some 17), .nilCheck (.t 16), none⟩, []),
  (⟨(some 18), .fieldAddr 237 2 4 (.t 17), none⟩, []),
  (⟨(some 19), .load 4 (.t 18), none⟩, []),
  (⟨(some 20), .un .not (.t 19), none⟩, []),
  (⟨(some 21), .move (.t 20), none⟩, []),
  (⟨(some 22), .move (.t 1), some ((some 21), false)⟩, []),
  (⟨(some 23), .move (.t 0), some ((some 21), false)⟩, []),
  (⟨(some 24), .nilCheck (.t 23), some ((some 21), false)⟩, []),
  (⟨(some 25), .fieldAddr 237 1 2 (.t 24), some ((some 21), false)⟩, []),
  (⟨(some 26), .load 2 (.t 25), some ((some 21), false)⟩, []),
  (⟨(some 27), .bin .sub (.t 22) (.t 26), some ((some 21), false)⟩, []),
  (⟨(some 28), .move (.t 0), some ((some 21), false)⟩, []),
  (⟨(some 29), .nilCheck (.t 28), some ((some 21), false)⟩, []),
  (⟨(some 30), .fieldAddr 237 0 150 (.t 29), some ((some 21), false)⟩, []),
  (⟨(some 31), .fieldAddr 150 0 3 (.t 30), some ((some 21), false)⟩, []),
  (⟨(some 32), .load 3 (.t 31), some ((some 21), false)⟩, []),
  (⟨(some 33), .bin .geq (.t 27) (.t 32), some ((some 21), false)⟩, []),
  (⟨(some 34), .pick (.t 21) (.c (.bool true)) (.t 33), none⟩, [])]
def f76r4 : List AOper := [
  ⟨(some 35), .move (.t 0), none⟩,
  ⟨(some 36), .move (.t 0), none⟩,
  ⟨(some 37), .move (.t 1), none⟩,
  ⟨(some 38), .nilCheck (.t 35), none⟩,
  ⟨(some 39), .fieldAddr 237 2 4 (.t 38), none⟩,
  ⟨none, .store 4 .bool (.t 39) (.c (.bool true)), none⟩,
  ⟨(some 40), .nilCheck (.t 36), none⟩,
  ⟨(some 41), .fieldAddr 237 1 2 (.t 40), none⟩,
  ⟨none, .store 2 (.int .i64) (.t 41) (.t 37), none⟩]
def f76r5 : List AOper := [
  ⟨(some 42), .move (.c (.int .i64 0)), none⟩]
def f76r6 : List AOper := [
  ⟨(some 43), .bin .lss (.t 42) (.c (.int .i64 8)), none⟩]
def f76r7 : List AOper := [
  ⟨(some 44), .move (.t 42), none⟩,
  ⟨(some 6), .move (.t 44), none⟩]
def f76r8 : List (AOper × List Nat) := [
  (⟨(some 45), .move (.t 0), none⟩, []),
  (⟨(some 46), .move (.t 6), none⟩, []),
  (⟨(some 47), .move (.t 0), none⟩, []),
  (⟨(some 48), .move (.t 6), none⟩, []),
  (⟨(some 49), .nilCheck (.t 45), none⟩, []),
  (⟨(some 50), .fieldAddr 237 3 236 (.t 49), none⟩, []),
  (⟨(some 51), .idxA 8 236 234 (.t 50) (.t 46), none⟩, []),
  (⟨(some 52), .fieldAddr 234 3 4 (.t 51), none⟩, []),
  (⟨none, .store 4 .bool (.t 52) (.c (.bool false)), none⟩, []),
  (⟨(some 53), .nilCheck (.t 47), none⟩, []),
  (⟨(some 54), .fieldAddr 237 3 236 (.t 53), none⟩, []),
  (⟨(some 55), .idxA 8 236 234 (.t 54) (.t 48), none⟩, []),
  (⟨(some 56), .fieldAddr 234 4 4 (.t 55), none⟩, []),
  (⟨none, .store 4 .bool (.t 56) (.c (.bool false)), none⟩, [])]
def f76r9 : List AOper := [
  ⟨(some 57), .bin .add (.t 42) (.c (.int .i64 1)), none⟩,
  ⟨(some 42), .move (.t 57), none⟩]
def f76r10 : List AOper := [
  ⟨(some 4), .move (.c (.bool true)), none⟩,
  ⟨(some 5), .move (.c .nils), none⟩]
def f76r11 : List AOper := [
  ⟨(some 58), .move (.t 0), none⟩,
  ⟨(some 59), .nilCheck (.t 58), none⟩,
  ⟨(some 60), .fieldAddr 237 3 236 (.t 59), none⟩,
  ⟨(some 61), .load 236 (.t 60), none⟩,
  ⟨(some 62), .move (.c (.int .i64 0)), none⟩]
def f76r12 : List AOper := [
  ⟨(some 63), .bin .lss (.t 62) (.c (.int .i64 8)), none⟩]
def f76r13 : List AOper := [
  ⟨(some 64), .move (.t 62), none⟩,
  ⟨(some 65), .idxV 8 236 (.t 61) (.t 62), none⟩,
  ⟨(some 8), .alloc 234, none⟩,
  ⟨(some 7), .move (.t 64), none⟩,
  ⟨none, .store 234 (.agg 234) (.t 8) (.t 65), none⟩]
def f76r14 : List AOper := [
  ⟨(some 66), .move (.t 0), none⟩,
  ⟨(some 67), .move (.t 1), none⟩,
  ⟨(some 68), .load 234 (.t 8), none⟩,
  ⟨(some 69), .call 129 [(.t 66), (.t 67), (.t 68)], none⟩]
def f76r15 : List (AOper × List Nat) := [
  (⟨(some 70), .move (.t 0), none⟩, []),
  (⟨(some 71), .move (.t 7), none⟩, []),
  (⟨(some 72), .move (.t 0), none⟩, []),
  (⟨(some 73), .move (.t 7), none⟩, []),
  (⟨(some 74), .nilCheck (.t 70), none⟩, []),
  (⟨(some 75), .fieldAddr 237 3 236 (.t 74), none⟩, []),
  (⟨(some 76), .idxA 8 236 234 (.t 75) (.t 71), none⟩, []),
  (⟨(some 77), .fieldAddr 234 3 4 (.t 76), none⟩, []),
  (⟨none, .store 4 .bool (.t 77) (.c (.bool false)), none⟩, []),
  (⟨(some 78), .nilCheck (.t 72), none⟩, []),
  (⟨(some 79), .fieldAddr 237 3 236 (.t 78), none⟩, []),
  (⟨(some 80), .idxA 8 236 234 (.t 79) (.t 73), none⟩, []),
  (⟨(some 81), .fieldAddr 234 4 4 (.t 80), none⟩, []),
  (⟨none, .store 4 .bool (.t 81) (.c (.bool false)), none⟩, [])]
def f76r16 : List AOper := [
  ⟨(some 82), .move (.t 5), none⟩,
  ⟨(some 83), .move (.t 7), none⟩,
  ⟨(some 84), .buildSlice 3 1 [(0, (.t 83))], none⟩,
  ⟨(some 85), .append 3 false 1954687338268 (.t 82) (.t 84), none⟩,
  ⟨(some 5), .move (.t 85), none⟩]
def f76r17 : List AOper := [
  ⟨(some 86), .bin .add (.t 62) (.c (.int .i64 1)), none⟩,
  ⟨(some 62), .move (.t 86), none⟩]
def f76r18 : List AOper := [
  ⟨(some 87), .move (.t 5), none⟩,
  ⟨(some 4), .move (.c (.bool false)), none⟩,
  ⟨(some 5), .move (.t 87), none⟩]
def f76 : AFunc := ⟨[.tmp 4, .tmp 5], (.seq (.reg f76r0) (.seq (.seq (.reg f76r1) (.cond (.t 15) (.seq (.reg f76r2) .ret) .skip)) (.seq (.seq (.draw f76r3) (.cond (.t 34) (.seq (.reg f76r4) (.seq (.seq (.reg f76r5) (.block 0 (.loop (.seq (.reg f76r6) (.seq (.cond (.t 43) .skip (.exit 0)) (.seq (.block 1 (.seq (.reg f76r7) (.draw f76r8))) (.reg f76r9))))))) (.seq (.reg f76r10) .ret))) .skip)) (.seq (.seq (.reg f76r11) (.block 2 (.loop (.seq (.reg f76r12) (.seq (.cond (.t 63) .skip (.exit 2)) (.seq (.block 3 (.seq (.reg f76r13) (.seq (.reg f76r14) (.cond (.t 69) (.seq (.draw f76r15) (.reg f76r16)) .skip)))) (.reg f76r17))))))) (.seq (.reg f76r18) .ret)))))⟩

-- fingerpost/fib.Walk
def f77r0 : List AOper := [
  ⟨(some 6), .move (.c .nils), none⟩,
  ⟨(some 7), .move (.c (.bool false)), none⟩]
def f77r1 : List AOper := [
  ⟨(some 10), .move (.t 1), none⟩,
  ⟨(some 8), .move (.t 10), none⟩]
def f77r2 : List AOper := [
  ⟨(some 11), .move (.t 6), none⟩,
  ⟨(some 12), .move (.t 8), none⟩,
  ⟨(some 13), .call 130 [(.t 11), (.t 12)], none⟩]
def f77r3 : List AOper := [
  ⟨(some 14), .move (.t 6), none⟩,
  ⟨(some 15), .move (.t 8), none⟩,
  ⟨(some 16), .buildSlice 3 1 [(0, (.t 15))], none⟩,
  ⟨(some 17), .append 3 false 1954687338268 (.t 14) (.t 16), none⟩,
  ⟨(some 6), .move (.t 17), none⟩,
  ⟨(some 7), .move (.c (.bool true)), none⟩]
def f77r4 : List AOper := [
  ⟨(some 18), .move (.t 6), none⟩,
  ⟨(some 19), .move (.t 8), none⟩,
  ⟨(some 20), .buildSlice 3 1 [(0, (.t 19))], none⟩,
  ⟨(some 21), .append 3 false 1954687338268 (.t 18) (.t 20), none⟩,
  ⟨(some 6), .move (.t 21), none⟩]
def f77r5 : List AOper := [
  ⟨(some 22), .move (.t 8), none⟩,
  ⟨(some 23), .move (.t 2), none⟩,
  ⟨(some 24), .bin .eql (.t 22) (.t 23), none⟩,
  ⟨(some 25), .move (.t 24), none⟩,
  ⟨(some 26), .move (.t 8), some ((some 25), false)⟩,
  ⟨(some 27), .bin .lss (.t 26) (.c (.int .i64 0)), some ((some 25), false)⟩,
  ⟨(some 28), .pick (.t 25) (.c (.bool true)) (.t 27), none⟩,
  ⟨(some 29), .move (.t 28), none⟩,
  ⟨(some 30), .move (.t 8), some ((some 29), false)⟩,
  ⟨(some 31), .move (.t 0), some ((some 29), false)⟩,
  ⟨(some 32), .lenS (.t 31), some ((some 29), false)⟩,
  ⟨(some 33), .bin .geq (.t 30) (.t 32), some ((some 29), false)⟩,
  ⟨(some 34), .pick (.t 29) (.c (.bool true)) (.t 33), none⟩]
def f77r6 : List AOper := [
  ⟨(some 35), .move (.t 6), none⟩,
  ⟨(some 6), .move (.t 35), none⟩,
  ⟨(some 7), .move (.c (.bool false)), none⟩]
def f77r7 : List AOper := [
  ⟨(some 36), .move (.t 0), none⟩,
  ⟨(some 37), .move (.t 8), none⟩,
  ⟨(some 38), .idxS 162 (.t 36) (.t 37), none⟩,
  ⟨(some 39), .load 162 (.t 38), none⟩,
  ⟨(some 40), .move (.t 2), none⟩,
  ⟨(some 41), .call 131 [(.t 39), (.t 40)], none⟩,
  ⟨(some 9), .move (.t 41), none⟩]
def f77r8 : List AOper := [
  ⟨(some 42), .move (.t 9), none⟩,
  ⟨(some 43), .bin .lss (.t 42) (.c (.int .i64 0)), none⟩]
def f77r9 : List AOper := [
  ⟨(some 44), .move (.t 6), none⟩,
  ⟨(some 6), .move (.t 44), none⟩,
  ⟨(some 7), .move (.c (.bool false)), none⟩]
def f77r10 : List AOper := [
  ⟨(some 45), .move (.t 9), none⟩,
  ⟨(some 8), .move (.t 45), none⟩]
def f77 : AFunc := ⟨[.tmp 6, .tmp 7], (.seq (.reg f77r0) (.seq (.reg f77r1) (.block 0 (.loop (.block 1 (.seq (.seq (.reg f77r2) (.cond (.t 13) (.seq (.reg f77r3) .ret) .skip)) (.seq (.reg f77r4) (.seq (.seq (.reg f77r5) (.cond (.t 34) (.seq (.reg f77r6) .ret) .skip)) (.seq (.reg f77r7) (.seq (.seq (.reg f77r8) (.cond (.t 43) (.seq (.reg f77r9) .ret) .skip)) (.reg f77r10)))))))))))⟩

-- (*fingerpost/field.Out).U16
def f78r0 : List AOper := [
  ⟨(some 4), .move (.t 0), none⟩,
  ⟨(some 5), .move (.t 1), none⟩,
  ⟨(some 6), .call 132 [(.t 4), (.t 5), (.c (.int .i64 2))], none⟩]
def f78 : AFunc := ⟨[], (.reg f78r0)⟩

-- (*fingerpost/field.Out).Blob
def f79r0 : List AOper := [
  ⟨(some 4), .move (.t 0), none⟩,
  ⟨(some 5), .eqv false .ptr (.t 4) (.c .nilp), none⟩]
def f79r1 : List AOper := [
  ⟨(some 6), .move (.t 1), none⟩,
  ⟨(some 7), .lenS (.t 6), none⟩,
  ⟨(some 8), .bin .gtr (.t 7) (.c (.int .i64 4096)), none⟩]
def f79r2 : List AOper := [
  ⟨(some 9), .move (.t 0), none⟩,
  ⟨(some 10), .nilCheck (.t 9), none⟩,
  ⟨(some 11), .fieldAddr 212 1 4 (.t 10), none⟩,
  ⟨none, .store 4 .bool (.t 11) (.c (.bool true)), none⟩]
def f79r3 : List AOper := [
  ⟨(some 12), .move (.t 0), none⟩,
  ⟨(some 13), .move (.t 1), none⟩,
  ⟨(some 14), .lenS (.t 13), none⟩,
  ⟨(some 15), .conv .u64 (.t 14), none⟩,
  ⟨(some 16), .call 78 [(.t 12), (.t 15)], none⟩]
def f79r4 : List AOper := [
  ⟨(some 17), .move (.t 0), none⟩,
  ⟨(some 18), .move (.t 0), none⟩,
  ⟨(some 19), .nilCheck (.t 18), none⟩,
  ⟨(some 20), .fieldAddr 212 0 39 (.t 19), none⟩,
  ⟨(some 21), .load 39 (.t 20), none⟩,
  ⟨(some 22), .move (.t 1), none⟩,
  ⟨(some 23), .append 5 false 8796093022208 (.t 21) (.t 22), none⟩,
  ⟨(some 24), .nilCheck (.t 17), none⟩,
  ⟨(some 25), .fieldAddr 212 0 39 (.t 24), none⟩,
  ⟨none, .store 39 .slice (.t 25) (.t 23), none⟩]
def f79 : AFunc := ⟨[], (.seq (.seq (.reg f79r0) (.cond (.t 5) .ret .skip)) (.seq (.seq (.reg f79r1) (.cond (.t 8) (.seq (.reg f79r2) .ret) .skip)) (.seq (.reg f79r3) (.reg f79r4))))⟩

-- (*fingerpost/toll.Toll).Frame
def f80r0 : List AOper := [
  ⟨(some 4), .move (.c (.int .i64 0)), none⟩]
def f80r1 : List AOper := [
  ⟨(some 6), .move (.t 0), none⟩,
  ⟨(some 7), .eqv false .ptr (.t 6) (.c .nilp), none⟩,
  ⟨(some 5), .move (.t 7), none⟩]
def f80r2 : List AOper := [
  ⟨(some 4), .move (.c (.int .i64 2)), none⟩]
def f80r3 : List AOper := [
  ⟨(some 9), .move (.t 1), none⟩,
  ⟨(some 10), .bin .lss (.t 9) (.c (.int .i64 0)), none⟩,
  ⟨(some 8), .move (.t 10), none⟩]
def f80r4 : List AOper := [
  ⟨(some 4), .move (.c (.int .i64 1)), none⟩]
def f80r5 : List AOper := [
  ⟨(some 12), .move (.t 0), none⟩,
  ⟨(some 13), .nilCheck (.t 12), none⟩,
  ⟨(some 14), .fieldAddr 182 1 3 (.t 13), none⟩,
  ⟨(some 15), .load 3 (.t 14), none⟩,
  ⟨(some 16), .bin .lss (.t 15) (.c (.int .i64 1)), none⟩,
  ⟨(some 17), .move (.t 16), none⟩,
  ⟨(some 18), .move (.t 0), some ((some 17), false)⟩,
  ⟨(some 19), .nilCheck (.t 18), some ((some 17), false)⟩,
  ⟨(some 20), .fieldAddr 182 2 3 (.t 19), some ((some 17), false)⟩,
  ⟨(some 21), .load 3 (.t 20), some ((some 17), false)⟩,
  ⟨(some 22), .move (.t 1), some ((some 17), false)⟩,
  ⟨(some 23), .bin .lss (.t 21) (.t 22), some ((some 17), false)⟩,
  ⟨(some 24), .pick (.t 17) (.c (.bool true)) (.t 23), none⟩,
  ⟨(some 11), .move (.t 24), none⟩]
def f80r6 : List AOper := [
  ⟨(some 4), .move (.c (.int .i64 26)), none⟩]
def f80r7 : List AOper := [
  ⟨(some 25), .move (.t 0), none⟩,
  ⟨(some 26), .nilCheck (.t 25), none⟩,
  ⟨(some 27), .fieldAddr 182 1 3 (.t 26), none⟩,
  ⟨(some 28), .load 3 (.t 27), none⟩,
  ⟨(some 29), .bin .sub (.t 28) (.c (.int .i64 1)), none⟩,
  ⟨(some 30), .nilCheck (.t 25), none⟩,
  ⟨(some 31), .fieldAddr 182 1 3 (.t 30), none⟩,
  ⟨none, .store 3 (.int .i64) (.t 31) (.t 29), none⟩]
def f80r8 : List AOper := [
  ⟨(some 32), .move (.t 0), none⟩,
  ⟨(some 33), .nilCheck (.t 32), none⟩,
  ⟨(some 34), .fieldAddr 182 2 3 (.t 33), none⟩,
  ⟨(some 35), .load 3 (.t 34), none⟩,
  ⟨(some 36), .move (.t 1), none⟩,
  ⟨(some 37), .bin .sub (.t 35) (.t 36), none⟩,
  ⟨(some 38), .nilCheck (.t 32), none⟩,
  ⟨(some 39), .fieldAddr 182 2 3 (.t 38), none⟩,
  ⟨none, .store 3 (.int .i64) (.t 39) (.t 37), none⟩]
def f80r9 : List AOper := [
  ⟨(some 4), .move (.c (.int .i64 0)), none⟩]
def f80 : AFunc := ⟨[.tmp 4], (.seq (.reg f80r0) (.seq (.block 0 (.seq (.reg f80r1) (.cond (.t 5) (.seq (.reg f80r2) .ret) (.seq (.reg f80r3) (.cond (.t 8) (.seq (.reg f80r4) .ret) (.seq (.reg f80r5) (.cond (.t 11) (.seq (.reg f80r6) .ret) .skip))))))) (.seq (.reg f80r7) (.seq (.reg f80r8) (.seq (.reg f80r9) .ret)))))⟩

-- (*fingerpost/slate.Slate).up
def f81r0 : List AOper := [
  ⟨(some 2), .move (.c (.int .i64 0)), none⟩]
def f81r1 : List AOper := [
  ⟨(some 4), .move (.t 0), none⟩,
  ⟨(some 5), .eqv false .ptr (.t 4) (.c .nilp), none⟩,
  ⟨(some 3), .move (.t 5), none⟩]
def f81r2 : List AOper := [
  ⟨(some 2), .move (.c (.int .i64 2)), none⟩]
def f81r3 : List AOper := [
  ⟨(some 7), .move (.t 0), none⟩,
  ⟨(some 8), .nilCheck (.t 7), none⟩,
  ⟨(some 9), .fieldAddr 171 3 4 (.t 8), none⟩,
  ⟨(some 10), .load 4 (.t 9), none⟩,
  ⟨(some 6), .move (.t 10), none⟩]
def f81r4 : List AOper := [
  ⟨(some 2), .move (.c (.int .i64 5)), none⟩]
def f81r5 : List AOper := [
  ⟨(some 2), .move (.c (.int .i64 0)), none⟩]
def f81 : AFunc := ⟨[.tmp 2], (.seq (.reg f81r0) (.seq (.block 0 (.seq (.reg f81r1) (.cond (.t 3) (.seq (.reg f81r2) .ret) (.seq (.reg f81r3) (.cond (.t 6) (.seq (.reg f81r4) .ret) .skip))))) (.seq (.reg f81r5) .ret)))⟩

-- (*fingerpost/slate.Slate).power
def f82r0 : List AOper := [
  ⟨(some 2), .move (.c (.bool false)), none⟩]
def f82r1 : List AOper := [
  ⟨(some 3), .move (.t 0), none⟩,
  ⟨(some 4), .nilCheck (.t 3), none⟩,
  ⟨(some 5), .fieldAddr 171 2 3 (.t 4), none⟩,
  ⟨(some 6), .load 3 (.t 5), none⟩,
  ⟨(some 7), .bin .eql (.t 6) (.c (.int .i64 0)), none⟩]
def f82r2 : List AOper := [
  ⟨(some 8), .move (.t 0), none⟩,
  ⟨(some 9), .nilCheck (.t 8), none⟩,
  ⟨(some 10), .fieldAddr 171 3 4 (.t 9), none⟩,
  ⟨none, .store 4 .bool (.t 10) (.c (.bool true)), none⟩]
def f82r3 : List AOper := [
  ⟨(some 2), .move (.c (.bool false)), none⟩]
def f82r4 : List AOper := [
  ⟨(some 11), .move (.t 0), none⟩,
  ⟨(some 12), .nilCheck (.t 11), none⟩,
  ⟨(some 13), .fieldAddr 171 2 3 (.t 12), none⟩,
  ⟨(some 14), .load 3 (.t 13), none⟩,
  ⟨(some 15), .bin .gtr (.t 14) (.c (.int .i64 0)), none⟩]
def f82r5 : List AOper := [
  ⟨(some 16), .move (.t 0), none⟩,
  ⟨(some 17), .nilCheck (.t 16), none⟩,
  ⟨(some 18), .fieldAddr 171 2 3 (.t 17), none⟩,
  ⟨(some 19), .load 3 (.t 18), none⟩,
  ⟨(some 20), .bin .sub (.t 19) (.c (.int .i64 1)), none⟩,
  ⟨(some 21), .nilCheck (.t 16), none⟩,
  ⟨(some 22), .fieldAddr 171 2 3 (.t 21), none⟩,
  ⟨none, .store 3 (.int .i64) (.t 22) (.t 20), none⟩]
def f82r6 : List AOper := [
  ⟨(some 23), .move (.t 0), none⟩,
  ⟨(some 24), .nilCheck (.t 23), none⟩,
  ⟨(some 25), .fieldAddr 171 4 3 (.t 24), none⟩,
  ⟨(some 26), .load 3 (.t 25), none⟩,
  ⟨(some 27), .bin .add (.t 26) (.c (.int .i64 1)), none⟩,
  ⟨(some 28), .nilCheck (.t 23), none⟩,
  ⟨(some 29), .fieldAddr 171 4 3 (.t 28), none⟩,
  ⟨none, .store 3 (.int .i64) (.t 29) (.t 27), none⟩]
def f82r7 : List AOper := [
  ⟨(some 2), .move (.c (.bool true)), none⟩]
def f82 : AFunc := ⟨[.tmp 2], (.seq (.reg f82r0) (.seq (.seq (.reg f82r1) (.cond (.t 7) (.seq (.reg f82r2) (.seq (.reg f82r3) .ret)) .skip)) (.seq (.seq (.reg f82r4) (.cond (.t 15) (.reg f82r5) .skip)) (.seq (.reg f82r6) (.seq (.reg f82r7) .ret)))))⟩

-- fingerpost/mac.Short
def f83r0 : List AOper := [
  ⟨(some 4), .alloc 62, none⟩]
def f83r1 : List AOper := [
  ⟨(some 8), .call 133 [], none⟩,
  ⟨(some 5), .move (.t 8), none⟩]
def f83r2 : List AOper := [
  ⟨(some 9), .move (.t 5), none⟩,
  ⟨(some 10), .move (.t 0), none⟩,
  ⟨(some 11), .buildSlice 5 1 [(0, (.t 10))], none⟩,
  ⟨(some 12), .call 134 [(.t 9), (.t 11)], none⟩]
def f83r3 : List AOper := [
  ⟨(some 13), .move (.t 1), none⟩,
  ⟨(some 14), .lenS (.t 13), none⟩,
  ⟨(some 15), .move (.c (.int .i64 0)), none⟩]
def f83r4 : List AOper := [
  ⟨(some 16), .bin .lss (.t 15) (.t 14), none⟩]
def f83r5 : List AOper := [
  ⟨(some 17), .idxS 39 (.t 13) (.t 15), none⟩,
  ⟨(some 18), .load 39 (.t 17), none⟩,
  ⟨(some 7), .move (.t 18), none⟩]
def f83r6 : List AOper := [
  ⟨(some 19), .move (.t 5), none⟩,
  ⟨(some 20), .move (.t 7), none⟩,
  ⟨(some 21), .call 134 [(.t 19), (.t 20)], none⟩]
def f83r7 : List AOper := [
  ⟨(some 22), .bin .add (.t 15) (.c (.int .i64 1)), none⟩,
  ⟨(some 15), .move (.t 22), none⟩]
def f83r8 : List AOper := [
  ⟨(some 23), .move (.t 5), none⟩,
  ⟨(some 24), .call 136 [(.t 23)], none⟩,
  ⟨(some 25), .call 135 [(.t 24)], none⟩,
  ⟨none, .store 62 (.agg 62) (.t 4) (.t 25), none⟩]
def f83 : AFunc := ⟨[.cell 4 62], (.seq (.reg f83r0) (.seq (.reg f83r1) (.seq (.reg f83r2) (.seq (.seq (.reg f83r3) (.block 0 (.loop (.seq (.reg f83r4) (.seq (.cond (.t 16) .skip (.exit 0)) (.seq (.block 1 (.seq (.reg f83r5) (.reg f83r6))) (.reg f83r7))))))) (.seq (.reg f83r8) .ret)))))⟩


end Go.Dam.S
