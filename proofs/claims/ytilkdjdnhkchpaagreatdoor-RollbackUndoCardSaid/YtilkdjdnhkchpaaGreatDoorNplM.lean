import Derived.Test.YtilkdjdnhkchpaaGreatDoorNplK
namespace Go.SL
open Go
def c_law40_RollbackUndo_r0 : List AOper := [
  ⟨(some 2), .sim (.box (.t 0)), none⟩,
  ⟨(some 3), .sim (.box (.t 1)), none⟩,
  ⟨(some 4), .sim (.mov (.c (.bool false))), none⟩]
def c_law40_RollbackUndo_r1 : List AOper := [
  ⟨(some 14), .callp 0 [], none⟩,
  ⟨(some 5), .sim (.mov (.t 14)), none⟩]
def c_law40_RollbackUndo_r2 : List AOper := [
  ⟨(some 15), .sim (.ld (some 7) (.t 2)), none⟩,
  ⟨(some 16), .callp 1 [.t 15], none⟩,
  ⟨(some 17), .sim (.not (.t 16)), none⟩,
  ⟨(some 18), .sim (.mov (.t 17)), none⟩,
  ⟨(some 19), .sim (.ld (some 1) (.t 3)), (some (18, false))⟩,
  ⟨(some 20), .callp 2 [.t 19], (some (18, false))⟩,
  ⟨(some 21), .sim (.not (.t 20)), (some (18, false))⟩,
  ⟨(some 22), .sim (.pick (.t 18) (.c (.bool true)) (.t 21)), none⟩]
def c_law40_RollbackUndo_r3 : List AOper := [
  ⟨(some 23), .sim (.mov (.t 5)), none⟩,
  ⟨(some 4), .sim (.mov (.t 23)), none⟩]
def c_law40_RollbackUndo_r4 : List AOper := [
  ⟨(some 25), .sim (.ld (some 7) (.t 2)), none⟩,
  ⟨(some 26), .sim (.ld (some 1) (.t 3)), none⟩,
  ⟨(some 27), .call 3 [.t 25, .t 26], none⟩,
  ⟨(some 24), .sim (.mov (.t 27)), none⟩,
  ⟨(some 28), .sim (.ext 0 (.t 24)), none⟩,
  ⟨(some 29), .sim (.ext 1 (.t 24)), none⟩,
  ⟨(some 6), .sim (.new [.slice none 0 0]), none⟩,
  ⟨none, .st 1 (.t 6) (.t 28), none⟩,
  ⟨(some 7), .sim (.mov (.t 29)), none⟩]
def c_law40_RollbackUndo_r5 : List AOper := [
  ⟨(some 30), .sim (.mov (.t 7)), none⟩,
  ⟨(some 31), .sim (.bin .neq (.t 30) (.c (.int .i64 0))), none⟩]
def c_law40_RollbackUndo_r6 : List AOper := [
  ⟨(some 32), .sim (.mov (.t 5)), none⟩,
  ⟨(some 33), .sim (.mov (.t 32)), none⟩,
  ⟨(some 34), .sim (.mov (.t 7)), (some (33, true))⟩,
  ⟨(some 35), .sim (.bin .eql (.t 34) (.c (.int .i64 1))), (some (33, true))⟩,
  ⟨(some 36), .sim (.pick (.t 33) (.t 35) (.c (.bool false))), none⟩,
  ⟨(some 37), .sim (.mov (.t 36)), none⟩,
  ⟨(some 38), .sim (.fld 0 (.t 6)), (some (37, true))⟩,
  ⟨(some 39), .sim (.ld none (.t 38)), (some (37, true))⟩,
  ⟨(some 40), .sim (.len false (.t 39)), (some (37, true))⟩,
  ⟨(some 41), .sim (.bin .eql (.t 40) (.c (.int .i64 0))), (some (37, true))⟩,
  ⟨(some 42), .sim (.pick (.t 37) (.t 41) (.c (.bool false))), none⟩,
  ⟨(some 4), .sim (.mov (.t 42)), none⟩]
def c_law40_RollbackUndo_r7 : List AOper := [
  ⟨(some 44), .sim (.ld (some 7) (.t 2)), none⟩,
  ⟨(some 45), .sim (.ld (some 1) (.t 3)), none⟩,
  ⟨(some 46), .call 4 [.t 44, .t 45], none⟩,
  ⟨(some 43), .sim (.mov (.t 46)), none⟩,
  ⟨(some 47), .sim (.ext 0 (.t 43)), none⟩,
  ⟨(some 48), .sim (.ext 1 (.t 43)), none⟩,
  ⟨(some 8), .sim (.new [.slice none 0 0, .slice none 0 0, .string ⟨#[]⟩, .int .i64 0, .int .i64 0, .slice none 0 0, .slice none 0 0]), none⟩,
  ⟨none, .st 7 (.t 8) (.t 47), none⟩,
  ⟨(some 9), .sim (.mov (.t 48)), none⟩]
def c_law40_RollbackUndo_r8 : List AOper := [
  ⟨(some 49), .sim (.mov (.t 9)), none⟩,
  ⟨(some 50), .sim (.bin .neq (.t 49) (.c (.int .i64 0))), none⟩]
def c_law40_RollbackUndo_r9 : List AOper := [
  ⟨(some 51), .sim (.mov (.t 5)), none⟩,
  ⟨(some 52), .sim (.mov (.t 51)), none⟩,
  ⟨(some 53), .sim (.mov (.t 9)), (some (52, true))⟩,
  ⟨(some 54), .sim (.bin .eql (.t 53) (.c (.int .i64 2))), (some (52, true))⟩,
  ⟨(some 55), .sim (.pick (.t 52) (.t 54) (.c (.bool false))), none⟩,
  ⟨(some 4), .sim (.mov (.t 55)), none⟩]
def c_law40_RollbackUndo_r10 : List AOper := [
  ⟨(some 57), .sim (.ld (some 7) (.t 8)), none⟩,
  ⟨(some 58), .sim (.ld (some 1) (.t 6)), none⟩,
  ⟨(some 59), .call 4 [.t 57, .t 58], none⟩,
  ⟨(some 56), .sim (.mov (.t 59)), none⟩,
  ⟨(some 60), .sim (.ext 0 (.t 56)), none⟩,
  ⟨(some 61), .sim (.ext 1 (.t 56)), none⟩,
  ⟨(some 10), .sim (.new [.slice none 0 0, .slice none 0 0, .string ⟨#[]⟩, .int .i64 0, .int .i64 0, .slice none 0 0, .slice none 0 0]), none⟩,
  ⟨none, .st 7 (.t 10) (.t 60), none⟩,
  ⟨(some 11), .sim (.mov (.t 61)), none⟩]
def c_law40_RollbackUndo_r11 : List AOper := [
  ⟨(some 63), .sim (.ld (some 7) (.t 8)), none⟩,
  ⟨(some 64), .sim (.ld (some 1) (.t 6)), none⟩,
  ⟨(some 65), .call 3 [.t 63, .t 64], none⟩,
  ⟨(some 62), .sim (.mov (.t 65)), none⟩,
  ⟨(some 66), .sim (.ext 0 (.t 62)), none⟩,
  ⟨(some 67), .sim (.ext 1 (.t 62)), none⟩,
  ⟨(some 12), .sim (.new [.slice none 0 0]), none⟩,
  ⟨none, .st 1 (.t 12) (.t 66), none⟩,
  ⟨(some 13), .sim (.mov (.t 67)), none⟩]
def c_law40_RollbackUndo_r12 : List AOper := [
  ⟨(some 68), .sim (.mov (.t 5)), none⟩,
  ⟨(some 69), .sim (.mov (.t 68)), none⟩,
  ⟨(some 70), .sim (.mov (.t 11)), (some (69, true))⟩,
  ⟨(some 71), .sim (.bin .eql (.t 70) (.c (.int .i64 0))), (some (69, true))⟩,
  ⟨(some 72), .sim (.pick (.t 69) (.t 71) (.c (.bool false))), none⟩,
  ⟨(some 73), .sim (.mov (.t 72)), none⟩,
  ⟨(some 74), .sim (.mov (.t 13)), (some (73, true))⟩,
  ⟨(some 75), .sim (.bin .eql (.t 74) (.c (.int .i64 0))), (some (73, true))⟩,
  ⟨(some 76), .sim (.pick (.t 73) (.t 75) (.c (.bool false))), none⟩,
  ⟨(some 77), .sim (.mov (.t 76)), none⟩,
  ⟨(some 78), .sim (.ld (some 7) (.t 10)), (some (77, true))⟩,
  ⟨(some 79), .sim (.ld (some 7) (.t 2)), (some (77, true))⟩,
  ⟨(some 80), .callp 5 [.t 78, .t 79], (some (77, true))⟩,
  ⟨(some 81), .sim (.pick (.t 77) (.t 80) (.c (.bool false))), none⟩,
  ⟨(some 82), .sim (.mov (.t 81)), none⟩,
  ⟨(some 83), .sim (.ld (some 1) (.t 12)), (some (82, true))⟩,
  ⟨(some 84), .sim (.ld (some 1) (.t 3)), (some (82, true))⟩,
  ⟨(some 85), .callp 6 [.t 83, .t 84], (some (82, true))⟩,
  ⟨(some 86), .sim (.pick (.t 82) (.t 85) (.c (.bool false))), none⟩,
  ⟨(some 4), .sim (.mov (.t 86)), none⟩]
/-- nameplan/nameplanlaw40.RollbackUndo -/
def c_law40_RollbackUndo : AFunc := ⟨87, [.slot 4],
  (.seq (.reg c_law40_RollbackUndo_r0 [2, 3]) (.seq (.reg c_law40_RollbackUndo_r1 [2, 3, 5]) (.seq (.seq (.reg c_law40_RollbackUndo_r2 [2, 3, 5, 22]) (.cond (.t 22) (.seq (.reg c_law40_RollbackUndo_r3 [4]) .ret) .skip)) (.seq (.reg c_law40_RollbackUndo_r4 [2, 3, 5, 6, 7]) (.seq (.seq (.reg c_law40_RollbackUndo_r5 [2, 3, 5, 6, 7, 31]) (.cond (.t 31) (.seq (.reg c_law40_RollbackUndo_r6 [4]) .ret) .skip)) (.seq (.reg c_law40_RollbackUndo_r7 [2, 3, 5, 6, 8, 9]) (.seq (.seq (.reg c_law40_RollbackUndo_r8 [2, 3, 5, 6, 8, 9, 50]) (.cond (.t 50) (.seq (.reg c_law40_RollbackUndo_r9 [4]) .ret) .skip)) (.seq (.reg c_law40_RollbackUndo_r10 [2, 3, 5, 6, 8, 10, 11]) (.seq (.reg c_law40_RollbackUndo_r11 [2, 3, 5, 10, 11, 12, 13]) (.seq (.reg c_law40_RollbackUndo_r12 [4]) .ret))))))))))⟩
def c_law40_head_r0 : List AOper := [
  ⟨(some 0), .sim (.mov (.c (.bool false))), none⟩]
def c_law40_head_r1 : List AOper := [
  ⟨(some 15), .call 8 [], none⟩,
  ⟨(some 14), .sim (.mov (.t 15)), none⟩,
  ⟨(some 16), .sim (.ext 0 (.t 14)), none⟩,
  ⟨(some 17), .sim (.ext 1 (.t 14)), none⟩,
  ⟨(some 1), .sim (.new [.slice none 0 0, .slice none 0 0, .string ⟨#[]⟩, .int .i64 0, .int .i64 0, .slice none 0 0, .slice none 0 0]), none⟩,
  ⟨(some 2), .sim (.new [.slice none 0 0]), none⟩,
  ⟨none, .st 7 (.t 1) (.t 16), none⟩,
  ⟨none, .st 1 (.t 2) (.t 17), none⟩]
def c_law40_head_r2 : List AOper := [
  ⟨(some 19), .sim (.ld (some 7) (.t 1)), none⟩,
  ⟨(some 20), .sim (.ld (some 1) (.t 2)), none⟩,
  ⟨(some 21), .call 3 [.t 19, .t 20], none⟩,
  ⟨(some 18), .sim (.mov (.t 21)), none⟩,
  ⟨(some 22), .sim (.ext 0 (.t 18)), none⟩,
  ⟨(some 23), .sim (.ext 1 (.t 18)), none⟩,
  ⟨(some 3), .sim (.new [.slice none 0 0]), none⟩,
  ⟨none, .st 1 (.t 3) (.t 22), none⟩,
  ⟨(some 4), .sim (.mov (.t 23)), none⟩]
def c_law40_head_r3 : List DOp := [
  ⟨0, ⟨(some 24), .sim (.mov (.t 4)), none⟩, []⟩,
  ⟨1, ⟨(some 25), .sim (.bin .neq (.t 24) (.c (.int .i64 0))), none⟩, []⟩,
  ⟨2, ⟨(some 26), .sim (.mov (.t 25)), none⟩, []⟩,
  ⟨3, ⟨(some 27), .sim (.fld 0 (.t 3)), (some (26, false))⟩, []⟩,
  ⟨4, ⟨(some 28), .sim (.ld none (.t 27)), (some (26, false))⟩, []⟩,
  ⟨5, ⟨(some 29), .sim (.len false (.t 28)), (some (26, false))⟩, []⟩,
  ⟨6, ⟨(some 30), .sim (.bin .neq (.t 29) (.c (.int .i64 2))), (some (26, false))⟩, []⟩,
  ⟨7, ⟨(some 31), .sim (.pick (.t 26) (.c (.bool true)) (.t 30)), none⟩, []⟩,
  ⟨8, ⟨(some 32), .sim (.mov (.t 31)), none⟩, []⟩,
  ⟨9, ⟨(some 33), .sim (.fld 0 (.t 3)), (some (32, false))⟩, []⟩,
  ⟨10, ⟨(some 34), .sim (.ld none (.t 33)), (some (32, false))⟩, []⟩,
  ⟨11, ⟨(some 35), .sim (.idx 3 (.t 34) (.c (.int .i64 0))), (some (32, false))⟩, []⟩,
  ⟨12, ⟨(some 36), .sim (.fld 0 (.t 35)), (some (32, false))⟩, []⟩,
  ⟨13, ⟨(some 37), .sim (.ld none (.t 36)), (some (32, false))⟩, []⟩,
  ⟨14, ⟨(some 38), .sim (.bin .neq (.t 37) (.c (.int .i64 1))), (some (32, false))⟩, []⟩,
  ⟨15, ⟨(some 39), .sim (.pick (.t 32) (.c (.bool true)) (.t 38)), none⟩, []⟩,
  ⟨16, ⟨(some 40), .sim (.mov (.t 39)), none⟩, []⟩,
  ⟨17, ⟨(some 41), .sim (.fld 0 (.t 3)), (some (40, false))⟩, []⟩,
  ⟨18, ⟨(some 42), .sim (.ld none (.t 41)), (some (40, false))⟩, []⟩,
  ⟨19, ⟨(some 43), .sim (.idx 3 (.t 42) (.c (.int .i64 1))), (some (40, false))⟩, []⟩,
  ⟨20, ⟨(some 44), .sim (.fld 0 (.t 43)), (some (40, false))⟩, []⟩,
  ⟨21, ⟨(some 45), .sim (.ld none (.t 44)), (some (40, false))⟩, []⟩,
  ⟨22, ⟨(some 46), .sim (.bin .neq (.t 45) (.c (.int .i64 2))), (some (40, false))⟩, []⟩,
  ⟨23, ⟨(some 47), .sim (.pick (.t 40) (.c (.bool true)) (.t 46)), none⟩, []⟩,
  ⟨24, ⟨(some 48), .sim (.mov (.t 47)), none⟩, []⟩,
  ⟨25, ⟨(some 49), .sim (.fld 0 (.t 3)), (some (48, false))⟩, []⟩,
  ⟨26, ⟨(some 50), .sim (.ld none (.t 49)), (some (48, false))⟩, []⟩,
  ⟨27, ⟨(some 51), .sim (.idx 3 (.t 50) (.c (.int .i64 0))), (some (48, false))⟩, []⟩,
  ⟨28, ⟨(some 52), .sim (.fld 1 (.t 51)), (some (48, false))⟩, []⟩,
  ⟨29, ⟨(some 53), .sim (.ld (some 2) (.t 52)), (some (48, false))⟩, []⟩,
  ⟨30, ⟨(some 54), .sim (.fld 1 (.t 1)), (some (48, false))⟩, []⟩,
  ⟨31, ⟨(some 55), .sim (.ld none (.t 54)), (some (48, false))⟩, []⟩,
  ⟨32, ⟨(some 56), .sim (.idx 3 (.t 55) (.c (.int .i64 0))), (some (48, false))⟩, []⟩,
  ⟨33, ⟨(some 57), .sim (.fld 1 (.t 56)), (some (48, false))⟩, []⟩,
  ⟨34, ⟨(some 58), .sim (.ld (some 2) (.t 57)), (some (48, false))⟩, []⟩,
  ⟨35, ⟨(some 59), .callp 9 [.t 53, .t 58], (some (48, false))⟩, []⟩,
  ⟨36, ⟨(some 60), .sim (.not (.t 59)), (some (48, false))⟩, []⟩,
  ⟨37, ⟨(some 61), .sim (.pick (.t 48) (.c (.bool true)) (.t 60)), none⟩, []⟩,
  ⟨38, ⟨(some 62), .sim (.mov (.t 61)), none⟩, []⟩,
  ⟨39, ⟨(some 63), .sim (.fld 0 (.t 3)), (some (62, false))⟩, []⟩,
  ⟨40, ⟨(some 64), .sim (.ld none (.t 63)), (some (62, false))⟩, []⟩,
  ⟨41, ⟨(some 65), .sim (.idx 3 (.t 64) (.c (.int .i64 1))), (some (62, false))⟩, []⟩,
  ⟨42, ⟨(some 66), .sim (.fld 1 (.t 65)), (some (62, false))⟩, []⟩,
  ⟨43, ⟨(some 67), .sim (.fld 1 (.t 66)), (some (62, false))⟩, []⟩,
  ⟨44, ⟨(some 68), .sim (.ld none (.t 67)), (some (62, false))⟩, []⟩,
  ⟨45, ⟨(some 69), .sim (.len false (.t 68)), (some (62, false))⟩, []⟩,
  ⟨46, ⟨(some 70), .sim (.bin .neq (.t 69) (.c (.int .i64 0))), (some (62, false))⟩, []⟩,
  ⟨47, ⟨(some 71), .sim (.pick (.t 62) (.c (.bool true)) (.t 70)), none⟩, []⟩,
  ⟨48, ⟨(some 72), .sim (.mov (.t 71)), none⟩, []⟩,
  ⟨49, ⟨(some 73), .sim (.fld 0 (.t 3)), (some (72, false))⟩, []⟩,
  ⟨50, ⟨(some 74), .sim (.ld none (.t 73)), (some (72, false))⟩, []⟩,
  ⟨51, ⟨(some 75), .sim (.idx 3 (.t 74) (.c (.int .i64 1))), (some (72, false))⟩, []⟩,
  ⟨52, ⟨(some 76), .sim (.fld 1 (.t 75)), (some (72, false))⟩, []⟩,
  ⟨53, ⟨(some 77), .sim (.fld 0 (.t 76)), (some (72, false))⟩, []⟩,
  ⟨54, ⟨(some 78), .sim (.ld none (.t 77)), (some (72, false))⟩, []⟩,
  ⟨55, ⟨(some 79), .sim (.bin .neq (.t 78) (.c (.string ⟨#[120]⟩))), (some (72, false))⟩, []⟩,
  ⟨56, ⟨(some 80), .sim (.pick (.t 72) (.c (.bool true)) (.t 79)), none⟩, []⟩]
def c_law40_head_r4 : List AOper := [
  ⟨(some 0), .sim (.mov (.c (.bool false))), none⟩]
def c_law40_head_r5 : List DOp := [
  ⟨0, ⟨(some 81), .sim (.fld 0 (.t 1)), none⟩, []⟩,
  ⟨1, ⟨(some 82), .sim (.ld none (.t 81)), none⟩, []⟩,
  ⟨2, ⟨(some 83), .sim (.fld 2 (.t 1)), none⟩, []⟩,
  ⟨3, ⟨(some 84), .sim (.ld (some 4) (.t 83)), none⟩, []⟩,
  ⟨4, ⟨(some 85), .sim (.fld 6 (.t 1)), none⟩, []⟩,
  ⟨5, ⟨(some 86), .sim (.ld none (.t 85)), none⟩, []⟩,
  ⟨6, ⟨(some 87), .sim (.fld 1 (.t 1)), none⟩, []⟩,
  ⟨7, ⟨(some 88), .sim (.ld none (.t 87)), none⟩, []⟩,
  ⟨8, ⟨(some 89), .sim (.idx 3 (.t 88) (.c (.int .i64 0))), none⟩, []⟩,
  ⟨9, ⟨(some 90), .sim (.fld 1 (.t 89)), none⟩, []⟩,
  ⟨10, ⟨(some 91), .sim (.ld (some 2) (.t 90)), none⟩, []⟩,
  ⟨11, ⟨(some 92), .sim (.bld [.int .i64 0, .int .i64 0, .int .i64 0, .string ⟨#[]⟩, .slice none 0 0] [(0, 1, .c (.int .i64 1)), (2, 1, .c (.int .i64 100)), (3, 2, .t 91)]), none⟩, []⟩,
  ⟨14, ⟨(some 5), .sim (.new [.slice none 0 0, .slice none 0 0, .string ⟨#[]⟩, .int .i64 0, .int .i64 0, .slice none 0 0, .slice none 0 0, .int .i64 0, .int .i64 0]), none⟩, []⟩,
  ⟨12, ⟨(some 93), .mksl 5 1 [.int .i64 0, .int .i64 0, .int .i64 0, .string ⟨#[]⟩, .slice none 0 0] [(0, 5, .t 92)], none⟩, [0, 1, 2, 3, 4, 5, 14]⟩,
  ⟨13, ⟨(some 94), .sim (.bld [.slice none 0 0, .slice none 0 0, .string ⟨#[]⟩, .int .i64 0, .int .i64 0, .slice none 0 0, .slice none 0 0, .int .i64 0, .int .i64 0] [(0, 1, .t 82), (2, 4, .t 84), (6, 1, .t 86), (8, 1, .c (.int .i64 100)), (1, 1, .t 93)]), none⟩, []⟩,
  ⟨15, ⟨none, .st 9 (.t 5) (.t 94), none⟩, []⟩]
def c_law40_head_r6 : List AOper := [
  ⟨(some 96), .sim (.ld (some 9) (.t 5)), none⟩,
  ⟨(some 97), .sim (.ld (some 1) (.t 2)), none⟩,
  ⟨(some 98), .sim (.bld [.int .i64 0, .slice none 0 0] [(0, 1, .c (.int .i64 10)), (1, 1, .t 97)]), none⟩,
  ⟨(some 99), .mksl 2 1 [.int .i64 0, .slice none 0 0] [(0, 2, .t 98)], none⟩,
  ⟨(some 100), .call 10 [.t 96, .t 99, .c (.int .i64 0), .c (.int .i64 5), .c (.int .i64 50), .c (.slice none 0 0)], none⟩,
  ⟨(some 95), .sim (.mov (.t 100)), none⟩,
  ⟨(some 101), .sim (.ext 0 (.t 95)), none⟩,
  ⟨(some 102), .sim (.ext 1 (.t 95)), none⟩,
  ⟨(some 6), .sim (.mov (.t 101)), none⟩,
  ⟨(some 7), .sim (.mov (.t 102)), none⟩]
def c_law40_head_r7 : List AOper := [
  ⟨(some 104), .sim (.ld (some 9) (.t 5)), none⟩,
  ⟨(some 105), .sim (.ld (some 1) (.t 2)), none⟩,
  ⟨(some 106), .sim (.bld [.int .i64 0, .slice none 0 0] [(0, 1, .c (.int .i64 10)), (1, 1, .t 105)]), none⟩,
  ⟨(some 107), .mksl 2 1 [.int .i64 0, .slice none 0 0] [(0, 2, .t 106)], none⟩,
  ⟨(some 108), .call 10 [.t 104, .t 107, .c (.int .i64 1), .c (.int .i64 10), .c (.int .i64 50), .c (.slice none 0 0)], none⟩,
  ⟨(some 103), .sim (.mov (.t 108)), none⟩,
  ⟨(some 109), .sim (.ext 0 (.t 103)), none⟩,
  ⟨(some 110), .sim (.ext 1 (.t 103)), none⟩,
  ⟨(some 8), .sim (.mov (.t 109)), none⟩,
  ⟨(some 9), .sim (.mov (.t 110)), none⟩]
def c_law40_head_r8 : List AOper := [
  ⟨(some 112), .sim (.ld (some 9) (.t 5)), none⟩,
  ⟨(some 113), .sim (.ld (some 1) (.t 2)), none⟩,
  ⟨(some 114), .sim (.bld [.int .i64 0, .slice none 0 0] [(0, 1, .c (.int .i64 10)), (1, 1, .t 113)]), none⟩,
  ⟨(some 115), .mksl 2 1 [.int .i64 0, .slice none 0 0] [(0, 2, .t 114)], none⟩,
  ⟨(some 116), .call 10 [.t 112, .t 115, .c (.int .i64 2), .c (.int .i64 20), .c (.int .i64 50), .c (.slice none 0 0)], none⟩,
  ⟨(some 111), .sim (.mov (.t 116)), none⟩,
  ⟨(some 117), .sim (.ext 0 (.t 111)), none⟩,
  ⟨(some 118), .sim (.ext 1 (.t 111)), none⟩,
  ⟨(some 10), .sim (.mov (.t 117)), none⟩,
  ⟨(some 11), .sim (.mov (.t 118)), none⟩]
def c_law40_head_r9 : List DOp := [
  ⟨0, ⟨(some 120), .sim (.ld (some 7) (.t 1)), none⟩, []⟩,
  ⟨1, ⟨(some 121), .sim (.fld 0 (.t 2)), none⟩, []⟩,
  ⟨2, ⟨(some 122), .sim (.ld none (.t 121)), none⟩, []⟩,
  ⟨3, ⟨(some 123), .sim (.idx 3 (.t 122) (.c (.int .i64 0))), none⟩, []⟩,
  ⟨4, ⟨(some 124), .sim (.fld 1 (.t 123)), none⟩, []⟩,
  ⟨5, ⟨(some 125), .sim (.ld (some 2) (.t 124)), none⟩, []⟩,
  ⟨6, ⟨(some 126), .sim (.bld [.int .i64 0, .string ⟨#[]⟩, .slice none 0 0] [(0, 1, .c (.int .i64 3)), (1, 2, .t 125)]), none⟩, []⟩,
  ⟨13, ⟨(some 12), .sim (.new [.slice none 0 0]), none⟩, []⟩,
  ⟨7, ⟨(some 127), .mksl 3 1 [.int .i64 0, .string ⟨#[]⟩, .slice none 0 0] [(0, 3, .t 126)], none⟩, [0, 13]⟩,
  ⟨8, ⟨(some 128), .sim (.bld [.slice none 0 0] [(0, 1, .t 127)]), none⟩, []⟩,
  ⟨9, ⟨(some 129), .call 3 [.t 120, .t 128], none⟩, [13]⟩,
  ⟨10, ⟨(some 119), .sim (.mov (.t 129)), none⟩, []⟩,
  ⟨11, ⟨(some 130), .sim (.ext 0 (.t 119)), none⟩, []⟩,
  ⟨12, ⟨(some 131), .sim (.ext 1 (.t 119)), none⟩, []⟩,
  ⟨14, ⟨none, .st 1 (.t 12) (.t 130), none⟩, [12]⟩,
  ⟨15, ⟨(some 13), .sim (.mov (.t 131)), none⟩, []⟩]
def c_law40_head_r10 : List AOper := [
  ⟨(some 132), .sim (.mov (.t 7)), none⟩,
  ⟨(some 133), .sim (.bin .eql (.t 132) (.c (.int .i64 0))), none⟩,
  ⟨(some 134), .sim (.mov (.t 133)), none⟩,
  ⟨(some 135), .sim (.mov (.t 6)), (some (134, true))⟩,
  ⟨(some 136), .sim (.len false (.t 135)), (some (134, true))⟩,
  ⟨(some 137), .sim (.bin .eql (.t 136) (.c (.int .i64 0))), (some (134, true))⟩,
  ⟨(some 138), .sim (.pick (.t 134) (.t 137) (.c (.bool false))), none⟩,
  ⟨(some 139), .sim (.mov (.t 138)), none⟩,
  ⟨(some 140), .sim (.mov (.t 9)), (some (139, true))⟩,
  ⟨(some 141), .sim (.bin .eql (.t 140) (.c (.int .i64 1))), (some (139, true))⟩,
  ⟨(some 142), .sim (.pick (.t 139) (.t 141) (.c (.bool false))), none⟩,
  ⟨(some 143), .sim (.mov (.t 142)), none⟩,
  ⟨(some 144), .sim (.mov (.t 11)), (some (143, true))⟩,
  ⟨(some 145), .sim (.bin .eql (.t 144) (.c (.int .i64 1))), (some (143, true))⟩,
  ⟨(some 146), .sim (.pick (.t 143) (.t 145) (.c (.bool false))), none⟩,
  ⟨(some 147), .sim (.mov (.t 146)), none⟩,
  ⟨(some 148), .sim (.mov (.t 13)), (some (147, true))⟩,
  ⟨(some 149), .sim (.bin .eql (.t 148) (.c (.int .i64 1))), (some (147, true))⟩,
  ⟨(some 150), .sim (.pick (.t 147) (.t 149) (.c (.bool false))), none⟩,
  ⟨(some 0), .sim (.mov (.t 150)), none⟩]
/-- nameplan/nameplanlaw40.head -/
def c_law40_head : AFunc := ⟨151, [.slot 0],
  (.seq (.reg c_law40_head_r0 []) (.seq (.reg c_law40_head_r1 [1, 2]) (.seq (.reg c_law40_head_r2 [1, 2, 3, 4]) (.seq (.seq (.regd c_law40_head_r3 [1, 2, 80]) (.cond (.t 80) (.seq (.reg c_law40_head_r4 [0]) .ret) .skip)) (.seq (.regd c_law40_head_r5 [1, 2, 5]) (.seq (.reg c_law40_head_r6 [1, 2, 5, 6, 7]) (.seq (.reg c_law40_head_r7 [1, 2, 5, 6, 7, 9]) (.seq (.reg c_law40_head_r8 [1, 2, 6, 7, 9, 11]) (.seq (.regd c_law40_head_r9 [6, 7, 9, 11, 13]) (.seq (.reg c_law40_head_r10 [0]) .ret))))))))))⟩
def c_ref16_Few_r0 : List AOper := [
  ⟨(some 1), .sim (.box (.t 0)), none⟩,
  ⟨(some 2), .sim (.mov (.c (.bool false))), none⟩]
def c_ref16_Few_r1 : List AOper := [
  ⟨(some 3), .sim (.mov (.c (.int .i64 0))), none⟩]
def c_ref16_Few_r2 : List AOper := [
  ⟨(some 6), .sim (.mov (.t 3)), none⟩,
  ⟨(some 7), .sim (.fld 1 (.t 1)), none⟩,
  ⟨(some 8), .sim (.ld none (.t 7)), none⟩,
  ⟨(some 9), .sim (.len false (.t 8)), none⟩,
  ⟨(some 10), .sim (.bin .lss (.t 6) (.t 9)), none⟩,
  ⟨(some 11), .sim (.mov (.t 10)), none⟩,
  ⟨(some 12), .sim (.mov (.t 3)), (some (11, true))⟩,
  ⟨(some 13), .sim (.bin .leq (.t 12) (.c (.int .i64 20))), (some (11, true))⟩,
  ⟨(some 14), .sim (.pick (.t 11) (.t 13) (.c (.bool false))), none⟩]
def c_ref16_Few_r4 : List AOper := [
  ⟨(some 17), .sim (.fld 1 (.t 1)), none⟩,
  ⟨(some 18), .sim (.ld none (.t 17)), none⟩,
  ⟨(some 19), .sim (.mov (.t 3)), none⟩,
  ⟨(some 20), .sim (.idx 3 (.t 18) (.t 19)), none⟩,
  ⟨(some 21), .sim (.fld 1 (.t 20)), none⟩,
  ⟨(some 22), .sim (.ld (some 2) (.t 21)), none⟩,
  ⟨(some 23), .callp 11 [.t 22], none⟩,
  ⟨(some 4), .sim (.mov (.t 23)), none⟩]
def c_ref16_Few_r5 : List AOper := [
  ⟨(some 24), .sim (.mov (.t 4)), none⟩,
  ⟨(some 25), .sim (.not (.t 24)), none⟩,
  ⟨(some 26), .sim (.mov (.t 25)), none⟩,
  ⟨(some 27), .sim (.fld 1 (.t 1)), (some (26, false))⟩,
  ⟨(some 28), .sim (.ld none (.t 27)), (some (26, false))⟩,
  ⟨(some 29), .sim (.mov (.t 3)), (some (26, false))⟩,
  ⟨(some 30), .sim (.idx 3 (.t 28) (.t 29)), (some (26, false))⟩,
  ⟨(some 31), .sim (.fld 1 (.t 30)), (some (26, false))⟩,
  ⟨(some 32), .sim (.fld 0 (.t 31)), (some (26, false))⟩,
  ⟨(some 33), .sim (.ld none (.t 32)), (some (26, false))⟩,
  ⟨(some 34), .sim (.len true (.t 33)), (some (26, false))⟩,
  ⟨(some 35), .sim (.bin .gtr (.t 34) (.c (.int .i64 100))), (some (26, false))⟩,
  ⟨(some 36), .sim (.pick (.t 26) (.c (.bool true)) (.t 35)), none⟩]
def c_ref16_Few_r6 : List AOper := [
  ⟨(some 2), .sim (.mov (.c (.bool false))), none⟩]
def c_ref16_Few_r3 : List AOper := [
  ⟨(some 15), .sim (.mov (.t 3)), none⟩,
  ⟨(some 16), .sim (.bin .add (.t 15) (.c (.int .i64 1))), none⟩,
  ⟨(some 3), .sim (.mov (.t 16)), none⟩]
def c_ref16_Few_r7 : List AOper := [
  ⟨(some 5), .sim (.mov (.c (.int .i64 0))), none⟩]
def c_ref16_Few_r8 : List AOper := [
  ⟨(some 37), .sim (.mov (.t 5)), none⟩,
  ⟨(some 38), .sim (.fld 0 (.t 1)), none⟩,
  ⟨(some 39), .sim (.ld none (.t 38)), none⟩,
  ⟨(some 40), .sim (.len false (.t 39)), none⟩,
  ⟨(some 41), .sim (.bin .lss (.t 37) (.t 40)), none⟩,
  ⟨(some 42), .sim (.mov (.t 41)), none⟩,
  ⟨(some 43), .sim (.mov (.t 5)), (some (42, true))⟩,
  ⟨(some 44), .sim (.bin .leq (.t 43) (.c (.int .i64 70))), (some (42, true))⟩,
  ⟨(some 45), .sim (.pick (.t 42) (.t 44) (.c (.bool false))), none⟩]
def c_ref16_Few_r10 : List AOper := [
  ⟨(some 48), .sim (.fld 0 (.t 1)), none⟩,
  ⟨(some 49), .sim (.ld none (.t 48)), none⟩,
  ⟨(some 50), .sim (.mov (.t 5)), none⟩,
  ⟨(some 51), .sim (.idx 3 (.t 49) (.t 50)), none⟩,
  ⟨(some 52), .sim (.fld 0 (.t 51)), none⟩,
  ⟨(some 53), .sim (.ld none (.t 52)), none⟩,
  ⟨(some 54), .sim (.len true (.t 53)), none⟩,
  ⟨(some 55), .sim (.bin .gtr (.t 54) (.c (.int .i64 100))), none⟩]
def c_ref16_Few_r11 : List AOper := [
  ⟨(some 2), .sim (.mov (.c (.bool false))), none⟩]
def c_ref16_Few_r9 : List AOper := [
  ⟨(some 46), .sim (.mov (.t 5)), none⟩,
  ⟨(some 47), .sim (.bin .add (.t 46) (.c (.int .i64 1))), none⟩,
  ⟨(some 5), .sim (.mov (.t 47)), none⟩]
def c_ref16_Few_r12 : List AOper := [
  ⟨(some 56), .sim (.fld 1 (.t 1)), none⟩,
  ⟨(some 57), .sim (.ld none (.t 56)), none⟩,
  ⟨(some 58), .sim (.len false (.t 57)), none⟩,
  ⟨(some 59), .sim (.bin .leq (.t 58) (.c (.int .i64 20))), none⟩,
  ⟨(some 60), .sim (.mov (.t 59)), none⟩,
  ⟨(some 61), .sim (.fld 0 (.t 1)), (some (60, true))⟩,
  ⟨(some 62), .sim (.ld none (.t 61)), (some (60, true))⟩,
  ⟨(some 63), .sim (.len false (.t 62)), (some (60, true))⟩,
  ⟨(some 64), .sim (.bin .leq (.t 63) (.c (.int .i64 70))), (some (60, true))⟩,
  ⟨(some 65), .sim (.pick (.t 60) (.t 64) (.c (.bool false))), none⟩,
  ⟨(some 66), .sim (.mov (.t 65)), none⟩,
  ⟨(some 67), .sim (.fld 6 (.t 1)), (some (66, true))⟩,
  ⟨(some 68), .sim (.ld none (.t 67)), (some (66, true))⟩,
  ⟨(some 69), .sim (.len false (.t 68)), (some (66, true))⟩,
  ⟨(some 70), .sim (.bin .leq (.t 69) (.c (.int .i64 20))), (some (66, true))⟩,
  ⟨(some 71), .sim (.pick (.t 66) (.t 70) (.c (.bool false))), none⟩,
  ⟨(some 72), .sim (.mov (.t 71)), none⟩,
  ⟨(some 73), .sim (.fld 2 (.t 1)), (some (72, true))⟩,
  ⟨(some 74), .sim (.fld 3 (.t 73)), (some (72, true))⟩,
  ⟨(some 75), .sim (.ld none (.t 74)), (some (72, true))⟩,
  ⟨(some 76), .sim (.len false (.t 75)), (some (72, true))⟩,
  ⟨(some 77), .sim (.bin .leq (.t 76) (.c (.int .i64 20))), (some (72, true))⟩,
  ⟨(some 78), .sim (.pick (.t 72) (.t 77) (.c (.bool false))), none⟩,
  ⟨(some 2), .sim (.mov (.t 78)), none⟩]
/-- nameplan/nameplanref16.Few -/
def c_ref16_Few : AFunc := ⟨79, [.slot 2],
  (.seq (.reg c_ref16_Few_r0 [1]) (.seq (.seq (.reg c_ref16_Few_r1 [1, 3]) (.block 0 (.loop [1, 3] (.seq (.seq (.reg c_ref16_Few_r2 [1, 3, 14]) (.cond (.t 14) .skip (.exit 0))) (.seq (.block 1 (.seq (.reg c_ref16_Few_r4 [1, 3, 4]) (.seq (.reg c_ref16_Few_r5 [1, 3, 36]) (.cond (.t 36) (.seq (.reg c_ref16_Few_r6 [2]) .ret) .skip)))) (.reg c_ref16_Few_r3 [1, 3])))))) (.seq (.seq (.reg c_ref16_Few_r7 [1, 5]) (.block 2 (.loop [1, 5] (.seq (.seq (.reg c_ref16_Few_r8 [1, 5, 45]) (.cond (.t 45) .skip (.exit 2))) (.seq (.block 3 (.seq (.reg c_ref16_Few_r10 [1, 5, 55]) (.cond (.t 55) (.seq (.reg c_ref16_Few_r11 [2]) .ret) .skip))) (.reg c_ref16_Few_r9 [1, 5])))))) (.seq (.reg c_ref16_Few_r12 [2]) .ret))))⟩
def c_ref35_FewStage_r0 : List AOper := [
  ⟨(some 1), .sim (.box (.t 0)), none⟩,
  ⟨(some 2), .sim (.mov (.c (.bool false))), none⟩]
def c_ref35_FewStage_r1 : List AOper := [
  ⟨(some 3), .sim (.mov (.c (.int .i64 0))), none⟩]
def c_ref35_FewStage_r2 : List AOper := [
  ⟨(some 4), .sim (.mov (.t 3)), none⟩,
  ⟨(some 5), .sim (.fld 0 (.t 1)), none⟩,
  ⟨(some 6), .sim (.ld none (.t 5)), none⟩,
  ⟨(some 7), .sim (.len false (.t 6)), none⟩,
  ⟨(some 8), .sim (.bin .lss (.t 4) (.t 7)), none⟩,
  ⟨(some 9), .sim (.mov (.t 8)), none⟩,
  ⟨(some 10), .sim (.mov (.t 3)), (some (9, true))⟩,
  ⟨(some 11), .sim (.bin .lss (.t 10) (.c (.int .i64 20))), (some (9, true))⟩,
  ⟨(some 12), .sim (.pick (.t 9) (.t 11) (.c (.bool false))), none⟩]
def c_ref35_FewStage_r4 : List AOper := [
  ⟨(some 15), .sim (.fld 0 (.t 1)), none⟩,
  ⟨(some 16), .sim (.ld none (.t 15)), none⟩,
  ⟨(some 17), .sim (.mov (.t 3)), none⟩,
  ⟨(some 18), .sim (.idx 3 (.t 16) (.t 17)), none⟩,
  ⟨(some 19), .sim (.fld 1 (.t 18)), none⟩,
  ⟨(some 20), .sim (.ld (some 2) (.t 19)), none⟩,
  ⟨(some 21), .callp 11 [.t 20], none⟩,
  ⟨(some 22), .sim (.not (.t 21)), none⟩]
def c_ref35_FewStage_r5 : List AOper := [
  ⟨(some 2), .sim (.mov (.c (.bool false))), none⟩]
def c_ref35_FewStage_r3 : List AOper := [
  ⟨(some 13), .sim (.mov (.t 3)), none⟩,
  ⟨(some 14), .sim (.bin .add (.t 13) (.c (.int .i64 1))), none⟩,
  ⟨(some 3), .sim (.mov (.t 14)), none⟩]
def c_ref35_FewStage_r6 : List AOper := [
  ⟨(some 23), .sim (.fld 0 (.t 1)), none⟩,
  ⟨(some 24), .sim (.ld none (.t 23)), none⟩,
  ⟨(some 25), .sim (.len false (.t 24)), none⟩,
  ⟨(some 26), .sim (.bin .leq (.t 25) (.c (.int .i64 20))), none⟩,
  ⟨(some 2), .sim (.mov (.t 26)), none⟩]
/-- nameplan/nameplanref35.FewStage -/
def c_ref35_FewStage : AFunc := ⟨27, [.slot 2],
  (.seq (.reg c_ref35_FewStage_r0 [1]) (.seq (.seq (.reg c_ref35_FewStage_r1 [1, 3]) (.block 0 (.loop [1, 3] (.seq (.seq (.reg c_ref35_FewStage_r2 [1, 3, 12]) (.cond (.t 12) .skip (.exit 0))) (.seq (.block 1 (.seq (.reg c_ref35_FewStage_r4 [1, 3, 22]) (.cond (.t 22) (.seq (.reg c_ref35_FewStage_r5 [2]) .ret) .skip))) (.reg c_ref35_FewStage_r3 [1, 3])))))) (.seq (.reg c_ref35_FewStage_r6 [2]) .ret)))⟩
def c_rollback_Undo_r0 : List AOper := [
  ⟨(some 2), .sim (.box (.t 0)), none⟩,
  ⟨(some 3), .boxH (.t 1), none⟩,
  ⟨(some 4), .sim (.new [.slice none 0 0]), none⟩,
  ⟨(some 5), .sim (.mov (.c (.int .i64 0))), none⟩]
def c_rollback_Undo_r1 : List AOper := [
  ⟨(some 20), .sim (.ld (some 7) (.t 2)), none⟩,
  ⟨(some 21), .sim (.ld (some 1) (.t 3)), none⟩,
  ⟨(some 22), .call 4 [.t 20, .t 21], none⟩,
  ⟨(some 19), .sim (.mov (.t 22)), none⟩,
  ⟨(some 23), .sim (.ext 0 (.t 19)), none⟩,
  ⟨(some 24), .sim (.ext 1 (.t 19)), none⟩,
  ⟨(some 6), .sim (.new [.slice none 0 0, .slice none 0 0, .string ⟨#[]⟩, .int .i64 0, .int .i64 0, .slice none 0 0, .slice none 0 0]), none⟩,
  ⟨none, .st 7 (.t 6) (.t 23), none⟩,
  ⟨(some 7), .sim (.mov (.t 24)), none⟩]
def c_rollback_Undo_r2 : List AOper := [
  ⟨(some 25), .sim (.mov (.t 7)), none⟩,
  ⟨(some 26), .sim (.bin .eql (.t 25) (.c (.int .i64 1))), none⟩]
def c_rollback_Undo_r3 : List AOper := [
  ⟨(some 27), .sim (.bld [.slice none 0 0] []), none⟩,
  ⟨none, .st 1 (.t 4) (.t 27), none⟩,
  ⟨(some 5), .sim (.mov (.c (.int .i64 1))), none⟩]
def c_rollback_Undo_r4 : List AOper := [
  ⟨(some 28), .sim (.mkf 12 [] [.t 3]), none⟩,
  ⟨(some 8), .sim (.mov (.t 28)), none⟩]
def c_rollback_Undo_r5 : List AOper := [
  ⟨(some 29), .mkmap none, none⟩,
  ⟨(some 9), .sim (.mov (.t 29)), none⟩]
def c_rollback_Undo_r6 : List AOper := [
  ⟨(some 30), .sim (.fld 1 (.t 2)), none⟩,
  ⟨(some 31), .sim (.ld none (.t 30)), none⟩,
  ⟨(some 32), .sim (.len false (.t 31)), none⟩,
  ⟨(some 33), .sim (.mov (.c (.int .i64 0))), none⟩]
def c_rollback_Undo_r7 : List AOper := [
  ⟨(some 34), .sim (.bin .lss (.t 33) (.t 32)), none⟩]
def c_rollback_Undo_r8 : List AOper := [
  ⟨(some 35), .sim (.idx 3 (.t 31) (.t 33)), none⟩,
  ⟨(some 36), .sim (.ld (some 3) (.t 35)), none⟩,
  ⟨(some 11), .sim (.new [.int .i64 0, .string ⟨#[]⟩, .slice none 0 0]), none⟩,
  ⟨none, .st 3 (.t 11) (.t 36), none⟩]
def c_rollback_Undo_r9 : List AOper := [
  ⟨(some 37), .sim (.fld 0 (.t 11)), none⟩,
  ⟨(some 38), .sim (.ld none (.t 37)), none⟩,
  ⟨(some 39), .sim (.fld 1 (.t 11)), none⟩,
  ⟨(some 40), .sim (.fld 0 (.t 39)), none⟩,
  ⟨(some 41), .sim (.ld none (.t 40)), none⟩,
  ⟨(some 42), .sim (.bld [.int .i64 0, .string ⟨#[]⟩] [(0, 1, .t 38), (1, 1, .t 41)]), none⟩,
  ⟨(some 12), .sim (.new [.int .i64 0, .string ⟨#[]⟩]), none⟩,
  ⟨none, .st 2 (.t 12) (.t 42), none⟩]
def c_rollback_Undo_r10 : List AOper := [
  ⟨(some 43), .sim (.mov (.t 8)), none⟩,
  ⟨(some 44), .sim (.ld (some 2) (.t 12)), none⟩,
  ⟨(some 45), .callv (.t 43) [.t 44], none⟩]
def c_rollback_Undo_r11 : List AOper := [
  ⟨(some 46), .sim (.mov (.t 9)), none⟩,
  ⟨(some 47), .sim (.ld (some 2) (.t 12)), none⟩,
  ⟨(some 48), .sim (.fld 1 (.t 11)), none⟩,
  ⟨(some 49), .sim (.ld (some 2) (.t 48)), none⟩,
  ⟨none, .upd true [.i, .s] (.t 46) (.t 47) (.t 49), none⟩]
def c_rollback_Undo_r12 : List AOper := [
  ⟨(some 50), .sim (.bin .add (.t 33) (.c (.int .i64 1))), none⟩,
  ⟨(some 33), .sim (.mov (.t 50)), none⟩]
def c_rollback_Undo_r13 : List AOper := [
  ⟨(some 13), .sim (.new [.slice none 0 0]), none⟩]
def c_rollback_Undo_r14 : List AOper := [
  ⟨(some 51), .sim (.fld 0 (.t 3)), none⟩,
  ⟨(some 52), .sim (.ld none (.t 51)), none⟩,
  ⟨(some 53), .sim (.len false (.t 52)), none⟩,
  ⟨(some 54), .sim (.mov (.c (.int .i64 0))), none⟩]
def c_rollback_Undo_r15 : List AOper := [
  ⟨(some 55), .sim (.bin .lss (.t 54) (.t 53)), none⟩]
def c_rollback_Undo_r16 : List AOper := [
  ⟨(some 56), .sim (.idx 3 (.t 52) (.t 54)), none⟩,
  ⟨(some 57), .sim (.ld (some 3) (.t 56)), none⟩,
  ⟨(some 15), .sim (.new [.int .i64 0, .string ⟨#[]⟩, .slice none 0 0]), none⟩,
  ⟨none, .st 3 (.t 15) (.t 57), none⟩]
def c_rollback_Undo_r17 : List AOper := [
  ⟨(some 58), .sim (.fld 0 (.t 15)), none⟩,
  ⟨(some 59), .sim (.ld none (.t 58)), none⟩,
  ⟨(some 60), .sim (.fld 1 (.t 15)), none⟩,
  ⟨(some 61), .sim (.fld 0 (.t 60)), none⟩,
  ⟨(some 62), .sim (.ld none (.t 61)), none⟩,
  ⟨(some 63), .sim (.bld [.string ⟨#[]⟩, .slice none 0 0] [(0, 1, .t 62)]), none⟩,
  ⟨(some 64), .sim (.bld [.int .i64 0, .string ⟨#[]⟩, .slice none 0 0] [(0, 1, .t 59), (1, 2, .t 63)]), none⟩,
  ⟨(some 16), .sim (.new [.int .i64 0, .string ⟨#[]⟩, .slice none 0 0]), none⟩,
  ⟨none, .st 3 (.t 16) (.t 64), none⟩]
def c_rollback_Undo_r18 : List AOper := [
  ⟨(some 66), .sim (.mov (.t 9)), none⟩,
  ⟨(some 67), .sim (.fld 0 (.t 15)), none⟩,
  ⟨(some 68), .sim (.ld none (.t 67)), none⟩,
  ⟨(some 69), .sim (.fld 1 (.t 15)), none⟩,
  ⟨(some 70), .sim (.fld 0 (.t 69)), none⟩,
  ⟨(some 71), .sim (.ld none (.t 70)), none⟩,
  ⟨(some 72), .sim (.bld [.int .i64 0, .string ⟨#[]⟩] [(0, 1, .t 68), (1, 1, .t 71)]), none⟩,
  ⟨(some 73), .look true [.i, .s] (.agg #[.string ⟨#[]⟩, .slice none 0 0]) true (.t 66) (.t 72), none⟩,
  ⟨(some 65), .sim (.mov (.t 73)), none⟩,
  ⟨(some 74), .sim (.ext 0 (.t 65)), none⟩,
  ⟨(some 75), .sim (.ext 1 (.t 65)), none⟩,
  ⟨(some 17), .sim (.new [.string ⟨#[]⟩, .slice none 0 0]), none⟩,
  ⟨none, .st 2 (.t 17) (.t 74), none⟩,
  ⟨(some 18), .sim (.mov (.t 75)), none⟩]
def c_rollback_Undo_r19 : List AOper := [
  ⟨(some 76), .sim (.mov (.t 18)), none⟩]
def c_rollback_Undo_r20 : List AOper := [
  ⟨(some 77), .sim (.ld (some 2) (.t 17)), none⟩,
  ⟨(some 78), .call 13 [.t 77], none⟩,
  ⟨(some 79), .sim (.fld 1 (.t 16)), none⟩,
  ⟨none, .st 2 (.t 79) (.t 78), none⟩]
def c_rollback_Undo_r21 : List AOper := [
  ⟨(some 80), .sim (.fld 0 (.t 13)), none⟩,
  ⟨(some 81), .sim (.ld none (.t 80)), none⟩,
  ⟨(some 82), .sim (.ld (some 3) (.t 16)), none⟩,
  ⟨(some 83), .mksl 3 1 [.int .i64 0, .string ⟨#[]⟩, .slice none 0 0] [(0, 3, .t 82)], none⟩,
  ⟨(some 84), .app 3 48 [.int .i64 0, .string ⟨#[]⟩, .slice none 0 0] (.t 81) (.t 83), none⟩,
  ⟨(some 85), .sim (.fld 0 (.t 13)), none⟩,
  ⟨none, .st 1 (.t 85) (.t 84), none⟩]
def c_rollback_Undo_r22 : List AOper := [
  ⟨(some 86), .sim (.bin .add (.t 54) (.c (.int .i64 1))), none⟩,
  ⟨(some 54), .sim (.mov (.t 86)), none⟩]
def c_rollback_Undo_r23 : List AOper := [
  ⟨(some 87), .sim (.ld (some 1) (.t 13)), none⟩,
  ⟨none, .st 1 (.t 4) (.t 87), none⟩,
  ⟨(some 5), .sim (.mov (.c (.int .i64 0))), none⟩]
/-- nameplan/rollback.Undo -/
def c_rollback_Undo : AFunc := ⟨88, [.cell 4 (some 1), .slot 5],
  (.seq (.reg c_rollback_Undo_r0 [2, 3, 4]) (.seq (.seq (.reg c_rollback_Undo_r1 [2, 3, 4, 7]) (.seq (.reg c_rollback_Undo_r2 [2, 3, 4, 26]) (.cond (.t 26) (.seq (.reg c_rollback_Undo_r3 [4, 5]) .ret) .skip))) (.seq (.reg c_rollback_Undo_r4 [2, 3, 4, 8]) (.seq (.reg c_rollback_Undo_r5 [2, 3, 4, 8, 9]) (.seq (.seq (.reg c_rollback_Undo_r6 [3, 4, 8, 9, 31, 32, 33]) (.block 0 (.loop [3, 4, 8, 9, 31, 32, 33] (.seq (.reg c_rollback_Undo_r7 [3, 4, 8, 9, 31, 32, 33, 34]) (.seq (.cond (.t 34) .skip (.exit 0)) (.seq (.block 1 (.seq (.reg c_rollback_Undo_r8 [3, 4, 8, 9, 11, 31, 32, 33]) (.seq (.reg c_rollback_Undo_r9 [3, 4, 8, 9, 11, 12, 31, 32, 33]) (.seq (.reg c_rollback_Undo_r10 [3, 4, 8, 9, 11, 12, 31, 32, 33, 45]) (.cond (.t 45) (.reg c_rollback_Undo_r11 [3, 4, 8, 9, 31, 32, 33]) .skip))))) (.reg c_rollback_Undo_r12 [3, 4, 8, 9, 31, 32, 33]))))))) (.seq (.reg c_rollback_Undo_r13 [3, 4, 9, 13]) (.seq (.seq (.reg c_rollback_Undo_r14 [4, 9, 13, 52, 53, 54]) (.block 2 (.loop [4, 9, 13, 52, 53, 54] (.seq (.reg c_rollback_Undo_r15 [4, 9, 13, 52, 53, 54, 55]) (.seq (.cond (.t 55) .skip (.exit 2)) (.seq (.block 3 (.seq (.reg c_rollback_Undo_r16 [4, 9, 13, 15, 52, 53, 54]) (.seq (.reg c_rollback_Undo_r17 [4, 9, 13, 15, 16, 52, 53, 54]) (.seq (.seq (.reg c_rollback_Undo_r18 [4, 9, 13, 16, 17, 18, 52, 53, 54]) (.seq (.reg c_rollback_Undo_r19 [4, 9, 13, 16, 17, 52, 53, 54, 76]) (.cond (.t 76) (.reg c_rollback_Undo_r20 [4, 9, 13, 16, 52, 53, 54]) .skip))) (.reg c_rollback_Undo_r21 [4, 9, 13, 52, 53, 54]))))) (.reg c_rollback_Undo_r22 [4, 9, 13, 52, 53, 54]))))))) (.seq (.reg c_rollback_Undo_r23 [4, 5]) .ret))))))))⟩
def c_steps_World_r0 : List AOper := [
  ⟨(some 2), .sim (.box (.t 0)), none⟩,
  ⟨(some 3), .sim (.box (.t 1)), none⟩,
  ⟨(some 4), .sim (.new [.slice none 0 0, .slice none 0 0, .string ⟨#[]⟩, .int .i64 0, .int .i64 0, .slice none 0 0, .slice none 0 0]), none⟩,
  ⟨(some 5), .sim (.mov (.c (.int .i64 0))), none⟩]
def c_steps_World_r1 : List AOper := [
  ⟨(some 13), .sim (.ld (some 7) (.t 2)), none⟩,
  ⟨(some 14), .callp 14 [.t 13], none⟩,
  ⟨(some 15), .sim (.not (.t 14)), none⟩,
  ⟨(some 16), .sim (.mov (.t 15)), none⟩,
  ⟨(some 17), .sim (.ld (some 1) (.t 3)), (some (16, false))⟩,
  ⟨(some 18), .sim (.fld 0 (.t 2)), (some (16, false))⟩,
  ⟨(some 19), .sim (.ld none (.t 18)), (some (16, false))⟩,
  ⟨(some 20), .sim (.len false (.t 19)), (some (16, false))⟩,
  ⟨(some 21), .callp 15 [.t 17, .t 20], (some (16, false))⟩,
  ⟨(some 22), .sim (.not (.t 21)), (some (16, false))⟩,
  ⟨(some 23), .sim (.pick (.t 16) (.c (.bool true)) (.t 22)), none⟩]
def c_steps_World_r2 : List AOper := [
  ⟨(some 24), .sim (.bld [.slice none 0 0, .slice none 0 0, .string ⟨#[]⟩, .int .i64 0, .int .i64 0, .slice none 0 0, .slice none 0 0] []), none⟩,
  ⟨none, .st 7 (.t 4) (.t 24), none⟩,
  ⟨(some 5), .sim (.mov (.c (.int .i64 1))), none⟩]
def c_steps_World_r3 : List AOper := [
  ⟨(some 25), .sim (.ld (some 1) (.t 3)), none⟩,
  ⟨(some 26), .call 16 [.t 25], none⟩,
  ⟨(some 6), .sim (.mov (.t 26)), none⟩]
def c_steps_World_r4 : List AOper := [
  ⟨(some 7), .sim (.mov (.c (.slice none 0 0))), none⟩]
def c_steps_World_r5 : List AOper := [
  ⟨(some 27), .sim (.fld 1 (.t 2)), none⟩,
  ⟨(some 28), .sim (.ld none (.t 27)), none⟩,
  ⟨(some 29), .sim (.len false (.t 28)), none⟩,
  ⟨(some 30), .sim (.mov (.c (.int .i64 0))), none⟩]
def c_steps_World_r6 : List AOper := [
  ⟨(some 31), .sim (.bin .lss (.t 30) (.t 29)), none⟩]
def c_steps_World_r7 : List AOper := [
  ⟨(some 32), .sim (.idx 3 (.t 28) (.t 30)), none⟩,
  ⟨(some 33), .sim (.ld (some 3) (.t 32)), none⟩,
  ⟨(some 9), .sim (.new [.int .i64 0, .string ⟨#[]⟩, .slice none 0 0]), none⟩,
  ⟨none, .st 3 (.t 9) (.t 33), none⟩]
def c_steps_World_r8 : List AOper := [
  ⟨(some 34), .sim (.mov (.t 6)), none⟩,
  ⟨(some 35), .sim (.fld 0 (.t 9)), none⟩,
  ⟨(some 36), .sim (.ld none (.t 35)), none⟩,
  ⟨(some 37), .sim (.fld 1 (.t 9)), none⟩,
  ⟨(some 38), .sim (.fld 0 (.t 37)), none⟩,
  ⟨(some 39), .sim (.ld none (.t 38)), none⟩,
  ⟨(some 40), .sim (.bld [.int .i64 0, .string ⟨#[]⟩] [(0, 1, .t 36), (1, 1, .t 39)]), none⟩,
  ⟨(some 41), .look true [.i, .s] (.bool false) false (.t 34) (.t 40), none⟩,
  ⟨(some 42), .sim (.not (.t 41)), none⟩]
def c_steps_World_r9 : List AOper := [
  ⟨(some 43), .sim (.mov (.t 7)), none⟩,
  ⟨(some 44), .sim (.ld (some 3) (.t 9)), none⟩,
  ⟨(some 45), .mksl 3 1 [.int .i64 0, .string ⟨#[]⟩, .slice none 0 0] [(0, 3, .t 44)], none⟩,
  ⟨(some 46), .app 3 48 [.int .i64 0, .string ⟨#[]⟩, .slice none 0 0] (.t 43) (.t 45), none⟩,
  ⟨(some 7), .sim (.mov (.t 46)), none⟩]
def c_steps_World_r10 : List AOper := [
  ⟨(some 47), .sim (.bin .add (.t 30) (.c (.int .i64 1))), none⟩,
  ⟨(some 30), .sim (.mov (.t 47)), none⟩]
def c_steps_World_r11 : List AOper := [
  ⟨(some 48), .sim (.fld 0 (.t 3)), none⟩,
  ⟨(some 49), .sim (.ld none (.t 48)), none⟩,
  ⟨(some 50), .sim (.len false (.t 49)), none⟩,
  ⟨(some 51), .sim (.mov (.c (.int .i64 0))), none⟩]
def c_steps_World_r12 : List AOper := [
  ⟨(some 52), .sim (.bin .lss (.t 51) (.t 50)), none⟩]
def c_steps_World_r13 : List AOper := [
  ⟨(some 53), .sim (.idx 3 (.t 49) (.t 51)), none⟩,
  ⟨(some 54), .sim (.ld (some 3) (.t 53)), none⟩,
  ⟨(some 11), .sim (.new [.int .i64 0, .string ⟨#[]⟩, .slice none 0 0]), none⟩,
  ⟨none, .st 3 (.t 11) (.t 54), none⟩]
def c_steps_World_r14 : List AOper := [
  ⟨(some 55), .sim (.fld 1 (.t 11)), none⟩,
  ⟨(some 56), .sim (.ld (some 2) (.t 55)), none⟩,
  ⟨(some 57), .callp 17 [.t 56], none⟩,
  ⟨(some 58), .sim (.not (.t 57)), none⟩]
def c_steps_World_r15 : List AOper := [
  ⟨(some 59), .sim (.mov (.t 7)), none⟩,
  ⟨(some 60), .sim (.ld (some 3) (.t 11)), none⟩,
  ⟨(some 61), .mksl 3 1 [.int .i64 0, .string ⟨#[]⟩, .slice none 0 0] [(0, 3, .t 60)], none⟩,
  ⟨(some 62), .app 3 48 [.int .i64 0, .string ⟨#[]⟩, .slice none 0 0] (.t 59) (.t 61), none⟩,
  ⟨(some 7), .sim (.mov (.t 62)), none⟩]
def c_steps_World_r16 : List AOper := [
  ⟨(some 63), .sim (.bin .add (.t 51) (.c (.int .i64 1))), none⟩,
  ⟨(some 51), .sim (.mov (.t 63)), none⟩]
def c_steps_World_r17 : List AOper := [
  ⟨(some 64), .sim (.mov (.t 7)), none⟩,
  ⟨(some 65), .callp 19 [.t 64, .c (.int .i64 4000), .c (.int .i64 500), .f 18], none⟩]
def c_steps_World_r18 : List AOper := [
  ⟨(some 66), .sim (.bld [.slice none 0 0, .slice none 0 0, .string ⟨#[]⟩, .int .i64 0, .int .i64 0, .slice none 0 0, .slice none 0 0] []), none⟩,
  ⟨none, .st 7 (.t 4) (.t 66), none⟩,
  ⟨(some 5), .sim (.mov (.c (.int .i64 2))), none⟩]
def c_steps_World_r19 : List AOper := [
  ⟨(some 67), .sim (.mov (.t 7)), none⟩,
  ⟨(some 68), .sim (.len false (.t 67)), none⟩,
  ⟨(some 69), .sim (.mov (.c (.int .i64 0))), none⟩]
def c_steps_World_r20 : List AOper := [
  ⟨(some 70), .sim (.bin .lss (.t 69) (.t 68)), none⟩]
def c_steps_World_r21 : List AOper := [
  ⟨(some 71), .sim (.mov (.t 69)), none⟩,
  ⟨(some 12), .sim (.mov (.t 71)), none⟩]
def c_steps_World_r22 : List AOper := [
  ⟨(some 72), .sim (.mov (.t 7)), none⟩,
  ⟨(some 73), .sim (.mov (.t 12)), none⟩,
  ⟨(some 74), .sim (.mov (.t 7)), none⟩,
  ⟨(some 75), .sim (.mov (.t 12)), none⟩,
  ⟨(some 76), .sim (.idx 3 (.t 74) (.t 75)), none⟩,
  ⟨(some 77), .sim (.fld 1 (.t 76)), none⟩,
  ⟨(some 78), .sim (.ld (some 2) (.t 77)), none⟩,
  ⟨(some 79), .call 20 [.t 78], none⟩,
  ⟨(some 80), .sim (.idx 3 (.t 72) (.t 73)), none⟩,
  ⟨(some 81), .sim (.fld 1 (.t 80)), none⟩,
  ⟨none, .st 2 (.t 81) (.t 79), none⟩]
def c_steps_World_r23 : List AOper := [
  ⟨(some 82), .sim (.bin .add (.t 69) (.c (.int .i64 1))), none⟩,
  ⟨(some 69), .sim (.mov (.t 82)), none⟩]
def c_steps_World_r24 : List AOper := [
  ⟨(some 83), .sim (.mov (.t 7)), none⟩,
  ⟨(some 84), .sim (.fld 1 (.t 2)), none⟩,
  ⟨none, .st 1 (.t 84) (.t 83), none⟩]
def c_steps_World_r25 : List AOper := [
  ⟨(some 85), .sim (.fld 0 (.t 2)), none⟩,
  ⟨(some 86), .sim (.ld none (.t 85)), none⟩,
  ⟨(some 87), .call 21 [.t 86], none⟩,
  ⟨(some 88), .sim (.fld 0 (.t 2)), none⟩,
  ⟨none, .st 1 (.t 88) (.t 87), none⟩]
def c_steps_World_r26 : List AOper := [
  ⟨(some 89), .sim (.fld 2 (.t 2)), none⟩,
  ⟨(some 90), .sim (.fld 3 (.t 89)), none⟩,
  ⟨(some 91), .sim (.ld none (.t 90)), none⟩,
  ⟨(some 92), .call 22 [.t 91], none⟩,
  ⟨(some 93), .sim (.fld 2 (.t 2)), none⟩,
  ⟨(some 94), .sim (.fld 3 (.t 93)), none⟩,
  ⟨none, .st 1 (.t 94) (.t 92), none⟩]
def c_steps_World_r27 : List AOper := [
  ⟨(some 95), .sim (.fld 6 (.t 2)), none⟩,
  ⟨(some 96), .sim (.ld none (.t 95)), none⟩,
  ⟨(some 97), .call 23 [.t 96], none⟩,
  ⟨(some 98), .sim (.fld 6 (.t 2)), none⟩,
  ⟨none, .st 1 (.t 98) (.t 97), none⟩]
def c_steps_World_r28 : List AOper := [
  ⟨(some 99), .sim (.ld (some 7) (.t 2)), none⟩,
  ⟨none, .st 7 (.t 4) (.t 99), none⟩,
  ⟨(some 5), .sim (.mov (.c (.int .i64 0))), none⟩]
/-- nameplan/steps.World -/
def c_steps_World : AFunc := ⟨100, [.cell 4 (some 7), .slot 5],
  (.seq (.reg c_steps_World_r0 [2, 3, 4]) (.seq (.seq (.reg c_steps_World_r1 [2, 3, 4, 23]) (.cond (.t 23) (.seq (.reg c_steps_World_r2 [4, 5]) .ret) .skip)) (.seq (.reg c_steps_World_r3 [2, 3, 4, 6]) (.seq (.reg c_steps_World_r4 [2, 3, 4, 6, 7]) (.seq (.seq (.reg c_steps_World_r5 [2, 3, 4, 6, 7, 28, 29, 30]) (.block 0 (.loop [2, 3, 4, 6, 7, 28, 29, 30] (.seq (.reg c_steps_World_r6 [2, 3, 4, 6, 7, 28, 29, 30, 31]) (.seq (.cond (.t 31) .skip (.exit 0)) (.seq (.block 1 (.seq (.reg c_steps_World_r7 [2, 3, 4, 6, 7, 9, 28, 29, 30]) (.seq (.reg c_steps_World_r8 [2, 3, 4, 6, 7, 9, 28, 29, 30, 42]) (.cond (.t 42) (.reg c_steps_World_r9 [2, 3, 4, 6, 7, 28, 29, 30]) .skip)))) (.reg c_steps_World_r10 [2, 3, 4, 6, 7, 28, 29, 30]))))))) (.seq (.seq (.reg c_steps_World_r11 [2, 4, 7, 49, 50, 51]) (.block 2 (.loop [2, 4, 7, 49, 50, 51] (.seq (.reg c_steps_World_r12 [2, 4, 7, 49, 50, 51, 52]) (.seq (.cond (.t 52) .skip (.exit 2)) (.seq (.block 3 (.seq (.reg c_steps_World_r13 [2, 4, 7, 11, 49, 50, 51]) (.seq (.reg c_steps_World_r14 [2, 4, 7, 11, 49, 50, 51, 58]) (.cond (.t 58) (.reg c_steps_World_r15 [2, 4, 7, 49, 50, 51]) .skip)))) (.reg c_steps_World_r16 [2, 4, 7, 49, 50, 51]))))))) (.seq (.seq (.reg c_steps_World_r17 [2, 4, 7, 65]) (.cond (.t 65) (.seq (.reg c_steps_World_r18 [4, 5]) .ret) .skip)) (.seq (.seq (.reg c_steps_World_r19 [2, 4, 7, 68, 69]) (.block 4 (.loop [2, 4, 7, 68, 69] (.seq (.reg c_steps_World_r20 [2, 4, 7, 68, 69, 70]) (.seq (.cond (.t 70) .skip (.exit 4)) (.seq (.block 5 (.seq (.reg c_steps_World_r21 [2, 4, 7, 12, 68, 69]) (.reg c_steps_World_r22 [2, 4, 7, 68, 69]))) (.reg c_steps_World_r23 [2, 4, 7, 68, 69]))))))) (.seq (.reg c_steps_World_r24 [2, 4]) (.seq (.reg c_steps_World_r25 [2, 4]) (.seq (.reg c_steps_World_r26 [2, 4]) (.seq (.reg c_steps_World_r27 [2, 4]) (.seq (.reg c_steps_World_r28 [4, 5]) .ret)))))))))))))⟩
def c_ref35_SameWorld_r0 : List AOper := [
  ⟨(some 2), .sim (.box (.t 0)), none⟩,
  ⟨(some 3), .sim (.box (.t 1)), none⟩,
  ⟨(some 4), .sim (.mov (.c (.bool false))), none⟩]
def c_ref35_SameWorld_r1 : List AOper := [
  ⟨(some 8), .sim (.ld (some 7) (.t 2)), none⟩,
  ⟨(some 9), .sim (.ld (some 7) (.t 3)), none⟩,
  ⟨(some 10), .callp 24 [.t 8, .t 9], none⟩,
  ⟨(some 11), .sim (.not (.t 10)), none⟩,
  ⟨(some 12), .sim (.mov (.t 11)), none⟩,
  ⟨(some 13), .sim (.fld 1 (.t 2)), (some (12, false))⟩,
  ⟨(some 14), .sim (.ld none (.t 13)), (some (12, false))⟩,
  ⟨(some 15), .sim (.len false (.t 14)), (some (12, false))⟩,
  ⟨(some 16), .sim (.fld 1 (.t 3)), (some (12, false))⟩,
  ⟨(some 17), .sim (.ld none (.t 16)), (some (12, false))⟩,
  ⟨(some 18), .sim (.len false (.t 17)), (some (12, false))⟩,
  ⟨(some 19), .sim (.bin .neq (.t 15) (.t 18)), (some (12, false))⟩,
  ⟨(some 20), .sim (.pick (.t 12) (.c (.bool true)) (.t 19)), none⟩]
def c_ref35_SameWorld_r2 : List AOper := [
  ⟨(some 4), .sim (.mov (.c (.bool false))), none⟩]
def c_ref35_SameWorld_r3 : List AOper := [
  ⟨(some 5), .sim (.mov (.c (.int .i64 0))), none⟩]
def c_ref35_SameWorld_r4 : List AOper := [
  ⟨(some 21), .sim (.mov (.t 5)), none⟩,
  ⟨(some 22), .sim (.fld 1 (.t 2)), none⟩,
  ⟨(some 23), .sim (.ld none (.t 22)), none⟩,
  ⟨(some 24), .sim (.len false (.t 23)), none⟩,
  ⟨(some 25), .sim (.bin .lss (.t 21) (.t 24)), none⟩]
def c_ref35_SameWorld_r6 : List AOper := [
  ⟨(some 6), .sim (.mov (.c (.bool false))), none⟩]
def c_ref35_SameWorld_r7 : List AOper := [
  ⟨(some 7), .sim (.mov (.c (.int .i64 0))), none⟩]
def c_ref35_SameWorld_r8 : List AOper := [
  ⟨(some 28), .sim (.mov (.t 7)), none⟩,
  ⟨(some 29), .sim (.fld 1 (.t 3)), none⟩,
  ⟨(some 30), .sim (.ld none (.t 29)), none⟩,
  ⟨(some 31), .sim (.len false (.t 30)), none⟩,
  ⟨(some 32), .sim (.bin .lss (.t 28) (.t 31)), none⟩]
def c_ref35_SameWorld_r10 : List DOp := [
  ⟨0, ⟨(some 35), .sim (.mov (.t 6)), none⟩, []⟩,
  ⟨1, ⟨(some 36), .sim (.mov (.t 35)), none⟩, []⟩,
  ⟨2, ⟨(some 37), .sim (.fld 1 (.t 2)), (some (36, false))⟩, []⟩,
  ⟨3, ⟨(some 38), .sim (.ld none (.t 37)), (some (36, false))⟩, []⟩,
  ⟨4, ⟨(some 39), .sim (.mov (.t 5)), (some (36, false))⟩, []⟩,
  ⟨5, ⟨(some 40), .sim (.idx 3 (.t 38) (.t 39)), (some (36, false))⟩, []⟩,
  ⟨6, ⟨(some 41), .sim (.ld (some 3) (.t 40)), (some (36, false))⟩, []⟩,
  ⟨7, ⟨(some 42), .sim (.fld 1 (.t 3)), (some (36, false))⟩, []⟩,
  ⟨8, ⟨(some 43), .sim (.ld none (.t 42)), (some (36, false))⟩, []⟩,
  ⟨9, ⟨(some 44), .sim (.mov (.t 7)), (some (36, false))⟩, []⟩,
  ⟨10, ⟨(some 45), .sim (.idx 3 (.t 43) (.t 44)), (some (36, false))⟩, []⟩,
  ⟨11, ⟨(some 46), .sim (.ld (some 3) (.t 45)), (some (36, false))⟩, []⟩,
  ⟨12, ⟨(some 47), .callp 25 [.t 41, .t 46], (some (36, false))⟩, []⟩,
  ⟨13, ⟨(some 48), .sim (.mov (.t 47)), (some (36, false))⟩, []⟩,
  ⟨14, ⟨(some 49), .sim (.fld 1 (.t 2)), (some (48, true))⟩, []⟩,
  ⟨15, ⟨(some 50), .sim (.ld none (.t 49)), (some (48, true))⟩, []⟩,
  ⟨16, ⟨(some 51), .sim (.mov (.t 5)), (some (48, true))⟩, []⟩,
  ⟨17, ⟨(some 52), .sim (.idx 3 (.t 50) (.t 51)), (some (48, true))⟩, []⟩,
  ⟨18, ⟨(some 53), .sim (.fld 1 (.t 52)), (some (48, true))⟩, []⟩,
  ⟨19, ⟨(some 54), .sim (.ld (some 2) (.t 53)), (some (48, true))⟩, []⟩,
  ⟨20, ⟨(some 55), .sim (.fld 1 (.t 3)), (some (48, true))⟩, []⟩,
  ⟨21, ⟨(some 56), .sim (.ld none (.t 55)), (some (48, true))⟩, []⟩,
  ⟨22, ⟨(some 57), .sim (.mov (.t 7)), (some (48, true))⟩, []⟩,
  ⟨23, ⟨(some 58), .sim (.idx 3 (.t 56) (.t 57)), (some (48, true))⟩, []⟩,
  ⟨24, ⟨(some 59), .sim (.fld 1 (.t 58)), (some (48, true))⟩, []⟩,
  ⟨25, ⟨(some 60), .sim (.ld (some 2) (.t 59)), (some (48, true))⟩, []⟩,
  ⟨26, ⟨(some 61), .callp 9 [.t 54, .t 60], (some (48, true))⟩, []⟩,
  ⟨27, ⟨(some 62), .sim (.pick (.t 48) (.t 61) (.c (.bool false))), (some (36, false))⟩, []⟩,
  ⟨28, ⟨(some 63), .sim (.pick (.t 36) (.c (.bool true)) (.t 62)), none⟩, []⟩]
def c_ref35_SameWorld_r9 : List AOper := [
  ⟨(some 33), .sim (.mov (.t 7)), none⟩,
  ⟨(some 34), .sim (.bin .add (.t 33) (.c (.int .i64 1))), none⟩,
  ⟨(some 7), .sim (.mov (.t 34)), none⟩]
def c_ref35_SameWorld_r11 : List AOper := [
  ⟨(some 64), .sim (.mov (.t 6)), none⟩,
  ⟨(some 65), .sim (.not (.t 64)), none⟩]
def c_ref35_SameWorld_r12 : List AOper := [
  ⟨(some 4), .sim (.mov (.c (.bool false))), none⟩]
def c_ref35_SameWorld_r5 : List AOper := [
  ⟨(some 26), .sim (.mov (.t 5)), none⟩,
  ⟨(some 27), .sim (.bin .add (.t 26) (.c (.int .i64 1))), none⟩,
  ⟨(some 5), .sim (.mov (.t 27)), none⟩]
def c_ref35_SameWorld_r13 : List AOper := [
  ⟨(some 4), .sim (.mov (.c (.bool true))), none⟩]
/-- nameplan/nameplanref35.SameWorld -/
def c_ref35_SameWorld : AFunc := ⟨66, [.slot 4],
  (.seq (.reg c_ref35_SameWorld_r0 [2, 3]) (.seq (.seq (.reg c_ref35_SameWorld_r1 [2, 3, 20]) (.cond (.t 20) (.seq (.reg c_ref35_SameWorld_r2 [4]) .ret) .skip)) (.seq (.seq (.reg c_ref35_SameWorld_r3 [2, 3, 5]) (.block 0 (.loop [2, 3, 5] (.seq (.seq (.reg c_ref35_SameWorld_r4 [2, 3, 5, 25]) (.cond (.t 25) .skip (.exit 0))) (.seq (.block 1 (.seq (.reg c_ref35_SameWorld_r6 [2, 3, 5, 6]) (.seq (.seq (.reg c_ref35_SameWorld_r7 [2, 3, 5, 6, 7]) (.block 2 (.loop [2, 3, 5, 6, 7] (.seq (.seq (.reg c_ref35_SameWorld_r8 [2, 3, 5, 6, 7, 32]) (.cond (.t 32) .skip (.exit 2))) (.seq (.block 3 (.regl c_ref35_SameWorld_r10 [2, 3, 5, 7, 63] ⟨(some 6), .sim (.mov (.t 63)), none⟩ [2, 3, 5, 6, 7])) (.reg c_ref35_SameWorld_r9 [2, 3, 5, 6, 7])))))) (.seq (.reg c_ref35_SameWorld_r11 [2, 3, 5, 65]) (.cond (.t 65) (.seq (.reg c_ref35_SameWorld_r12 [4]) .ret) .skip))))) (.reg c_ref35_SameWorld_r5 [2, 3, 5])))))) (.seq (.reg c_ref35_SameWorld_r13 [4]) .ret))))⟩
def c_ref35_SameStage_r0 : List AOper := [
  ⟨(some 2), .sim (.box (.t 0)), none⟩,
  ⟨(some 3), .sim (.box (.t 1)), none⟩,
  ⟨(some 4), .sim (.mov (.c (.bool false))), none⟩]
def c_ref35_SameStage_r1 : List AOper := [
  ⟨(some 6), .sim (.fld 0 (.t 2)), none⟩,
  ⟨(some 7), .sim (.ld none (.t 6)), none⟩,
  ⟨(some 8), .sim (.len false (.t 7)), none⟩,
  ⟨(some 9), .sim (.fld 0 (.t 3)), none⟩,
  ⟨(some 10), .sim (.ld none (.t 9)), none⟩,
  ⟨(some 11), .sim (.len false (.t 10)), none⟩,
  ⟨(some 12), .sim (.bin .neq (.t 8) (.t 11)), none⟩]
def c_ref35_SameStage_r2 : List AOper := [
  ⟨(some 4), .sim (.mov (.c (.bool false))), none⟩]
def c_ref35_SameStage_r3 : List AOper := [
  ⟨(some 5), .sim (.mov (.c (.int .i64 0))), none⟩]
def c_ref35_SameStage_r4 : List AOper := [
  ⟨(some 13), .sim (.mov (.t 5)), none⟩,
  ⟨(some 14), .sim (.fld 0 (.t 2)), none⟩,
  ⟨(some 15), .sim (.ld none (.t 14)), none⟩,
  ⟨(some 16), .sim (.len false (.t 15)), none⟩,
  ⟨(some 17), .sim (.bin .lss (.t 13) (.t 16)), none⟩]
def c_ref35_SameStage_r6 : List DOp := [
  ⟨0, ⟨(some 20), .sim (.fld 0 (.t 2)), none⟩, []⟩,
  ⟨1, ⟨(some 21), .sim (.ld none (.t 20)), none⟩, []⟩,
  ⟨2, ⟨(some 22), .sim (.mov (.t 5)), none⟩, []⟩,
  ⟨3, ⟨(some 23), .sim (.idx 3 (.t 21) (.t 22)), none⟩, []⟩,
  ⟨4, ⟨(some 24), .sim (.fld 0 (.t 23)), none⟩, []⟩,
  ⟨5, ⟨(some 25), .sim (.ld none (.t 24)), none⟩, []⟩,
  ⟨6, ⟨(some 26), .sim (.fld 0 (.t 3)), none⟩, []⟩,
  ⟨7, ⟨(some 27), .sim (.ld none (.t 26)), none⟩, []⟩,
  ⟨8, ⟨(some 28), .sim (.mov (.t 5)), none⟩, []⟩,
  ⟨9, ⟨(some 29), .sim (.idx 3 (.t 27) (.t 28)), none⟩, []⟩,
  ⟨10, ⟨(some 30), .sim (.fld 0 (.t 29)), none⟩, []⟩,
  ⟨11, ⟨(some 31), .sim (.ld none (.t 30)), none⟩, []⟩,
  ⟨12, ⟨(some 32), .sim (.bin .neq (.t 25) (.t 31)), none⟩, []⟩,
  ⟨13, ⟨(some 33), .sim (.mov (.t 32)), none⟩, []⟩,
  ⟨14, ⟨(some 34), .sim (.fld 0 (.t 2)), (some (33, false))⟩, []⟩,
  ⟨15, ⟨(some 35), .sim (.ld none (.t 34)), (some (33, false))⟩, []⟩,
  ⟨16, ⟨(some 36), .sim (.mov (.t 5)), (some (33, false))⟩, []⟩,
  ⟨17, ⟨(some 37), .sim (.idx 3 (.t 35) (.t 36)), (some (33, false))⟩, []⟩,
  ⟨18, ⟨(some 38), .sim (.fld 1 (.t 37)), (some (33, false))⟩, []⟩,
  ⟨19, ⟨(some 39), .sim (.ld (some 2) (.t 38)), (some (33, false))⟩, []⟩,
  ⟨20, ⟨(some 40), .sim (.fld 0 (.t 3)), (some (33, false))⟩, []⟩,
  ⟨21, ⟨(some 41), .sim (.ld none (.t 40)), (some (33, false))⟩, []⟩,
  ⟨22, ⟨(some 42), .sim (.mov (.t 5)), (some (33, false))⟩, []⟩,
  ⟨23, ⟨(some 43), .sim (.idx 3 (.t 41) (.t 42)), (some (33, false))⟩, []⟩,
  ⟨24, ⟨(some 44), .sim (.fld 1 (.t 43)), (some (33, false))⟩, []⟩,
  ⟨25, ⟨(some 45), .sim (.ld (some 2) (.t 44)), (some (33, false))⟩, []⟩,
  ⟨26, ⟨(some 46), .callp 9 [.t 39, .t 45], (some (33, false))⟩, []⟩,
  ⟨27, ⟨(some 47), .sim (.not (.t 46)), (some (33, false))⟩, []⟩,
  ⟨28, ⟨(some 48), .sim (.pick (.t 33) (.c (.bool true)) (.t 47)), none⟩, []⟩]
def c_ref35_SameStage_r7 : List AOper := [
  ⟨(some 4), .sim (.mov (.c (.bool false))), none⟩]
def c_ref35_SameStage_r5 : List AOper := [
  ⟨(some 18), .sim (.mov (.t 5)), none⟩,
  ⟨(some 19), .sim (.bin .add (.t 18) (.c (.int .i64 1))), none⟩,
  ⟨(some 5), .sim (.mov (.t 19)), none⟩]
def c_ref35_SameStage_r8 : List AOper := [
  ⟨(some 4), .sim (.mov (.c (.bool true))), none⟩]
/-- nameplan/nameplanref35.SameStage -/
def c_ref35_SameStage : AFunc := ⟨49, [.slot 4],
  (.seq (.reg c_ref35_SameStage_r0 [2, 3]) (.seq (.seq (.reg c_ref35_SameStage_r1 [2, 3, 12]) (.cond (.t 12) (.seq (.reg c_ref35_SameStage_r2 [4]) .ret) .skip)) (.seq (.seq (.reg c_ref35_SameStage_r3 [2, 3, 5]) (.block 0 (.loop [2, 3, 5] (.seq (.seq (.reg c_ref35_SameStage_r4 [2, 3, 5, 17]) (.cond (.t 17) .skip (.exit 0))) (.seq (.block 1 (.seq (.regd c_ref35_SameStage_r6 [2, 3, 5, 48]) (.cond (.t 48) (.seq (.reg c_ref35_SameStage_r7 [4]) .ret) .skip))) (.reg c_ref35_SameStage_r5 [2, 3, 5])))))) (.seq (.reg c_ref35_SameStage_r8 [4]) .ret))))⟩
def c_ref02_SameZone_r0 : List AOper := [
  ⟨(some 2), .sim (.box (.t 0)), none⟩,
  ⟨(some 3), .sim (.box (.t 1)), none⟩,
  ⟨(some 4), .sim (.mov (.c (.bool false))), none⟩]
def c_ref02_SameZone_r1 : List AOper := [
  ⟨(some 5), .sim (.fld 0 (.t 2)), none⟩,
  ⟨(some 6), .sim (.ld none (.t 5)), none⟩,
  ⟨(some 7), .sim (.fld 0 (.t 3)), none⟩,
  ⟨(some 8), .sim (.ld none (.t 7)), none⟩,
  ⟨(some 9), .sim (.bin .eql (.t 6) (.t 8)), none⟩,
  ⟨(some 10), .sim (.mov (.t 9)), none⟩,
  ⟨(some 11), .sim (.fld 1 (.t 2)), (some (10, true))⟩,
  ⟨(some 12), .sim (.ld none (.t 11)), (some (10, true))⟩,
  ⟨(some 13), .sim (.fld 1 (.t 3)), (some (10, true))⟩,
  ⟨(some 14), .sim (.ld none (.t 13)), (some (10, true))⟩,
  ⟨(some 15), .callp 27 [.t 12, .t 14], (some (10, true))⟩,
  ⟨(some 16), .sim (.pick (.t 10) (.t 15) (.c (.bool false))), none⟩,
  ⟨(some 4), .sim (.mov (.t 16)), none⟩]
/-- nameplan/nameplanref02.SameZone -/
def c_ref02_SameZone : AFunc := ⟨17, [.slot 4],
  (.seq (.reg c_ref02_SameZone_r0 [2, 3]) (.seq (.reg c_ref02_SameZone_r1 [4]) .ret))⟩
def c_rollback_Back_r0 : List AOper := [
  ⟨(some 6), .boxH (.t 0), none⟩,
  ⟨(some 12), .sim (.mov (.c (.slice none 0 0))), none⟩,
  ⟨(some 13), .sim (.mov (.c (.int .i64 0))), none⟩]
def c_rollback_Back_r1 : List AOper := [
  ⟨(some 18), .sim (.ld (some 9) (.t 6)), none⟩,
  ⟨(some 19), .sim (.mov (.t 1)), none⟩,
  ⟨(some 20), .callp 28 [.t 18, .t 19], none⟩,
  ⟨(some 21), .sim (.not (.t 20)), none⟩,
  ⟨(some 22), .sim (.mov (.t 21)), none⟩,
  ⟨(some 23), .sim (.mov (.t 2)), (some (22, false))⟩,
  ⟨(some 24), .sim (.bin .lss (.t 23) (.c (.int .i64 0))), (some (22, false))⟩,
  ⟨(some 25), .sim (.pick (.t 22) (.c (.bool true)) (.t 24)), none⟩,
  ⟨(some 26), .sim (.mov (.t 25)), none⟩,
  ⟨(some 27), .sim (.mov (.t 2)), (some (26, false))⟩,
  ⟨(some 28), .sim (.mov (.t 1)), (some (26, false))⟩,
  ⟨(some 29), .sim (.len false (.t 28)), (some (26, false))⟩,
  ⟨(some 30), .sim (.bin .gtr (.t 27) (.t 29)), (some (26, false))⟩,
  ⟨(some 31), .sim (.pick (.t 26) (.c (.bool true)) (.t 30)), none⟩,
  ⟨(some 32), .sim (.mov (.t 31)), none⟩,
  ⟨(some 33), .sim (.mov (.t 3)), (some (32, false))⟩,
  ⟨(some 34), .sim (.bin .lss (.t 33) (.c (.int .i64 0))), (some (32, false))⟩,
  ⟨(some 35), .sim (.pick (.t 32) (.c (.bool true)) (.t 34)), none⟩]
def c_rollback_Back_r2 : List AOper := [
  ⟨(some 12), .sim (.mov (.c (.slice none 0 0))), none⟩,
  ⟨(some 13), .sim (.mov (.c (.int .i64 1))), none⟩]
def c_rollback_Back_r3 : List AOper := [
  ⟨(some 36), .sim (.mov (.t 2)), none⟩,
  ⟨(some 37), .sim (.bin .gtr (.t 36) (.c (.int .i64 0))), none⟩,
  ⟨(some 38), .sim (.mov (.t 37)), none⟩,
  ⟨(some 39), .sim (.mov (.t 3)), (some (38, true))⟩,
  ⟨(some 40), .sim (.mov (.t 1)), (some (38, true))⟩,
  ⟨(some 41), .sim (.mov (.t 2)), (some (38, true))⟩,
  ⟨(some 42), .sim (.bin .sub (.t 41) (.c (.int .i64 1))), (some (38, true))⟩,
  ⟨(some 43), .sim (.idx 2 (.t 40) (.t 42)), (some (38, true))⟩,
  ⟨(some 44), .sim (.fld 0 (.t 43)), (some (38, true))⟩,
  ⟨(some 45), .sim (.ld none (.t 44)), (some (38, true))⟩,
  ⟨(some 46), .sim (.bin .leq (.t 39) (.t 45)), (some (38, true))⟩,
  ⟨(some 47), .sim (.pick (.t 38) (.t 46) (.c (.bool false))), none⟩,
  ⟨(some 48), .sim (.mov (.t 47)), none⟩,
  ⟨(some 49), .sim (.mov (.t 4)), (some (48, false))⟩,
  ⟨(some 50), .sim (.mov (.t 3)), (some (48, false))⟩,
  ⟨(some 51), .sim (.bin .lss (.t 49) (.t 50)), (some (48, false))⟩,
  ⟨(some 52), .sim (.pick (.t 48) (.c (.bool true)) (.t 51)), none⟩,
  ⟨(some 53), .sim (.mov (.t 52)), none⟩,
  ⟨(some 54), .sim (.mov (.t 4)), (some (53, false))⟩,
  ⟨(some 55), .sim (.fld 8 (.t 6)), (some (53, false))⟩,
  ⟨(some 56), .sim (.ld none (.t 55)), (some (53, false))⟩,
  ⟨(some 57), .sim (.bin .geq (.t 54) (.t 56)), (some (53, false))⟩,
  ⟨(some 58), .sim (.pick (.t 53) (.c (.bool true)) (.t 57)), none⟩]
def c_rollback_Back_r4 : List AOper := [
  ⟨(some 12), .sim (.mov (.c (.slice none 0 0))), none⟩,
  ⟨(some 13), .sim (.mov (.c (.int .i64 1))), none⟩]
def c_rollback_Back_r5 : List AOper := [
  ⟨(some 14), .sim (.mov (.f 29)), none⟩]
def c_rollback_Back_r6 : List AOper := [
  ⟨(some 59), .sim (.mov (.t 5)), none⟩,
  ⟨(some 60), .sim (.len false (.t 59)), none⟩,
  ⟨(some 61), .sim (.bin .gtr (.t 60) (.c (.int .i64 50))), none⟩,
  ⟨(some 62), .sim (.mov (.t 61)), none⟩,
  ⟨(some 63), .sim (.mov (.t 5)), (some (62, false))⟩,
  ⟨(some 64), .sim (.mov (.t 14)), (some (62, false))⟩,
  ⟨(some 65), .callp 30 [.t 63, .t 64], (some (62, false))⟩,
  ⟨(some 66), .sim (.pick (.t 62) (.c (.bool true)) (.t 65)), none⟩]
def c_rollback_Back_r7 : List AOper := [
  ⟨(some 12), .sim (.mov (.c (.slice none 0 0))), none⟩,
  ⟨(some 13), .sim (.mov (.c (.int .i64 1))), none⟩]
def c_rollback_Back_r8 : List AOper := [
  ⟨(some 67), .sim (.mov (.t 5)), none⟩,
  ⟨(some 68), .sim (.mov (.t 3)), none⟩,
  ⟨(some 69), .sim (.mov (.t 4)), none⟩,
  ⟨(some 70), .sim (.bld [.slice none 0 0, .slice none 0 0, .slice none 0 0, .string ⟨#[]⟩, .int .i64 0, .int .i64 0, .slice none 0 0, .slice none 0 0, .int .i64 0, .int .i64 0, .int .i64 0, .int .i64 0, .slice none 0 0, .int .i64 0] [(0, 1, .t 67), (10, 1, .t 68), (11, 1, .t 69)]), none⟩,
  ⟨(some 71), .boxH (.t 70), none⟩,
  ⟨(some 15), .newH [.pointer none], none⟩,
  ⟨none, .st 1 (.t 15) (.t 71), none⟩]
def c_rollback_Back_r9 : List DOp := [
  ⟨0, ⟨(some 72), .sim (.ld none (.t 15)), none⟩, []⟩,
  ⟨1, ⟨(some 73), .sim (.ld none (.t 15)), none⟩, []⟩,
  ⟨2, ⟨(some 74), .sim (.ld (some 9) (.t 6)), none⟩, []⟩,
  ⟨3, ⟨(some 75), .sim (.mov (.t 1)), none⟩, []⟩,
  ⟨4, ⟨(some 76), .sim (.mov (.t 2)), none⟩, []⟩,
  ⟨5, ⟨(some 77), .sim (.slc 2 (.t 75) none (some (.t 76)) none), none⟩, []⟩,
  ⟨6, ⟨(some 78), .call 31 [.t 73, .t 74, .t 77], none⟩, [0]⟩,
  ⟨7, ⟨(some 79), .sim (.nilc (.t 72)), none⟩, []⟩,
  ⟨8, ⟨(some 80), .sim (.fld 1 (.t 79)), none⟩, []⟩,
  ⟨9, ⟨none, .st 9 (.t 80) (.t 78), none⟩, []⟩]
def c_rollback_Back_r10 : List AOper := [
  ⟨(some 81), .sim (.mov (.t 1)), none⟩,
  ⟨(some 82), .sim (.mov (.t 2)), none⟩,
  ⟨(some 83), .sim (.slc 2 (.t 81) none (some (.t 82)) none), none⟩,
  ⟨(some 84), .call 32 [.t 83], none⟩]
def c_rollback_Back_r11 : List AOper := [
  ⟨(some 16), .sim (.new [.int .i64 0, .slice none 0 0]), none⟩,
  ⟨none, .st 2 (.t 16) (.t 85), none⟩]
def c_rollback_Back_r12 : List AOper := [
  ⟨(some 17), .sim (.mov (.t 86)), none⟩]
def c_rollback_Back_r13 : List DOp := [
  ⟨0, ⟨(some 87), .sim (.ld none (.t 15)), none⟩, []⟩,
  ⟨1, ⟨(some 88), .sim (.ld none (.t 15)), none⟩, []⟩,
  ⟨2, ⟨(some 89), .sim (.ld none (.t 15)), none⟩, []⟩,
  ⟨3, ⟨(some 90), .sim (.ld (some 9) (.t 6)), none⟩, []⟩,
  ⟨4, ⟨(some 91), .sim (.mov (.t 17)), none⟩, []⟩,
  ⟨6, ⟨(some 93), .sim (.ld (some 2) (.t 16)), none⟩, []⟩,
  ⟨5, ⟨(some 92), .call 31 [.t 89, .t 90, .t 91], none⟩, [0, 1, 6]⟩,
  ⟨7, ⟨(some 94), .call 33 [.t 88, .t 92, .t 93], none⟩, [0]⟩,
  ⟨8, ⟨(some 95), .call 34 [.t 87, .t 94], none⟩, []⟩]
def c_rollback_Back_r14 : List AOper := [
  ⟨(some 96), .sim (.ld none (.t 15)), none⟩,
  ⟨(some 97), .sim (.nilc (.t 96)), none⟩,
  ⟨(some 98), .sim (.fld 13 (.t 97)), none⟩,
  ⟨(some 99), .sim (.ld none (.t 98)), none⟩,
  ⟨(some 100), .sim (.bin .neq (.t 99) (.c (.int .i64 0))), none⟩]
def c_rollback_Back_r15 : List DOp := [
  ⟨0, ⟨(some 101), .sim (.ld none (.t 15)), none⟩, []⟩,
  ⟨1, ⟨(some 102), .sim (.nilc (.t 101)), none⟩, []⟩,
  ⟨2, ⟨(some 103), .sim (.fld 13 (.t 102)), none⟩, []⟩,
  ⟨3, ⟨(some 104), .sim (.ld none (.t 103)), none⟩, []⟩,
  ⟨4, ⟨(some 12), .sim (.mov (.c (.slice none 0 0))), none⟩, []⟩,
  ⟨5, ⟨(some 13), .sim (.mov (.t 104)), none⟩, []⟩]
def c_rollback_Back_r16 : List AOper := [
  ⟨(some 105), .sim (.ld none (.t 15)), none⟩,
  ⟨(some 106), .sim (.nilc (.t 105)), none⟩,
  ⟨(some 107), .sim (.fld 12 (.t 106)), none⟩,
  ⟨(some 108), .sim (.ld none (.t 107)), none⟩,
  ⟨(some 12), .sim (.mov (.t 108)), none⟩,
  ⟨(some 13), .sim (.mov (.c (.int .i64 0))), none⟩]
/-- nameplan/rollback.Back -/
def c_rollback_Back : AFunc := ⟨109, [.slot 12, .slot 13],
  (.seq (.reg c_rollback_Back_r0 [1, 2, 3, 4, 5, 6, 12, 13]) (.seq (.seq (.reg c_rollback_Back_r1 [1, 2, 3, 4, 5, 6, 12, 13, 35]) (.cond (.t 35) (.seq (.reg c_rollback_Back_r2 [12, 13]) .ret) .skip)) (.seq (.seq (.reg c_rollback_Back_r3 [1, 2, 3, 4, 5, 6, 12, 13, 58]) (.cond (.t 58) (.seq (.reg c_rollback_Back_r4 [12, 13]) .ret) .skip)) (.seq (.reg c_rollback_Back_r5 [1, 2, 3, 4, 5, 6, 12, 13, 14]) (.seq (.seq (.reg c_rollback_Back_r6 [1, 2, 3, 4, 5, 6, 12, 13, 66]) (.cond (.t 66) (.seq (.reg c_rollback_Back_r7 [12, 13]) .ret) .skip)) (.seq (.reg c_rollback_Back_r8 [1, 2, 6, 12, 13, 15]) (.seq (.regd c_rollback_Back_r9 [1, 2, 6, 12, 13, 15]) (.seq (.seq (.reg c_rollback_Back_r10 [6, 12, 13, 15, 84]) (.block 0 (.rangeF (.t 84) [85, 86] (.seq (.reg c_rollback_Back_r11 [6, 15, 16, 86]) (.reg c_rollback_Back_r12 [6, 15, 16, 17])) (.block 1 (.regd c_rollback_Back_r13 []))))) (.seq (.seq (.reg c_rollback_Back_r14 [15, 100]) (.cond (.t 100) (.seq (.regd c_rollback_Back_r15 [12, 13]) .ret) .skip)) (.seq (.reg c_rollback_Back_r16 [12, 13]) .ret))))))))))⟩
def c_ref06_Few_r0 : List AOper := [
  ⟨(some 1), .sim (.box (.t 0)), none⟩,
  ⟨(some 2), .sim (.mov (.c (.bool false))), none⟩]
def c_ref06_Few_r1 : List AOper := [
  ⟨(some 3), .sim (.mov (.c (.int .i64 0))), none⟩]
def c_ref06_Few_r2 : List AOper := [
  ⟨(some 4), .sim (.mov (.t 3)), none⟩,
  ⟨(some 5), .sim (.fld 1 (.t 1)), none⟩,
  ⟨(some 6), .sim (.ld none (.t 5)), none⟩,
  ⟨(some 7), .sim (.len false (.t 6)), none⟩,
  ⟨(some 8), .sim (.bin .lss (.t 4) (.t 7)), none⟩,
  ⟨(some 9), .sim (.mov (.t 8)), none⟩,
  ⟨(some 10), .sim (.mov (.t 3)), (some (9, true))⟩,
  ⟨(some 11), .sim (.bin .leq (.t 10) (.c (.int .i64 100))), (some (9, true))⟩,
  ⟨(some 12), .sim (.pick (.t 9) (.t 11) (.c (.bool false))), none⟩]
def c_ref06_Few_r4 : List AOper := [
  ⟨(some 15), .sim (.fld 1 (.t 1)), none⟩,
  ⟨(some 16), .sim (.ld none (.t 15)), none⟩,
  ⟨(some 17), .sim (.mov (.t 3)), none⟩,
  ⟨(some 18), .sim (.idx 5 (.t 16) (.t 17)), none⟩,
  ⟨(some 19), .sim (.fld 0 (.t 18)), none⟩,
  ⟨(some 20), .sim (.fld 3 (.t 19)), none⟩,
  ⟨(some 21), .sim (.ld none (.t 20)), none⟩,
  ⟨(some 22), .sim (.len false (.t 21)), none⟩,
  ⟨(some 23), .sim (.bin .gtr (.t 22) (.c (.int .i64 20))), none⟩,
  ⟨(some 24), .sim (.mov (.t 23)), none⟩,
  ⟨(some 25), .sim (.fld 1 (.t 1)), (some (24, false))⟩,
  ⟨(some 26), .sim (.ld none (.t 25)), (some (24, false))⟩,
  ⟨(some 27), .sim (.mov (.t 3)), (some (24, false))⟩,
  ⟨(some 28), .sim (.idx 5 (.t 26) (.t 27)), (some (24, false))⟩,
  ⟨(some 29), .sim (.fld 4 (.t 28)), (some (24, false))⟩,
  ⟨(some 30), .sim (.ld none (.t 29)), (some (24, false))⟩,
  ⟨(some 31), .sim (.len false (.t 30)), (some (24, false))⟩,
  ⟨(some 32), .sim (.bin .gtr (.t 31) (.c (.int .i64 20))), (some (24, false))⟩,
  ⟨(some 33), .sim (.pick (.t 24) (.c (.bool true)) (.t 32)), none⟩]
def c_ref06_Few_r5 : List AOper := [
  ⟨(some 2), .sim (.mov (.c (.bool false))), none⟩]
def c_ref06_Few_r3 : List AOper := [
  ⟨(some 13), .sim (.mov (.t 3)), none⟩,
  ⟨(some 14), .sim (.bin .add (.t 13) (.c (.int .i64 1))), none⟩,
  ⟨(some 3), .sim (.mov (.t 14)), none⟩]
def c_ref06_Few_r6 : List AOper := [
  ⟨(some 34), .sim (.fld 1 (.t 1)), none⟩,
  ⟨(some 35), .sim (.ld none (.t 34)), none⟩,
  ⟨(some 36), .sim (.len false (.t 35)), none⟩,
  ⟨(some 37), .sim (.bin .leq (.t 36) (.c (.int .i64 100))), none⟩,
  ⟨(some 2), .sim (.mov (.t 37)), none⟩]
/-- nameplan/nameplanref06.Few -/
def c_ref06_Few : AFunc := ⟨38, [.slot 2],
  (.seq (.reg c_ref06_Few_r0 [1]) (.seq (.seq (.reg c_ref06_Few_r1 [1, 3]) (.block 0 (.loop [1, 3] (.seq (.seq (.reg c_ref06_Few_r2 [1, 3, 12]) (.cond (.t 12) .skip (.exit 0))) (.seq (.block 1 (.seq (.reg c_ref06_Few_r4 [1, 3, 33]) (.cond (.t 33) (.seq (.reg c_ref06_Few_r5 [2]) .ret) .skip))) (.reg c_ref06_Few_r3 [1, 3])))))) (.seq (.reg c_ref06_Few_r6 [2]) .ret)))⟩
def c_rollback_Undo_1_r0 : List AOper := [
  ⟨(some 2), .boxH (.t 0), none⟩,
  ⟨(some 3), .sim (.mov (.c (.bool false))), none⟩]
def c_rollback_Undo_1_r1 : List AOper := [
  ⟨(some 4), .sim (.fld 0 (.t 1)), none⟩,
  ⟨(some 5), .sim (.ld none (.t 4)), none⟩,
  ⟨(some 6), .sim (.mkf 35 [] [.t 2]), none⟩,
  ⟨(some 7), .callp 36 [.t 5, .t 6], none⟩,
  ⟨(some 3), .sim (.mov (.t 7)), none⟩]
/-- nameplan/rollback.Undo$1 -/
def c_rollback_Undo_1 : AFunc := ⟨8, [.slot 3],
  (.seq (.reg c_rollback_Undo_1_r0 [1, 2]) (.seq (.reg c_rollback_Undo_1_r1 [3]) .ret))⟩
def c_slices_ContainsFunc_Placed_r0 : List AOper := [
  ⟨(some 4), .sim (.mov (.c (.bool false))), none⟩]
def c_slices_ContainsFunc_Placed_r1 : List AOper := [
  ⟨(some 5), .sim (.mov (.t 0)), none⟩,
  ⟨(some 6), .sim (.mov (.t 1)), none⟩,
  ⟨(some 7), .callp 37 [.t 5, .t 6], none⟩,
  ⟨(some 8), .sim (.bin .geq (.t 7) (.c (.int .i64 0))), none⟩,
  ⟨(some 4), .sim (.mov (.t 8)), none⟩]
/-- slices.ContainsFunc[[]nameplan/api.Placed,nameplan/api.Placed] -/
def c_slices_ContainsFunc_Placed : AFunc := ⟨9, [.slot 4],
  (.seq (.reg c_slices_ContainsFunc_Placed_r0 [0, 1]) (.seq (.reg c_slices_ContainsFunc_Placed_r1 [4]) .ret))⟩
def c_rollback_Undo_1_1_r0 : List AOper := [
  ⟨(some 2), .sim (.box (.t 0)), none⟩,
  ⟨(some 3), .sim (.mov (.c (.bool false))), none⟩]
def c_rollback_Undo_1_1_r1 : List AOper := [
  ⟨(some 4), .sim (.fld 0 (.t 2)), none⟩,
  ⟨(some 5), .sim (.ld none (.t 4)), none⟩,
  ⟨(some 6), .sim (.fld 1 (.t 2)), none⟩,
  ⟨(some 7), .sim (.fld 0 (.t 6)), none⟩,
  ⟨(some 8), .sim (.ld none (.t 7)), none⟩,
  ⟨(some 9), .sim (.bld [.int .i64 0, .string ⟨#[]⟩] [(0, 1, .t 5), (1, 1, .t 8)]), none⟩,
  ⟨(some 10), .sim (.ld (some 2) (.t 1)), none⟩,
  ⟨(some 11), .sim (.eqs false [.i, .s] (.t 9) (.t 10)), none⟩,
  ⟨(some 3), .sim (.mov (.t 11)), none⟩]
/-- nameplan/rollback.Undo$1$1 -/
def c_rollback_Undo_1_1 : AFunc := ⟨12, [.slot 3],
  (.seq (.reg c_rollback_Undo_1_1_r0 [1, 2]) (.seq (.reg c_rollback_Undo_1_1_r1 [3]) .ret))⟩
def c_rollback_copyZone_r0 : List AOper := [
  ⟨(some 1), .sim (.box (.t 0)), none⟩,
  ⟨(some 2), .sim (.new [.string ⟨#[]⟩, .slice none 0 0]), none⟩]
def c_rollback_copyZone_r1 : List AOper := [
  ⟨(some 5), .sim (.fld 1 (.t 1)), none⟩,
  ⟨(some 6), .sim (.ld none (.t 5)), none⟩,
  ⟨(some 7), .call 38 [.t 6], none⟩,
  ⟨(some 8), .sim (.fld 1 (.t 1)), none⟩,
  ⟨none, .st 1 (.t 8) (.t 7), none⟩]
def c_rollback_copyZone_r2 : List AOper := [
  ⟨(some 9), .sim (.fld 1 (.t 1)), none⟩,
  ⟨(some 10), .sim (.ld none (.t 9)), none⟩,
  ⟨(some 11), .sim (.len false (.t 10)), none⟩,
  ⟨(some 12), .sim (.mov (.c (.int .i64 0))), none⟩]
def c_rollback_copyZone_r3 : List AOper := [
  ⟨(some 13), .sim (.bin .lss (.t 12) (.t 11)), none⟩]
def c_rollback_copyZone_r4 : List AOper := [
  ⟨(some 14), .sim (.mov (.t 12)), none⟩,
  ⟨(some 3), .sim (.mov (.t 14)), none⟩]
def c_rollback_copyZone_r5 : List AOper := [
  ⟨(some 15), .sim (.fld 1 (.t 1)), none⟩,
  ⟨(some 16), .sim (.ld none (.t 15)), none⟩,
  ⟨(some 17), .sim (.mov (.t 3)), none⟩,
  ⟨(some 18), .sim (.idx 5 (.t 16) (.t 17)), none⟩,
  ⟨(some 4), .sim (.mov (.t 18)), none⟩]
def c_rollback_copyZone_r6 : List AOper := [
  ⟨(some 19), .sim (.mov (.t 4)), none⟩,
  ⟨(some 20), .sim (.mov (.t 4)), none⟩,
  ⟨(some 21), .sim (.nilc (.t 20)), none⟩,
  ⟨(some 22), .sim (.fld 0 (.t 21)), none⟩,
  ⟨(some 23), .sim (.fld 3 (.t 22)), none⟩,
  ⟨(some 24), .sim (.ld none (.t 23)), none⟩,
  ⟨(some 25), .call 22 [.t 24], none⟩,
  ⟨(some 26), .sim (.nilc (.t 19)), none⟩,
  ⟨(some 27), .sim (.fld 0 (.t 26)), none⟩,
  ⟨(some 28), .sim (.fld 3 (.t 27)), none⟩,
  ⟨none, .st 1 (.t 28) (.t 25), none⟩]
def c_rollback_copyZone_r7 : List AOper := [
  ⟨(some 29), .sim (.mov (.t 4)), none⟩,
  ⟨(some 30), .sim (.mov (.t 4)), none⟩,
  ⟨(some 31), .sim (.nilc (.t 30)), none⟩,
  ⟨(some 32), .sim (.fld 4 (.t 31)), none⟩,
  ⟨(some 33), .sim (.ld none (.t 32)), none⟩,
  ⟨(some 34), .call 39 [.t 33], none⟩,
  ⟨(some 35), .sim (.nilc (.t 29)), none⟩,
  ⟨(some 36), .sim (.fld 4 (.t 35)), none⟩,
  ⟨none, .st 1 (.t 36) (.t 34), none⟩]
def c_rollback_copyZone_r8 : List AOper := [
  ⟨(some 37), .sim (.bin .add (.t 12) (.c (.int .i64 1))), none⟩,
  ⟨(some 12), .sim (.mov (.t 37)), none⟩]
def c_rollback_copyZone_r9 : List AOper := [
  ⟨(some 38), .sim (.ld (some 2) (.t 1)), none⟩,
  ⟨none, .st 2 (.t 2) (.t 38), none⟩]
/-- nameplan/rollback.copyZone -/
def c_rollback_copyZone : AFunc := ⟨39, [.cell 2 (some 2)],
  (.seq (.reg c_rollback_copyZone_r0 [1, 2]) (.seq (.reg c_rollback_copyZone_r1 [1, 2]) (.seq (.seq (.reg c_rollback_copyZone_r2 [1, 2, 11, 12]) (.block 0 (.loop [1, 2, 11, 12] (.seq (.reg c_rollback_copyZone_r3 [1, 2, 11, 12, 13]) (.seq (.cond (.t 13) .skip (.exit 0)) (.seq (.block 1 (.seq (.reg c_rollback_copyZone_r4 [1, 2, 3, 11, 12]) (.seq (.reg c_rollback_copyZone_r5 [1, 2, 4, 11, 12]) (.seq (.reg c_rollback_copyZone_r6 [1, 2, 4, 11, 12]) (.reg c_rollback_copyZone_r7 [1, 2, 11, 12]))))) (.reg c_rollback_copyZone_r8 [1, 2, 11, 12]))))))) (.seq (.reg c_rollback_copyZone_r9 [2]) .ret))))⟩
def c_world_Valid_r0 : List AOper := [
  ⟨(some 1), .sim (.box (.t 0)), none⟩,
  ⟨(some 2), .sim (.mov (.c (.bool false))), none⟩]
def c_world_Valid_r1 : List AOper := [
  ⟨(some 3), .sim (.fld 0 (.t 1)), none⟩,
  ⟨(some 4), .sim (.ld none (.t 3)), none⟩,
  ⟨(some 5), .callp 40 [.t 4], none⟩,
  ⟨(some 6), .sim (.mov (.t 5)), none⟩,
  ⟨(some 7), .sim (.ld (some 7) (.t 1)), (some (6, true))⟩,
  ⟨(some 8), .callp 41 [.t 7], (some (6, true))⟩,
  ⟨(some 9), .sim (.pick (.t 6) (.t 8) (.c (.bool false))), none⟩,
  ⟨(some 10), .sim (.mov (.t 9)), none⟩,
  ⟨(some 11), .sim (.fld 2 (.t 1)), (some (10, true))⟩,
  ⟨(some 12), .sim (.ld (some 4) (.t 11)), (some (10, true))⟩,
  ⟨(some 13), .sim (.fld 6 (.t 1)), (some (10, true))⟩,
  ⟨(some 14), .sim (.ld none (.t 13)), (some (10, true))⟩,
  ⟨(some 15), .callp 42 [.t 12, .t 14], (some (10, true))⟩,
  ⟨(some 16), .sim (.pick (.t 10) (.t 15) (.c (.bool false))), none⟩,
  ⟨(some 2), .sim (.mov (.t 16)), none⟩]
/-- nameplan/world.Valid -/
def c_world_Valid : AFunc := ⟨17, [.slot 2],
  (.seq (.reg c_world_Valid_r0 [1]) (.seq (.reg c_world_Valid_r1 [2]) .ret))⟩
def c_steps_stageOK_r0 : List AOper := [
  ⟨(some 2), .sim (.box (.t 0)), none⟩,
  ⟨(some 4), .sim (.mov (.c (.bool false))), none⟩]
def c_steps_stageOK_r1 : List AOper := [
  ⟨(some 9), .sim (.fld 0 (.t 2)), none⟩,
  ⟨(some 10), .sim (.ld none (.t 9)), none⟩,
  ⟨(some 11), .sim (.len false (.t 10)), none⟩,
  ⟨(some 12), .sim (.bin .gtr (.t 11) (.c (.int .i64 500))), none⟩]
def c_steps_stageOK_r2 : List AOper := [
  ⟨(some 4), .sim (.mov (.c (.bool false))), none⟩]
def c_steps_stageOK_r3 : List AOper := [
  ⟨(some 13), .mkmap none, none⟩,
  ⟨(some 5), .sim (.mov (.t 13)), none⟩]
def c_steps_stageOK_r4 : List AOper := [
  ⟨(some 14), .sim (.fld 0 (.t 2)), none⟩,
  ⟨(some 15), .sim (.ld none (.t 14)), none⟩,
  ⟨(some 16), .sim (.len false (.t 15)), none⟩,
  ⟨(some 17), .sim (.mov (.c (.int .i64 0))), none⟩]
def c_steps_stageOK_r5 : List AOper := [
  ⟨(some 18), .sim (.bin .lss (.t 17) (.t 16)), none⟩]
def c_steps_stageOK_r6 : List AOper := [
  ⟨(some 19), .sim (.idx 3 (.t 15) (.t 17)), none⟩,
  ⟨(some 20), .sim (.ld (some 3) (.t 19)), none⟩,
  ⟨(some 7), .sim (.new [.int .i64 0, .string ⟨#[]⟩, .slice none 0 0]), none⟩,
  ⟨none, .st 3 (.t 7) (.t 20), none⟩]
def c_steps_stageOK_r7 : List AOper := [
  ⟨(some 21), .sim (.fld 0 (.t 7)), none⟩,
  ⟨(some 22), .sim (.ld none (.t 21)), none⟩,
  ⟨(some 23), .sim (.fld 1 (.t 7)), none⟩,
  ⟨(some 24), .sim (.fld 0 (.t 23)), none⟩,
  ⟨(some 25), .sim (.ld none (.t 24)), none⟩,
  ⟨(some 26), .sim (.bld [.int .i64 0, .string ⟨#[]⟩] [(0, 1, .t 22), (1, 1, .t 25)]), none⟩,
  ⟨(some 8), .sim (.new [.int .i64 0, .string ⟨#[]⟩]), none⟩,
  ⟨none, .st 2 (.t 8) (.t 26), none⟩]
def c_steps_stageOK_r8 : List AOper := [
  ⟨(some 27), .sim (.fld 0 (.t 7)), none⟩,
  ⟨(some 28), .sim (.ld none (.t 27)), none⟩,
  ⟨(some 29), .sim (.bin .lss (.t 28) (.c (.int .i64 0))), none⟩,
  ⟨(some 30), .sim (.mov (.t 29)), none⟩,
  ⟨(some 31), .sim (.fld 0 (.t 7)), (some (30, false))⟩,
  ⟨(some 32), .sim (.ld none (.t 31)), (some (30, false))⟩,
  ⟨(some 33), .sim (.mov (.t 1)), (some (30, false))⟩,
  ⟨(some 34), .sim (.bin .geq (.t 32) (.t 33)), (some (30, false))⟩,
  ⟨(some 35), .sim (.pick (.t 30) (.c (.bool true)) (.t 34)), none⟩,
  ⟨(some 36), .sim (.mov (.t 35)), none⟩,
  ⟨(some 37), .sim (.mov (.t 5)), (some (36, false))⟩,
  ⟨(some 38), .sim (.ld (some 2) (.t 8)), (some (36, false))⟩,
  ⟨(some 39), .look true [.i, .s] (.bool false) false (.t 37) (.t 38), (some (36, false))⟩,
  ⟨(some 40), .sim (.pick (.t 36) (.c (.bool true)) (.t 39)), none⟩,
  ⟨(some 41), .sim (.mov (.t 40)), none⟩,
  ⟨(some 42), .sim (.fld 1 (.t 7)), (some (41, false))⟩,
  ⟨(some 43), .sim (.ld (some 2) (.t 42)), (some (41, false))⟩,
  ⟨(some 44), .callp 17 [.t 43], (some (41, false))⟩,
  ⟨(some 45), .sim (.not (.t 44)), (some (41, false))⟩,
  ⟨(some 46), .sim (.mov (.t 45)), (some (41, false))⟩,
  ⟨(some 47), .sim (.fld 1 (.t 7)), (some (46, true))⟩,
  ⟨(some 48), .sim (.ld (some 2) (.t 47)), (some (46, true))⟩,
  ⟨(some 49), .callp 43 [.t 48], (some (46, true))⟩,
  ⟨(some 50), .sim (.not (.t 49)), (some (46, true))⟩,
  ⟨(some 51), .sim (.pick (.t 46) (.t 50) (.c (.bool false))), (some (41, false))⟩,
  ⟨(some 52), .sim (.pick (.t 41) (.c (.bool true)) (.t 51)), none⟩]
def c_steps_stageOK_r9 : List AOper := [
  ⟨(some 4), .sim (.mov (.c (.bool false))), none⟩]
def c_steps_stageOK_r10 : List AOper := [
  ⟨(some 53), .sim (.mov (.t 5)), none⟩,
  ⟨(some 54), .sim (.ld (some 2) (.t 8)), none⟩,
  ⟨none, .upd true [.i, .s] (.t 53) (.t 54) (.c (.bool true)), none⟩]
def c_steps_stageOK_r11 : List AOper := [
  ⟨(some 55), .sim (.bin .add (.t 17) (.c (.int .i64 1))), none⟩,
  ⟨(some 17), .sim (.mov (.t 55)), none⟩]
def c_steps_stageOK_r12 : List AOper := [
  ⟨(some 4), .sim (.mov (.c (.bool true))), none⟩]
/-- nameplan/steps.stageOK -/
def c_steps_stageOK : AFunc := ⟨56, [.slot 4],
  (.seq (.reg c_steps_stageOK_r0 [1, 2]) (.seq (.seq (.reg c_steps_stageOK_r1 [1, 2, 12]) (.cond (.t 12) (.seq (.reg c_steps_stageOK_r2 [4]) .ret) .skip)) (.seq (.reg c_steps_stageOK_r3 [1, 2, 5]) (.seq (.seq (.reg c_steps_stageOK_r4 [1, 5, 15, 16, 17]) (.block 0 (.loop [1, 5, 15, 16, 17] (.seq (.reg c_steps_stageOK_r5 [1, 5, 15, 16, 17, 18]) (.seq (.cond (.t 18) .skip (.exit 0)) (.seq (.block 1 (.seq (.reg c_steps_stageOK_r6 [1, 5, 7, 15, 16, 17]) (.seq (.reg c_steps_stageOK_r7 [1, 5, 7, 8, 15, 16, 17]) (.seq (.seq (.reg c_steps_stageOK_r8 [1, 5, 8, 15, 16, 17, 52]) (.cond (.t 52) (.seq (.reg c_steps_stageOK_r9 [4]) .ret) .skip)) (.reg c_steps_stageOK_r10 [1, 5, 15, 16, 17]))))) (.reg c_steps_stageOK_r11 [1, 5, 15, 16, 17]))))))) (.seq (.reg c_steps_stageOK_r12 [4]) .ret)))))⟩
def c_steps_mentioned_r0 : List AOper := [
  ⟨(some 1), .sim (.box (.t 0)), none⟩,
  ⟨(some 2), .sim (.mov (.c (.map none))), none⟩]
def c_steps_mentioned_r1 : List AOper := [
  ⟨(some 6), .mkmap none, none⟩,
  ⟨(some 3), .sim (.mov (.t 6)), none⟩]
def c_steps_mentioned_r2 : List AOper := [
  ⟨(some 7), .sim (.fld 0 (.t 1)), none⟩,
  ⟨(some 8), .sim (.ld none (.t 7)), none⟩,
  ⟨(some 9), .sim (.len false (.t 8)), none⟩,
  ⟨(some 10), .sim (.mov (.c (.int .i64 0))), none⟩]
def c_steps_mentioned_r3 : List AOper := [
  ⟨(some 11), .sim (.bin .lss (.t 10) (.t 9)), none⟩]
def c_steps_mentioned_r4 : List AOper := [
  ⟨(some 12), .sim (.idx 3 (.t 8) (.t 10)), none⟩,
  ⟨(some 13), .sim (.ld (some 3) (.t 12)), none⟩,
  ⟨(some 5), .sim (.new [.int .i64 0, .string ⟨#[]⟩, .slice none 0 0]), none⟩,
  ⟨none, .st 3 (.t 5) (.t 13), none⟩]
def c_steps_mentioned_r5 : List AOper := [
  ⟨(some 14), .sim (.mov (.t 3)), none⟩,
  ⟨(some 15), .sim (.fld 0 (.t 5)), none⟩,
  ⟨(some 16), .sim (.ld none (.t 15)), none⟩,
  ⟨(some 17), .sim (.fld 1 (.t 5)), none⟩,
  ⟨(some 18), .sim (.fld 0 (.t 17)), none⟩,
  ⟨(some 19), .sim (.ld none (.t 18)), none⟩,
  ⟨(some 20), .sim (.bld [.int .i64 0, .string ⟨#[]⟩] [(0, 1, .t 16), (1, 1, .t 19)]), none⟩,
  ⟨none, .upd true [.i, .s] (.t 14) (.t 20) (.c (.bool true)), none⟩]
def c_steps_mentioned_r6 : List AOper := [
  ⟨(some 21), .sim (.bin .add (.t 10) (.c (.int .i64 1))), none⟩,
  ⟨(some 10), .sim (.mov (.t 21)), none⟩]
def c_steps_mentioned_r7 : List AOper := [
  ⟨(some 22), .sim (.mov (.t 3)), none⟩,
  ⟨(some 2), .sim (.mov (.t 22)), none⟩]
/-- nameplan/steps.mentioned -/
def c_steps_mentioned : AFunc := ⟨23, [.slot 2],
  (.seq (.reg c_steps_mentioned_r0 [1]) (.seq (.reg c_steps_mentioned_r1 [1, 3]) (.seq (.seq (.reg c_steps_mentioned_r2 [3, 8, 9, 10]) (.block 0 (.loop [3, 8, 9, 10] (.seq (.reg c_steps_mentioned_r3 [3, 8, 9, 10, 11]) (.seq (.cond (.t 11) .skip (.exit 0)) (.seq (.block 1 (.seq (.reg c_steps_mentioned_r4 [3, 5, 8, 9, 10]) (.reg c_steps_mentioned_r5 [3, 8, 9, 10]))) (.reg c_steps_mentioned_r6 [3, 8, 9, 10]))))))) (.seq (.reg c_steps_mentioned_r7 [2]) .ret))))⟩
def c_steps_isStop_r0 : List AOper := [
  ⟨(some 1), .sim (.box (.t 0)), none⟩,
  ⟨(some 2), .sim (.mov (.c (.bool false))), none⟩]
def c_steps_isStop_r1 : List AOper := [
  ⟨(some 4), .sim (.fld 0 (.t 1)), none⟩,
  ⟨(some 5), .sim (.ld none (.t 4)), none⟩,
  ⟨(some 6), .sim (.bin .eql (.t 5) (.c (.string ⟨#[42]⟩))), none⟩,
  ⟨(some 7), .sim (.mov (.t 6)), none⟩,
  ⟨(some 8), .sim (.fld 0 (.t 1)), (some (7, false))⟩,
  ⟨(some 9), .sim (.ld none (.t 8)), (some (7, false))⟩,
  ⟨(some 10), .callp 44 [.t 9, .c (.string ⟨#[42, 46]⟩)], (some (7, false))⟩,
  ⟨(some 11), .sim (.pick (.t 7) (.c (.bool true)) (.t 10)), none⟩,
  ⟨(some 3), .sim (.mov (.t 11)), none⟩]
def c_steps_isStop_r2 : List AOper := [
  ⟨(some 12), .sim (.fld 1 (.t 1)), none⟩,
  ⟨(some 13), .sim (.ld none (.t 12)), none⟩,
  ⟨(some 14), .sim (.len false (.t 13)), none⟩,
  ⟨(some 15), .sim (.bin .eql (.t 14) (.c (.int .i64 0))), none⟩,
  ⟨(some 16), .sim (.mov (.t 15)), none⟩,
  ⟨(some 17), .sim (.mov (.t 3)), (some (16, true))⟩,
  ⟨(some 18), .sim (.not (.t 17)), (some (16, true))⟩,
  ⟨(some 19), .sim (.pick (.t 16) (.t 18) (.c (.bool false))), none⟩,
  ⟨(some 20), .sim (.mov (.t 19)), none⟩,
  ⟨(some 21), .sim (.fld 0 (.t 1)), (some (20, true))⟩,
  ⟨(some 22), .sim (.ld none (.t 21)), (some (20, true))⟩,
  ⟨(some 23), .callp 45 [.t 22], (some (20, true))⟩,
  ⟨(some 24), .sim (.pick (.t 20) (.t 23) (.c (.bool false))), none⟩,
  ⟨(some 2), .sim (.mov (.t 24)), none⟩]
/-- nameplan/steps.isStop -/
def c_steps_isStop : AFunc := ⟨25, [.slot 2],
  (.seq (.reg c_steps_isStop_r0 [1]) (.seq (.reg c_steps_isStop_r1 [1, 3]) (.seq (.reg c_steps_isStop_r2 [2]) .ret)))⟩
def c_steps_tooMany_api_Placed_r0 : List AOper := [
  ⟨(some 8), .sim (.mov (.c (.bool false))), none⟩]
def c_steps_tooMany_api_Placed_r1 : List AOper := [
  ⟨(some 12), .mkmap none, none⟩,
  ⟨(some 9), .sim (.mov (.t 12)), none⟩]
def c_steps_tooMany_api_Placed_r2 : List AOper := [
  ⟨(some 13), .sim (.mov (.t 0)), none⟩,
  ⟨(some 14), .sim (.len false (.t 13)), none⟩,
  ⟨(some 15), .sim (.mov (.c (.int .i64 0))), none⟩]
def c_steps_tooMany_api_Placed_r3 : List AOper := [
  ⟨(some 16), .sim (.bin .lss (.t 15) (.t 14)), none⟩]
def c_steps_tooMany_api_Placed_r4 : List AOper := [
  ⟨(some 17), .sim (.idx 3 (.t 13) (.t 15)), none⟩,
  ⟨(some 18), .sim (.ld (some 3) (.t 17)), none⟩,
  ⟨(some 11), .sim (.new [.int .i64 0, .string ⟨#[]⟩, .slice none 0 0]), none⟩,
  ⟨none, .st 3 (.t 11) (.t 18), none⟩]
def c_steps_tooMany_api_Placed_r5 : List AOper := [
  ⟨(some 19), .sim (.mov (.t 9)), none⟩,
  ⟨(some 20), .sim (.mov (.t 3)), none⟩,
  ⟨(some 21), .sim (.ld (some 3) (.t 11)), none⟩,
  ⟨(some 22), .callv (.t 20) [.t 21], none⟩,
  ⟨none, .upd false [.s] (.t 19) (.t 22) (.c (.bool true)), none⟩]
def c_steps_tooMany_api_Placed_r6 : List AOper := [
  ⟨(some 23), .sim (.bin .add (.t 15) (.c (.int .i64 1))), none⟩,
  ⟨(some 15), .sim (.mov (.t 23)), none⟩]
def c_steps_tooMany_api_Placed_r7 : List AOper := [
  ⟨(some 24), .sim (.mov (.t 0)), none⟩,
  ⟨(some 25), .sim (.len false (.t 24)), none⟩,
  ⟨(some 26), .sim (.mov (.t 1)), none⟩,
  ⟨(some 27), .sim (.bin .gtr (.t 25) (.t 26)), none⟩,
  ⟨(some 28), .sim (.mov (.t 27)), none⟩,
  ⟨(some 29), .sim (.mov (.t 9)), (some (28, false))⟩,
  ⟨(some 30), .mlen (.t 29), (some (28, false))⟩,
  ⟨(some 31), .sim (.mov (.t 2)), (some (28, false))⟩,
  ⟨(some 32), .sim (.bin .gtr (.t 30) (.t 31)), (some (28, false))⟩,
  ⟨(some 33), .sim (.pick (.t 28) (.c (.bool true)) (.t 32)), none⟩,
  ⟨(some 8), .sim (.mov (.t 33)), none⟩]
/-- nameplan/steps.tooMany[nameplan/api.Placed] -/
def c_steps_tooMany_api_Placed : AFunc := ⟨34, [.slot 8],
  (.seq (.reg c_steps_tooMany_api_Placed_r0 [0, 1, 2, 3]) (.seq (.reg c_steps_tooMany_api_Placed_r1 [0, 1, 2, 3, 9]) (.seq (.seq (.reg c_steps_tooMany_api_Placed_r2 [0, 1, 2, 3, 9, 13, 14, 15]) (.block 0 (.loop [0, 1, 2, 3, 9, 13, 14, 15] (.seq (.reg c_steps_tooMany_api_Placed_r3 [0, 1, 2, 3, 9, 13, 14, 15, 16]) (.seq (.cond (.t 16) .skip (.exit 0)) (.seq (.block 1 (.seq (.reg c_steps_tooMany_api_Placed_r4 [0, 1, 2, 3, 9, 11, 13, 14, 15]) (.reg c_steps_tooMany_api_Placed_r5 [0, 1, 2, 3, 9, 13, 14, 15]))) (.reg c_steps_tooMany_api_Placed_r6 [0, 1, 2, 3, 9, 13, 14, 15]))))))) (.seq (.reg c_steps_tooMany_api_Placed_r7 [8]) .ret))))⟩
def c_steps_World_1_r0 : List AOper := [
  ⟨(some 1), .sim (.box (.t 0)), none⟩,
  ⟨(some 2), .sim (.mov (.c (.string ⟨#[]⟩))), none⟩]
def c_steps_World_1_r1 : List AOper := [
  ⟨(some 3), .sim (.fld 1 (.t 1)), none⟩,
  ⟨(some 4), .sim (.fld 0 (.t 3)), none⟩,
  ⟨(some 5), .sim (.ld none (.t 4)), none⟩,
  ⟨(some 2), .sim (.mov (.t 5)), none⟩]
/-- nameplan/steps.World$1 -/
def c_steps_World_1 : AFunc := ⟨6, [.slot 2],
  (.seq (.reg c_steps_World_1_r0 [1]) (.seq (.reg c_steps_World_1_r1 [2]) .ret))⟩
def c_steps_cloned_r0 : List AOper := [
  ⟨(some 1), .sim (.box (.t 0)), none⟩,
  ⟨(some 2), .sim (.new [.string ⟨#[]⟩, .slice none 0 0]), none⟩]
def c_steps_cloned_r1 : List AOper := [
  ⟨(some 4), .sim (.fld 1 (.t 1)), none⟩,
  ⟨(some 5), .sim (.ld none (.t 4)), none⟩,
  ⟨(some 6), .call 38 [.t 5], none⟩,
  ⟨(some 7), .sim (.fld 1 (.t 1)), none⟩,
  ⟨none, .st 1 (.t 7) (.t 6), none⟩]
def c_steps_cloned_r2 : List AOper := [
  ⟨(some 8), .sim (.fld 1 (.t 1)), none⟩,
  ⟨(some 9), .sim (.ld none (.t 8)), none⟩,
  ⟨(some 10), .sim (.len false (.t 9)), none⟩,
  ⟨(some 11), .sim (.mov (.c (.int .i64 0))), none⟩]
def c_steps_cloned_r3 : List AOper := [
  ⟨(some 12), .sim (.bin .lss (.t 11) (.t 10)), none⟩]
def c_steps_cloned_r4 : List AOper := [
  ⟨(some 13), .sim (.mov (.t 11)), none⟩,
  ⟨(some 3), .sim (.mov (.t 13)), none⟩]
def c_steps_cloned_r5 : List DOp := [
  ⟨0, ⟨(some 14), .sim (.fld 1 (.t 1)), none⟩, []⟩,
  ⟨1, ⟨(some 15), .sim (.ld none (.t 14)), none⟩, []⟩,
  ⟨2, ⟨(some 16), .sim (.mov (.t 3)), none⟩, []⟩,
  ⟨3, ⟨(some 17), .sim (.fld 1 (.t 1)), none⟩, []⟩,
  ⟨4, ⟨(some 18), .sim (.ld none (.t 17)), none⟩, []⟩,
  ⟨5, ⟨(some 19), .sim (.mov (.t 3)), none⟩, []⟩,
  ⟨6, ⟨(some 20), .sim (.idx 5 (.t 18) (.t 19)), none⟩, []⟩,
  ⟨7, ⟨(some 21), .sim (.fld 0 (.t 20)), none⟩, []⟩,
  ⟨8, ⟨(some 22), .sim (.fld 3 (.t 21)), none⟩, []⟩,
  ⟨9, ⟨(some 23), .sim (.ld none (.t 22)), none⟩, []⟩,
  ⟨10, ⟨(some 24), .call 22 [.t 23], none⟩, [0, 1, 2]⟩,
  ⟨11, ⟨(some 25), .sim (.idx 5 (.t 15) (.t 16)), none⟩, []⟩,
  ⟨12, ⟨(some 26), .sim (.fld 0 (.t 25)), none⟩, []⟩,
  ⟨13, ⟨(some 27), .sim (.fld 3 (.t 26)), none⟩, []⟩,
  ⟨14, ⟨none, .st 1 (.t 27) (.t 24), none⟩, []⟩]
def c_steps_cloned_r6 : List DOp := [
  ⟨0, ⟨(some 28), .sim (.fld 1 (.t 1)), none⟩, []⟩,
  ⟨1, ⟨(some 29), .sim (.ld none (.t 28)), none⟩, []⟩,
  ⟨2, ⟨(some 30), .sim (.mov (.t 3)), none⟩, []⟩,
  ⟨3, ⟨(some 31), .sim (.fld 1 (.t 1)), none⟩, []⟩,
  ⟨4, ⟨(some 32), .sim (.ld none (.t 31)), none⟩, []⟩,
  ⟨5, ⟨(some 33), .sim (.mov (.t 3)), none⟩, []⟩,
  ⟨6, ⟨(some 34), .sim (.idx 5 (.t 32) (.t 33)), none⟩, []⟩,
  ⟨7, ⟨(some 35), .sim (.fld 4 (.t 34)), none⟩, []⟩,
  ⟨8, ⟨(some 36), .sim (.ld none (.t 35)), none⟩, []⟩,
  ⟨9, ⟨(some 37), .call 39 [.t 36], none⟩, [0, 1, 2]⟩,
  ⟨10, ⟨(some 38), .sim (.idx 5 (.t 29) (.t 30)), none⟩, []⟩,
  ⟨11, ⟨(some 39), .sim (.fld 4 (.t 38)), none⟩, []⟩,
  ⟨12, ⟨none, .st 1 (.t 39) (.t 37), none⟩, []⟩]
def c_steps_cloned_r7 : List AOper := [
  ⟨(some 40), .sim (.bin .add (.t 11) (.c (.int .i64 1))), none⟩,
  ⟨(some 11), .sim (.mov (.t 40)), none⟩]
def c_steps_cloned_r8 : List AOper := [
  ⟨(some 41), .sim (.ld (some 2) (.t 1)), none⟩,
  ⟨none, .st 2 (.t 2) (.t 41), none⟩]
/-- nameplan/steps.cloned -/
def c_steps_cloned : AFunc := ⟨42, [.cell 2 (some 2)],
  (.seq (.reg c_steps_cloned_r0 [1, 2]) (.seq (.reg c_steps_cloned_r1 [1, 2]) (.seq (.seq (.reg c_steps_cloned_r2 [1, 2, 10, 11]) (.block 0 (.loop [1, 2, 10, 11] (.seq (.reg c_steps_cloned_r3 [1, 2, 10, 11, 12]) (.seq (.cond (.t 12) .skip (.exit 0)) (.seq (.block 1 (.seq (.reg c_steps_cloned_r4 [1, 2, 3, 10, 11]) (.seq (.regd c_steps_cloned_r5 [1, 2, 3, 10, 11]) (.regd c_steps_cloned_r6 [1, 2, 10, 11])))) (.reg c_steps_cloned_r7 [1, 2, 10, 11]))))))) (.seq (.reg c_steps_cloned_r8 [2]) .ret))))⟩
def c_slices_Clone_Host_r0 : List AOper := [
  ⟨(some 2), .sim (.mov (.c (.slice none 0 0))), none⟩]
def c_slices_Clone_Host_r1 : List AOper := [
  ⟨(some 3), .sim (.mov (.t 0)), none⟩,
  ⟨(some 4), .sim (.eqn false (.t 3) (.c (.slice none 0 0))), none⟩]
def c_slices_Clone_Host_r2 : List AOper := [
  ⟨(some 2), .sim (.mov (.c (.slice none 0 0))), none⟩]
def c_slices_Clone_Host_r3 : List AOper := [
  ⟨(some 5), .mksl 3 0 [] [], none⟩,
  ⟨(some 6), .sim (.mov (.t 0)), none⟩,
  ⟨(some 7), .app 3 32 [.string ⟨#[]⟩, .int .i64 0, .int .i64 0] (.t 5) (.t 6), none⟩,
  ⟨(some 2), .sim (.mov (.t 7)), none⟩]
/-- slices.Clone[[]nameplan/api.Host,nameplan/api.Host] -/
def c_slices_Clone_Host : AFunc := ⟨8, [.slot 2],
  (.seq (.reg c_slices_Clone_Host_r0 [0]) (.seq (.seq (.reg c_slices_Clone_Host_r1 [0, 4]) (.cond (.t 4) (.seq (.reg c_slices_Clone_Host_r2 [2]) .ret) .skip)) (.seq (.reg c_slices_Clone_Host_r3 [2]) .ret)))⟩
def c_slices_Clone_Datum_r0 : List AOper := [
  ⟨(some 2), .sim (.mov (.c (.slice none 0 0))), none⟩]
def c_slices_Clone_Datum_r1 : List AOper := [
  ⟨(some 3), .sim (.mov (.t 0)), none⟩,
  ⟨(some 4), .sim (.eqn false (.t 3) (.c (.slice none 0 0))), none⟩]
def c_slices_Clone_Datum_r2 : List AOper := [
  ⟨(some 2), .sim (.mov (.c (.slice none 0 0))), none⟩]
def c_slices_Clone_Datum_r3 : List AOper := [
  ⟨(some 5), .mksl 3 0 [] [], none⟩,
  ⟨(some 6), .sim (.mov (.t 0)), none⟩,
  ⟨(some 7), .app 3 32 [.string ⟨#[]⟩, .int .i64 0, .int .i64 0] (.t 5) (.t 6), none⟩,
  ⟨(some 2), .sim (.mov (.t 7)), none⟩]
/-- slices.Clone[[]nameplan/api.Datum,nameplan/api.Datum] -/
def c_slices_Clone_Datum : AFunc := ⟨8, [.slot 2],
  (.seq (.reg c_slices_Clone_Datum_r0 [0]) (.seq (.seq (.reg c_slices_Clone_Datum_r1 [0, 4]) (.cond (.t 4) (.seq (.reg c_slices_Clone_Datum_r2 [2]) .ret) .skip)) (.seq (.reg c_slices_Clone_Datum_r3 [2]) .ret)))⟩
def c_slices_Clone_int_r0 : List AOper := [
  ⟨(some 2), .sim (.mov (.c (.slice none 0 0))), none⟩]
def c_slices_Clone_int_r1 : List AOper := [
  ⟨(some 3), .sim (.mov (.t 0)), none⟩,
  ⟨(some 4), .sim (.eqn false (.t 3) (.c (.slice none 0 0))), none⟩]
def c_slices_Clone_int_r2 : List AOper := [
  ⟨(some 2), .sim (.mov (.c (.slice none 0 0))), none⟩]
def c_slices_Clone_int_r3 : List AOper := [
  ⟨(some 5), .mksl 1 0 [] [], none⟩,
  ⟨(some 6), .sim (.mov (.t 0)), none⟩,
  ⟨(some 7), .app 1 8 [.int .i64 0] (.t 5) (.t 6), none⟩,
  ⟨(some 2), .sim (.mov (.t 7)), none⟩]
/-- slices.Clone[[]int,int] -/
def c_slices_Clone_int : AFunc := ⟨8, [.slot 2],
  (.seq (.reg c_slices_Clone_int_r0 [0]) (.seq (.seq (.reg c_slices_Clone_int_r1 [0, 4]) (.cond (.t 4) (.seq (.reg c_slices_Clone_int_r2 [2]) .ret) .skip)) (.seq (.reg c_slices_Clone_int_r3 [2]) .ret)))⟩
def c_ref35_hosts_r0 : List AOper := [
  ⟨(some 2), .sim (.box (.t 0)), none⟩,
  ⟨(some 3), .sim (.box (.t 1)), none⟩,
  ⟨(some 4), .sim (.mov (.c (.bool false))), none⟩]
def c_ref35_hosts_r1 : List AOper := [
  ⟨(some 7), .sim (.fld 0 (.t 2)), none⟩,
  ⟨(some 8), .sim (.ld none (.t 7)), none⟩,
  ⟨(some 9), .sim (.len false (.t 8)), none⟩,
  ⟨(some 10), .sim (.fld 0 (.t 3)), none⟩,
  ⟨(some 11), .sim (.ld none (.t 10)), none⟩,
  ⟨(some 12), .sim (.len false (.t 11)), none⟩,
  ⟨(some 13), .sim (.bin .neq (.t 9) (.t 12)), none⟩,
  ⟨(some 14), .sim (.mov (.t 13)), none⟩,
  ⟨(some 15), .sim (.fld 6 (.t 2)), (some (14, false))⟩,
  ⟨(some 16), .sim (.ld none (.t 15)), (some (14, false))⟩,
  ⟨(some 17), .sim (.len false (.t 16)), (some (14, false))⟩,
  ⟨(some 18), .sim (.fld 6 (.t 3)), (some (14, false))⟩,
  ⟨(some 19), .sim (.ld none (.t 18)), (some (14, false))⟩,
  ⟨(some 20), .sim (.len false (.t 19)), (some (14, false))⟩,
  ⟨(some 21), .sim (.bin .neq (.t 17) (.t 20)), (some (14, false))⟩,
  ⟨(some 22), .sim (.pick (.t 14) (.c (.bool true)) (.t 21)), none⟩,
  ⟨(some 23), .sim (.mov (.t 22)), none⟩,
  ⟨(some 24), .sim (.fld 2 (.t 2)), (some (23, false))⟩,
  ⟨(some 25), .sim (.ld (some 4) (.t 24)), (some (23, false))⟩,
  ⟨(some 26), .sim (.fld 2 (.t 3)), (some (23, false))⟩,
  ⟨(some 27), .sim (.ld (some 4) (.t 26)), (some (23, false))⟩,
  ⟨(some 28), .callp 46 [.t 25, .t 27], (some (23, false))⟩,
  ⟨(some 29), .sim (.not (.t 28)), (some (23, false))⟩,
  ⟨(some 30), .sim (.pick (.t 23) (.c (.bool true)) (.t 29)), none⟩]
def c_ref35_hosts_r2 : List AOper := [
  ⟨(some 4), .sim (.mov (.c (.bool false))), none⟩]
def c_ref35_hosts_r3 : List AOper := [
  ⟨(some 5), .sim (.mov (.c (.int .i64 0))), none⟩]
def c_ref35_hosts_r4 : List AOper := [
  ⟨(some 31), .sim (.mov (.t 5)), none⟩,
  ⟨(some 32), .sim (.fld 0 (.t 2)), none⟩,
  ⟨(some 33), .sim (.ld none (.t 32)), none⟩,
  ⟨(some 34), .sim (.len false (.t 33)), none⟩,
  ⟨(some 35), .sim (.bin .lss (.t 31) (.t 34)), none⟩]
def c_ref35_hosts_r6 : List DOp := [
  ⟨0, ⟨(some 38), .sim (.fld 0 (.t 2)), none⟩, []⟩,
  ⟨1, ⟨(some 39), .sim (.ld none (.t 38)), none⟩, []⟩,
  ⟨2, ⟨(some 40), .sim (.mov (.t 5)), none⟩, []⟩,
  ⟨3, ⟨(some 41), .sim (.idx 3 (.t 39) (.t 40)), none⟩, []⟩,
  ⟨4, ⟨(some 42), .sim (.ld (some 3) (.t 41)), none⟩, []⟩,
  ⟨5, ⟨(some 43), .sim (.fld 0 (.t 3)), none⟩, []⟩,
  ⟨6, ⟨(some 44), .sim (.ld none (.t 43)), none⟩, []⟩,
  ⟨7, ⟨(some 45), .sim (.mov (.t 5)), none⟩, []⟩,
  ⟨8, ⟨(some 46), .sim (.idx 3 (.t 44) (.t 45)), none⟩, []⟩,
  ⟨9, ⟨(some 47), .sim (.ld (some 3) (.t 46)), none⟩, []⟩,
  ⟨10, ⟨(some 48), .sim (.eqs true [.s, .i, .i] (.t 42) (.t 47)), none⟩, []⟩]
def c_ref35_hosts_r7 : List AOper := [
  ⟨(some 4), .sim (.mov (.c (.bool false))), none⟩]
def c_ref35_hosts_r5 : List AOper := [
  ⟨(some 36), .sim (.mov (.t 5)), none⟩,
  ⟨(some 37), .sim (.bin .add (.t 36) (.c (.int .i64 1))), none⟩,
  ⟨(some 5), .sim (.mov (.t 37)), none⟩]
def c_ref35_hosts_r8 : List AOper := [
  ⟨(some 6), .sim (.mov (.c (.int .i64 0))), none⟩]
def c_ref35_hosts_r9 : List AOper := [
  ⟨(some 49), .sim (.mov (.t 6)), none⟩,
  ⟨(some 50), .sim (.fld 6 (.t 2)), none⟩,
  ⟨(some 51), .sim (.ld none (.t 50)), none⟩,
  ⟨(some 52), .sim (.len false (.t 51)), none⟩,
  ⟨(some 53), .sim (.bin .lss (.t 49) (.t 52)), none⟩]
def c_ref35_hosts_r11 : List DOp := [
  ⟨0, ⟨(some 56), .sim (.fld 6 (.t 2)), none⟩, []⟩,
  ⟨1, ⟨(some 57), .sim (.ld none (.t 56)), none⟩, []⟩,
  ⟨2, ⟨(some 58), .sim (.mov (.t 6)), none⟩, []⟩,
  ⟨3, ⟨(some 59), .sim (.idx 1 (.t 57) (.t 58)), none⟩, []⟩,
  ⟨4, ⟨(some 60), .sim (.ld none (.t 59)), none⟩, []⟩,
  ⟨5, ⟨(some 61), .sim (.fld 6 (.t 3)), none⟩, []⟩,
  ⟨6, ⟨(some 62), .sim (.ld none (.t 61)), none⟩, []⟩,
  ⟨7, ⟨(some 63), .sim (.mov (.t 6)), none⟩, []⟩,
  ⟨8, ⟨(some 64), .sim (.idx 1 (.t 62) (.t 63)), none⟩, []⟩,
  ⟨9, ⟨(some 65), .sim (.ld none (.t 64)), none⟩, []⟩,
  ⟨10, ⟨(some 66), .sim (.bin .neq (.t 60) (.t 65)), none⟩, []⟩]
def c_ref35_hosts_r12 : List AOper := [
  ⟨(some 4), .sim (.mov (.c (.bool false))), none⟩]
def c_ref35_hosts_r10 : List AOper := [
  ⟨(some 54), .sim (.mov (.t 6)), none⟩,
  ⟨(some 55), .sim (.bin .add (.t 54) (.c (.int .i64 1))), none⟩,
  ⟨(some 6), .sim (.mov (.t 55)), none⟩]
def c_ref35_hosts_r13 : List AOper := [
  ⟨(some 4), .sim (.mov (.c (.bool true))), none⟩]
/-- nameplan/nameplanref35.hosts -/
def c_ref35_hosts : AFunc := ⟨67, [.slot 4],
  (.seq (.reg c_ref35_hosts_r0 [2, 3]) (.seq (.seq (.reg c_ref35_hosts_r1 [2, 3, 30]) (.cond (.t 30) (.seq (.reg c_ref35_hosts_r2 [4]) .ret) .skip)) (.seq (.seq (.reg c_ref35_hosts_r3 [2, 3, 5]) (.block 0 (.loop [2, 3, 5] (.seq (.seq (.reg c_ref35_hosts_r4 [2, 3, 5, 35]) (.cond (.t 35) .skip (.exit 0))) (.seq (.block 1 (.seq (.regd c_ref35_hosts_r6 [2, 3, 5, 48]) (.cond (.t 48) (.seq (.reg c_ref35_hosts_r7 [4]) .ret) .skip))) (.reg c_ref35_hosts_r5 [2, 3, 5])))))) (.seq (.seq (.reg c_ref35_hosts_r8 [2, 3, 6]) (.block 2 (.loop [2, 3, 6] (.seq (.seq (.reg c_ref35_hosts_r9 [2, 3, 6, 53]) (.cond (.t 53) .skip (.exit 2))) (.seq (.block 3 (.seq (.regd c_ref35_hosts_r11 [2, 3, 6, 66]) (.cond (.t 66) (.seq (.reg c_ref35_hosts_r12 [4]) .ret) .skip))) (.reg c_ref35_hosts_r10 [2, 3, 6])))))) (.seq (.reg c_ref35_hosts_r13 [4]) .ret)))))⟩
def c_ref35_same_r0 : List AOper := [
  ⟨(some 2), .sim (.box (.t 0)), none⟩,
  ⟨(some 3), .sim (.box (.t 1)), none⟩,
  ⟨(some 4), .sim (.mov (.c (.bool false))), none⟩]
def c_ref35_same_r1 : List AOper := [
  ⟨(some 5), .sim (.fld 0 (.t 2)), none⟩,
  ⟨(some 6), .sim (.ld none (.t 5)), none⟩,
  ⟨(some 7), .sim (.fld 0 (.t 3)), none⟩,
  ⟨(some 8), .sim (.ld none (.t 7)), none⟩,
  ⟨(some 9), .sim (.bin .eql (.t 6) (.t 8)), none⟩,
  ⟨(some 10), .sim (.mov (.t 9)), none⟩,
  ⟨(some 11), .sim (.fld 1 (.t 2)), (some (10, true))⟩,
  ⟨(some 12), .sim (.fld 0 (.t 11)), (some (10, true))⟩,
  ⟨(some 13), .sim (.ld none (.t 12)), (some (10, true))⟩,
  ⟨(some 14), .sim (.fld 1 (.t 3)), (some (10, true))⟩,
  ⟨(some 15), .sim (.fld 0 (.t 14)), (some (10, true))⟩,
  ⟨(some 16), .sim (.ld none (.t 15)), (some (10, true))⟩,
  ⟨(some 17), .sim (.bin .eql (.t 13) (.t 16)), (some (10, true))⟩,
  ⟨(some 18), .sim (.pick (.t 10) (.t 17) (.c (.bool false))), none⟩,
  ⟨(some 4), .sim (.mov (.t 18)), none⟩]
/-- nameplan/nameplanref35.same -/
def c_ref35_same : AFunc := ⟨19, [.slot 4],
  (.seq (.reg c_ref35_same_r0 [2, 3]) (.seq (.reg c_ref35_same_r1 [4]) .ret))⟩
def c_ref02_SameList_r0 : List AOper := [
  ⟨(some 4), .sim (.mov (.c (.bool false))), none⟩]
def c_ref02_SameList_r1 : List AOper := [
  ⟨(some 6), .sim (.mov (.t 0)), none⟩,
  ⟨(some 7), .sim (.len false (.t 6)), none⟩,
  ⟨(some 8), .sim (.mov (.t 1)), none⟩,
  ⟨(some 9), .sim (.len false (.t 8)), none⟩,
  ⟨(some 10), .sim (.bin .neq (.t 7) (.t 9)), none⟩]
def c_ref02_SameList_r2 : List AOper := [
  ⟨(some 4), .sim (.mov (.c (.bool false))), none⟩]
def c_ref02_SameList_r3 : List AOper := [
  ⟨(some 5), .sim (.mov (.c (.int .i64 0))), none⟩]
def c_ref02_SameList_r4 : List AOper := [
  ⟨(some 11), .sim (.mov (.t 5)), none⟩,
  ⟨(some 12), .sim (.mov (.t 0)), none⟩,
  ⟨(some 13), .sim (.len false (.t 12)), none⟩,
  ⟨(some 14), .sim (.bin .lss (.t 11) (.t 13)), none⟩]
def c_ref02_SameList_r6 : List DOp := [
  ⟨0, ⟨(some 17), .sim (.mov (.t 0)), none⟩, []⟩,
  ⟨1, ⟨(some 18), .sim (.mov (.t 5)), none⟩, []⟩,
  ⟨2, ⟨(some 19), .sim (.idx 5 (.t 17) (.t 18)), none⟩, []⟩,
  ⟨3, ⟨(some 20), .sim (.ld (some 5) (.t 19)), none⟩, []⟩,
  ⟨4, ⟨(some 21), .sim (.mov (.t 1)), none⟩, []⟩,
  ⟨5, ⟨(some 22), .sim (.mov (.t 5)), none⟩, []⟩,
  ⟨6, ⟨(some 23), .sim (.idx 5 (.t 21) (.t 22)), none⟩, []⟩,
  ⟨7, ⟨(some 24), .sim (.ld (some 5) (.t 23)), none⟩, []⟩,
  ⟨8, ⟨(some 25), .callp 47 [.t 20, .t 24], none⟩, []⟩,
  ⟨9, ⟨(some 26), .sim (.not (.t 25)), none⟩, []⟩]
def c_ref02_SameList_r7 : List AOper := [
  ⟨(some 4), .sim (.mov (.c (.bool false))), none⟩]
def c_ref02_SameList_r5 : List AOper := [
  ⟨(some 15), .sim (.mov (.t 5)), none⟩,
  ⟨(some 16), .sim (.bin .add (.t 15) (.c (.int .i64 1))), none⟩,
  ⟨(some 5), .sim (.mov (.t 16)), none⟩]
def c_ref02_SameList_r8 : List AOper := [
  ⟨(some 4), .sim (.mov (.c (.bool true))), none⟩]
/-- nameplan/nameplanref02.SameList -/
def c_ref02_SameList : AFunc := ⟨27, [.slot 4],
  (.seq (.reg c_ref02_SameList_r0 [0, 1]) (.seq (.seq (.reg c_ref02_SameList_r1 [0, 1, 10]) (.cond (.t 10) (.seq (.reg c_ref02_SameList_r2 [4]) .ret) .skip)) (.seq (.seq (.reg c_ref02_SameList_r3 [0, 1, 5]) (.block 0 (.loop [0, 1, 5] (.seq (.seq (.reg c_ref02_SameList_r4 [0, 1, 5, 14]) (.cond (.t 14) .skip (.exit 0))) (.seq (.block 1 (.seq (.regd c_ref02_SameList_r6 [0, 1, 5, 26]) (.cond (.t 26) (.seq (.reg c_ref02_SameList_r7 [4]) .ret) .skip))) (.reg c_ref02_SameList_r5 [0, 1, 5])))))) (.seq (.reg c_ref02_SameList_r8 [4]) .ret))))⟩
def c_steps_Valid_r0 : List AOper := [
  ⟨(some 2), .sim (.box (.t 0)), none⟩,
  ⟨(some 4), .sim (.mov (.c (.bool false))), none⟩]
def c_steps_Valid_r1 : List AOper := [
  ⟨(some 5), .sim (.ld (some 9) (.t 2)), none⟩,
  ⟨(some 6), .callp 48 [.t 5], none⟩,
  ⟨(some 7), .sim (.mov (.t 6)), none⟩,
  ⟨(some 8), .sim (.ld (some 9) (.t 2)), (some (7, true))⟩,
  ⟨(some 9), .sim (.mov (.t 1)), (some (7, true))⟩,
  ⟨(some 10), .callp 49 [.t 8, .t 9], (some (7, true))⟩,
  ⟨(some 11), .sim (.pick (.t 7) (.t 10) (.c (.bool false))), none⟩,
  ⟨(some 4), .sim (.mov (.t 11)), none⟩]
/-- nameplan/steps.Valid -/
def c_steps_Valid : AFunc := ⟨12, [.slot 4],
  (.seq (.reg c_steps_Valid_r0 [1, 2]) (.seq (.reg c_steps_Valid_r1 [4]) .ret))⟩
def c_rollback_Back_1_r0 : List AOper := [
  ⟨(some 1), .sim (.box (.t 0)), none⟩,
  ⟨(some 2), .sim (.mov (.c (.bool false))), none⟩]
def c_rollback_Back_1_r1 : List AOper := [
  ⟨(some 3), .sim (.fld 0 (.t 1)), none⟩,
  ⟨(some 4), .sim (.ld none (.t 3)), none⟩,
  ⟨(some 5), .callp 45 [.t 4], none⟩,
  ⟨(some 6), .sim (.not (.t 5)), none⟩,
  ⟨(some 7), .sim (.mov (.t 6)), none⟩,
  ⟨(some 8), .sim (.fld 1 (.t 1)), (some (7, false))⟩,
  ⟨(some 9), .sim (.ld none (.t 8)), (some (7, false))⟩,
  ⟨(some 10), .sim (.bin .lss (.t 9) (.c (.int .i64 1))), (some (7, false))⟩,
  ⟨(some 11), .sim (.pick (.t 7) (.c (.bool true)) (.t 10)), none⟩,
  ⟨(some 12), .sim (.mov (.t 11)), none⟩,
  ⟨(some 13), .sim (.fld 1 (.t 1)), (some (12, false))⟩,
  ⟨(some 14), .sim (.ld none (.t 13)), (some (12, false))⟩,
  ⟨(some 15), .sim (.bin .gtr (.t 14) (.c (.int .i64 8))), (some (12, false))⟩,
  ⟨(some 16), .sim (.pick (.t 12) (.c (.bool true)) (.t 15)), none⟩,
  ⟨(some 2), .sim (.mov (.t 16)), none⟩]
/-- nameplan/rollback.Back$1 -/
def c_rollback_Back_1 : AFunc := ⟨17, [.slot 2],
  (.seq (.reg c_rollback_Back_1_r0 [1]) (.seq (.reg c_rollback_Back_1_r1 [2]) .ret))⟩
def c_name_Valid_r0 : List AOper := [
  ⟨(some 2), .sim (.mov (.c (.bool false))), none⟩]
def c_name_Valid_r1 : List AOper := [
  ⟨(some 3), .sim (.mov (.t 0)), none⟩,
  ⟨(some 4), .callp 50 [.t 3], none⟩,
  ⟨(some 2), .sim (.mov (.t 4)), none⟩]
/-- nameplan/name.Valid -/
def c_name_Valid : AFunc := ⟨5, [.slot 2],
  (.seq (.reg c_name_Valid_r0 [0]) (.seq (.reg c_name_Valid_r1 [2]) .ret))⟩
def c_slices_ContainsFunc_Question_r0 : List AOper := [
  ⟨(some 4), .sim (.mov (.c (.bool false))), none⟩]
def c_slices_ContainsFunc_Question_r1 : List AOper := [
  ⟨(some 5), .sim (.mov (.t 0)), none⟩,
  ⟨(some 6), .sim (.mov (.t 1)), none⟩,
  ⟨(some 7), .callp 51 [.t 5, .t 6], none⟩,
  ⟨(some 8), .sim (.bin .geq (.t 7) (.c (.int .i64 0))), none⟩,
  ⟨(some 4), .sim (.mov (.t 8)), none⟩]
/-- slices.ContainsFunc[[]nameplan/api.Question,nameplan/api.Question] -/
def c_slices_ContainsFunc_Question : AFunc := ⟨9, [.slot 4],
  (.seq (.reg c_slices_ContainsFunc_Question_r0 [0, 1]) (.seq (.reg c_slices_ContainsFunc_Question_r1 [4]) .ret))⟩
def c_slices_IndexFunc_Placed_r0 : List AOper := [
  ⟨(some 4), .sim (.mov (.c (.int .i64 0))), none⟩]
def c_slices_IndexFunc_Placed_r1 : List AOper := [
  ⟨(some 6), .sim (.mov (.t 0)), none⟩,
  ⟨(some 7), .sim (.len false (.t 6)), none⟩,
  ⟨(some 8), .sim (.mov (.c (.int .i64 0))), none⟩]
def c_slices_IndexFunc_Placed_r2 : List AOper := [
  ⟨(some 9), .sim (.bin .lss (.t 8) (.t 7)), none⟩]
def c_slices_IndexFunc_Placed_r3 : List AOper := [
  ⟨(some 10), .sim (.mov (.t 8)), none⟩,
  ⟨(some 5), .sim (.mov (.t 10)), none⟩]
def c_slices_IndexFunc_Placed_r4 : List AOper := [
  ⟨(some 11), .sim (.mov (.t 1)), none⟩,
  ⟨(some 12), .sim (.mov (.t 0)), none⟩,
  ⟨(some 13), .sim (.mov (.t 5)), none⟩,
  ⟨(some 14), .sim (.idx 3 (.t 12) (.t 13)), none⟩,
  ⟨(some 15), .sim (.ld (some 3) (.t 14)), none⟩,
  ⟨(some 16), .callv (.t 11) [.t 15], none⟩]
def c_slices_IndexFunc_Placed_r5 : List AOper := [
  ⟨(some 17), .sim (.mov (.t 5)), none⟩,
  ⟨(some 4), .sim (.mov (.t 17)), none⟩]
def c_slices_IndexFunc_Placed_r6 : List AOper := [
  ⟨(some 18), .sim (.bin .add (.t 8) (.c (.int .i64 1))), none⟩,
  ⟨(some 8), .sim (.mov (.t 18)), none⟩]
def c_slices_IndexFunc_Placed_r7 : List AOper := [
  ⟨(some 4), .sim (.mov (.c (.int .i64 (-1)))), none⟩]
/-- slices.IndexFunc[[]nameplan/api.Placed,nameplan/api.Placed] -/
def c_slices_IndexFunc_Placed : AFunc := ⟨19, [.slot 4],
  (.seq (.reg c_slices_IndexFunc_Placed_r0 [0, 1]) (.seq (.seq (.reg c_slices_IndexFunc_Placed_r1 [0, 1, 7, 8]) (.block 0 (.loop [0, 1, 7, 8] (.seq (.reg c_slices_IndexFunc_Placed_r2 [0, 1, 7, 8, 9]) (.seq (.cond (.t 9) .skip (.exit 0)) (.seq (.block 1 (.seq (.reg c_slices_IndexFunc_Placed_r3 [0, 1, 5, 7, 8]) (.seq (.reg c_slices_IndexFunc_Placed_r4 [0, 1, 5, 7, 8, 16]) (.cond (.t 16) (.seq (.reg c_slices_IndexFunc_Placed_r5 [4]) .ret) .skip)))) (.reg c_slices_IndexFunc_Placed_r6 [0, 1, 7, 8]))))))) (.seq (.reg c_slices_IndexFunc_Placed_r7 [4]) .ret)))⟩
def c_slices_Clone_Signed_r0 : List AOper := [
  ⟨(some 2), .sim (.mov (.c (.slice none 0 0))), none⟩]
def c_slices_Clone_Signed_r1 : List AOper := [
  ⟨(some 3), .sim (.mov (.t 0)), none⟩,
  ⟨(some 4), .sim (.eqn false (.t 3) (.c (.slice none 0 0))), none⟩]
def c_slices_Clone_Signed_r2 : List AOper := [
  ⟨(some 2), .sim (.mov (.c (.slice none 0 0))), none⟩]
def c_slices_Clone_Signed_r3 : List AOper := [
  ⟨(some 5), .mksl 5 0 [] [], none⟩,
  ⟨(some 6), .sim (.mov (.t 0)), none⟩,
  ⟨(some 7), .app 5 80 [.string ⟨#[]⟩, .int .i64 0, .int .i64 0, .slice none 0 0, .slice none 0 0] (.t 5) (.t 6), none⟩,
  ⟨(some 2), .sim (.mov (.t 7)), none⟩]
/-- slices.Clone[[]nameplan/api.Signed,nameplan/api.Signed] -/
def c_slices_Clone_Signed : AFunc := ⟨8, [.slot 2],
  (.seq (.reg c_slices_Clone_Signed_r0 [0]) (.seq (.seq (.reg c_slices_Clone_Signed_r1 [0, 4]) (.cond (.t 4) (.seq (.reg c_slices_Clone_Signed_r2 [2]) .ret) .skip)) (.seq (.reg c_slices_Clone_Signed_r3 [2]) .ret)))⟩
def c_slices_Clone_Sig_r0 : List AOper := [
  ⟨(some 2), .sim (.mov (.c (.slice none 0 0))), none⟩]
def c_slices_Clone_Sig_r1 : List AOper := [
  ⟨(some 3), .sim (.mov (.t 0)), none⟩,
  ⟨(some 4), .sim (.eqn false (.t 3) (.c (.slice none 0 0))), none⟩]
def c_slices_Clone_Sig_r2 : List AOper := [
  ⟨(some 2), .sim (.mov (.c (.slice none 0 0))), none⟩]
def c_slices_Clone_Sig_r3 : List AOper := [
  ⟨(some 5), .mksl 6 0 [] [], none⟩,
  ⟨(some 6), .sim (.mov (.t 0)), none⟩,
  ⟨(some 7), .app 6 56 [.string ⟨#[]⟩, .int .i64 0, .int .i64 0, .int .i64 0, .int .i64 0, .int .u64 0] (.t 5) (.t 6), none⟩,
  ⟨(some 2), .sim (.mov (.t 7)), none⟩]
/-- slices.Clone[[]nameplan/api.Sig,nameplan/api.Sig] -/
def c_slices_Clone_Sig : AFunc := ⟨8, [.slot 2],
  (.seq (.reg c_slices_Clone_Sig_r0 [0]) (.seq (.seq (.reg c_slices_Clone_Sig_r1 [0, 4]) (.cond (.t 4) (.seq (.reg c_slices_Clone_Sig_r2 [2]) .ret) .skip)) (.seq (.reg c_slices_Clone_Sig_r3 [2]) .ret)))⟩
def c_world_validHosts_r0 : List AOper := [
  ⟨(some 2), .sim (.mov (.c (.bool false))), none⟩]
def c_world_validHosts_r1 : List AOper := [
  ⟨(some 6), .sim (.mov (.t 0)), none⟩,
  ⟨(some 7), .sim (.len false (.t 6)), none⟩,
  ⟨(some 8), .sim (.bin .gtr (.t 7) (.c (.int .i64 64))), none⟩]
def c_world_validHosts_r2 : List AOper := [
  ⟨(some 2), .sim (.mov (.c (.bool false))), none⟩]
def c_world_validHosts_r3 : List AOper := [
  ⟨(some 9), .mkmap none, none⟩,
  ⟨(some 3), .sim (.mov (.t 9)), none⟩]
def c_world_validHosts_r4 : List AOper := [
  ⟨(some 10), .sim (.mov (.t 0)), none⟩,
  ⟨(some 11), .sim (.len false (.t 10)), none⟩,
  ⟨(some 12), .sim (.mov (.c (.int .i64 0))), none⟩]
def c_world_validHosts_r5 : List AOper := [
  ⟨(some 13), .sim (.bin .lss (.t 12) (.t 11)), none⟩]
def c_world_validHosts_r6 : List AOper := [
  ⟨(some 14), .sim (.idx 3 (.t 10) (.t 12)), none⟩,
  ⟨(some 15), .sim (.ld (some 3) (.t 14)), none⟩,
  ⟨(some 5), .sim (.new [.string ⟨#[]⟩, .int .i64 0, .int .i64 0]), none⟩,
  ⟨none, .st 3 (.t 5) (.t 15), none⟩]
def c_world_validHosts_r7 : List AOper := [
  ⟨(some 16), .sim (.fld 0 (.t 5)), none⟩,
  ⟨(some 17), .sim (.ld none (.t 16)), none⟩,
  ⟨(some 18), .callp 45 [.t 17], none⟩,
  ⟨(some 19), .sim (.not (.t 18)), none⟩,
  ⟨(some 20), .sim (.mov (.t 19)), none⟩,
  ⟨(some 21), .sim (.fld 0 (.t 5)), (some (20, false))⟩,
  ⟨(some 22), .sim (.ld none (.t 21)), (some (20, false))⟩,
  ⟨(some 23), .callp 52 [.t 22], (some (20, false))⟩,
  ⟨(some 24), .sim (.pick (.t 20) (.c (.bool true)) (.t 23)), none⟩,
  ⟨(some 25), .sim (.mov (.t 24)), none⟩,
  ⟨(some 26), .sim (.fld 2 (.t 5)), (some (25, false))⟩,
  ⟨(some 27), .sim (.ld none (.t 26)), (some (25, false))⟩,
  ⟨(some 28), .sim (.bin .lss (.t 27) (.c (.int .i64 0))), (some (25, false))⟩,
  ⟨(some 29), .sim (.pick (.t 25) (.c (.bool true)) (.t 28)), none⟩,
  ⟨(some 30), .sim (.mov (.t 29)), none⟩,
  ⟨(some 31), .sim (.fld 2 (.t 5)), (some (30, false))⟩,
  ⟨(some 32), .sim (.ld none (.t 31)), (some (30, false))⟩,
  ⟨(some 33), .sim (.bin .geq (.t 32) (.c (.int .i64 32))), (some (30, false))⟩,
  ⟨(some 34), .sim (.pick (.t 30) (.c (.bool true)) (.t 33)), none⟩]
def c_world_validHosts_r8 : List AOper := [
  ⟨(some 2), .sim (.mov (.c (.bool false))), none⟩]
def c_world_validHosts_r9 : List AOper := [
  ⟨(some 35), .sim (.fld 1 (.t 5)), none⟩,
  ⟨(some 36), .sim (.ld none (.t 35)), none⟩,
  ⟨(some 37), .callp 53 [.t 36], none⟩,
  ⟨(some 38), .sim (.not (.t 37)), none⟩,
  ⟨(some 39), .sim (.mov (.t 38)), none⟩,
  ⟨(some 40), .sim (.mov (.t 3)), (some (39, false))⟩,
  ⟨(some 41), .sim (.fld 1 (.t 5)), (some (39, false))⟩,
  ⟨(some 42), .sim (.ld none (.t 41)), (some (39, false))⟩,
  ⟨(some 43), .look false [.i] (.bool false) false (.t 40) (.t 42), (some (39, false))⟩,
  ⟨(some 44), .sim (.pick (.t 39) (.c (.bool true)) (.t 43)), none⟩]
def c_world_validHosts_r10 : List AOper := [
  ⟨(some 2), .sim (.mov (.c (.bool false))), none⟩]
def c_world_validHosts_r11 : List AOper := [
  ⟨(some 45), .sim (.mov (.t 3)), none⟩,
  ⟨(some 46), .sim (.fld 1 (.t 5)), none⟩,
  ⟨(some 47), .sim (.ld none (.t 46)), none⟩,
  ⟨none, .upd false [.i] (.t 45) (.t 47) (.c (.bool true)), none⟩]
def c_world_validHosts_r12 : List AOper := [
  ⟨(some 48), .sim (.bin .add (.t 12) (.c (.int .i64 1))), none⟩,
  ⟨(some 12), .sim (.mov (.t 48)), none⟩]
def c_world_validHosts_r13 : List AOper := [
  ⟨(some 2), .sim (.mov (.c (.bool true))), none⟩]
/-- nameplan/world.validHosts -/
def c_world_validHosts : AFunc := ⟨49, [.slot 2],
  (.seq (.reg c_world_validHosts_r0 [0]) (.seq (.seq (.reg c_world_validHosts_r1 [0, 8]) (.cond (.t 8) (.seq (.reg c_world_validHosts_r2 [2]) .ret) .skip)) (.seq (.reg c_world_validHosts_r3 [0, 3]) (.seq (.seq (.reg c_world_validHosts_r4 [3, 10, 11, 12]) (.block 0 (.loop [3, 10, 11, 12] (.seq (.reg c_world_validHosts_r5 [3, 10, 11, 12, 13]) (.seq (.cond (.t 13) .skip (.exit 0)) (.seq (.block 1 (.seq (.reg c_world_validHosts_r6 [3, 5, 10, 11, 12]) (.seq (.seq (.reg c_world_validHosts_r7 [3, 5, 10, 11, 12, 34]) (.cond (.t 34) (.seq (.reg c_world_validHosts_r8 [2]) .ret) .skip)) (.seq (.seq (.reg c_world_validHosts_r9 [3, 5, 10, 11, 12, 44]) (.cond (.t 44) (.seq (.reg c_world_validHosts_r10 [2]) .ret) .skip)) (.reg c_world_validHosts_r11 [3, 10, 11, 12]))))) (.reg c_world_validHosts_r12 [3, 10, 11, 12]))))))) (.seq (.reg c_world_validHosts_r13 [2]) .ret)))))⟩
def c_world_validCopies_r0 : List AOper := [
  ⟨(some 1), .sim (.box (.t 0)), none⟩,
  ⟨(some 2), .sim (.mov (.c (.bool false))), none⟩]
def c_world_validCopies_r1 : List AOper := [
  ⟨(some 8), .sim (.fld 1 (.t 1)), none⟩,
  ⟨(some 9), .sim (.ld none (.t 8)), none⟩,
  ⟨(some 10), .sim (.len false (.t 9)), none⟩,
  ⟨(some 11), .sim (.bin .gtr (.t 10) (.c (.int .i64 4000))), none⟩]
def c_world_validCopies_r2 : List AOper := [
  ⟨(some 2), .sim (.mov (.c (.bool false))), none⟩]
def c_world_validCopies_r3 : List AOper := [
  ⟨(some 12), .mkmap none, none⟩,
  ⟨(some 3), .sim (.mov (.t 12)), none⟩]
def c_world_validCopies_r4 : List AOper := [
  ⟨(some 13), .mkmap none, none⟩,
  ⟨(some 4), .sim (.mov (.t 13)), none⟩]
def c_world_validCopies_r5 : List AOper := [
  ⟨(some 14), .sim (.fld 1 (.t 1)), none⟩,
  ⟨(some 15), .sim (.ld none (.t 14)), none⟩,
  ⟨(some 16), .sim (.len false (.t 15)), none⟩,
  ⟨(some 17), .sim (.mov (.c (.int .i64 0))), none⟩]
def c_world_validCopies_r6 : List AOper := [
  ⟨(some 18), .sim (.bin .lss (.t 17) (.t 16)), none⟩]
def c_world_validCopies_r7 : List AOper := [
  ⟨(some 19), .sim (.idx 3 (.t 15) (.t 17)), none⟩,
  ⟨(some 20), .sim (.ld (some 3) (.t 19)), none⟩,
  ⟨(some 6), .sim (.new [.int .i64 0, .string ⟨#[]⟩, .slice none 0 0]), none⟩,
  ⟨none, .st 3 (.t 6) (.t 20), none⟩]
def c_world_validCopies_r8 : List AOper := [
  ⟨(some 21), .sim (.fld 0 (.t 6)), none⟩,
  ⟨(some 22), .sim (.ld none (.t 21)), none⟩,
  ⟨(some 23), .sim (.fld 1 (.t 6)), none⟩,
  ⟨(some 24), .sim (.fld 0 (.t 23)), none⟩,
  ⟨(some 25), .sim (.ld none (.t 24)), none⟩,
  ⟨(some 26), .sim (.bld [.int .i64 0, .string ⟨#[]⟩] [(0, 1, .t 22), (1, 1, .t 25)]), none⟩,
  ⟨(some 7), .sim (.new [.int .i64 0, .string ⟨#[]⟩]), none⟩,
  ⟨none, .st 2 (.t 7) (.t 26), none⟩]
def c_world_validCopies_r9 : List AOper := [
  ⟨(some 27), .sim (.fld 0 (.t 6)), none⟩,
  ⟨(some 28), .sim (.ld none (.t 27)), none⟩,
  ⟨(some 29), .sim (.bin .lss (.t 28) (.c (.int .i64 0))), none⟩,
  ⟨(some 30), .sim (.mov (.t 29)), none⟩,
  ⟨(some 31), .sim (.fld 0 (.t 6)), (some (30, false))⟩,
  ⟨(some 32), .sim (.ld none (.t 31)), (some (30, false))⟩,
  ⟨(some 33), .sim (.fld 0 (.t 1)), (some (30, false))⟩,
  ⟨(some 34), .sim (.ld none (.t 33)), (some (30, false))⟩,
  ⟨(some 35), .sim (.len false (.t 34)), (some (30, false))⟩,
  ⟨(some 36), .sim (.bin .geq (.t 32) (.t 35)), (some (30, false))⟩,
  ⟨(some 37), .sim (.pick (.t 30) (.c (.bool true)) (.t 36)), none⟩,
  ⟨(some 38), .sim (.mov (.t 37)), none⟩,
  ⟨(some 39), .sim (.mov (.t 3)), (some (38, false))⟩,
  ⟨(some 40), .sim (.ld (some 2) (.t 7)), (some (38, false))⟩,
  ⟨(some 41), .look true [.i, .s] (.bool false) false (.t 39) (.t 40), (some (38, false))⟩,
  ⟨(some 42), .sim (.pick (.t 38) (.c (.bool true)) (.t 41)), none⟩,
  ⟨(some 43), .sim (.mov (.t 42)), none⟩,
  ⟨(some 44), .sim (.fld 1 (.t 6)), (some (43, false))⟩,
  ⟨(some 45), .sim (.ld (some 2) (.t 44)), (some (43, false))⟩,
  ⟨(some 46), .callp 43 [.t 45], (some (43, false))⟩,
  ⟨(some 47), .sim (.not (.t 46)), (some (43, false))⟩,
  ⟨(some 48), .sim (.pick (.t 43) (.c (.bool true)) (.t 47)), none⟩]
def c_world_validCopies_r10 : List AOper := [
  ⟨(some 2), .sim (.mov (.c (.bool false))), none⟩]
def c_world_validCopies_r11 : List AOper := [
  ⟨(some 49), .sim (.mov (.t 3)), none⟩,
  ⟨(some 50), .sim (.ld (some 2) (.t 7)), none⟩,
  ⟨none, .upd true [.i, .s] (.t 49) (.t 50) (.c (.bool true)), none⟩]
def c_world_validCopies_r12 : List AOper := [
  ⟨(some 51), .sim (.mov (.t 4)), none⟩,
  ⟨(some 52), .sim (.fld 1 (.t 6)), none⟩,
  ⟨(some 53), .sim (.fld 0 (.t 52)), none⟩,
  ⟨(some 54), .sim (.ld none (.t 53)), none⟩,
  ⟨none, .upd false [.s] (.t 51) (.t 54) (.c (.bool true)), none⟩]
def c_world_validCopies_r13 : List AOper := [
  ⟨(some 55), .sim (.bin .add (.t 17) (.c (.int .i64 1))), none⟩,
  ⟨(some 17), .sim (.mov (.t 55)), none⟩]
def c_world_validCopies_r14 : List AOper := [
  ⟨(some 56), .sim (.mov (.t 4)), none⟩,
  ⟨(some 57), .mlen (.t 56), none⟩,
  ⟨(some 58), .sim (.bin .leq (.t 57) (.c (.int .i64 500))), none⟩,
  ⟨(some 2), .sim (.mov (.t 58)), none⟩]
/-- nameplan/world.validCopies -/
def c_world_validCopies : AFunc := ⟨59, [.slot 2],
  (.seq (.reg c_world_validCopies_r0 [1]) (.seq (.seq (.reg c_world_validCopies_r1 [1, 11]) (.cond (.t 11) (.seq (.reg c_world_validCopies_r2 [2]) .ret) .skip)) (.seq (.reg c_world_validCopies_r3 [1, 3]) (.seq (.reg c_world_validCopies_r4 [1, 3, 4]) (.seq (.seq (.reg c_world_validCopies_r5 [1, 3, 4, 15, 16, 17]) (.block 0 (.loop [1, 3, 4, 15, 16, 17] (.seq (.reg c_world_validCopies_r6 [1, 3, 4, 15, 16, 17, 18]) (.seq (.cond (.t 18) .skip (.exit 0)) (.seq (.block 1 (.seq (.reg c_world_validCopies_r7 [1, 3, 4, 6, 15, 16, 17]) (.seq (.reg c_world_validCopies_r8 [1, 3, 4, 6, 7, 15, 16, 17]) (.seq (.seq (.reg c_world_validCopies_r9 [1, 3, 4, 6, 7, 15, 16, 17, 48]) (.cond (.t 48) (.seq (.reg c_world_validCopies_r10 [2]) .ret) .skip)) (.seq (.reg c_world_validCopies_r11 [1, 3, 4, 6, 15, 16, 17]) (.reg c_world_validCopies_r12 [1, 3, 4, 15, 16, 17])))))) (.reg c_world_validCopies_r13 [1, 3, 4, 15, 16, 17]))))))) (.seq (.reg c_world_validCopies_r14 [2]) .ret))))))⟩
def c_world_validRoot_r0 : List AOper := [
  ⟨(some 2), .sim (.box (.t 0)), none⟩,
  ⟨(some 4), .sim (.mov (.c (.bool false))), none⟩]
def c_world_validRoot_r1 : List AOper := [
  ⟨(some 5), .sim (.ld (some 4) (.t 2)), none⟩,
  ⟨(some 6), .callp 54 [.t 5], none⟩,
  ⟨(some 7), .sim (.not (.t 6)), none⟩,
  ⟨(some 8), .sim (.mov (.t 7)), none⟩,
  ⟨(some 9), .sim (.fld 1 (.t 2)), (some (8, false))⟩,
  ⟨(some 10), .sim (.ld none (.t 9)), (some (8, false))⟩,
  ⟨(some 11), .sim (.bin .neq (.t 10) (.c (.int .i64 6))), (some (8, false))⟩,
  ⟨(some 12), .sim (.pick (.t 8) (.c (.bool true)) (.t 11)), none⟩,
  ⟨(some 13), .sim (.mov (.t 12)), none⟩,
  ⟨(some 14), .sim (.fld 0 (.t 2)), (some (13, false))⟩,
  ⟨(some 15), .sim (.ld none (.t 14)), (some (13, false))⟩,
  ⟨(some 16), .sim (.bin .neq (.t 15) (.c (.string ⟨#[46]⟩))), (some (13, false))⟩,
  ⟨(some 17), .sim (.pick (.t 13) (.c (.bool true)) (.t 16)), none⟩]
def c_world_validRoot_r2 : List AOper := [
  ⟨(some 4), .sim (.mov (.c (.bool false))), none⟩]
def c_world_validRoot_r3 : List AOper := [
  ⟨(some 18), .sim (.mov (.t 1)), none⟩,
  ⟨(some 19), .sim (.len false (.t 18)), none⟩,
  ⟨(some 20), .sim (.bin .lss (.t 19) (.c (.int .i64 1))), none⟩,
  ⟨(some 21), .sim (.mov (.t 20)), none⟩,
  ⟨(some 22), .sim (.mov (.t 1)), (some (21, false))⟩,
  ⟨(some 23), .sim (.len false (.t 22)), (some (21, false))⟩,
  ⟨(some 24), .sim (.bin .gtr (.t 23) (.c (.int .i64 8))), (some (21, false))⟩,
  ⟨(some 25), .sim (.pick (.t 21) (.c (.bool true)) (.t 24)), none⟩]
def c_world_validRoot_r4 : List AOper := [
  ⟨(some 4), .sim (.mov (.c (.bool false))), none⟩]
def c_world_validRoot_r5 : List AOper := [
  ⟨(some 26), .sim (.mov (.t 1)), none⟩,
  ⟨(some 27), .callp 56 [.t 26, .f 55], none⟩,
  ⟨(some 28), .sim (.not (.t 27)), none⟩,
  ⟨(some 4), .sim (.mov (.t 28)), none⟩]
/-- nameplan/world.validRoot -/
def c_world_validRoot : AFunc := ⟨29, [.slot 4],
  (.seq (.reg c_world_validRoot_r0 [1, 2]) (.seq (.seq (.reg c_world_validRoot_r1 [1, 17]) (.cond (.t 17) (.seq (.reg c_world_validRoot_r2 [4]) .ret) .skip)) (.seq (.seq (.reg c_world_validRoot_r3 [1, 25]) (.cond (.t 25) (.seq (.reg c_world_validRoot_r4 [4]) .ret) .skip)) (.seq (.reg c_world_validRoot_r5 [4]) .ret))))⟩
def c_zone_Valid_r0 : List AOper := [
  ⟨(some 1), .sim (.box (.t 0)), none⟩,
  ⟨(some 2), .sim (.mov (.c (.bool false))), none⟩]
def c_zone_Valid_r1 : List AOper := [
  ⟨(some 5), .sim (.ld (some 2) (.t 1)), none⟩,
  ⟨(some 6), .sim (.bld [.string ⟨#[]⟩, .slice none 0 0] [(0, 2, .t 5)]), none⟩,
  ⟨(some 3), .sim (.new [.string ⟨#[]⟩, .slice none 0 0]), none⟩,
  ⟨none, .st 2 (.t 3) (.t 6), none⟩]
def c_zone_Valid_r2 : List AOper := [
  ⟨(some 7), .sim (.ld (some 2) (.t 3)), none⟩,
  ⟨(some 8), .callp 57 [.t 7], none⟩,
  ⟨(some 9), .sim (.not (.t 8)), none⟩,
  ⟨(some 10), .sim (.mov (.t 9)), none⟩,
  ⟨(some 11), .sim (.ld (some 2) (.t 3)), (some (10, false))⟩,
  ⟨(some 12), .callp 58 [.t 11], (some (10, false))⟩,
  ⟨(some 13), .sim (.not (.t 12)), (some (10, false))⟩,
  ⟨(some 14), .sim (.pick (.t 10) (.c (.bool true)) (.t 13)), none⟩]
def c_zone_Valid_r3 : List AOper := [
  ⟨(some 2), .sim (.mov (.c (.bool false))), none⟩]
def c_zone_Valid_r4 : List AOper := [
  ⟨(some 15), .sim (.ld (some 2) (.t 3)), none⟩,
  ⟨(some 16), .call 59 [.t 15], none⟩,
  ⟨(some 4), .sim (.new [.string ⟨#[]⟩, .slice none 0 0, .slice none 0 0]), none⟩,
  ⟨none, .st 3 (.t 4) (.t 16), none⟩]
def c_zone_Valid_r5 : List AOper := [
  ⟨(some 17), .sim (.ld (some 3) (.t 4)), none⟩,
  ⟨(some 18), .callp 60 [.t 17], none⟩,
  ⟨(some 19), .sim (.mov (.t 18)), none⟩,
  ⟨(some 20), .sim (.ld (some 3) (.t 4)), (some (19, true))⟩,
  ⟨(some 21), .callp 61 [.t 20], (some (19, true))⟩,
  ⟨(some 22), .sim (.pick (.t 19) (.t 21) (.c (.bool false))), none⟩,
  ⟨(some 23), .sim (.mov (.t 22)), none⟩,
  ⟨(some 24), .sim (.ld (some 3) (.t 4)), (some (23, true))⟩,
  ⟨(some 25), .callp 62 [.t 24], (some (23, true))⟩,
  ⟨(some 26), .sim (.pick (.t 23) (.t 25) (.c (.bool false))), none⟩,
  ⟨(some 27), .sim (.mov (.t 26)), none⟩,
  ⟨(some 28), .sim (.ld (some 3) (.t 4)), (some (27, true))⟩,
  ⟨(some 29), .callp 63 [.t 28], (some (27, true))⟩,
  ⟨(some 30), .sim (.pick (.t 27) (.t 29) (.c (.bool false))), none⟩,
  ⟨(some 2), .sim (.mov (.t 30)), none⟩]
/-- nameplan/zone.Valid -/
def c_zone_Valid : AFunc := ⟨31, [.slot 2],
  (.seq (.reg c_zone_Valid_r0 [1]) (.seq (.reg c_zone_Valid_r1 [3]) (.seq (.seq (.reg c_zone_Valid_r2 [3, 14]) (.cond (.t 14) (.seq (.reg c_zone_Valid_r3 [2]) .ret) .skip)) (.seq (.reg c_zone_Valid_r4 [4]) (.seq (.reg c_zone_Valid_r5 [2]) .ret)))))⟩
def c_strings_HasPrefix_r0 : List AOper := [
  ⟨(some 4), .sim (.mov (.c (.bool false))), none⟩]
def c_strings_HasPrefix_r1 : List AOper := [
  ⟨(some 5), .sim (.mov (.t 0)), none⟩,
  ⟨(some 6), .sim (.mov (.t 1)), none⟩,
  ⟨(some 7), .callp 64 [.t 5, .t 6], none⟩,
  ⟨(some 4), .sim (.mov (.t 7)), none⟩]
/-- strings.HasPrefix -/
def c_strings_HasPrefix : AFunc := ⟨8, [.slot 4],
  (.seq (.reg c_strings_HasPrefix_r0 [0, 1]) (.seq (.reg c_strings_HasPrefix_r1 [4]) .ret))⟩
def c_ref02_Same_r0 : List AOper := [
  ⟨(some 2), .sim (.box (.t 0)), none⟩,
  ⟨(some 3), .sim (.box (.t 1)), none⟩,
  ⟨(some 4), .sim (.mov (.c (.bool false))), none⟩]
def c_ref02_Same_r1 : List AOper := [
  ⟨(some 6), .sim (.fld 0 (.t 2)), none⟩,
  ⟨(some 7), .sim (.ld none (.t 6)), none⟩,
  ⟨(some 8), .sim (.fld 0 (.t 3)), none⟩,
  ⟨(some 9), .sim (.ld none (.t 8)), none⟩,
  ⟨(some 10), .sim (.bin .neq (.t 7) (.t 9)), none⟩,
  ⟨(some 11), .sim (.mov (.t 10)), none⟩,
  ⟨(some 12), .sim (.fld 1 (.t 2)), (some (11, false))⟩,
  ⟨(some 13), .sim (.ld none (.t 12)), (some (11, false))⟩,
  ⟨(some 14), .sim (.fld 1 (.t 3)), (some (11, false))⟩,
  ⟨(some 15), .sim (.ld none (.t 14)), (some (11, false))⟩,
  ⟨(some 16), .sim (.bin .neq (.t 13) (.t 15)), (some (11, false))⟩,
  ⟨(some 17), .sim (.pick (.t 11) (.c (.bool true)) (.t 16)), none⟩,
  ⟨(some 18), .sim (.mov (.t 17)), none⟩,
  ⟨(some 19), .sim (.fld 2 (.t 2)), (some (18, false))⟩,
  ⟨(some 20), .sim (.ld none (.t 19)), (some (18, false))⟩,
  ⟨(some 21), .sim (.fld 2 (.t 3)), (some (18, false))⟩,
  ⟨(some 22), .sim (.ld none (.t 21)), (some (18, false))⟩,
  ⟨(some 23), .sim (.bin .neq (.t 20) (.t 22)), (some (18, false))⟩,
  ⟨(some 24), .sim (.pick (.t 18) (.c (.bool true)) (.t 23)), none⟩,
  ⟨(some 25), .sim (.mov (.t 24)), none⟩,
  ⟨(some 26), .sim (.fld 3 (.t 2)), (some (25, false))⟩,
  ⟨(some 27), .sim (.ld none (.t 26)), (some (25, false))⟩,
  ⟨(some 28), .sim (.len false (.t 27)), (some (25, false))⟩,
  ⟨(some 29), .sim (.fld 3 (.t 3)), (some (25, false))⟩,
  ⟨(some 30), .sim (.ld none (.t 29)), (some (25, false))⟩,
  ⟨(some 31), .sim (.len false (.t 30)), (some (25, false))⟩,
  ⟨(some 32), .sim (.bin .neq (.t 28) (.t 31)), (some (25, false))⟩,
  ⟨(some 33), .sim (.pick (.t 25) (.c (.bool true)) (.t 32)), none⟩]
def c_ref02_Same_r2 : List AOper := [
  ⟨(some 4), .sim (.mov (.c (.bool false))), none⟩]
def c_ref02_Same_r3 : List AOper := [
  ⟨(some 5), .sim (.mov (.c (.int .i64 0))), none⟩]
def c_ref02_Same_r4 : List AOper := [
  ⟨(some 34), .sim (.mov (.t 5)), none⟩,
  ⟨(some 35), .sim (.fld 3 (.t 2)), none⟩,
  ⟨(some 36), .sim (.ld none (.t 35)), none⟩,
  ⟨(some 37), .sim (.len false (.t 36)), none⟩,
  ⟨(some 38), .sim (.bin .lss (.t 34) (.t 37)), none⟩]
def c_ref02_Same_r6 : List DOp := [
  ⟨0, ⟨(some 41), .sim (.fld 3 (.t 2)), none⟩, []⟩,
  ⟨1, ⟨(some 42), .sim (.ld none (.t 41)), none⟩, []⟩,
  ⟨2, ⟨(some 43), .sim (.mov (.t 5)), none⟩, []⟩,
  ⟨3, ⟨(some 44), .sim (.idx 3 (.t 42) (.t 43)), none⟩, []⟩,
  ⟨4, ⟨(some 45), .sim (.ld (some 3) (.t 44)), none⟩, []⟩,
  ⟨5, ⟨(some 46), .sim (.fld 3 (.t 3)), none⟩, []⟩,
  ⟨6, ⟨(some 47), .sim (.ld none (.t 46)), none⟩, []⟩,
  ⟨7, ⟨(some 48), .sim (.mov (.t 5)), none⟩, []⟩,
  ⟨8, ⟨(some 49), .sim (.idx 3 (.t 47) (.t 48)), none⟩, []⟩,
  ⟨9, ⟨(some 50), .sim (.ld (some 3) (.t 49)), none⟩, []⟩,
  ⟨10, ⟨(some 51), .sim (.eqs true [.s, .i, .i] (.t 45) (.t 50)), none⟩, []⟩]
def c_ref02_Same_r7 : List AOper := [
  ⟨(some 4), .sim (.mov (.c (.bool false))), none⟩]
def c_ref02_Same_r5 : List AOper := [
  ⟨(some 39), .sim (.mov (.t 5)), none⟩,
  ⟨(some 40), .sim (.bin .add (.t 39) (.c (.int .i64 1))), none⟩,
  ⟨(some 5), .sim (.mov (.t 40)), none⟩]
def c_ref02_Same_r8 : List AOper := [
  ⟨(some 4), .sim (.mov (.c (.bool true))), none⟩]
/-- nameplan/nameplanref02.Same -/
def c_ref02_Same : AFunc := ⟨52, [.slot 4],
  (.seq (.reg c_ref02_Same_r0 [2, 3]) (.seq (.seq (.reg c_ref02_Same_r1 [2, 3, 33]) (.cond (.t 33) (.seq (.reg c_ref02_Same_r2 [4]) .ret) .skip)) (.seq (.seq (.reg c_ref02_Same_r3 [2, 3, 5]) (.block 0 (.loop [2, 3, 5] (.seq (.seq (.reg c_ref02_Same_r4 [2, 3, 5, 38]) (.cond (.t 38) .skip (.exit 0))) (.seq (.block 1 (.seq (.regd c_ref02_Same_r6 [2, 3, 5, 51]) (.cond (.t 51) (.seq (.reg c_ref02_Same_r7 [4]) .ret) .skip))) (.reg c_ref02_Same_r5 [2, 3, 5])))))) (.seq (.reg c_ref02_Same_r8 [4]) .ret))))⟩
def c_ref02_SameSigned_r0 : List AOper := [
  ⟨(some 2), .sim (.box (.t 0)), none⟩,
  ⟨(some 3), .sim (.box (.t 1)), none⟩,
  ⟨(some 4), .sim (.mov (.c (.bool false))), none⟩]
def c_ref02_SameSigned_r1 : List AOper := [
  ⟨(some 6), .sim (.fld 0 (.t 2)), none⟩,
  ⟨(some 7), .sim (.ld (some 4) (.t 6)), none⟩,
  ⟨(some 8), .sim (.fld 0 (.t 3)), none⟩,
  ⟨(some 9), .sim (.ld (some 4) (.t 8)), none⟩,
  ⟨(some 10), .callp 46 [.t 7, .t 9], none⟩,
  ⟨(some 11), .sim (.not (.t 10)), none⟩,
  ⟨(some 12), .sim (.mov (.t 11)), none⟩,
  ⟨(some 13), .sim (.fld 4 (.t 2)), (some (12, false))⟩,
  ⟨(some 14), .sim (.ld none (.t 13)), (some (12, false))⟩,
  ⟨(some 15), .sim (.len false (.t 14)), (some (12, false))⟩,
  ⟨(some 16), .sim (.fld 4 (.t 3)), (some (12, false))⟩,
  ⟨(some 17), .sim (.ld none (.t 16)), (some (12, false))⟩,
  ⟨(some 18), .sim (.len false (.t 17)), (some (12, false))⟩,
  ⟨(some 19), .sim (.bin .neq (.t 15) (.t 18)), (some (12, false))⟩,
  ⟨(some 20), .sim (.pick (.t 12) (.c (.bool true)) (.t 19)), none⟩]
def c_ref02_SameSigned_r2 : List AOper := [
  ⟨(some 4), .sim (.mov (.c (.bool false))), none⟩]
def c_ref02_SameSigned_r3 : List AOper := [
  ⟨(some 5), .sim (.mov (.c (.int .i64 0))), none⟩]
def c_ref02_SameSigned_r4 : List AOper := [
  ⟨(some 21), .sim (.mov (.t 5)), none⟩,
  ⟨(some 22), .sim (.fld 4 (.t 2)), none⟩,
  ⟨(some 23), .sim (.ld none (.t 22)), none⟩,
  ⟨(some 24), .sim (.len false (.t 23)), none⟩,
  ⟨(some 25), .sim (.bin .lss (.t 21) (.t 24)), none⟩]
def c_ref02_SameSigned_r6 : List DOp := [
  ⟨0, ⟨(some 28), .sim (.fld 4 (.t 2)), none⟩, []⟩,
  ⟨1, ⟨(some 29), .sim (.ld none (.t 28)), none⟩, []⟩,
  ⟨2, ⟨(some 30), .sim (.mov (.t 5)), none⟩, []⟩,
  ⟨3, ⟨(some 31), .sim (.idx 6 (.t 29) (.t 30)), none⟩, []⟩,
  ⟨4, ⟨(some 32), .sim (.ld (some 6) (.t 31)), none⟩, []⟩,
  ⟨5, ⟨(some 33), .sim (.fld 4 (.t 3)), none⟩, []⟩,
  ⟨6, ⟨(some 34), .sim (.ld none (.t 33)), none⟩, []⟩,
  ⟨7, ⟨(some 35), .sim (.mov (.t 5)), none⟩, []⟩,
  ⟨8, ⟨(some 36), .sim (.idx 6 (.t 34) (.t 35)), none⟩, []⟩,
  ⟨9, ⟨(some 37), .sim (.ld (some 6) (.t 36)), none⟩, []⟩,
  ⟨10, ⟨(some 38), .sim (.eqs true [.s, .i, .i, .i, .i, .i] (.t 32) (.t 37)), none⟩, []⟩]
def c_ref02_SameSigned_r7 : List AOper := [
  ⟨(some 4), .sim (.mov (.c (.bool false))), none⟩]
def c_ref02_SameSigned_r5 : List AOper := [
  ⟨(some 26), .sim (.mov (.t 5)), none⟩,
  ⟨(some 27), .sim (.bin .add (.t 26) (.c (.int .i64 1))), none⟩,
  ⟨(some 5), .sim (.mov (.t 27)), none⟩]
def c_ref02_SameSigned_r8 : List AOper := [
  ⟨(some 4), .sim (.mov (.c (.bool true))), none⟩]
/-- nameplan/nameplanref02.SameSigned -/
def c_ref02_SameSigned : AFunc := ⟨39, [.slot 4],
  (.seq (.reg c_ref02_SameSigned_r0 [2, 3]) (.seq (.seq (.reg c_ref02_SameSigned_r1 [2, 3, 20]) (.cond (.t 20) (.seq (.reg c_ref02_SameSigned_r2 [4]) .ret) .skip)) (.seq (.seq (.reg c_ref02_SameSigned_r3 [2, 3, 5]) (.block 0 (.loop [2, 3, 5] (.seq (.seq (.reg c_ref02_SameSigned_r4 [2, 3, 5, 25]) (.cond (.t 25) .skip (.exit 0))) (.seq (.block 1 (.seq (.regd c_ref02_SameSigned_r6 [2, 3, 5, 38]) (.cond (.t 38) (.seq (.reg c_ref02_SameSigned_r7 [4]) .ret) .skip))) (.reg c_ref02_SameSigned_r5 [2, 3, 5])))))) (.seq (.reg c_ref02_SameSigned_r8 [4]) .ret))))⟩
def c_steps_stepsOK_r0 : List AOper := [
  ⟨(some 2), .sim (.box (.t 0)), none⟩,
  ⟨(some 4), .sim (.mov (.c (.bool false))), none⟩]
def c_steps_stepsOK_r1 : List AOper := [
  ⟨(some 8), .sim (.mov (.t 1)), none⟩,
  ⟨(some 9), .sim (.len false (.t 8)), none⟩,
  ⟨(some 10), .sim (.bin .gtr (.t 9) (.c (.int .i64 400))), none⟩]
def c_steps_stepsOK_r2 : List AOper := [
  ⟨(some 4), .sim (.mov (.c (.bool false))), none⟩]
def c_steps_stepsOK_r3 : List AOper := [
  ⟨(some 5), .sim (.mov (.c (.int .i64 (-1)))), none⟩]
def c_steps_stepsOK_r4 : List AOper := [
  ⟨(some 11), .sim (.mov (.t 1)), none⟩,
  ⟨(some 12), .sim (.len false (.t 11)), none⟩,
  ⟨(some 13), .sim (.mov (.c (.int .i64 0))), none⟩]
def c_steps_stepsOK_r5 : List AOper := [
  ⟨(some 14), .sim (.bin .lss (.t 13) (.t 12)), none⟩]
def c_steps_stepsOK_r6 : List AOper := [
  ⟨(some 15), .sim (.idx 2 (.t 11) (.t 13)), none⟩,
  ⟨(some 16), .sim (.ld (some 2) (.t 15)), none⟩,
  ⟨(some 7), .sim (.new [.int .i64 0, .slice none 0 0]), none⟩,
  ⟨none, .st 2 (.t 7) (.t 16), none⟩]
def c_steps_stepsOK_r7 : List AOper := [
  ⟨(some 17), .sim (.fld 0 (.t 7)), none⟩,
  ⟨(some 18), .sim (.ld none (.t 17)), none⟩,
  ⟨(some 19), .sim (.mov (.t 5)), none⟩,
  ⟨(some 20), .sim (.bin .leq (.t 18) (.t 19)), none⟩,
  ⟨(some 21), .sim (.mov (.t 20)), none⟩,
  ⟨(some 22), .sim (.fld 0 (.t 7)), (some (21, false))⟩,
  ⟨(some 23), .sim (.ld none (.t 22)), (some (21, false))⟩,
  ⟨(some 24), .sim (.fld 8 (.t 2)), (some (21, false))⟩,
  ⟨(some 25), .sim (.ld none (.t 24)), (some (21, false))⟩,
  ⟨(some 26), .sim (.bin .geq (.t 23) (.t 25)), (some (21, false))⟩,
  ⟨(some 27), .sim (.pick (.t 21) (.c (.bool true)) (.t 26)), none⟩,
  ⟨(some 28), .sim (.mov (.t 27)), none⟩,
  ⟨(some 29), .sim (.fld 1 (.t 7)), (some (28, false))⟩,
  ⟨(some 30), .sim (.ld (some 1) (.t 29)), (some (28, false))⟩,
  ⟨(some 31), .sim (.fld 0 (.t 2)), (some (28, false))⟩,
  ⟨(some 32), .sim (.ld none (.t 31)), (some (28, false))⟩,
  ⟨(some 33), .sim (.len false (.t 32)), (some (28, false))⟩,
  ⟨(some 34), .callp 15 [.t 30, .t 33], (some (28, false))⟩,
  ⟨(some 35), .sim (.not (.t 34)), (some (28, false))⟩,
  ⟨(some 36), .sim (.pick (.t 28) (.c (.bool true)) (.t 35)), none⟩]
def c_steps_stepsOK_r8 : List AOper := [
  ⟨(some 4), .sim (.mov (.c (.bool false))), none⟩]
def c_steps_stepsOK_r9 : List AOper := [
  ⟨(some 37), .sim (.fld 0 (.t 7)), none⟩,
  ⟨(some 38), .sim (.ld none (.t 37)), none⟩,
  ⟨(some 5), .sim (.mov (.t 38)), none⟩]
def c_steps_stepsOK_r10 : List AOper := [
  ⟨(some 39), .sim (.bin .add (.t 13) (.c (.int .i64 1))), none⟩,
  ⟨(some 13), .sim (.mov (.t 39)), none⟩]
def c_steps_stepsOK_r11 : List AOper := [
  ⟨(some 4), .sim (.mov (.c (.bool true))), none⟩]
/-- nameplan/steps.stepsOK -/
def c_steps_stepsOK : AFunc := ⟨40, [.slot 4],
  (.seq (.reg c_steps_stepsOK_r0 [1, 2]) (.seq (.seq (.reg c_steps_stepsOK_r1 [1, 2, 10]) (.cond (.t 10) (.seq (.reg c_steps_stepsOK_r2 [4]) .ret) .skip)) (.seq (.reg c_steps_stepsOK_r3 [1, 2, 5]) (.seq (.seq (.reg c_steps_stepsOK_r4 [2, 5, 11, 12, 13]) (.block 0 (.loop [2, 5, 11, 12, 13] (.seq (.reg c_steps_stepsOK_r5 [2, 5, 11, 12, 13, 14]) (.seq (.cond (.t 14) .skip (.exit 0)) (.seq (.block 1 (.seq (.reg c_steps_stepsOK_r6 [2, 5, 7, 11, 12, 13]) (.seq (.seq (.reg c_steps_stepsOK_r7 [2, 7, 11, 12, 13, 36]) (.cond (.t 36) (.seq (.reg c_steps_stepsOK_r8 [4]) .ret) .skip)) (.reg c_steps_stepsOK_r9 [2, 5, 11, 12, 13])))) (.reg c_steps_stepsOK_r10 [2, 5, 11, 12, 13]))))))) (.seq (.reg c_steps_stepsOK_r11 [4]) .ret)))))⟩
def c_name_text_valid_r0 : List AOper := [
  ⟨(some 2), .newH [.bool false], none⟩]
def c_name_text_valid_r1 : List AOper := [
  ⟨(some 6), .sim (.mov (.t 0)), none⟩,
  ⟨(some 7), .sim (.bin .eql (.t 6) (.c (.string ⟨#[46]⟩))), none⟩]
def c_name_text_valid_r2 : List AOper := [
  ⟨none, .st 1 (.t 2) (.c (.bool true)), none⟩]
def c_name_text_valid_r3 : List AOper := [
  ⟨(some 8), .sim (.mov (.t 0)), none⟩,
  ⟨(some 9), .sim (.len true (.t 8)), none⟩,
  ⟨(some 10), .sim (.bin .gtr (.t 9) (.c (.int .i64 60))), none⟩]
def c_name_text_valid_r4 : List AOper := [
  ⟨none, .st 1 (.t 2) (.c (.bool false)), none⟩]
def c_name_text_valid_r5 : List AOper := [
  ⟨(some 3), .newH [.int .i64 0], none⟩,
  ⟨(some 4), .newH [.bool false], none⟩,
  ⟨none, .st 1 (.t 3) (.c (.int .i64 0)), none⟩,
  ⟨none, .st 1 (.t 4) (.c (.bool false)), none⟩]
def c_name_text_valid_r6 : List AOper := [
  ⟨(some 11), .sim (.mov (.t 0)), none⟩,
  ⟨(some 12), .sim (.mkf 65 [.t 11] []), none⟩]
def c_name_text_valid_r7 : List AOper := [
  ⟨(some 5), .sim (.mov (.t 13)), none⟩]
def c_name_text_valid_r8 : List AOper := [
  ⟨(some 14), .sim (.ld none (.t 3)), none⟩,
  ⟨(some 15), .sim (.bin .add (.t 14) (.c (.int .i64 1))), none⟩,
  ⟨none, .st 1 (.t 3) (.t 15), none⟩]
def c_name_text_valid_r9 : List AOper := [
  ⟨(some 16), .sim (.ld none (.t 4)), none⟩,
  ⟨(some 17), .sim (.mov (.t 16)), none⟩,
  ⟨(some 18), .sim (.ld none (.t 3)), (some (17, false))⟩,
  ⟨(some 19), .sim (.bin .gtr (.t 18) (.c (.int .i64 8))), (some (17, false))⟩,
  ⟨(some 20), .sim (.pick (.t 17) (.c (.bool true)) (.t 19)), none⟩]
def c_name_text_valid_r10 : List AOper := [
  ⟨none, .st 1 (.t 2) (.c (.bool false)), none⟩]
def c_name_text_valid_r11 : List AOper := [
  ⟨(some 21), .sim (.mov (.t 5)), none⟩,
  ⟨(some 22), .sim (.bin .eql (.t 21) (.c (.string ⟨#[42]⟩))), none⟩,
  ⟨none, .st 1 (.t 4) (.t 22), none⟩]
def c_name_text_valid_r12 : List AOper := [
  ⟨(some 23), .sim (.ld none (.t 4)), none⟩,
  ⟨(some 24), .sim (.not (.t 23)), none⟩,
  ⟨(some 25), .sim (.mov (.t 24)), none⟩,
  ⟨(some 26), .sim (.mov (.t 5)), (some (25, true))⟩,
  ⟨(some 27), .callp 66 [.t 26], (some (25, true))⟩,
  ⟨(some 28), .sim (.not (.t 27)), (some (25, true))⟩,
  ⟨(some 29), .sim (.pick (.t 25) (.t 28) (.c (.bool false))), none⟩]
def c_name_text_valid_r13 : List AOper := [
  ⟨none, .st 1 (.t 2) (.c (.bool false)), none⟩]
def c_name_text_valid_r14 : List AOper := [
  ⟨none, .st 1 (.t 2) (.c (.bool true)), none⟩]
/-- (nameplan/name.text).valid -/
def c_name_text_valid : AFunc := ⟨30, [.cell 2 none],
  (.seq (.reg c_name_text_valid_r0 [0, 2]) (.seq (.seq (.reg c_name_text_valid_r1 [0, 2, 7]) (.cond (.t 7) (.seq (.reg c_name_text_valid_r2 [2]) .ret) .skip)) (.seq (.seq (.reg c_name_text_valid_r3 [0, 2, 10]) (.cond (.t 10) (.seq (.reg c_name_text_valid_r4 [2]) .ret) .skip)) (.seq (.reg c_name_text_valid_r5 [0, 2, 3, 4]) (.seq (.seq (.reg c_name_text_valid_r6 [2, 3, 4, 12]) (.block 0 (.rangeF (.t 12) [13] (.reg c_name_text_valid_r7 [2, 3, 4, 5]) (.block 1 (.seq (.reg c_name_text_valid_r8 [2, 3, 4, 5]) (.seq (.seq (.reg c_name_text_valid_r9 [2, 4, 5, 20]) (.cond (.t 20) (.seq (.reg c_name_text_valid_r10 []) .ret) .skip)) (.seq (.reg c_name_text_valid_r11 [2, 4, 5]) (.seq (.reg c_name_text_valid_r12 [2, 29]) (.cond (.t 29) (.seq (.reg c_name_text_valid_r13 []) .ret) .skip))))))))) (.seq (.reg c_name_text_valid_r14 [2]) .ret))))))⟩
def c_slices_IndexFunc_Question_r0 : List AOper := [
  ⟨(some 4), .sim (.mov (.c (.int .i64 0))), none⟩]
def c_slices_IndexFunc_Question_r1 : List AOper := [
  ⟨(some 6), .sim (.mov (.t 0)), none⟩,
  ⟨(some 7), .sim (.len false (.t 6)), none⟩,
  ⟨(some 8), .sim (.mov (.c (.int .i64 0))), none⟩]
def c_slices_IndexFunc_Question_r2 : List AOper := [
  ⟨(some 9), .sim (.bin .lss (.t 8) (.t 7)), none⟩]
def c_slices_IndexFunc_Question_r3 : List AOper := [
  ⟨(some 10), .sim (.mov (.t 8)), none⟩,
  ⟨(some 5), .sim (.mov (.t 10)), none⟩]
def c_slices_IndexFunc_Question_r4 : List AOper := [
  ⟨(some 11), .sim (.mov (.t 1)), none⟩,
  ⟨(some 12), .sim (.mov (.t 0)), none⟩,
  ⟨(some 13), .sim (.mov (.t 5)), none⟩,
  ⟨(some 14), .sim (.idx 2 (.t 12) (.t 13)), none⟩,
  ⟨(some 15), .sim (.ld (some 2) (.t 14)), none⟩,
  ⟨(some 16), .callv (.t 11) [.t 15], none⟩]
def c_slices_IndexFunc_Question_r5 : List AOper := [
  ⟨(some 17), .sim (.mov (.t 5)), none⟩,
  ⟨(some 4), .sim (.mov (.t 17)), none⟩]
def c_slices_IndexFunc_Question_r6 : List AOper := [
  ⟨(some 18), .sim (.bin .add (.t 8) (.c (.int .i64 1))), none⟩,
  ⟨(some 8), .sim (.mov (.t 18)), none⟩]
def c_slices_IndexFunc_Question_r7 : List AOper := [
  ⟨(some 4), .sim (.mov (.c (.int .i64 (-1)))), none⟩]
/-- slices.IndexFunc[[]nameplan/api.Question,nameplan/api.Question] -/
def c_slices_IndexFunc_Question : AFunc := ⟨19, [.slot 4],
  (.seq (.reg c_slices_IndexFunc_Question_r0 [0, 1]) (.seq (.seq (.reg c_slices_IndexFunc_Question_r1 [0, 1, 7, 8]) (.block 0 (.loop [0, 1, 7, 8] (.seq (.reg c_slices_IndexFunc_Question_r2 [0, 1, 7, 8, 9]) (.seq (.cond (.t 9) .skip (.exit 0)) (.seq (.block 1 (.seq (.reg c_slices_IndexFunc_Question_r3 [0, 1, 5, 7, 8]) (.seq (.reg c_slices_IndexFunc_Question_r4 [0, 1, 5, 7, 8, 16]) (.cond (.t 16) (.seq (.reg c_slices_IndexFunc_Question_r5 [4]) .ret) .skip)))) (.reg c_slices_IndexFunc_Question_r6 [0, 1, 7, 8]))))))) (.seq (.reg c_slices_IndexFunc_Question_r7 [4]) .ret)))⟩
def c_steps_Apply_r0 : List AOper := [
  ⟨(some 2), .sim (.box (.t 0)), none⟩,
  ⟨(some 4), .sim (.new [.slice none 0 0, .slice none 0 0, .string ⟨#[]⟩, .int .i64 0, .int .i64 0, .slice none 0 0, .slice none 0 0, .int .i64 0, .int .i64 0]), none⟩,
  ⟨(some 5), .sim (.mov (.c (.int .i64 0))), none⟩]
def c_steps_Apply_r1 : List AOper := [
  ⟨(some 13), .sim (.ld (some 9) (.t 2)), none⟩,
  ⟨(some 14), .sim (.mov (.t 1)), none⟩,
  ⟨(some 15), .callp 28 [.t 13, .t 14], none⟩,
  ⟨(some 16), .sim (.not (.t 15)), none⟩]
def c_steps_Apply_r2 : List AOper := [
  ⟨(some 17), .sim (.bld [.slice none 0 0, .slice none 0 0, .string ⟨#[]⟩, .int .i64 0, .int .i64 0, .slice none 0 0, .slice none 0 0, .int .i64 0, .int .i64 0] []), none⟩,
  ⟨none, .st 9 (.t 4) (.t 17), none⟩,
  ⟨(some 5), .sim (.mov (.c (.int .i64 1))), none⟩]
def c_steps_Apply_r3 : List AOper := [
  ⟨(some 18), .sim (.fld 1 (.t 2)), none⟩,
  ⟨(some 19), .sim (.ld none (.t 18)), none⟩,
  ⟨(some 6), .sim (.mov (.t 19)), none⟩]
def c_steps_Apply_r4 : List AOper := [
  ⟨(some 20), .sim (.mov (.t 1)), none⟩,
  ⟨(some 21), .sim (.len false (.t 20)), none⟩,
  ⟨(some 22), .sim (.mov (.c (.int .i64 0))), none⟩]
def c_steps_Apply_r5 : List AOper := [
  ⟨(some 23), .sim (.bin .lss (.t 22) (.t 21)), none⟩]
def c_steps_Apply_r6 : List AOper := [
  ⟨(some 24), .sim (.idx 2 (.t 20) (.t 22)), none⟩,
  ⟨(some 25), .sim (.ld (some 2) (.t 24)), none⟩,
  ⟨(some 8), .sim (.new [.int .i64 0, .slice none 0 0]), none⟩,
  ⟨none, .st 2 (.t 8) (.t 25), none⟩]
def c_steps_Apply_r7 : List DOp := [
  ⟨0, ⟨(some 26), .sim (.mov (.t 6)), none⟩, []⟩,
  ⟨1, ⟨(some 27), .sim (.fld 1 (.t 8)), none⟩, []⟩,
  ⟨2, ⟨(some 28), .sim (.ld (some 1) (.t 27)), none⟩, []⟩,
  ⟨4, ⟨(some 30), .sim (.fld 0 (.t 8)), none⟩, []⟩,
  ⟨5, ⟨(some 31), .sim (.ld none (.t 30)), none⟩, []⟩,
  ⟨3, ⟨(some 29), .call 16 [.t 28], none⟩, [0, 4, 5]⟩,
  ⟨6, ⟨(some 32), .call 67 [.t 26, .t 29, .t 31], none⟩, []⟩,
  ⟨7, ⟨(some 33), .call 68 [.t 32], none⟩, []⟩]
def c_steps_Apply_r8 : List AOper := [
  ⟨(some 34), .sim (.fld 1 (.t 8)), none⟩,
  ⟨(some 35), .sim (.fld 0 (.t 34)), none⟩,
  ⟨(some 36), .sim (.ld none (.t 35)), none⟩,
  ⟨(some 37), .sim (.len false (.t 36)), none⟩,
  ⟨(some 38), .sim (.mov (.c (.int .i64 0))), none⟩]
def c_steps_Apply_r9 : List AOper := [
  ⟨(some 39), .sim (.bin .lss (.t 38) (.t 37)), none⟩]
def c_steps_Apply_r10 : List AOper := [
  ⟨(some 40), .sim (.idx 3 (.t 36) (.t 38)), none⟩,
  ⟨(some 41), .sim (.ld (some 3) (.t 40)), none⟩,
  ⟨(some 10), .sim (.new [.int .i64 0, .string ⟨#[]⟩, .slice none 0 0]), none⟩,
  ⟨none, .st 3 (.t 10) (.t 41), none⟩]
def c_steps_Apply_r11 : List AOper := [
  ⟨(some 42), .sim (.fld 1 (.t 10)), none⟩,
  ⟨(some 43), .sim (.ld (some 2) (.t 42)), none⟩,
  ⟨(some 44), .callp 17 [.t 43], none⟩,
  ⟨(some 45), .sim (.not (.t 44)), none⟩]
def c_steps_Apply_r12 : List AOper := [
  ⟨(some 46), .sim (.mov (.t 6)), none⟩,
  ⟨(some 47), .sim (.fld 0 (.t 10)), none⟩,
  ⟨(some 48), .sim (.ld none (.t 47)), none⟩,
  ⟨(some 49), .sim (.fld 0 (.t 8)), none⟩,
  ⟨(some 50), .sim (.ld none (.t 49)), none⟩,
  ⟨(some 51), .sim (.fld 8 (.t 2)), none⟩,
  ⟨(some 52), .sim (.ld none (.t 51)), none⟩,
  ⟨(some 53), .sim (.fld 1 (.t 10)), none⟩,
  ⟨(some 54), .sim (.ld (some 2) (.t 53)), none⟩,
  ⟨(some 55), .sim (.bld [.int .i64 0, .int .i64 0, .int .i64 0, .string ⟨#[]⟩, .slice none 0 0] [(0, 1, .t 48), (1, 1, .t 50), (2, 1, .t 52), (3, 2, .t 54)]), none⟩,
  ⟨(some 56), .mksl 5 1 [.int .i64 0, .int .i64 0, .int .i64 0, .string ⟨#[]⟩, .slice none 0 0] [(0, 5, .t 55)], none⟩,
  ⟨(some 57), .app 5 64 [.int .i64 0, .int .i64 0, .int .i64 0, .string ⟨#[]⟩, .slice none 0 0] (.t 46) (.t 56), none⟩,
  ⟨(some 6), .sim (.mov (.t 57)), none⟩]
def c_steps_Apply_r13 : List AOper := [
  ⟨(some 58), .sim (.bin .add (.t 38) (.c (.int .i64 1))), none⟩,
  ⟨(some 38), .sim (.mov (.t 58)), none⟩]
def c_steps_Apply_r14 : List AOper := [
  ⟨(some 59), .sim (.bin .add (.t 22) (.c (.int .i64 1))), none⟩,
  ⟨(some 22), .sim (.mov (.t 59)), none⟩]
def c_steps_Apply_r15 : List AOper := [
  ⟨(some 11), .sim (.mov (.f 69)), none⟩]
def c_steps_Apply_r16 : List AOper := [
  ⟨(some 60), .sim (.mov (.t 6)), none⟩,
  ⟨(some 61), .sim (.mov (.t 11)), none⟩,
  ⟨(some 62), .callp 70 [.t 60, .c (.int .i64 4000), .c (.int .i64 500), .t 61], none⟩]
def c_steps_Apply_r17 : List AOper := [
  ⟨(some 63), .sim (.bld [.slice none 0 0, .slice none 0 0, .string ⟨#[]⟩, .int .i64 0, .int .i64 0, .slice none 0 0, .slice none 0 0, .int .i64 0, .int .i64 0] []), none⟩,
  ⟨none, .st 9 (.t 4) (.t 63), none⟩,
  ⟨(some 5), .sim (.mov (.c (.int .i64 2))), none⟩]
def c_steps_Apply_r18 : List AOper := [
  ⟨(some 64), .sim (.mov (.t 6)), none⟩,
  ⟨(some 65), .call 71 [.t 64], none⟩,
  ⟨(some 66), .sim (.fld 1 (.t 2)), none⟩,
  ⟨none, .st 1 (.t 66) (.t 65), none⟩]
def c_steps_Apply_r19 : List AOper := [
  ⟨(some 67), .sim (.fld 1 (.t 2)), none⟩,
  ⟨(some 68), .sim (.ld none (.t 67)), none⟩,
  ⟨(some 69), .sim (.len false (.t 68)), none⟩,
  ⟨(some 70), .sim (.mov (.c (.int .i64 0))), none⟩]
def c_steps_Apply_r20 : List AOper := [
  ⟨(some 71), .sim (.bin .lss (.t 70) (.t 69)), none⟩]
def c_steps_Apply_r21 : List AOper := [
  ⟨(some 72), .sim (.mov (.t 70)), none⟩,
  ⟨(some 12), .sim (.mov (.t 72)), none⟩]
def c_steps_Apply_r22 : List DOp := [
  ⟨0, ⟨(some 73), .sim (.fld 1 (.t 2)), none⟩, []⟩,
  ⟨1, ⟨(some 74), .sim (.ld none (.t 73)), none⟩, []⟩,
  ⟨2, ⟨(some 75), .sim (.mov (.t 12)), none⟩, []⟩,
  ⟨3, ⟨(some 76), .sim (.fld 1 (.t 2)), none⟩, []⟩,
  ⟨4, ⟨(some 77), .sim (.ld none (.t 76)), none⟩, []⟩,
  ⟨5, ⟨(some 78), .sim (.mov (.t 12)), none⟩, []⟩,
  ⟨6, ⟨(some 79), .sim (.idx 5 (.t 77) (.t 78)), none⟩, []⟩,
  ⟨7, ⟨(some 80), .sim (.fld 3 (.t 79)), none⟩, []⟩,
  ⟨8, ⟨(some 81), .sim (.ld (some 2) (.t 80)), none⟩, []⟩,
  ⟨9, ⟨(some 82), .call 20 [.t 81], none⟩, [0, 1, 2]⟩,
  ⟨10, ⟨(some 83), .sim (.idx 5 (.t 74) (.t 75)), none⟩, []⟩,
  ⟨11, ⟨(some 84), .sim (.fld 3 (.t 83)), none⟩, []⟩,
  ⟨12, ⟨none, .st 2 (.t 84) (.t 82), none⟩, []⟩]
def c_steps_Apply_r23 : List AOper := [
  ⟨(some 85), .sim (.bin .add (.t 70) (.c (.int .i64 1))), none⟩,
  ⟨(some 70), .sim (.mov (.t 85)), none⟩]
def c_steps_Apply_r24 : List AOper := [
  ⟨(some 86), .sim (.fld 0 (.t 2)), none⟩,
  ⟨(some 87), .sim (.ld none (.t 86)), none⟩,
  ⟨(some 88), .call 21 [.t 87], none⟩,
  ⟨(some 89), .sim (.fld 0 (.t 2)), none⟩,
  ⟨none, .st 1 (.t 89) (.t 88), none⟩]
def c_steps_Apply_r25 : List AOper := [
  ⟨(some 90), .sim (.fld 2 (.t 2)), none⟩,
  ⟨(some 91), .sim (.fld 3 (.t 90)), none⟩,
  ⟨(some 92), .sim (.ld none (.t 91)), none⟩,
  ⟨(some 93), .call 22 [.t 92], none⟩,
  ⟨(some 94), .sim (.fld 2 (.t 2)), none⟩,
  ⟨(some 95), .sim (.fld 3 (.t 94)), none⟩,
  ⟨none, .st 1 (.t 95) (.t 93), none⟩]
def c_steps_Apply_r26 : List AOper := [
  ⟨(some 96), .sim (.fld 6 (.t 2)), none⟩,
  ⟨(some 97), .sim (.ld none (.t 96)), none⟩,
  ⟨(some 98), .call 23 [.t 97], none⟩,
  ⟨(some 99), .sim (.fld 6 (.t 2)), none⟩,
  ⟨none, .st 1 (.t 99) (.t 98), none⟩]
def c_steps_Apply_r27 : List AOper := [
  ⟨(some 100), .sim (.ld (some 9) (.t 2)), none⟩,
  ⟨none, .st 9 (.t 4) (.t 100), none⟩,
  ⟨(some 5), .sim (.mov (.c (.int .i64 0))), none⟩]
/-- nameplan/steps.Apply -/
def c_steps_Apply : AFunc := ⟨101, [.cell 4 (some 9), .slot 5],
  (.seq (.reg c_steps_Apply_r0 [1, 2, 4]) (.seq (.seq (.reg c_steps_Apply_r1 [1, 2, 4, 16]) (.cond (.t 16) (.seq (.reg c_steps_Apply_r2 [4, 5]) .ret) .skip)) (.seq (.reg c_steps_Apply_r3 [1, 2, 4, 6]) (.seq (.seq (.reg c_steps_Apply_r4 [2, 4, 6, 20, 21, 22]) (.block 0 (.loop [2, 4, 6, 20, 21, 22] (.seq (.reg c_steps_Apply_r5 [2, 4, 6, 20, 21, 22, 23]) (.seq (.cond (.t 23) .skip (.exit 0)) (.seq (.block 1 (.seq (.reg c_steps_Apply_r6 [2, 4, 6, 8, 20, 21, 22]) (.seq (.regl c_steps_Apply_r7 [2, 4, 8, 20, 21, 22, 33] ⟨(some 6), .sim (.mov (.t 33)), none⟩ [2, 4, 6, 8, 20, 21, 22]) (.seq (.reg c_steps_Apply_r8 [2, 4, 6, 8, 20, 21, 22, 36, 37, 38]) (.block 2 (.loop [2, 4, 6, 8, 20, 21, 22, 36, 37, 38] (.seq (.reg c_steps_Apply_r9 [2, 4, 6, 8, 20, 21, 22, 36, 37, 38, 39]) (.seq (.cond (.t 39) .skip (.exit 2)) (.seq (.block 3 (.seq (.reg c_steps_Apply_r10 [2, 4, 6, 8, 10, 20, 21, 22, 36, 37, 38]) (.seq (.reg c_steps_Apply_r11 [2, 4, 6, 8, 10, 20, 21, 22, 36, 37, 38, 45]) (.cond (.t 45) (.reg c_steps_Apply_r12 [2, 4, 6, 8, 20, 21, 22, 36, 37, 38]) .skip)))) (.reg c_steps_Apply_r13 [2, 4, 6, 8, 20, 21, 22, 36, 37, 38])))))))))) (.reg c_steps_Apply_r14 [2, 4, 6, 20, 21, 22]))))))) (.seq (.reg c_steps_Apply_r15 [2, 4, 6, 11]) (.seq (.seq (.reg c_steps_Apply_r16 [2, 4, 6, 62]) (.cond (.t 62) (.seq (.reg c_steps_Apply_r17 [4, 5]) .ret) .skip)) (.seq (.reg c_steps_Apply_r18 [2, 4]) (.seq (.seq (.reg c_steps_Apply_r19 [2, 4, 69, 70]) (.block 4 (.loop [2, 4, 69, 70] (.seq (.reg c_steps_Apply_r20 [2, 4, 69, 70, 71]) (.seq (.cond (.t 71) .skip (.exit 4)) (.seq (.block 5 (.seq (.reg c_steps_Apply_r21 [2, 4, 12, 69, 70]) (.regd c_steps_Apply_r22 [2, 4, 69, 70]))) (.reg c_steps_Apply_r23 [2, 4, 69, 70]))))))) (.seq (.reg c_steps_Apply_r24 [2, 4]) (.seq (.reg c_steps_Apply_r25 [2, 4]) (.seq (.reg c_steps_Apply_r26 [2, 4]) (.seq (.reg c_steps_Apply_r27 [4, 5]) .ret))))))))))))⟩
def c_world_wildcard_r0 : List AOper := [
  ⟨(some 2), .sim (.mov (.c (.bool false))), none⟩]
def c_world_wildcard_r1 : List AOper := [
  ⟨(some 6), .sim (.mov (.t 0)), none⟩,
  ⟨(some 7), .call 73 [.t 6], none⟩,
  ⟨(some 5), .sim (.mov (.t 7)), none⟩,
  ⟨(some 8), .sim (.ext 0 (.t 5)), none⟩,
  ⟨(some 9), .sim (.ext 1 (.t 5)), none⟩,
  ⟨(some 3), .sim (.mov (.t 8)), none⟩,
  ⟨(some 4), .sim (.mov (.t 9)), none⟩]
def c_world_wildcard_r2 : List AOper := [
  ⟨(some 10), .sim (.mov (.t 3)), none⟩,
  ⟨(some 11), .sim (.len false (.t 10)), none⟩,
  ⟨(some 12), .sim (.bin .gtr (.t 11) (.c (.int .i64 0))), none⟩,
  ⟨(some 13), .sim (.mov (.t 12)), none⟩,
  ⟨(some 14), .sim (.mov (.t 3)), (some (13, true))⟩,
  ⟨(some 15), .sim (.idx 1 (.t 14) (.c (.int .i64 0))), (some (13, true))⟩,
  ⟨(some 16), .sim (.ld none (.t 15)), (some (13, true))⟩,
  ⟨(some 17), .sim (.bin .eql (.t 16) (.c (.string ⟨#[42]⟩))), (some (13, true))⟩,
  ⟨(some 18), .sim (.pick (.t 13) (.t 17) (.c (.bool false))), none⟩,
  ⟨(some 2), .sim (.mov (.t 18)), none⟩]
/-- nameplan/world.wildcard -/
def c_world_wildcard : AFunc := ⟨19, [.slot 2],
  (.seq (.reg c_world_wildcard_r0 [0]) (.seq (.reg c_world_wildcard_r1 [3]) (.seq (.reg c_world_wildcard_r2 [2]) .ret)))⟩
def c_world_validAddr_r0 : List AOper := [
  ⟨(some 2), .sim (.mov (.c (.bool false))), none⟩]
def c_world_validAddr_r1 : List AOper := [
  ⟨(some 3), .sim (.mov (.t 0)), none⟩,
  ⟨(some 4), .sim (.bin .geq (.t 3) (.c (.int .i64 1))), none⟩,
  ⟨(some 5), .sim (.mov (.t 4)), none⟩,
  ⟨(some 6), .sim (.mov (.t 0)), (some (5, true))⟩,
  ⟨(some 7), .sim (.bin .leq (.t 6) (.c (.int .i64 1000000))), (some (5, true))⟩,
  ⟨(some 8), .sim (.pick (.t 5) (.t 7) (.c (.bool false))), none⟩,
  ⟨(some 2), .sim (.mov (.t 8)), none⟩]
/-- nameplan/world.validAddr -/
def c_world_validAddr : AFunc := ⟨9, [.slot 2],
  (.seq (.reg c_world_validAddr_r0 [0]) (.seq (.reg c_world_validAddr_r1 [2]) .ret))⟩
def c_record_Valid_r0 : List AOper := [
  ⟨(some 1), .sim (.box (.t 0)), none⟩,
  ⟨(some 2), .sim (.mov (.c (.bool false))), none⟩]
def c_record_Valid_r1 : List AOper := [
  ⟨(some 6), .sim (.fld 0 (.t 1)), none⟩,
  ⟨(some 7), .sim (.ld none (.t 6)), none⟩,
  ⟨(some 8), .callp 45 [.t 7], none⟩,
  ⟨(some 9), .sim (.not (.t 8)), none⟩,
  ⟨(some 10), .sim (.mov (.t 9)), none⟩,
  ⟨(some 11), .sim (.fld 1 (.t 1)), (some (10, false))⟩,
  ⟨(some 12), .sim (.ld none (.t 11)), (some (10, false))⟩,
  ⟨(some 13), .callp 74 [.t 12, .c (.int .i64 1), .c (.int .i64 8)], (some (10, false))⟩,
  ⟨(some 14), .sim (.not (.t 13)), (some (10, false))⟩,
  ⟨(some 15), .sim (.pick (.t 10) (.c (.bool true)) (.t 14)), none⟩,
  ⟨(some 16), .sim (.mov (.t 15)), none⟩,
  ⟨(some 17), .sim (.fld 2 (.t 1)), (some (16, false))⟩,
  ⟨(some 18), .sim (.ld none (.t 17)), (some (16, false))⟩,
  ⟨(some 19), .callp 74 [.t 18, .c (.int .i64 0), .c (.int .i64 100000)], (some (16, false))⟩,
  ⟨(some 20), .sim (.not (.t 19)), (some (16, false))⟩,
  ⟨(some 21), .sim (.pick (.t 16) (.c (.bool true)) (.t 20)), none⟩]
def c_record_Valid_r2 : List AOper := [
  ⟨(some 2), .sim (.mov (.c (.bool false))), none⟩]
def c_record_Valid_r3 : List AOper := [
  ⟨(some 22), .sim (.fld 3 (.t 1)), none⟩,
  ⟨(some 23), .sim (.ld none (.t 22)), none⟩,
  ⟨(some 24), .sim (.len false (.t 23)), none⟩,
  ⟨(some 25), .callp 74 [.t 24, .c (.int .i64 1), .c (.int .i64 8)], none⟩,
  ⟨(some 26), .sim (.not (.t 25)), none⟩]
def c_record_Valid_r4 : List AOper := [
  ⟨(some 2), .sim (.mov (.c (.bool false))), none⟩]
def c_record_Valid_r5 : List AOper := [
  ⟨(some 27), .sim (.fld 1 (.t 1)), none⟩,
  ⟨(some 28), .sim (.ld none (.t 27)), none⟩,
  ⟨(some 29), .sim (.idxa 8 9 (.g 75) (.t 28)), none⟩,
  ⟨(some 30), .sim (.ld (some 8) (.t 29)), none⟩,
  ⟨(some 3), .sim (.new [.int .i64 0, .int .i64 0, .int .i64 0, .int .i64 0, .int .i64 0, .bool false, .bool false, .bool false]), none⟩,
  ⟨none, .st 8 (.t 3) (.t 30), none⟩]
def c_record_Valid_r6 : List AOper := [
  ⟨(some 31), .sim (.fld 6 (.t 3)), none⟩,
  ⟨(some 32), .sim (.ld none (.t 31)), none⟩,
  ⟨(some 33), .sim (.mov (.t 32)), none⟩,
  ⟨(some 34), .sim (.fld 3 (.t 1)), (some (33, true))⟩,
  ⟨(some 35), .sim (.ld none (.t 34)), (some (33, true))⟩,
  ⟨(some 36), .sim (.len false (.t 35)), (some (33, true))⟩,
  ⟨(some 37), .sim (.bin .neq (.t 36) (.c (.int .i64 1))), (some (33, true))⟩,
  ⟨(some 38), .sim (.pick (.t 33) (.t 37) (.c (.bool false))), none⟩,
  ⟨(some 39), .sim (.mov (.t 38)), none⟩,
  ⟨(some 40), .sim (.fld 0 (.t 1)), (some (39, false))⟩,
  ⟨(some 41), .sim (.ld none (.t 40)), (some (39, false))⟩,
  ⟨(some 42), .callp 76 [.t 41], (some (39, false))⟩,
  ⟨(some 43), .sim (.mov (.t 42)), (some (39, false))⟩,
  ⟨(some 44), .sim (.fld 7 (.t 3)), (some (43, true))⟩,
  ⟨(some 45), .sim (.ld none (.t 44)), (some (43, true))⟩,
  ⟨(some 46), .sim (.not (.t 45)), (some (43, true))⟩,
  ⟨(some 47), .sim (.pick (.t 43) (.t 46) (.c (.bool false))), (some (39, false))⟩,
  ⟨(some 48), .sim (.pick (.t 39) (.c (.bool true)) (.t 47)), none⟩]
def c_record_Valid_r7 : List AOper := [
  ⟨(some 2), .sim (.mov (.c (.bool false))), none⟩]
def c_record_Valid_r8 : List AOper := [
  ⟨(some 49), .sim (.fld 3 (.t 1)), none⟩,
  ⟨(some 50), .sim (.ld none (.t 49)), none⟩,
  ⟨(some 51), .sim (.len false (.t 50)), none⟩,
  ⟨(some 52), .sim (.mov (.c (.int .i64 0))), none⟩]
def c_record_Valid_r9 : List AOper := [
  ⟨(some 53), .sim (.bin .lss (.t 52) (.t 51)), none⟩]
def c_record_Valid_r10 : List AOper := [
  ⟨(some 54), .sim (.mov (.t 52)), none⟩,
  ⟨(some 55), .sim (.idx 3 (.t 50) (.t 52)), none⟩,
  ⟨(some 56), .sim (.ld (some 3) (.t 55)), none⟩,
  ⟨(some 5), .sim (.new [.string ⟨#[]⟩, .int .i64 0, .int .i64 0]), none⟩,
  ⟨(some 4), .sim (.mov (.t 54)), none⟩,
  ⟨none, .st 3 (.t 5) (.t 56), none⟩]
def c_record_Valid_r11 : List DOp := [
  ⟨0, ⟨(some 57), .sim (.ld (some 8) (.t 3)), none⟩, []⟩,
  ⟨1, ⟨(some 58), .sim (.ld (some 3) (.t 5)), none⟩, []⟩,
  ⟨2, ⟨(some 59), .callp 77 [.t 57, .t 58], none⟩, []⟩,
  ⟨3, ⟨(some 60), .sim (.not (.t 59)), none⟩, []⟩,
  ⟨4, ⟨(some 61), .sim (.mov (.t 60)), none⟩, []⟩,
  ⟨5, ⟨(some 62), .sim (.mov (.t 4)), (some (61, false))⟩, []⟩,
  ⟨6, ⟨(some 63), .sim (.bin .gtr (.t 62) (.c (.int .i64 0))), (some (61, false))⟩, []⟩,
  ⟨7, ⟨(some 64), .sim (.mov (.t 63)), (some (61, false))⟩, []⟩,
  ⟨8, ⟨(some 65), .sim (.fld 3 (.t 1)), (some (64, true))⟩, []⟩,
  ⟨9, ⟨(some 66), .sim (.ld none (.t 65)), (some (64, true))⟩, []⟩,
  ⟨10, ⟨(some 67), .sim (.mov (.t 4)), (some (64, true))⟩, []⟩,
  ⟨11, ⟨(some 68), .sim (.bin .sub (.t 67) (.c (.int .i64 1))), (some (64, true))⟩, []⟩,
  ⟨12, ⟨(some 69), .sim (.idx 3 (.t 66) (.t 68)), (some (64, true))⟩, []⟩,
  ⟨13, ⟨(some 70), .sim (.ld (some 3) (.t 69)), (some (64, true))⟩, []⟩,
  ⟨14, ⟨(some 71), .sim (.ld (some 3) (.t 5)), (some (64, true))⟩, []⟩,
  ⟨15, ⟨(some 72), .callp 78 [.t 70, .t 71], (some (64, true))⟩, []⟩,
  ⟨16, ⟨(some 73), .sim (.bin .geq (.t 72) (.c (.int .i64 0))), (some (64, true))⟩, []⟩,
  ⟨17, ⟨(some 74), .sim (.pick (.t 64) (.t 73) (.c (.bool false))), (some (61, false))⟩, []⟩,
  ⟨18, ⟨(some 75), .sim (.pick (.t 61) (.c (.bool true)) (.t 74)), none⟩, []⟩]
def c_record_Valid_r12 : List AOper := [
  ⟨(some 2), .sim (.mov (.c (.bool false))), none⟩]
def c_record_Valid_r13 : List AOper := [
  ⟨(some 76), .sim (.bin .add (.t 52) (.c (.int .i64 1))), none⟩,
  ⟨(some 52), .sim (.mov (.t 76)), none⟩]
def c_record_Valid_r14 : List AOper := [
  ⟨(some 2), .sim (.mov (.c (.bool true))), none⟩]
/-- nameplan/record.Valid -/
def c_record_Valid : AFunc := ⟨77, [.slot 2],
  (.seq (.reg c_record_Valid_r0 [1]) (.seq (.seq (.reg c_record_Valid_r1 [1, 21]) (.cond (.t 21) (.seq (.reg c_record_Valid_r2 [2]) .ret) .skip)) (.seq (.seq (.reg c_record_Valid_r3 [1, 26]) (.cond (.t 26) (.seq (.reg c_record_Valid_r4 [2]) .ret) .skip)) (.seq (.reg c_record_Valid_r5 [1, 3]) (.seq (.seq (.reg c_record_Valid_r6 [1, 3, 48]) (.cond (.t 48) (.seq (.reg c_record_Valid_r7 [2]) .ret) .skip)) (.seq (.seq (.reg c_record_Valid_r8 [1, 3, 50, 51, 52]) (.block 0 (.loop [1, 3, 50, 51, 52] (.seq (.reg c_record_Valid_r9 [1, 3, 50, 51, 52, 53]) (.seq (.cond (.t 53) .skip (.exit 0)) (.seq (.block 1 (.seq (.reg c_record_Valid_r10 [1, 3, 4, 5, 50, 51, 52]) (.seq (.regd c_record_Valid_r11 [1, 3, 50, 51, 52, 75]) (.cond (.t 75) (.seq (.reg c_record_Valid_r12 [2]) .ret) .skip)))) (.reg c_record_Valid_r13 [1, 3, 50, 51, 52]))))))) (.seq (.reg c_record_Valid_r14 [2]) .ret)))))))⟩
def c_slices_ContainsFunc_int_r0 : List AOper := [
  ⟨(some 4), .sim (.mov (.c (.bool false))), none⟩]
def c_slices_ContainsFunc_int_r1 : List AOper := [
  ⟨(some 5), .sim (.mov (.t 0)), none⟩,
  ⟨(some 6), .sim (.mov (.t 1)), none⟩,
  ⟨(some 7), .callp 79 [.t 5, .t 6], none⟩,
  ⟨(some 8), .sim (.bin .geq (.t 7) (.c (.int .i64 0))), none⟩,
  ⟨(some 4), .sim (.mov (.t 8)), none⟩]
/-- slices.ContainsFunc[[]int,int] -/
def c_slices_ContainsFunc_int : AFunc := ⟨9, [.slot 4],
  (.seq (.reg c_slices_ContainsFunc_int_r0 [0, 1]) (.seq (.reg c_slices_ContainsFunc_int_r1 [4]) .ret))⟩
def c_world_validRoot_1_r0 : List AOper := [
  ⟨(some 2), .sim (.mov (.c (.bool false))), none⟩]
def c_world_validRoot_1_r1 : List AOper := [
  ⟨(some 3), .sim (.mov (.t 0)), none⟩,
  ⟨(some 4), .callp 53 [.t 3], none⟩,
  ⟨(some 5), .sim (.not (.t 4)), none⟩,
  ⟨(some 2), .sim (.mov (.t 5)), none⟩]
/-- nameplan/world.validRoot$1 -/
def c_world_validRoot_1 : AFunc := ⟨6, [.slot 2],
  (.seq (.reg c_world_validRoot_1_r0 [0]) (.seq (.reg c_world_validRoot_1_r1 [2]) .ret))⟩
def c_zone_body_ordered_r0 : List AOper := [
  ⟨(some 1), .sim (.box (.t 0)), none⟩,
  ⟨(some 2), .sim (.mov (.c (.bool false))), none⟩]
def c_zone_body_ordered_r1 : List AOper := [
  ⟨(some 8), .sim (.fld 0 (.t 1)), none⟩,
  ⟨(some 9), .sim (.fld 0 (.t 8)), none⟩,
  ⟨(some 10), .sim (.ld none (.t 9)), none⟩,
  ⟨(some 11), .callp 45 [.t 10], none⟩,
  ⟨(some 12), .sim (.not (.t 11)), none⟩,
  ⟨(some 13), .sim (.mov (.t 12)), none⟩,
  ⟨(some 14), .sim (.fld 0 (.t 1)), (some (13, false))⟩,
  ⟨(some 15), .sim (.fld 0 (.t 14)), (some (13, false))⟩,
  ⟨(some 16), .sim (.ld none (.t 15)), (some (13, false))⟩,
  ⟨(some 17), .callp 44 [.t 16, .c (.string ⟨#[42]⟩)], (some (13, false))⟩,
  ⟨(some 18), .sim (.pick (.t 13) (.c (.bool true)) (.t 17)), none⟩,
  ⟨(some 19), .sim (.mov (.t 18)), none⟩,
  ⟨(some 20), .sim (.fld 0 (.t 1)), (some (19, false))⟩,
  ⟨(some 21), .sim (.fld 1 (.t 20)), (some (19, false))⟩,
  ⟨(some 22), .sim (.ld none (.t 21)), (some (19, false))⟩,
  ⟨(some 23), .sim (.len false (.t 22)), (some (19, false))⟩,
  ⟨(some 24), .sim (.bin .gtr (.t 23) (.c (.int .i64 20000))), (some (19, false))⟩,
  ⟨(some 25), .sim (.pick (.t 19) (.c (.bool true)) (.t 24)), none⟩]
def c_zone_body_ordered_r2 : List AOper := [
  ⟨(some 2), .sim (.mov (.c (.bool false))), none⟩]
def c_zone_body_ordered_r3 : List AOper := [
  ⟨(some 26), .sim (.fld 0 (.t 1)), none⟩,
  ⟨(some 27), .sim (.fld 1 (.t 26)), none⟩,
  ⟨(some 28), .sim (.ld none (.t 27)), none⟩,
  ⟨(some 29), .sim (.len false (.t 28)), none⟩,
  ⟨(some 30), .sim (.mov (.c (.int .i64 0))), none⟩]
def c_zone_body_ordered_r4 : List AOper := [
  ⟨(some 31), .sim (.bin .lss (.t 30) (.t 29)), none⟩]
def c_zone_body_ordered_r5 : List AOper := [
  ⟨(some 32), .sim (.mov (.t 30)), none⟩,
  ⟨(some 33), .sim (.idx 5 (.t 28) (.t 30)), none⟩,
  ⟨(some 34), .sim (.ld (some 5) (.t 33)), none⟩,
  ⟨(some 4), .sim (.new [.string ⟨#[]⟩, .int .i64 0, .int .i64 0, .slice none 0 0, .slice none 0 0]), none⟩,
  ⟨(some 3), .sim (.mov (.t 32)), none⟩,
  ⟨none, .st 5 (.t 4) (.t 34), none⟩]
def c_zone_body_ordered_r6 : List AOper := [
  ⟨(some 35), .sim (.fld 0 (.t 4)), none⟩,
  ⟨(some 36), .sim (.ld (some 4) (.t 35)), none⟩,
  ⟨(some 37), .callp 54 [.t 36], none⟩,
  ⟨(some 38), .sim (.not (.t 37)), none⟩]
def c_zone_body_ordered_r7 : List AOper := [
  ⟨(some 2), .sim (.mov (.c (.bool false))), none⟩]
def c_zone_body_ordered_r8 : List AOper := [
  ⟨(some 40), .sim (.fld 0 (.t 4)), none⟩,
  ⟨(some 41), .sim (.fld 0 (.t 40)), none⟩,
  ⟨(some 42), .sim (.ld none (.t 41)), none⟩,
  ⟨(some 43), .sim (.fld 0 (.t 1)), none⟩,
  ⟨(some 44), .sim (.fld 0 (.t 43)), none⟩,
  ⟨(some 45), .sim (.ld none (.t 44)), none⟩,
  ⟨(some 46), .callp 80 [.t 42, .t 45], none⟩,
  ⟨(some 39), .sim (.mov (.t 46)), none⟩,
  ⟨(some 47), .sim (.ext 0 (.t 39)), none⟩,
  ⟨(some 48), .sim (.ext 1 (.t 39)), none⟩,
  ⟨(some 5), .sim (.mov (.t 47)), none⟩,
  ⟨(some 6), .sim (.mov (.t 48)), none⟩]
def c_zone_body_ordered_r9 : List AOper := [
  ⟨(some 49), .sim (.mov (.t 5)), none⟩,
  ⟨(some 50), .sim (.not (.t 49)), none⟩]
def c_zone_body_ordered_r10 : List AOper := [
  ⟨(some 2), .sim (.mov (.c (.bool false))), none⟩]
def c_zone_body_ordered_r11 : List AOper := [
  ⟨(some 51), .sim (.mov (.t 3)), none⟩,
  ⟨(some 52), .sim (.bin .eql (.t 51) (.c (.int .i64 0))), none⟩]
def c_zone_body_ordered_r12 : List AOper := [
  ⟨(some 53), .sim (.fld 0 (.t 1)), none⟩,
  ⟨(some 54), .sim (.fld 1 (.t 53)), none⟩,
  ⟨(some 55), .sim (.ld none (.t 54)), none⟩,
  ⟨(some 56), .sim (.mov (.t 3)), none⟩,
  ⟨(some 57), .sim (.bin .sub (.t 56) (.c (.int .i64 1))), none⟩,
  ⟨(some 58), .sim (.idx 5 (.t 55) (.t 57)), none⟩,
  ⟨(some 59), .sim (.fld 0 (.t 58)), none⟩,
  ⟨(some 60), .sim (.ld (some 4) (.t 59)), none⟩,
  ⟨(some 7), .sim (.new [.string ⟨#[]⟩, .int .i64 0, .int .i64 0, .slice none 0 0]), none⟩,
  ⟨none, .st 4 (.t 7) (.t 60), none⟩]
def c_zone_body_ordered_r13 : List AOper := [
  ⟨(some 61), .sim (.fld 0 (.t 7)), none⟩,
  ⟨(some 62), .sim (.ld none (.t 61)), none⟩,
  ⟨(some 63), .sim (.fld 1 (.t 7)), none⟩,
  ⟨(some 64), .sim (.ld none (.t 63)), none⟩,
  ⟨(some 65), .sim (.fld 0 (.t 4)), none⟩,
  ⟨(some 66), .sim (.fld 0 (.t 65)), none⟩,
  ⟨(some 67), .sim (.ld none (.t 66)), none⟩,
  ⟨(some 68), .sim (.fld 0 (.t 4)), none⟩,
  ⟨(some 69), .sim (.fld 1 (.t 68)), none⟩,
  ⟨(some 70), .sim (.ld none (.t 69)), none⟩,
  ⟨(some 71), .callp 81 [.t 62, .t 64, .t 67, .t 70], none⟩,
  ⟨(some 72), .sim (.bin .geq (.t 71) (.c (.int .i64 0))), none⟩]
def c_zone_body_ordered_r14 : List AOper := [
  ⟨(some 2), .sim (.mov (.c (.bool false))), none⟩]
def c_zone_body_ordered_r15 : List AOper := [
  ⟨(some 73), .sim (.bin .add (.t 30) (.c (.int .i64 1))), none⟩,
  ⟨(some 30), .sim (.mov (.t 73)), none⟩]
def c_zone_body_ordered_r16 : List AOper := [
  ⟨(some 2), .sim (.mov (.c (.bool true))), none⟩]
/-- (nameplan/zone.body).ordered -/
def c_zone_body_ordered : AFunc := ⟨74, [.slot 2],
  (.seq (.reg c_zone_body_ordered_r0 [1]) (.seq (.seq (.reg c_zone_body_ordered_r1 [1, 25]) (.cond (.t 25) (.seq (.reg c_zone_body_ordered_r2 [2]) .ret) .skip)) (.seq (.seq (.reg c_zone_body_ordered_r3 [1, 28, 29, 30]) (.block 0 (.loop [1, 28, 29, 30] (.seq (.reg c_zone_body_ordered_r4 [1, 28, 29, 30, 31]) (.seq (.cond (.t 31) .skip (.exit 0)) (.seq (.block 1 (.seq (.reg c_zone_body_ordered_r5 [1, 3, 4, 28, 29, 30]) (.seq (.seq (.reg c_zone_body_ordered_r6 [1, 3, 4, 28, 29, 30, 38]) (.cond (.t 38) (.seq (.reg c_zone_body_ordered_r7 [2]) .ret) .skip)) (.seq (.seq (.reg c_zone_body_ordered_r8 [1, 3, 4, 5, 28, 29, 30]) (.seq (.reg c_zone_body_ordered_r9 [1, 3, 4, 28, 29, 30, 50]) (.cond (.t 50) (.seq (.reg c_zone_body_ordered_r10 [2]) .ret) .skip))) (.seq (.seq (.reg c_zone_body_ordered_r11 [1, 3, 4, 28, 29, 30, 52]) (.cond (.t 52) (.exit 1) .skip)) (.seq (.reg c_zone_body_ordered_r12 [1, 4, 7, 28, 29, 30]) (.seq (.reg c_zone_body_ordered_r13 [1, 28, 29, 30, 72]) (.cond (.t 72) (.seq (.reg c_zone_body_ordered_r14 [2]) .ret) .skip)))))))) (.reg c_zone_body_ordered_r15 [1, 28, 29, 30]))))))) (.seq (.reg c_zone_body_ordered_r16 [2]) .ret))))⟩
def c_zone_body_apexHolds_r0 : List AOper := [
  ⟨(some 1), .sim (.box (.t 0)), none⟩,
  ⟨(some 2), .sim (.mov (.c (.bool false))), none⟩]
def c_zone_body_apexHolds_r1 : List AOper := [
  ⟨(some 9), .mksl 1 2 [.int .i64 0, .int .i64 0] [(0, 1, .c (.int .i64 4)), (1, 1, .c (.int .i64 2))], none⟩,
  ⟨(some 10), .sim (.len false (.t 9)), none⟩,
  ⟨(some 11), .sim (.mov (.c (.int .i64 0))), none⟩]
def c_zone_body_apexHolds_r2 : List AOper := [
  ⟨(some 12), .sim (.bin .lss (.t 11) (.t 10)), none⟩]
def c_zone_body_apexHolds_r3 : List AOper := [
  ⟨(some 13), .sim (.idx 1 (.t 9) (.t 11)), none⟩,
  ⟨(some 14), .sim (.ld none (.t 13)), none⟩,
  ⟨(some 4), .sim (.mov (.t 14)), none⟩]
def c_zone_body_apexHolds_r4 : List AOper := [
  ⟨(some 16), .sim (.ld (some 2) (.t 1)), none⟩,
  ⟨(some 17), .sim (.fld 0 (.t 1)), none⟩,
  ⟨(some 18), .sim (.fld 0 (.t 17)), none⟩,
  ⟨(some 19), .sim (.ld none (.t 18)), none⟩,
  ⟨(some 20), .sim (.mov (.t 4)), none⟩,
  ⟨(some 21), .sim (.bld [.string ⟨#[]⟩, .int .i64 0] [(0, 1, .t 19), (1, 1, .t 20)]), none⟩,
  ⟨(some 22), .callp 82 [.t 16, .t 21], none⟩,
  ⟨(some 15), .sim (.mov (.t 22)), none⟩,
  ⟨(some 23), .sim (.ext 0 (.t 15)), none⟩,
  ⟨(some 24), .sim (.ext 1 (.t 15)), none⟩,
  ⟨(some 5), .sim (.mov (.t 23)), none⟩,
  ⟨(some 6), .sim (.mov (.t 24)), none⟩]
def c_zone_body_apexHolds_r5 : List AOper := [
  ⟨(some 25), .sim (.mov (.t 6)), none⟩,
  ⟨(some 26), .sim (.not (.t 25)), none⟩]
def c_zone_body_apexHolds_r6 : List AOper := [
  ⟨(some 2), .sim (.mov (.c (.bool false))), none⟩]
def c_zone_body_apexHolds_r7 : List AOper := [
  ⟨(some 27), .sim (.bin .add (.t 11) (.c (.int .i64 1))), none⟩,
  ⟨(some 11), .sim (.mov (.t 27)), none⟩]
def c_zone_body_apexHolds_r8 : List AOper := [
  ⟨(some 28), .sim (.fld 0 (.t 1)), none⟩,
  ⟨(some 29), .sim (.fld 1 (.t 28)), none⟩,
  ⟨(some 30), .sim (.ld none (.t 29)), none⟩,
  ⟨(some 31), .sim (.len false (.t 30)), none⟩,
  ⟨(some 32), .sim (.mov (.c (.int .i64 0))), none⟩]
def c_zone_body_apexHolds_r9 : List AOper := [
  ⟨(some 33), .sim (.bin .lss (.t 32) (.t 31)), none⟩]
def c_zone_body_apexHolds_r10 : List AOper := [
  ⟨(some 34), .sim (.idx 5 (.t 30) (.t 32)), none⟩,
  ⟨(some 35), .sim (.ld (some 5) (.t 34)), none⟩,
  ⟨(some 8), .sim (.new [.string ⟨#[]⟩, .int .i64 0, .int .i64 0, .slice none 0 0, .slice none 0 0]), none⟩,
  ⟨none, .st 5 (.t 8) (.t 35), none⟩]
def c_zone_body_apexHolds_r11 : List AOper := [
  ⟨(some 36), .sim (.fld 0 (.t 8)), none⟩,
  ⟨(some 37), .sim (.fld 1 (.t 36)), none⟩,
  ⟨(some 38), .sim (.ld none (.t 37)), none⟩,
  ⟨(some 39), .sim (.fld 0 (.t 8)), none⟩,
  ⟨(some 40), .sim (.fld 0 (.t 39)), none⟩,
  ⟨(some 41), .sim (.ld none (.t 40)), none⟩,
  ⟨(some 42), .sim (.fld 0 (.t 1)), none⟩,
  ⟨(some 43), .sim (.fld 0 (.t 42)), none⟩,
  ⟨(some 44), .sim (.ld none (.t 43)), none⟩,
  ⟨(some 45), .sim (.bin .eql (.t 41) (.t 44)), none⟩,
  ⟨(some 46), .callp 83 [.t 38, .t 45], none⟩,
  ⟨(some 47), .sim (.not (.t 46)), none⟩]
def c_zone_body_apexHolds_r12 : List AOper := [
  ⟨(some 2), .sim (.mov (.c (.bool false))), none⟩]
def c_zone_body_apexHolds_r13 : List AOper := [
  ⟨(some 48), .sim (.bin .add (.t 32) (.c (.int .i64 1))), none⟩,
  ⟨(some 32), .sim (.mov (.t 48)), none⟩]
def c_zone_body_apexHolds_r14 : List AOper := [
  ⟨(some 2), .sim (.mov (.c (.bool true))), none⟩]
/-- (nameplan/zone.body).apexHolds -/
def c_zone_body_apexHolds : AFunc := ⟨49, [.slot 2],
  (.seq (.reg c_zone_body_apexHolds_r0 [1]) (.seq (.seq (.reg c_zone_body_apexHolds_r1 [1, 9, 10, 11]) (.block 0 (.loop [1, 9, 10, 11] (.seq (.reg c_zone_body_apexHolds_r2 [1, 9, 10, 11, 12]) (.seq (.cond (.t 12) .skip (.exit 0)) (.seq (.block 1 (.seq (.reg c_zone_body_apexHolds_r3 [1, 4, 9, 10, 11]) (.seq (.reg c_zone_body_apexHolds_r4 [1, 6, 9, 10, 11]) (.seq (.reg c_zone_body_apexHolds_r5 [1, 9, 10, 11, 26]) (.cond (.t 26) (.seq (.reg c_zone_body_apexHolds_r6 [2]) .ret) .skip))))) (.reg c_zone_body_apexHolds_r7 [1, 9, 10, 11]))))))) (.seq (.seq (.reg c_zone_body_apexHolds_r8 [1, 30, 31, 32]) (.block 2 (.loop [1, 30, 31, 32] (.seq (.reg c_zone_body_apexHolds_r9 [1, 30, 31, 32, 33]) (.seq (.cond (.t 33) .skip (.exit 2)) (.seq (.block 3 (.seq (.reg c_zone_body_apexHolds_r10 [1, 8, 30, 31, 32]) (.seq (.reg c_zone_body_apexHolds_r11 [1, 30, 31, 32, 47]) (.cond (.t 47) (.seq (.reg c_zone_body_apexHolds_r12 [2]) .ret) .skip)))) (.reg c_zone_body_apexHolds_r13 [1, 30, 31, 32]))))))) (.seq (.reg c_zone_body_apexHolds_r14 [2]) .ret))))⟩
def c_zone_lay_r0 : List AOper := [
  ⟨(some 1), .sim (.box (.t 0)), none⟩,
  ⟨(some 2), .sim (.new [.string ⟨#[]⟩, .slice none 0 0, .slice none 0 0]), none⟩]
def c_zone_lay_r1 : List AOper := [
  ⟨(some 13), .mkmap none, none⟩,
  ⟨(some 3), .sim (.mov (.t 13)), none⟩]
def c_zone_lay_r2 : List AOper := [
  ⟨(some 14), .sim (.fld 0 (.t 1)), none⟩,
  ⟨(some 15), .sim (.fld 1 (.t 14)), none⟩,
  ⟨(some 16), .sim (.ld none (.t 15)), none⟩,
  ⟨(some 17), .sim (.len false (.t 16)), none⟩,
  ⟨(some 18), .sim (.mov (.c (.int .i64 0))), none⟩]
def c_zone_lay_r3 : List AOper := [
  ⟨(some 19), .sim (.bin .lss (.t 18) (.t 17)), none⟩]
def c_zone_lay_r4 : List AOper := [
  ⟨(some 20), .sim (.idx 5 (.t 16) (.t 18)), none⟩,
  ⟨(some 21), .sim (.ld (some 5) (.t 20)), none⟩,
  ⟨(some 5), .sim (.new [.string ⟨#[]⟩, .int .i64 0, .int .i64 0, .slice none 0 0, .slice none 0 0]), none⟩,
  ⟨none, .st 5 (.t 5) (.t 21), none⟩]
def c_zone_lay_r5 : List AOper := [
  ⟨(some 22), .sim (.fld 0 (.t 5)), none⟩,
  ⟨(some 23), .sim (.fld 1 (.t 22)), none⟩,
  ⟨(some 24), .sim (.ld none (.t 23)), none⟩,
  ⟨(some 25), .sim (.bin .eql (.t 24) (.c (.int .i64 2))), none⟩,
  ⟨(some 26), .sim (.mov (.t 25)), none⟩,
  ⟨(some 27), .sim (.fld 0 (.t 5)), (some (26, true))⟩,
  ⟨(some 28), .sim (.fld 0 (.t 27)), (some (26, true))⟩,
  ⟨(some 29), .sim (.ld none (.t 28)), (some (26, true))⟩,
  ⟨(some 30), .sim (.fld 0 (.t 1)), (some (26, true))⟩,
  ⟨(some 31), .sim (.fld 0 (.t 30)), (some (26, true))⟩,
  ⟨(some 32), .sim (.ld none (.t 31)), (some (26, true))⟩,
  ⟨(some 33), .sim (.bin .neq (.t 29) (.t 32)), (some (26, true))⟩,
  ⟨(some 34), .sim (.pick (.t 26) (.t 33) (.c (.bool false))), none⟩]
def c_zone_lay_r6 : List AOper := [
  ⟨(some 35), .sim (.mov (.t 3)), none⟩,
  ⟨(some 36), .sim (.fld 0 (.t 5)), none⟩,
  ⟨(some 37), .sim (.fld 0 (.t 36)), none⟩,
  ⟨(some 38), .sim (.ld none (.t 37)), none⟩,
  ⟨none, .upd false [.s] (.t 35) (.t 38) (.c (.bool true)), none⟩]
def c_zone_lay_r7 : List AOper := [
  ⟨(some 39), .sim (.bin .add (.t 18) (.c (.int .i64 1))), none⟩,
  ⟨(some 18), .sim (.mov (.t 39)), none⟩]
def c_zone_lay_r8 : List DOp := [
  ⟨0, ⟨(some 40), .sim (.ld (some 2) (.t 1)), none⟩, []⟩,
  ⟨1, ⟨(some 41), .sim (.fld 0 (.t 1)), none⟩, []⟩,
  ⟨2, ⟨(some 42), .sim (.fld 1 (.t 41)), none⟩, []⟩,
  ⟨3, ⟨(some 43), .sim (.ld none (.t 42)), none⟩, []⟩,
  ⟨4, ⟨(some 44), .sim (.len false (.t 43)), none⟩, []⟩,
  ⟨7, ⟨(some 6), .sim (.new [.string ⟨#[]⟩, .slice none 0 0, .slice none 0 0]), none⟩, []⟩,
  ⟨5, ⟨(some 45), .mk 1 16 [.string ⟨#[]⟩] (.t 44) (.t 44), none⟩, [0, 7]⟩,
  ⟨6, ⟨(some 46), .sim (.bld [.string ⟨#[]⟩, .slice none 0 0, .slice none 0 0] [(0, 2, .t 40), (2, 1, .t 45)]), none⟩, []⟩,
  ⟨8, ⟨none, .st 3 (.t 6) (.t 46), none⟩, []⟩]
def c_zone_lay_r9 : List AOper := [
  ⟨(some 7), .sim (.mov (.c (.string ⟨#[]⟩))), none⟩]
def c_zone_lay_r10 : List AOper := [
  ⟨(some 47), .sim (.fld 0 (.t 1)), none⟩,
  ⟨(some 48), .sim (.fld 1 (.t 47)), none⟩,
  ⟨(some 49), .sim (.ld none (.t 48)), none⟩,
  ⟨(some 50), .sim (.len false (.t 49)), none⟩,
  ⟨(some 51), .sim (.mov (.c (.int .i64 0))), none⟩]
def c_zone_lay_r11 : List AOper := [
  ⟨(some 52), .sim (.bin .lss (.t 51) (.t 50)), none⟩]
def c_zone_lay_r12 : List AOper := [
  ⟨(some 53), .sim (.mov (.t 51)), none⟩,
  ⟨(some 54), .sim (.idx 5 (.t 49) (.t 51)), none⟩,
  ⟨(some 55), .sim (.ld (some 5) (.t 54)), none⟩,
  ⟨(some 9), .sim (.new [.string ⟨#[]⟩, .int .i64 0, .int .i64 0, .slice none 0 0, .slice none 0 0]), none⟩,
  ⟨(some 8), .sim (.mov (.t 53)), none⟩,
  ⟨none, .st 5 (.t 9) (.t 55), none⟩]
def c_zone_lay_r13 : List AOper := [
  ⟨(some 56), .sim (.fld 0 (.t 9)), none⟩,
  ⟨(some 57), .sim (.fld 0 (.t 56)), none⟩,
  ⟨(some 58), .sim (.ld none (.t 57)), none⟩,
  ⟨(some 10), .sim (.mov (.t 58)), none⟩]
def c_zone_lay_r14 : List AOper := [
  ⟨(some 59), .sim (.mov (.t 7)), none⟩,
  ⟨(some 60), .sim (.bin .neq (.t 59) (.c (.string ⟨#[]⟩))), none⟩]
def c_zone_lay_r15 : List AOper := [
  ⟨(some 62), .sim (.mov (.t 10)), none⟩,
  ⟨(some 63), .sim (.mov (.t 7)), none⟩,
  ⟨(some 64), .callp 80 [.t 62, .t 63], none⟩,
  ⟨(some 61), .sim (.mov (.t 64)), none⟩,
  ⟨(some 65), .sim (.ext 0 (.t 61)), none⟩,
  ⟨(some 66), .sim (.ext 1 (.t 61)), none⟩,
  ⟨(some 11), .sim (.mov (.t 65)), none⟩,
  ⟨(some 12), .sim (.mov (.t 66)), none⟩]
def c_zone_lay_r16 : List AOper := [
  ⟨(some 67), .sim (.mov (.t 11)), none⟩,
  ⟨(some 68), .sim (.not (.t 67)), none⟩]
def c_zone_lay_r17 : List AOper := [
  ⟨(some 7), .sim (.mov (.c (.string ⟨#[]⟩))), none⟩]
def c_zone_lay_r18 : List AOper := [
  ⟨(some 69), .sim (.mov (.t 7)), none⟩,
  ⟨(some 70), .sim (.bin .eql (.t 69) (.c (.string ⟨#[]⟩))), none⟩,
  ⟨(some 71), .sim (.mov (.t 70)), none⟩,
  ⟨(some 72), .sim (.mov (.t 3)), (some (71, true))⟩,
  ⟨(some 73), .sim (.mov (.t 10)), (some (71, true))⟩,
  ⟨(some 74), .look false [.s] (.bool false) false (.t 72) (.t 73), (some (71, true))⟩,
  ⟨(some 75), .sim (.pick (.t 71) (.t 74) (.c (.bool false))), none⟩]
def c_zone_lay_r19 : List AOper := [
  ⟨(some 76), .sim (.mov (.t 10)), none⟩,
  ⟨(some 7), .sim (.mov (.t 76)), none⟩]
def c_zone_lay_r20 : List AOper := [
  ⟨(some 77), .sim (.fld 2 (.t 6)), none⟩,
  ⟨(some 78), .sim (.ld none (.t 77)), none⟩,
  ⟨(some 79), .sim (.mov (.t 8)), none⟩,
  ⟨(some 80), .sim (.mov (.t 7)), none⟩,
  ⟨(some 81), .sim (.idx 1 (.t 78) (.t 79)), none⟩,
  ⟨none, .st 1 (.t 81) (.t 80), none⟩]
def c_zone_lay_r21 : List AOper := [
  ⟨(some 82), .sim (.bin .add (.t 51) (.c (.int .i64 1))), none⟩,
  ⟨(some 51), .sim (.mov (.t 82)), none⟩]
def c_zone_lay_r22 : List AOper := [
  ⟨(some 83), .sim (.ld (some 3) (.t 6)), none⟩,
  ⟨none, .st 3 (.t 2) (.t 83), none⟩]
/-- nameplan/zone.lay -/
def c_zone_lay : AFunc := ⟨84, [.cell 2 (some 3)],
  (.seq (.reg c_zone_lay_r0 [1, 2]) (.seq (.reg c_zone_lay_r1 [1, 2, 3]) (.seq (.seq (.reg c_zone_lay_r2 [1, 2, 3, 16, 17, 18]) (.block 0 (.loop [1, 2, 3, 16, 17, 18] (.seq (.reg c_zone_lay_r3 [1, 2, 3, 16, 17, 18, 19]) (.seq (.cond (.t 19) .skip (.exit 0)) (.seq (.block 1 (.seq (.reg c_zone_lay_r4 [1, 2, 3, 5, 16, 17, 18]) (.seq (.reg c_zone_lay_r5 [1, 2, 3, 5, 16, 17, 18, 34]) (.cond (.t 34) (.reg c_zone_lay_r6 [1, 2, 3, 16, 17, 18]) .skip)))) (.reg c_zone_lay_r7 [1, 2, 3, 16, 17, 18]))))))) (.seq (.regd c_zone_lay_r8 [1, 2, 3, 6]) (.seq (.reg c_zone_lay_r9 [1, 2, 3, 6, 7]) (.seq (.seq (.reg c_zone_lay_r10 [2, 3, 6, 7, 49, 50, 51]) (.block 2 (.loop [2, 3, 6, 7, 49, 50, 51] (.seq (.reg c_zone_lay_r11 [2, 3, 6, 7, 49, 50, 51, 52]) (.seq (.cond (.t 52) .skip (.exit 2)) (.seq (.block 3 (.seq (.reg c_zone_lay_r12 [2, 3, 6, 7, 8, 9, 49, 50, 51]) (.seq (.reg c_zone_lay_r13 [2, 3, 6, 7, 8, 10, 49, 50, 51]) (.seq (.seq (.reg c_zone_lay_r14 [2, 3, 6, 7, 8, 10, 49, 50, 51, 60]) (.cond (.t 60) (.seq (.reg c_zone_lay_r15 [2, 3, 6, 7, 8, 10, 11, 49, 50, 51]) (.seq (.reg c_zone_lay_r16 [2, 3, 6, 7, 8, 10, 49, 50, 51, 68]) (.cond (.t 68) (.reg c_zone_lay_r17 [2, 3, 6, 7, 8, 10, 49, 50, 51]) .skip))) .skip)) (.seq (.seq (.reg c_zone_lay_r18 [2, 3, 6, 7, 8, 10, 49, 50, 51, 75]) (.cond (.t 75) (.reg c_zone_lay_r19 [2, 3, 6, 7, 8, 49, 50, 51]) .skip)) (.reg c_zone_lay_r20 [2, 3, 6, 7, 49, 50, 51])))))) (.reg c_zone_lay_r21 [2, 3, 6, 7, 49, 50, 51]))))))) (.seq (.reg c_zone_lay_r22 [2]) .ret)))))))⟩
def c_zone_layout_aliasesHold_r0 : List AOper := [
  ⟨(some 1), .sim (.box (.t 0)), none⟩,
  ⟨(some 2), .sim (.mov (.c (.bool false))), none⟩]
def c_zone_layout_aliasesHold_r1 : List AOper := [
  ⟨(some 5), .sim (.fld 0 (.t 1)), none⟩,
  ⟨(some 6), .sim (.fld 0 (.t 5)), none⟩,
  ⟨(some 7), .sim (.fld 1 (.t 6)), none⟩,
  ⟨(some 8), .sim (.ld none (.t 7)), none⟩,
  ⟨(some 9), .sim (.len false (.t 8)), none⟩,
  ⟨(some 10), .sim (.mov (.c (.int .i64 0))), none⟩]
def c_zone_layout_aliasesHold_r2 : List AOper := [
  ⟨(some 11), .sim (.bin .lss (.t 10) (.t 9)), none⟩]
def c_zone_layout_aliasesHold_r3 : List AOper := [
  ⟨(some 12), .sim (.mov (.t 10)), none⟩,
  ⟨(some 13), .sim (.idx 5 (.t 8) (.t 10)), none⟩,
  ⟨(some 14), .sim (.ld (some 5) (.t 13)), none⟩,
  ⟨(some 4), .sim (.new [.string ⟨#[]⟩, .int .i64 0, .int .i64 0, .slice none 0 0, .slice none 0 0]), none⟩,
  ⟨(some 3), .sim (.mov (.t 12)), none⟩,
  ⟨none, .st 5 (.t 4) (.t 14), none⟩]
def c_zone_layout_aliasesHold_r4 : List AOper := [
  ⟨(some 15), .sim (.fld 0 (.t 4)), none⟩,
  ⟨(some 16), .sim (.fld 1 (.t 15)), none⟩,
  ⟨(some 17), .sim (.ld none (.t 16)), none⟩,
  ⟨(some 18), .sim (.bin .neq (.t 17) (.c (.int .i64 3))), none⟩]
def c_zone_layout_aliasesHold_r5 : List DOp := [
  ⟨0, ⟨(some 19), .sim (.mov (.t 3)), none⟩, []⟩,
  ⟨1, ⟨(some 20), .sim (.bin .gtr (.t 19) (.c (.int .i64 0))), none⟩, []⟩,
  ⟨2, ⟨(some 21), .sim (.mov (.t 20)), none⟩, []⟩,
  ⟨3, ⟨(some 22), .sim (.fld 0 (.t 1)), (some (21, true))⟩, []⟩,
  ⟨4, ⟨(some 23), .sim (.fld 0 (.t 22)), (some (21, true))⟩, []⟩,
  ⟨5, ⟨(some 24), .sim (.fld 1 (.t 23)), (some (21, true))⟩, []⟩,
  ⟨6, ⟨(some 25), .sim (.ld none (.t 24)), (some (21, true))⟩, []⟩,
  ⟨7, ⟨(some 26), .sim (.mov (.t 3)), (some (21, true))⟩, []⟩,
  ⟨8, ⟨(some 27), .sim (.bin .sub (.t 26) (.c (.int .i64 1))), (some (21, true))⟩, []⟩,
  ⟨9, ⟨(some 28), .sim (.idx 5 (.t 25) (.t 27)), (some (21, true))⟩, []⟩,
  ⟨10, ⟨(some 29), .sim (.fld 0 (.t 28)), (some (21, true))⟩, []⟩,
  ⟨11, ⟨(some 30), .sim (.fld 0 (.t 29)), (some (21, true))⟩, []⟩,
  ⟨12, ⟨(some 31), .sim (.ld none (.t 30)), (some (21, true))⟩, []⟩,
  ⟨13, ⟨(some 32), .sim (.fld 0 (.t 4)), (some (21, true))⟩, []⟩,
  ⟨14, ⟨(some 33), .sim (.fld 0 (.t 32)), (some (21, true))⟩, []⟩,
  ⟨15, ⟨(some 34), .sim (.ld none (.t 33)), (some (21, true))⟩, []⟩,
  ⟨16, ⟨(some 35), .sim (.bin .eql (.t 31) (.t 34)), (some (21, true))⟩, []⟩,
  ⟨17, ⟨(some 36), .sim (.pick (.t 21) (.t 35) (.c (.bool false))), none⟩, []⟩]
def c_zone_layout_aliasesHold_r6 : List AOper := [
  ⟨(some 2), .sim (.mov (.c (.bool false))), none⟩]
def c_zone_layout_aliasesHold_r7 : List DOp := [
  ⟨0, ⟨(some 37), .sim (.mov (.t 3)), none⟩, []⟩,
  ⟨1, ⟨(some 38), .sim (.bin .add (.t 37) (.c (.int .i64 1))), none⟩, []⟩,
  ⟨2, ⟨(some 39), .sim (.fld 0 (.t 1)), none⟩, []⟩,
  ⟨3, ⟨(some 40), .sim (.fld 0 (.t 39)), none⟩, []⟩,
  ⟨4, ⟨(some 41), .sim (.fld 1 (.t 40)), none⟩, []⟩,
  ⟨5, ⟨(some 42), .sim (.ld none (.t 41)), none⟩, []⟩,
  ⟨6, ⟨(some 43), .sim (.len false (.t 42)), none⟩, []⟩,
  ⟨7, ⟨(some 44), .sim (.bin .lss (.t 38) (.t 43)), none⟩, []⟩,
  ⟨8, ⟨(some 45), .sim (.mov (.t 44)), none⟩, []⟩,
  ⟨9, ⟨(some 46), .sim (.fld 0 (.t 1)), (some (45, true))⟩, []⟩,
  ⟨10, ⟨(some 47), .sim (.fld 0 (.t 46)), (some (45, true))⟩, []⟩,
  ⟨11, ⟨(some 48), .sim (.fld 1 (.t 47)), (some (45, true))⟩, []⟩,
  ⟨12, ⟨(some 49), .sim (.ld none (.t 48)), (some (45, true))⟩, []⟩,
  ⟨13, ⟨(some 50), .sim (.mov (.t 3)), (some (45, true))⟩, []⟩,
  ⟨14, ⟨(some 51), .sim (.bin .add (.t 50) (.c (.int .i64 1))), (some (45, true))⟩, []⟩,
  ⟨15, ⟨(some 52), .sim (.idx 5 (.t 49) (.t 51)), (some (45, true))⟩, []⟩,
  ⟨16, ⟨(some 53), .sim (.fld 0 (.t 52)), (some (45, true))⟩, []⟩,
  ⟨17, ⟨(some 54), .sim (.fld 0 (.t 53)), (some (45, true))⟩, []⟩,
  ⟨18, ⟨(some 55), .sim (.ld none (.t 54)), (some (45, true))⟩, []⟩,
  ⟨19, ⟨(some 56), .sim (.fld 0 (.t 4)), (some (45, true))⟩, []⟩,
  ⟨20, ⟨(some 57), .sim (.fld 0 (.t 56)), (some (45, true))⟩, []⟩,
  ⟨21, ⟨(some 58), .sim (.ld none (.t 57)), (some (45, true))⟩, []⟩,
  ⟨22, ⟨(some 59), .sim (.bin .eql (.t 55) (.t 58)), (some (45, true))⟩, []⟩,
  ⟨23, ⟨(some 60), .sim (.pick (.t 45) (.t 59) (.c (.bool false))), none⟩, []⟩,
  ⟨24, ⟨(some 61), .sim (.mov (.t 60)), none⟩, []⟩,
  ⟨25, ⟨(some 62), .sim (.fld 0 (.t 1)), (some (61, true))⟩, []⟩,
  ⟨26, ⟨(some 63), .sim (.fld 0 (.t 62)), (some (61, true))⟩, []⟩,
  ⟨27, ⟨(some 64), .sim (.fld 1 (.t 63)), (some (61, true))⟩, []⟩,
  ⟨28, ⟨(some 65), .sim (.ld none (.t 64)), (some (61, true))⟩, []⟩,
  ⟨29, ⟨(some 66), .sim (.mov (.t 3)), (some (61, true))⟩, []⟩,
  ⟨30, ⟨(some 67), .sim (.bin .add (.t 66) (.c (.int .i64 1))), (some (61, true))⟩, []⟩,
  ⟨31, ⟨(some 68), .sim (.idx 5 (.t 65) (.t 67)), (some (61, true))⟩, []⟩,
  ⟨32, ⟨(some 69), .sim (.fld 0 (.t 68)), (some (61, true))⟩, []⟩,
  ⟨33, ⟨(some 70), .sim (.fld 1 (.t 69)), (some (61, true))⟩, []⟩,
  ⟨34, ⟨(some 71), .sim (.ld none (.t 70)), (some (61, true))⟩, []⟩,
  ⟨35, ⟨(some 72), .sim (.bin .neq (.t 71) (.c (.int .i64 8))), (some (61, true))⟩, []⟩,
  ⟨36, ⟨(some 73), .sim (.pick (.t 61) (.t 72) (.c (.bool false))), none⟩, []⟩]
def c_zone_layout_aliasesHold_r8 : List AOper := [
  ⟨(some 2), .sim (.mov (.c (.bool false))), none⟩]
def c_zone_layout_aliasesHold_r9 : List AOper := [
  ⟨(some 74), .sim (.bin .add (.t 10) (.c (.int .i64 1))), none⟩,
  ⟨(some 10), .sim (.mov (.t 74)), none⟩]
def c_zone_layout_aliasesHold_r10 : List AOper := [
  ⟨(some 2), .sim (.mov (.c (.bool true))), none⟩]
/-- (nameplan/zone.layout).aliasesHold -/
def c_zone_layout_aliasesHold : AFunc := ⟨75, [.slot 2],
  (.seq (.reg c_zone_layout_aliasesHold_r0 [1]) (.seq (.seq (.reg c_zone_layout_aliasesHold_r1 [1, 8, 9, 10]) (.block 0 (.loop [1, 8, 9, 10] (.seq (.reg c_zone_layout_aliasesHold_r2 [1, 8, 9, 10, 11]) (.seq (.cond (.t 11) .skip (.exit 0)) (.seq (.block 1 (.seq (.reg c_zone_layout_aliasesHold_r3 [1, 3, 4, 8, 9, 10]) (.seq (.seq (.reg c_zone_layout_aliasesHold_r4 [1, 3, 4, 8, 9, 10, 18]) (.cond (.t 18) (.exit 1) .skip)) (.seq (.seq (.regd c_zone_layout_aliasesHold_r5 [1, 3, 4, 8, 9, 10, 36]) (.cond (.t 36) (.seq (.reg c_zone_layout_aliasesHold_r6 [2]) .ret) .skip)) (.seq (.regd c_zone_layout_aliasesHold_r7 [1, 8, 9, 10, 73]) (.cond (.t 73) (.seq (.reg c_zone_layout_aliasesHold_r8 [2]) .ret) .skip)))))) (.reg c_zone_layout_aliasesHold_r9 [1, 8, 9, 10]))))))) (.seq (.reg c_zone_layout_aliasesHold_r10 [2]) .ret)))⟩
def c_zone_layout_cutsHold_r0 : List AOper := [
  ⟨(some 1), .sim (.box (.t 0)), none⟩,
  ⟨(some 2), .sim (.mov (.c (.bool false))), none⟩]
def c_zone_layout_cutsHold_r1 : List AOper := [
  ⟨(some 6), .sim (.fld 0 (.t 1)), none⟩,
  ⟨(some 7), .sim (.fld 0 (.t 6)), none⟩,
  ⟨(some 8), .sim (.fld 1 (.t 7)), none⟩,
  ⟨(some 9), .sim (.ld none (.t 8)), none⟩,
  ⟨(some 10), .sim (.len false (.t 9)), none⟩,
  ⟨(some 11), .sim (.mov (.c (.int .i64 0))), none⟩]
def c_zone_layout_cutsHold_r2 : List AOper := [
  ⟨(some 12), .sim (.bin .lss (.t 11) (.t 10)), none⟩]
def c_zone_layout_cutsHold_r3 : List AOper := [
  ⟨(some 13), .sim (.mov (.t 11)), none⟩,
  ⟨(some 14), .sim (.idx 5 (.t 9) (.t 11)), none⟩,
  ⟨(some 15), .sim (.ld (some 5) (.t 14)), none⟩,
  ⟨(some 4), .sim (.new [.string ⟨#[]⟩, .int .i64 0, .int .i64 0, .slice none 0 0, .slice none 0 0]), none⟩,
  ⟨(some 3), .sim (.mov (.t 13)), none⟩,
  ⟨none, .st 5 (.t 4) (.t 15), none⟩]
def c_zone_layout_cutsHold_r4 : List AOper := [
  ⟨(some 16), .sim (.fld 0 (.t 4)), none⟩,
  ⟨(some 17), .sim (.fld 1 (.t 16)), none⟩,
  ⟨(some 18), .sim (.ld none (.t 17)), none⟩,
  ⟨(some 5), .sim (.mov (.t 18)), none⟩]
def c_zone_layout_cutsHold_r5 : List AOper := [
  ⟨(some 19), .sim (.fld 2 (.t 1)), none⟩,
  ⟨(some 20), .sim (.ld none (.t 19)), none⟩,
  ⟨(some 21), .sim (.mov (.t 3)), none⟩,
  ⟨(some 22), .sim (.idx 1 (.t 20) (.t 21)), none⟩,
  ⟨(some 23), .sim (.ld none (.t 22)), none⟩]
def c_zone_layout_cutsHold_r8 : List AOper := [
  ⟨(some 27), .sim (.bin .eql (.t 23) (.c (.string ⟨#[]⟩))), none⟩,
  ⟨(some 26), .sim (.mov (.t 27)), none⟩]
def c_zone_layout_cutsHold_r9 : List AOper := [
  ⟨(some 28), .sim (.mov (.t 5)), none⟩,
  ⟨(some 29), .sim (.bin .eql (.t 28) (.c (.int .i64 6))), none⟩]
def c_zone_layout_cutsHold_r10 : List AOper := [
  ⟨(some 2), .sim (.mov (.c (.bool false))), none⟩]
def c_zone_layout_cutsHold_r11 : List AOper := [
  ⟨(some 31), .sim (.fld 0 (.t 4)), none⟩,
  ⟨(some 32), .sim (.fld 0 (.t 31)), none⟩,
  ⟨(some 33), .sim (.ld none (.t 32)), none⟩,
  ⟨(some 34), .sim (.bin .eql (.t 23) (.t 33)), none⟩,
  ⟨(some 30), .sim (.mov (.t 34)), none⟩]
def c_zone_layout_cutsHold_r12 : List AOper := [
  ⟨(some 35), .sim (.mov (.t 5)), none⟩,
  ⟨(some 36), .sim (.bin .neq (.t 35) (.c (.int .i64 2))), none⟩,
  ⟨(some 37), .sim (.mov (.t 36)), none⟩,
  ⟨(some 38), .sim (.mov (.t 5)), (some (37, true))⟩,
  ⟨(some 39), .sim (.bin .neq (.t 38) (.c (.int .i64 6))), (some (37, true))⟩,
  ⟨(some 40), .sim (.pick (.t 37) (.t 39) (.c (.bool false))), none⟩,
  ⟨(some 41), .sim (.mov (.t 40)), none⟩,
  ⟨(some 42), .sim (.mov (.t 5)), (some (41, true))⟩,
  ⟨(some 43), .sim (.bin .neq (.t 42) (.c (.int .i64 8))), (some (41, true))⟩,
  ⟨(some 44), .sim (.pick (.t 41) (.t 43) (.c (.bool false))), none⟩,
  ⟨(some 45), .sim (.mov (.t 44)), none⟩,
  ⟨(some 46), .sim (.mov (.t 5)), (some (45, true))⟩,
  ⟨(some 47), .sim (.bin .neq (.t 46) (.c (.int .i64 1))), (some (45, true))⟩,
  ⟨(some 48), .sim (.pick (.t 45) (.t 47) (.c (.bool false))), none⟩]
def c_zone_layout_cutsHold_r13 : List AOper := [
  ⟨(some 2), .sim (.mov (.c (.bool false))), none⟩]
def c_zone_layout_cutsHold_r6 : List AOper := [
  ⟨(some 24), .sim (.mov (.t 5)), none⟩,
  ⟨(some 25), .sim (.bin .neq (.t 24) (.c (.int .i64 1))), none⟩]
def c_zone_layout_cutsHold_r7 : List AOper := [
  ⟨(some 2), .sim (.mov (.c (.bool false))), none⟩]
def c_zone_layout_cutsHold_r14 : List AOper := [
  ⟨(some 49), .sim (.bin .add (.t 11) (.c (.int .i64 1))), none⟩,
  ⟨(some 11), .sim (.mov (.t 49)), none⟩]
def c_zone_layout_cutsHold_r15 : List AOper := [
  ⟨(some 2), .sim (.mov (.c (.bool true))), none⟩]
/-- (nameplan/zone.layout).cutsHold -/
def c_zone_layout_cutsHold : AFunc := ⟨50, [.slot 2],
  (.seq (.reg c_zone_layout_cutsHold_r0 [1]) (.seq (.seq (.reg c_zone_layout_cutsHold_r1 [1, 9, 10, 11]) (.block 0 (.loop [1, 9, 10, 11] (.seq (.reg c_zone_layout_cutsHold_r2 [1, 9, 10, 11, 12]) (.seq (.cond (.t 12) .skip (.exit 0)) (.seq (.block 1 (.seq (.reg c_zone_layout_cutsHold_r3 [1, 3, 4, 9, 10, 11]) (.seq (.reg c_zone_layout_cutsHold_r4 [1, 3, 4, 5, 9, 10, 11]) (.seq (.reg c_zone_layout_cutsHold_r5 [1, 4, 5, 9, 10, 11, 23]) (.block 2 (.seq (.reg c_zone_layout_cutsHold_r8 [1, 4, 5, 9, 10, 11, 23, 26]) (.cond (.t 26) (.seq (.reg c_zone_layout_cutsHold_r9 [1, 9, 10, 11, 29]) (.cond (.t 29) (.seq (.reg c_zone_layout_cutsHold_r10 [2]) .ret) .skip)) (.seq (.reg c_zone_layout_cutsHold_r11 [1, 5, 9, 10, 11, 30]) (.cond (.t 30) (.seq (.reg c_zone_layout_cutsHold_r12 [1, 9, 10, 11, 48]) (.cond (.t 48) (.seq (.reg c_zone_layout_cutsHold_r13 [2]) .ret) .skip)) (.seq (.reg c_zone_layout_cutsHold_r6 [1, 9, 10, 11, 25]) (.cond (.t 25) (.seq (.reg c_zone_layout_cutsHold_r7 [2]) .ret) .skip))))))))))) (.reg c_zone_layout_cutsHold_r14 [1, 9, 10, 11]))))))) (.seq (.reg c_zone_layout_cutsHold_r15 [2]) .ret)))⟩
def c_zone_layout_sigsHold_r0 : List AOper := [
  ⟨(some 1), .sim (.box (.t 0)), none⟩,
  ⟨(some 2), .sim (.mov (.c (.bool false))), none⟩]
def c_zone_layout_sigsHold_r1 : List AOper := [
  ⟨(some 6), .sim (.fld 0 (.t 1)), none⟩,
  ⟨(some 7), .sim (.fld 0 (.t 6)), none⟩,
  ⟨(some 8), .sim (.fld 1 (.t 7)), none⟩,
  ⟨(some 9), .sim (.ld none (.t 8)), none⟩,
  ⟨(some 10), .sim (.len false (.t 9)), none⟩,
  ⟨(some 11), .sim (.mov (.c (.int .i64 0))), none⟩]
def c_zone_layout_sigsHold_r2 : List AOper := [
  ⟨(some 12), .sim (.bin .lss (.t 11) (.t 10)), none⟩]
def c_zone_layout_sigsHold_r3 : List AOper := [
  ⟨(some 13), .sim (.mov (.t 11)), none⟩,
  ⟨(some 14), .sim (.idx 5 (.t 9) (.t 11)), none⟩,
  ⟨(some 15), .sim (.ld (some 5) (.t 14)), none⟩,
  ⟨(some 4), .sim (.new [.string ⟨#[]⟩, .int .i64 0, .int .i64 0, .slice none 0 0, .slice none 0 0]), none⟩,
  ⟨(some 3), .sim (.mov (.t 13)), none⟩,
  ⟨none, .st 5 (.t 4) (.t 15), none⟩]
def c_zone_layout_sigsHold_r4 : List AOper := [
  ⟨(some 16), .sim (.fld 2 (.t 1)), none⟩,
  ⟨(some 17), .sim (.ld none (.t 16)), none⟩,
  ⟨(some 18), .sim (.mov (.t 3)), none⟩,
  ⟨(some 19), .sim (.idx 1 (.t 17) (.t 18)), none⟩,
  ⟨(some 20), .sim (.ld none (.t 19)), none⟩,
  ⟨(some 21), .sim (.bin .neq (.t 20) (.c (.string ⟨#[]⟩))), none⟩,
  ⟨(some 22), .sim (.mov (.t 21)), none⟩,
  ⟨(some 23), .sim (.fld 0 (.t 4)), (some (22, true))⟩,
  ⟨(some 24), .sim (.fld 1 (.t 23)), (some (22, true))⟩,
  ⟨(some 25), .sim (.ld none (.t 24)), (some (22, true))⟩,
  ⟨(some 26), .sim (.bin .eql (.t 25) (.c (.int .i64 2))), (some (22, true))⟩,
  ⟨(some 27), .sim (.mov (.t 26)), (some (22, true))⟩,
  ⟨(some 28), .sim (.fld 0 (.t 4)), (some (27, false))⟩,
  ⟨(some 29), .sim (.fld 1 (.t 28)), (some (27, false))⟩,
  ⟨(some 30), .sim (.ld none (.t 29)), (some (27, false))⟩,
  ⟨(some 31), .sim (.bin .eql (.t 30) (.c (.int .i64 1))), (some (27, false))⟩,
  ⟨(some 32), .sim (.pick (.t 27) (.c (.bool true)) (.t 31)), (some (22, true))⟩,
  ⟨(some 33), .sim (.pick (.t 22) (.t 32) (.c (.bool false))), none⟩,
  ⟨(some 5), .sim (.mov (.t 33)), none⟩]
def c_zone_layout_sigsHold_r5 : List AOper := [
  ⟨(some 34), .sim (.mov (.t 5)), none⟩,
  ⟨(some 35), .sim (.mov (.t 34)), none⟩,
  ⟨(some 36), .sim (.fld 4 (.t 4)), (some (35, true))⟩,
  ⟨(some 37), .sim (.ld none (.t 36)), (some (35, true))⟩,
  ⟨(some 38), .sim (.len false (.t 37)), (some (35, true))⟩,
  ⟨(some 39), .sim (.bin .gtr (.t 38) (.c (.int .i64 0))), (some (35, true))⟩,
  ⟨(some 40), .sim (.pick (.t 35) (.t 39) (.c (.bool false))), none⟩]
def c_zone_layout_sigsHold_r6 : List AOper := [
  ⟨(some 2), .sim (.mov (.c (.bool false))), none⟩]
def c_zone_layout_sigsHold_r7 : List AOper := [
  ⟨(some 41), .sim (.bin .add (.t 11) (.c (.int .i64 1))), none⟩,
  ⟨(some 11), .sim (.mov (.t 41)), none⟩]
def c_zone_layout_sigsHold_r8 : List AOper := [
  ⟨(some 2), .sim (.mov (.c (.bool true))), none⟩]
/-- (nameplan/zone.layout).sigsHold -/
def c_zone_layout_sigsHold : AFunc := ⟨42, [.slot 2],
  (.seq (.reg c_zone_layout_sigsHold_r0 [1]) (.seq (.seq (.reg c_zone_layout_sigsHold_r1 [1, 9, 10, 11]) (.block 0 (.loop [1, 9, 10, 11] (.seq (.reg c_zone_layout_sigsHold_r2 [1, 9, 10, 11, 12]) (.seq (.cond (.t 12) .skip (.exit 0)) (.seq (.block 1 (.seq (.reg c_zone_layout_sigsHold_r3 [1, 3, 4, 9, 10, 11]) (.seq (.reg c_zone_layout_sigsHold_r4 [1, 4, 5, 9, 10, 11]) (.seq (.reg c_zone_layout_sigsHold_r5 [1, 9, 10, 11, 40]) (.cond (.t 40) (.seq (.reg c_zone_layout_sigsHold_r6 [2]) .ret) .skip))))) (.reg c_zone_layout_sigsHold_r7 [1, 9, 10, 11]))))))) (.seq (.reg c_zone_layout_sigsHold_r8 [2]) .ret)))⟩
def c_zone_layout_formHolds_r0 : List AOper := [
  ⟨(some 1), .sim (.box (.t 0)), none⟩,
  ⟨(some 2), .sim (.mov (.c (.bool false))), none⟩]
def c_zone_layout_formHolds_r1 : List AOper := [
  ⟨(some 5), .sim (.fld 0 (.t 1)), none⟩,
  ⟨(some 6), .sim (.fld 0 (.t 5)), none⟩,
  ⟨(some 7), .sim (.fld 1 (.t 6)), none⟩,
  ⟨(some 8), .sim (.ld none (.t 7)), none⟩,
  ⟨(some 9), .sim (.len false (.t 8)), none⟩,
  ⟨(some 10), .sim (.mov (.c (.int .i64 0))), none⟩]
def c_zone_layout_formHolds_r2 : List AOper := [
  ⟨(some 11), .sim (.bin .lss (.t 10) (.t 9)), none⟩]
def c_zone_layout_formHolds_r3 : List AOper := [
  ⟨(some 12), .sim (.idx 5 (.t 8) (.t 10)), none⟩,
  ⟨(some 13), .sim (.ld (some 5) (.t 12)), none⟩,
  ⟨(some 4), .sim (.new [.string ⟨#[]⟩, .int .i64 0, .int .i64 0, .slice none 0 0, .slice none 0 0]), none⟩,
  ⟨none, .st 5 (.t 4) (.t 13), none⟩]
def c_zone_layout_formHolds_r4 : List AOper := [
  ⟨(some 14), .sim (.fld 4 (.t 4)), none⟩,
  ⟨(some 15), .sim (.ld none (.t 14)), none⟩,
  ⟨(some 16), .sim (.fld 0 (.t 1)), none⟩,
  ⟨(some 17), .sim (.fld 0 (.t 16)), none⟩,
  ⟨(some 18), .sim (.fld 0 (.t 17)), none⟩,
  ⟨(some 19), .sim (.ld none (.t 18)), none⟩,
  ⟨(some 20), .callp 84 [.t 15, .t 19], none⟩,
  ⟨(some 21), .sim (.not (.t 20)), none⟩]
def c_zone_layout_formHolds_r5 : List AOper := [
  ⟨(some 2), .sim (.mov (.c (.bool false))), none⟩]
def c_zone_layout_formHolds_r6 : List AOper := [
  ⟨(some 22), .sim (.bin .add (.t 10) (.c (.int .i64 1))), none⟩,
  ⟨(some 10), .sim (.mov (.t 22)), none⟩]
def c_zone_layout_formHolds_r7 : List AOper := [
  ⟨(some 2), .sim (.mov (.c (.bool true))), none⟩]
/-- (nameplan/zone.layout).formHolds -/
def c_zone_layout_formHolds : AFunc := ⟨23, [.slot 2],
  (.seq (.reg c_zone_layout_formHolds_r0 [1]) (.seq (.seq (.reg c_zone_layout_formHolds_r1 [1, 8, 9, 10]) (.block 0 (.loop [1, 8, 9, 10] (.seq (.reg c_zone_layout_formHolds_r2 [1, 8, 9, 10, 11]) (.seq (.cond (.t 11) .skip (.exit 0)) (.seq (.block 1 (.seq (.reg c_zone_layout_formHolds_r3 [1, 4, 8, 9, 10]) (.seq (.reg c_zone_layout_formHolds_r4 [1, 8, 9, 10, 21]) (.cond (.t 21) (.seq (.reg c_zone_layout_formHolds_r5 [2]) .ret) .skip)))) (.reg c_zone_layout_formHolds_r6 [1, 8, 9, 10]))))))) (.seq (.reg c_zone_layout_formHolds_r7 [2]) .ret)))⟩
def c_internal_stringslite_HasPrefix_r0 : List AOper := [
  ⟨(some 4), .sim (.mov (.c (.bool false))), none⟩]
def c_internal_stringslite_HasPrefix_r1 : List AOper := [
  ⟨(some 5), .sim (.mov (.t 0)), none⟩,
  ⟨(some 6), .sim (.len true (.t 5)), none⟩,
  ⟨(some 7), .sim (.mov (.t 1)), none⟩,
  ⟨(some 8), .sim (.len true (.t 7)), none⟩,
  ⟨(some 9), .sim (.bin .geq (.t 6) (.t 8)), none⟩,
  ⟨(some 10), .sim (.mov (.t 9)), none⟩,
  ⟨(some 11), .sim (.mov (.t 0)), (some (10, true))⟩,
  ⟨(some 12), .sim (.mov (.t 1)), (some (10, true))⟩,
  ⟨(some 13), .sim (.len true (.t 12)), (some (10, true))⟩,
  ⟨(some 14), .sim (.slcs (.t 11) none (some (.t 13))), (some (10, true))⟩,
  ⟨(some 15), .sim (.mov (.t 1)), (some (10, true))⟩,
  ⟨(some 16), .sim (.bin .eql (.t 14) (.t 15)), (some (10, true))⟩,
  ⟨(some 17), .sim (.pick (.t 10) (.t 16) (.c (.bool false))), none⟩,
  ⟨(some 4), .sim (.mov (.t 17)), none⟩]
/-- internal/stringslite.HasPrefix -/
def c_internal_stringslite_HasPrefix : AFunc := ⟨18, [.slot 4],
  (.seq (.reg c_internal_stringslite_HasPrefix_r0 [0, 1]) (.seq (.reg c_internal_stringslite_HasPrefix_r1 [4]) .ret))⟩
def c_slices_SortFunc_Span_r0 : List AOper := [
  ⟨(some 5), .sim (.mov (.t 0)), none⟩,
  ⟨(some 6), .sim (.len false (.t 5)), none⟩,
  ⟨(some 4), .sim (.mov (.t 6)), none⟩]
def c_slices_SortFunc_Span_r1 : List AOper := [
  ⟨(some 7), .sim (.mov (.t 0)), none⟩,
  ⟨(some 8), .sim (.mov (.t 4)), none⟩,
  ⟨(some 9), .sim (.mov (.t 4)), none⟩,
  ⟨(some 10), .sim (.cvi .u64 (.t 9)), none⟩,
  ⟨(some 11), .callp 85 [.t 10], none⟩,
  ⟨(some 12), .sim (.mov (.t 1)), none⟩,
  ⟨(some 13), .call 86 [.t 7, .c (.int .i64 0), .t 8, .t 11, .t 12], none⟩]
/-- slices.SortFunc[[]nameplan/api.Span,nameplan/api.Span] -/
def c_slices_SortFunc_Span : AFunc := ⟨14, [],
  (.seq (.reg c_slices_SortFunc_Span_r0 [0, 1, 4]) (.reg c_slices_SortFunc_Span_r1 []))⟩
def c_cmp_Compare_int_r0 : List AOper := [
  ⟨(some 4), .sim (.mov (.c (.int .i64 0))), none⟩]
def c_cmp_Compare_int_r1 : List AOper := [
  ⟨(some 7), .sim (.mov (.t 0)), none⟩,
  ⟨(some 8), .callp 88 [.t 7], none⟩,
  ⟨(some 5), .sim (.mov (.t 8)), none⟩]
def c_cmp_Compare_int_r2 : List AOper := [
  ⟨(some 9), .sim (.mov (.t 1)), none⟩,
  ⟨(some 10), .callp 88 [.t 9], none⟩,
  ⟨(some 6), .sim (.mov (.t 10)), none⟩]
def c_cmp_Compare_int_r3 : List AOper := [
  ⟨(some 11), .sim (.mov (.t 5)), none⟩]
def c_cmp_Compare_int_r4 : List AOper := [
  ⟨(some 12), .sim (.mov (.t 6)), none⟩]
def c_cmp_Compare_int_r5 : List AOper := [
  ⟨(some 4), .sim (.mov (.c (.int .i64 0))), none⟩]
def c_cmp_Compare_int_r6 : List AOper := [
  ⟨(some 4), .sim (.mov (.c (.int .i64 (-1)))), none⟩]
def c_cmp_Compare_int_r7 : List AOper := [
  ⟨(some 13), .sim (.mov (.t 6)), none⟩]
def c_cmp_Compare_int_r8 : List AOper := [
  ⟨(some 4), .sim (.mov (.c (.int .i64 1))), none⟩]
def c_cmp_Compare_int_r9 : List AOper := [
  ⟨(some 14), .sim (.mov (.t 0)), none⟩,
  ⟨(some 15), .sim (.mov (.t 1)), none⟩,
  ⟨(some 16), .sim (.bin .lss (.t 14) (.t 15)), none⟩]
def c_cmp_Compare_int_r10 : List AOper := [
  ⟨(some 4), .sim (.mov (.c (.int .i64 (-1)))), none⟩]
def c_cmp_Compare_int_r11 : List AOper := [
  ⟨(some 17), .sim (.mov (.t 0)), none⟩,
  ⟨(some 18), .sim (.mov (.t 1)), none⟩,
  ⟨(some 19), .sim (.bin .gtr (.t 17) (.t 18)), none⟩]
def c_cmp_Compare_int_r12 : List AOper := [
  ⟨(some 4), .sim (.mov (.c (.int .i64 1))), none⟩]
def c_cmp_Compare_int_r13 : List AOper := [
  ⟨(some 4), .sim (.mov (.c (.int .i64 0))), none⟩]
/-- cmp.Compare[int] -/
def c_cmp_Compare_int : AFunc := ⟨20, [.slot 4],
  (.seq (.reg c_cmp_Compare_int_r0 [0, 1]) (.seq (.reg c_cmp_Compare_int_r1 [0, 1, 5]) (.seq (.reg c_cmp_Compare_int_r2 [0, 1, 5, 6]) (.seq (.seq (.reg c_cmp_Compare_int_r3 [0, 1, 6, 11]) (.cond (.t 11) (.seq (.seq (.reg c_cmp_Compare_int_r4 [12]) (.cond (.t 12) (.seq (.reg c_cmp_Compare_int_r5 [4]) .ret) .skip)) (.seq (.reg c_cmp_Compare_int_r6 [4]) .ret)) .skip)) (.seq (.seq (.reg c_cmp_Compare_int_r7 [0, 1, 13]) (.cond (.t 13) (.seq (.reg c_cmp_Compare_int_r8 [4]) .ret) .skip)) (.seq (.seq (.reg c_cmp_Compare_int_r9 [0, 1, 16]) (.cond (.t 16) (.seq (.reg c_cmp_Compare_int_r10 [4]) .ret) .skip)) (.seq (.seq (.reg c_cmp_Compare_int_r11 [19]) (.cond (.t 19) (.seq (.reg c_cmp_Compare_int_r12 [4]) .ret) .skip)) (.seq (.reg c_cmp_Compare_int_r13 [4]) .ret))))))))⟩
def c_name_text_backwards_r0 : List AOper := [
  ⟨(some 6), .sim (.mov (.t 0)), none⟩,
  ⟨(some 7), .sim (.bin .eql (.t 6) (.c (.string ⟨#[46]⟩))), none⟩]
def c_name_text_backwards_r1 : List AOper := [
  ⟨(some 8), .sim (.mov (.t 0)), none⟩,
  ⟨(some 4), .sim (.mov (.t 8)), none⟩]
def c_name_text_backwards_r2 : List AOper := [
  ⟨(some 9), .sim (.mov (.t 4)), none⟩,
  ⟨(some 10), .callp 90 [.t 9, .c (.int .u8 46)], none⟩,
  ⟨(some 5), .sim (.mov (.t 10)), none⟩]
def c_name_text_backwards_r3 : List AOper := [
  ⟨(some 11), .sim (.mov (.t 1)), none⟩,
  ⟨(some 12), .sim (.mov (.t 4)), none⟩,
  ⟨(some 13), .sim (.mov (.t 5)), none⟩,
  ⟨(some 14), .sim (.bin .add (.t 13) (.c (.int .i64 1))), none⟩,
  ⟨(some 15), .sim (.slcs (.t 12) (some (.t 14)) none), none⟩,
  ⟨(some 16), .callv (.t 11) [.t 15], none⟩,
  ⟨(some 17), .sim (.not (.t 16)), none⟩,
  ⟨(some 18), .sim (.mov (.t 17)), none⟩,
  ⟨(some 19), .sim (.mov (.t 5)), (some (18, false))⟩,
  ⟨(some 20), .sim (.bin .lss (.t 19) (.c (.int .i64 0))), (some (18, false))⟩,
  ⟨(some 21), .sim (.pick (.t 18) (.c (.bool true)) (.t 20)), none⟩]
def c_name_text_backwards_r4 : List AOper := [
  ⟨(some 22), .sim (.mov (.t 4)), none⟩,
  ⟨(some 23), .sim (.mov (.t 5)), none⟩,
  ⟨(some 24), .sim (.slcs (.t 22) none (some (.t 23))), none⟩,
  ⟨(some 4), .sim (.mov (.t 24)), none⟩]
/-- (nameplan/name.text).backwards -/
def c_name_text_backwards : AFunc := ⟨25, [],
  (.seq (.seq (.reg c_name_text_backwards_r0 [0, 1, 7]) (.cond (.t 7) .ret .skip)) (.seq (.reg c_name_text_backwards_r1 [1, 4]) (.block 0 (.loop [1, 4] (.block 1 (.seq (.reg c_name_text_backwards_r2 [1, 4, 5]) (.seq (.seq (.reg c_name_text_backwards_r3 [1, 4, 5, 21]) (.cond (.t 21) .ret .skip)) (.reg c_name_text_backwards_r4 [1, 4]))))))))⟩
def c_name_isLabel_r0 : List AOper := [
  ⟨(some 2), .sim (.mov (.c (.bool false))), none⟩]
def c_name_isLabel_r1 : List AOper := [
  ⟨(some 5), .sim (.mov (.t 0)), none⟩,
  ⟨(some 6), .sim (.len true (.t 5)), none⟩,
  ⟨(some 7), .sim (.bin .lss (.t 6) (.c (.int .i64 1))), none⟩,
  ⟨(some 8), .sim (.mov (.t 7)), none⟩,
  ⟨(some 9), .sim (.mov (.t 0)), (some (8, false))⟩,
  ⟨(some 10), .sim (.len true (.t 9)), (some (8, false))⟩,
  ⟨(some 11), .sim (.bin .gtr (.t 10) (.c (.int .i64 12))), (some (8, false))⟩,
  ⟨(some 12), .sim (.pick (.t 8) (.c (.bool true)) (.t 11)), none⟩,
  ⟨(some 13), .sim (.mov (.t 12)), none⟩,
  ⟨(some 14), .sim (.mov (.t 0)), (some (13, false))⟩,
  ⟨(some 15), .sim (.idxs (.t 14) (.c (.int .i64 0))), (some (13, false))⟩,
  ⟨(some 16), .sim (.bin .eql (.t 15) (.c (.int .u8 45))), (some (13, false))⟩,
  ⟨(some 17), .sim (.pick (.t 13) (.c (.bool true)) (.t 16)), none⟩,
  ⟨(some 18), .sim (.mov (.t 17)), none⟩,
  ⟨(some 19), .sim (.mov (.t 0)), (some (18, false))⟩,
  ⟨(some 20), .sim (.mov (.t 0)), (some (18, false))⟩,
  ⟨(some 21), .sim (.len true (.t 20)), (some (18, false))⟩,
  ⟨(some 22), .sim (.bin .sub (.t 21) (.c (.int .i64 1))), (some (18, false))⟩,
  ⟨(some 23), .sim (.idxs (.t 19) (.t 22)), (some (18, false))⟩,
  ⟨(some 24), .sim (.bin .eql (.t 23) (.c (.int .u8 45))), (some (18, false))⟩,
  ⟨(some 25), .sim (.pick (.t 18) (.c (.bool true)) (.t 24)), none⟩]
def c_name_isLabel_r2 : List AOper := [
  ⟨(some 2), .sim (.mov (.c (.bool false))), none⟩]
def c_name_isLabel_r3 : List AOper := [
  ⟨(some 26), .sim (.mov (.t 0)), none⟩,
  ⟨(some 27), .sim (.len true (.t 26)), none⟩,
  ⟨(some 28), .sim (.mov (.c (.int .i64 0))), none⟩]
def c_name_isLabel_r4 : List AOper := [
  ⟨(some 29), .sim (.bin .lss (.t 28) (.t 27)), none⟩]
def c_name_isLabel_r5 : List AOper := [
  ⟨(some 30), .sim (.mov (.t 28)), none⟩,
  ⟨(some 3), .sim (.mov (.t 30)), none⟩]
def c_name_isLabel_r6 : List AOper := [
  ⟨(some 31), .sim (.mov (.t 0)), none⟩,
  ⟨(some 32), .sim (.mov (.t 3)), none⟩,
  ⟨(some 33), .sim (.idxs (.t 31) (.t 32)), none⟩,
  ⟨(some 4), .sim (.mov (.t 33)), none⟩]
def c_name_isLabel_r7 : List AOper := [
  ⟨(some 34), .sim (.mov (.t 4)), none⟩,
  ⟨(some 35), .sim (.bin .lss (.t 34) (.c (.int .u8 97))), none⟩,
  ⟨(some 36), .sim (.mov (.t 35)), none⟩,
  ⟨(some 37), .sim (.mov (.t 4)), (some (36, false))⟩,
  ⟨(some 38), .sim (.bin .gtr (.t 37) (.c (.int .u8 122))), (some (36, false))⟩,
  ⟨(some 39), .sim (.pick (.t 36) (.c (.bool true)) (.t 38)), none⟩,
  ⟨(some 40), .sim (.mov (.t 39)), none⟩,
  ⟨(some 41), .sim (.mov (.t 4)), (some (40, true))⟩,
  ⟨(some 42), .sim (.bin .lss (.t 41) (.c (.int .u8 48))), (some (40, true))⟩,
  ⟨(some 43), .sim (.mov (.t 42)), (some (40, true))⟩,
  ⟨(some 44), .sim (.mov (.t 4)), (some (43, false))⟩,
  ⟨(some 45), .sim (.bin .gtr (.t 44) (.c (.int .u8 57))), (some (43, false))⟩,
  ⟨(some 46), .sim (.pick (.t 43) (.c (.bool true)) (.t 45)), (some (40, true))⟩,
  ⟨(some 47), .sim (.pick (.t 40) (.t 46) (.c (.bool false))), none⟩,
  ⟨(some 48), .sim (.mov (.t 47)), none⟩,
  ⟨(some 49), .sim (.mov (.t 4)), (some (48, true))⟩,
  ⟨(some 50), .sim (.bin .neq (.t 49) (.c (.int .u8 45))), (some (48, true))⟩,
  ⟨(some 51), .sim (.pick (.t 48) (.t 50) (.c (.bool false))), none⟩]
def c_name_isLabel_r8 : List AOper := [
  ⟨(some 2), .sim (.mov (.c (.bool false))), none⟩]
def c_name_isLabel_r9 : List AOper := [
  ⟨(some 52), .sim (.bin .add (.t 28) (.c (.int .i64 1))), none⟩,
  ⟨(some 28), .sim (.mov (.t 52)), none⟩]
def c_name_isLabel_r10 : List AOper := [
  ⟨(some 2), .sim (.mov (.c (.bool true))), none⟩]
/-- nameplan/name.isLabel -/
def c_name_isLabel : AFunc := ⟨53, [.slot 2],
  (.seq (.reg c_name_isLabel_r0 [0]) (.seq (.seq (.reg c_name_isLabel_r1 [0, 25]) (.cond (.t 25) (.seq (.reg c_name_isLabel_r2 [2]) .ret) .skip)) (.seq (.seq (.reg c_name_isLabel_r3 [0, 27, 28]) (.block 0 (.loop [0, 27, 28] (.seq (.reg c_name_isLabel_r4 [0, 27, 28, 29]) (.seq (.cond (.t 29) .skip (.exit 0)) (.seq (.block 1 (.seq (.reg c_name_isLabel_r5 [0, 3, 27, 28]) (.seq (.reg c_name_isLabel_r6 [0, 4, 27, 28]) (.seq (.reg c_name_isLabel_r7 [0, 27, 28, 51]) (.cond (.t 51) (.seq (.reg c_name_isLabel_r8 [2]) .ret) .skip))))) (.reg c_name_isLabel_r9 [0, 27, 28]))))))) (.seq (.reg c_name_isLabel_r10 [2]) .ret))))⟩
def c_slices_IndexFunc_int_r0 : List AOper := [
  ⟨(some 4), .sim (.mov (.c (.int .i64 0))), none⟩]
def c_slices_IndexFunc_int_r1 : List AOper := [
  ⟨(some 6), .sim (.mov (.t 0)), none⟩,
  ⟨(some 7), .sim (.len false (.t 6)), none⟩,
  ⟨(some 8), .sim (.mov (.c (.int .i64 0))), none⟩]
def c_slices_IndexFunc_int_r2 : List AOper := [
  ⟨(some 9), .sim (.bin .lss (.t 8) (.t 7)), none⟩]
def c_slices_IndexFunc_int_r3 : List AOper := [
  ⟨(some 10), .sim (.mov (.t 8)), none⟩,
  ⟨(some 5), .sim (.mov (.t 10)), none⟩]
def c_slices_IndexFunc_int_r4 : List AOper := [
  ⟨(some 11), .sim (.mov (.t 1)), none⟩,
  ⟨(some 12), .sim (.mov (.t 0)), none⟩,
  ⟨(some 13), .sim (.mov (.t 5)), none⟩,
  ⟨(some 14), .sim (.idx 1 (.t 12) (.t 13)), none⟩,
  ⟨(some 15), .sim (.ld none (.t 14)), none⟩,
  ⟨(some 16), .callv (.t 11) [.t 15], none⟩]
def c_slices_IndexFunc_int_r5 : List AOper := [
  ⟨(some 17), .sim (.mov (.t 5)), none⟩,
  ⟨(some 4), .sim (.mov (.t 17)), none⟩]
def c_slices_IndexFunc_int_r6 : List AOper := [
  ⟨(some 18), .sim (.bin .add (.t 8) (.c (.int .i64 1))), none⟩,
  ⟨(some 8), .sim (.mov (.t 18)), none⟩]
def c_slices_IndexFunc_int_r7 : List AOper := [
  ⟨(some 4), .sim (.mov (.c (.int .i64 (-1)))), none⟩]
/-- slices.IndexFunc[[]int,int] -/
def c_slices_IndexFunc_int : AFunc := ⟨19, [.slot 4],
  (.seq (.reg c_slices_IndexFunc_int_r0 [0, 1]) (.seq (.seq (.reg c_slices_IndexFunc_int_r1 [0, 1, 7, 8]) (.block 0 (.loop [0, 1, 7, 8] (.seq (.reg c_slices_IndexFunc_int_r2 [0, 1, 7, 8, 9]) (.seq (.cond (.t 9) .skip (.exit 0)) (.seq (.block 1 (.seq (.reg c_slices_IndexFunc_int_r3 [0, 1, 5, 7, 8]) (.seq (.reg c_slices_IndexFunc_int_r4 [0, 1, 5, 7, 8, 16]) (.cond (.t 16) (.seq (.reg c_slices_IndexFunc_int_r5 [4]) .ret) .skip)))) (.reg c_slices_IndexFunc_int_r6 [0, 1, 7, 8]))))))) (.seq (.reg c_slices_IndexFunc_int_r7 [4]) .ret)))⟩
def c_name_Labels_r0 : List AOper := [
  ⟨(some 2), .sim (.mov (.c (.slice none 0 0))), none⟩,
  ⟨(some 3), .sim (.mov (.c (.int .i64 0))), none⟩]
def c_name_Labels_r1 : List AOper := [
  ⟨(some 9), .sim (.mov (.t 0)), none⟩,
  ⟨(some 4), .sim (.mov (.t 9)), none⟩]
def c_name_Labels_r2 : List AOper := [
  ⟨(some 10), .sim (.mov (.t 4)), none⟩,
  ⟨(some 11), .callp 50 [.t 10], none⟩,
  ⟨(some 12), .sim (.not (.t 11)), none⟩]
def c_name_Labels_r3 : List AOper := [
  ⟨(some 2), .sim (.mov (.c (.slice none 0 0))), none⟩,
  ⟨(some 3), .sim (.mov (.c (.int .i64 11))), none⟩]
def c_name_Labels_r4 : List AOper := [
  ⟨(some 13), .mk 1 16 [.string ⟨#[]⟩] (.c (.int .i64 8)) (.c (.int .i64 8)), none⟩,
  ⟨(some 5), .newH [.slice none 0 0], none⟩,
  ⟨none, .st 1 (.t 5) (.t 13), none⟩]
def c_name_Labels_r5 : List AOper := [
  ⟨(some 14), .sim (.ld none (.t 5)), none⟩,
  ⟨(some 15), .sim (.len false (.t 14)), none⟩,
  ⟨(some 6), .newH [.int .i64 0], none⟩,
  ⟨none, .st 1 (.t 6) (.t 15), none⟩]
def c_name_Labels_r6 : List AOper := [
  ⟨(some 16), .sim (.mov (.t 4)), none⟩,
  ⟨(some 17), .sim (.mkf 65 [.t 16] []), none⟩,
  ⟨(some 7), .sim (.mov (.t 17)), none⟩]
def c_name_Labels_r7 : List AOper := [
  ⟨(some 18), .sim (.mov (.t 7)), none⟩]
def c_name_Labels_r8 : List AOper := [
  ⟨(some 8), .sim (.mov (.t 19)), none⟩]
def c_name_Labels_r9 : List AOper := [
  ⟨(some 20), .sim (.ld none (.t 6)), none⟩,
  ⟨(some 21), .sim (.bin .sub (.t 20) (.c (.int .i64 1))), none⟩,
  ⟨none, .st 1 (.t 6) (.t 21), none⟩]
def c_name_Labels_r10 : List AOper := [
  ⟨(some 22), .sim (.ld none (.t 5)), none⟩,
  ⟨(some 23), .sim (.ld none (.t 6)), none⟩,
  ⟨(some 24), .sim (.mov (.t 8)), none⟩,
  ⟨(some 25), .sim (.idx 1 (.t 22) (.t 23)), none⟩,
  ⟨none, .st 1 (.t 25) (.t 24), none⟩]
def c_name_Labels_r11 : List AOper := [
  ⟨(some 26), .sim (.ld none (.t 5)), none⟩,
  ⟨(some 27), .sim (.ld none (.t 6)), none⟩,
  ⟨(some 28), .sim (.ld none (.t 5)), none⟩,
  ⟨(some 29), .sim (.len false (.t 28)), none⟩,
  ⟨(some 30), .sim (.ld none (.t 5)), none⟩,
  ⟨(some 31), .sim (.len false (.t 30)), none⟩,
  ⟨(some 32), .sim (.slc 1 (.t 26) (some (.t 27)) (some (.t 29)) (some (.t 31))), none⟩,
  ⟨(some 2), .sim (.mov (.t 32)), none⟩,
  ⟨(some 3), .sim (.mov (.c (.int .i64 0))), none⟩]
/-- nameplan/name.Labels -/
def c_name_Labels : AFunc := ⟨33, [.slot 2, .slot 3],
  (.seq (.reg c_name_Labels_r0 [0, 2, 3]) (.seq (.reg c_name_Labels_r1 [2, 3, 4]) (.seq (.seq (.reg c_name_Labels_r2 [2, 3, 4, 12]) (.cond (.t 12) (.seq (.reg c_name_Labels_r3 [2, 3]) .ret) .skip)) (.seq (.reg c_name_Labels_r4 [2, 3, 4, 5]) (.seq (.reg c_name_Labels_r5 [2, 3, 4, 5, 6]) (.seq (.reg c_name_Labels_r6 [2, 3, 5, 6, 7]) (.seq (.seq (.reg c_name_Labels_r7 [2, 3, 5, 6, 18]) (.block 0 (.rangeF (.t 18) [19] (.reg c_name_Labels_r8 [5, 6, 8]) (.block 1 (.seq (.reg c_name_Labels_r9 [5, 6, 8]) (.reg c_name_Labels_r10 [])))))) (.seq (.reg c_name_Labels_r11 [2, 3]) .ret))))))))⟩
def c_record_within_int_r0 : List AOper := [
  ⟨(some 6), .sim (.mov (.c (.bool false))), none⟩]
def c_record_within_int_r1 : List AOper := [
  ⟨(some 7), .sim (.mov (.t 1)), none⟩,
  ⟨(some 8), .sim (.mov (.t 0)), none⟩,
  ⟨(some 9), .sim (.bin .leq (.t 7) (.t 8)), none⟩,
  ⟨(some 10), .sim (.mov (.t 9)), none⟩,
  ⟨(some 11), .sim (.mov (.t 0)), (some (10, true))⟩,
  ⟨(some 12), .sim (.mov (.t 2)), (some (10, true))⟩,
  ⟨(some 13), .sim (.bin .leq (.t 11) (.t 12)), (some (10, true))⟩,
  ⟨(some 14), .sim (.pick (.t 10) (.t 13) (.c (.bool false))), none⟩,
  ⟨(some 6), .sim (.mov (.t 14)), none⟩]
/-- nameplan/record.within[int] -/
def c_record_within_int : AFunc := ⟨15, [.slot 6],
  (.seq (.reg c_record_within_int_r0 [0, 1, 2]) (.seq (.reg c_record_within_int_r1 [6]) .ret))⟩
def c_record_isWildcard_r0 : List AOper := [
  ⟨(some 2), .sim (.mov (.c (.bool false))), none⟩]
def c_record_isWildcard_r1 : List AOper := [
  ⟨(some 3), .sim (.mov (.t 0)), none⟩,
  ⟨(some 4), .callp 44 [.t 3, .c (.string ⟨#[42]⟩)], none⟩,
  ⟨(some 2), .sim (.mov (.t 4)), none⟩]
/-- nameplan/record.isWildcard -/
def c_record_isWildcard : AFunc := ⟨5, [.slot 2],
  (.seq (.reg c_record_isWildcard_r0 [0]) (.seq (.reg c_record_isWildcard_r1 [2]) .ret))⟩
def c_record_validDatum_r0 : List AOper := [
  ⟨(some 2), .sim (.box (.t 0)), none⟩,
  ⟨(some 3), .sim (.box (.t 1)), none⟩,
  ⟨(some 4), .sim (.mov (.c (.bool false))), none⟩]
def c_record_validDatum_r1 : List AOper := [
  ⟨(some 5), .sim (.fld 1 (.t 3)), none⟩,
  ⟨(some 6), .sim (.ld none (.t 5)), none⟩,
  ⟨(some 7), .sim (.fld 1 (.t 2)), none⟩,
  ⟨(some 8), .sim (.ld none (.t 7)), none⟩,
  ⟨(some 9), .sim (.fld 2 (.t 2)), none⟩,
  ⟨(some 10), .sim (.ld none (.t 9)), none⟩,
  ⟨(some 11), .callp 74 [.t 6, .t 8, .t 10], none⟩,
  ⟨(some 12), .sim (.not (.t 11)), none⟩,
  ⟨(some 13), .sim (.mov (.t 12)), none⟩,
  ⟨(some 14), .sim (.fld 2 (.t 3)), (some (13, false))⟩,
  ⟨(some 15), .sim (.ld none (.t 14)), (some (13, false))⟩,
  ⟨(some 16), .sim (.fld 3 (.t 2)), (some (13, false))⟩,
  ⟨(some 17), .sim (.ld none (.t 16)), (some (13, false))⟩,
  ⟨(some 18), .sim (.fld 4 (.t 2)), (some (13, false))⟩,
  ⟨(some 19), .sim (.ld none (.t 18)), (some (13, false))⟩,
  ⟨(some 20), .callp 74 [.t 15, .t 17, .t 19], (some (13, false))⟩,
  ⟨(some 21), .sim (.not (.t 20)), (some (13, false))⟩,
  ⟨(some 22), .sim (.pick (.t 13) (.c (.bool true)) (.t 21)), none⟩,
  ⟨(some 23), .sim (.mov (.t 22)), none⟩,
  ⟨(some 24), .sim (.fld 5 (.t 2)), (some (23, false))⟩,
  ⟨(some 25), .sim (.ld none (.t 24)), (some (23, false))⟩,
  ⟨(some 26), .sim (.mov (.t 25)), (some (23, false))⟩,
  ⟨(some 27), .sim (.fld 1 (.t 3)), (some (26, true))⟩,
  ⟨(some 28), .sim (.ld none (.t 27)), (some (26, true))⟩,
  ⟨(some 29), .sim (.bin .rem (.t 28) (.c (.int .i64 2))), (some (26, true))⟩,
  ⟨(some 30), .sim (.bin .neq (.t 29) (.c (.int .i64 0))), (some (26, true))⟩,
  ⟨(some 31), .sim (.pick (.t 26) (.t 30) (.c (.bool false))), (some (23, false))⟩,
  ⟨(some 32), .sim (.pick (.t 23) (.c (.bool true)) (.t 31)), none⟩]
def c_record_validDatum_r2 : List AOper := [
  ⟨(some 4), .sim (.mov (.c (.bool false))), none⟩]
def c_record_validDatum_r3 : List AOper := [
  ⟨(some 33), .sim (.fld 0 (.t 2)), none⟩,
  ⟨(some 34), .sim (.ld none (.t 33)), none⟩]
def c_record_validDatum_r4 : List AOper := [
  ⟨(some 36), .sim (.bin .eql (.t 34) (.c (.int .i64 1))), none⟩,
  ⟨(some 35), .sim (.mov (.t 36)), none⟩]
def c_record_validDatum_r5 : List AOper := [
  ⟨(some 37), .sim (.fld 0 (.t 3)), none⟩,
  ⟨(some 38), .sim (.ld none (.t 37)), none⟩,
  ⟨(some 39), .callp 45 [.t 38], none⟩,
  ⟨(some 40), .sim (.mov (.t 39)), none⟩,
  ⟨(some 41), .sim (.fld 0 (.t 3)), (some (40, true))⟩,
  ⟨(some 42), .sim (.ld none (.t 41)), (some (40, true))⟩,
  ⟨(some 43), .callp 76 [.t 42], (some (40, true))⟩,
  ⟨(some 44), .sim (.not (.t 43)), (some (40, true))⟩,
  ⟨(some 45), .sim (.pick (.t 40) (.t 44) (.c (.bool false))), none⟩,
  ⟨(some 4), .sim (.mov (.t 45)), none⟩]
def c_record_validDatum_r6 : List AOper := [
  ⟨(some 47), .sim (.bin .eql (.t 34) (.c (.int .i64 2))), none⟩,
  ⟨(some 46), .sim (.mov (.t 47)), none⟩]
def c_record_validDatum_r7 : List AOper := [
  ⟨(some 48), .sim (.fld 0 (.t 3)), none⟩,
  ⟨(some 49), .sim (.ld none (.t 48)), none⟩,
  ⟨(some 50), .callp 45 [.t 49], none⟩,
  ⟨(some 4), .sim (.mov (.t 50)), none⟩]
def c_record_validDatum_r8 : List AOper := [
  ⟨(some 52), .sim (.bin .eql (.t 34) (.c (.int .i64 3))), none⟩,
  ⟨(some 51), .sim (.mov (.t 52)), none⟩]
def c_record_validDatum_r9 : List AOper := [
  ⟨(some 53), .sim (.fld 0 (.t 3)), none⟩,
  ⟨(some 54), .sim (.ld none (.t 53)), none⟩,
  ⟨(some 55), .callp 91 [.t 54], none⟩,
  ⟨(some 4), .sim (.mov (.t 55)), none⟩]
def c_record_validDatum_r10 : List AOper := [
  ⟨(some 56), .sim (.fld 0 (.t 3)), none⟩,
  ⟨(some 57), .sim (.ld none (.t 56)), none⟩,
  ⟨(some 58), .sim (.bin .eql (.t 57) (.c (.string ⟨#[]⟩))), none⟩,
  ⟨(some 4), .sim (.mov (.t 58)), none⟩]
/-- nameplan/record.validDatum -/
def c_record_validDatum : AFunc := ⟨59, [.slot 4],
  (.seq (.reg c_record_validDatum_r0 [2, 3]) (.seq (.seq (.reg c_record_validDatum_r1 [2, 3, 32]) (.cond (.t 32) (.seq (.reg c_record_validDatum_r2 [4]) .ret) .skip)) (.seq (.seq (.reg c_record_validDatum_r3 [3, 34]) (.block 0 (.seq (.reg c_record_validDatum_r4 [3, 34, 35]) (.cond (.t 35) (.seq (.reg c_record_validDatum_r5 [4]) .ret) (.seq (.reg c_record_validDatum_r6 [3, 34, 46]) (.cond (.t 46) (.seq (.reg c_record_validDatum_r7 [4]) .ret) (.seq (.reg c_record_validDatum_r8 [3, 51]) (.cond (.t 51) (.seq (.reg c_record_validDatum_r9 [4]) .ret) .skip)))))))) (.seq (.reg c_record_validDatum_r10 [4]) .ret))))⟩
def c_record_compareData_r0 : List AOper := [
  ⟨(some 2), .sim (.box (.t 0)), none⟩,
  ⟨(some 3), .sim (.box (.t 1)), none⟩,
  ⟨(some 4), .sim (.mov (.c (.int .i64 0))), none⟩]
def c_record_compareData_r1 : List DOp := [
  ⟨0, ⟨(some 5), .sim (.fld 0 (.t 2)), none⟩, []⟩,
  ⟨1, ⟨(some 6), .sim (.ld none (.t 5)), none⟩, []⟩,
  ⟨2, ⟨(some 7), .sim (.fld 0 (.t 3)), none⟩, []⟩,
  ⟨3, ⟨(some 8), .sim (.ld none (.t 7)), none⟩, []⟩,
  ⟨5, ⟨(some 10), .sim (.fld 1 (.t 2)), none⟩, []⟩,
  ⟨6, ⟨(some 11), .sim (.ld none (.t 10)), none⟩, []⟩,
  ⟨7, ⟨(some 12), .sim (.fld 1 (.t 3)), none⟩, []⟩,
  ⟨8, ⟨(some 13), .sim (.ld none (.t 12)), none⟩, []⟩,
  ⟨10, ⟨(some 15), .sim (.fld 2 (.t 2)), none⟩, []⟩,
  ⟨11, ⟨(some 16), .sim (.ld none (.t 15)), none⟩, []⟩,
  ⟨12, ⟨(some 17), .sim (.fld 2 (.t 3)), none⟩, []⟩,
  ⟨13, ⟨(some 18), .sim (.ld none (.t 17)), none⟩, []⟩,
  ⟨4, ⟨(some 9), .callp 92 [.t 6, .t 8], none⟩, [5, 6, 7, 8, 10, 11, 12, 13]⟩,
  ⟨9, ⟨(some 14), .callp 89 [.t 11, .t 13], none⟩, [10, 11, 12, 13]⟩,
  ⟨14, ⟨(some 19), .callp 89 [.t 16, .t 18], none⟩, []⟩,
  ⟨15, ⟨(some 20), .mksl 1 3 [.int .i64 0, .int .i64 0, .int .i64 0] [(0, 1, .t 9), (1, 1, .t 14), (2, 1, .t 19)], none⟩, []⟩,
  ⟨16, ⟨(some 21), .callp 93 [.t 20], none⟩, []⟩,
  ⟨17, ⟨(some 4), .sim (.mov (.t 21)), none⟩, []⟩]
/-- nameplan/record.compareData -/
def c_record_compareData : AFunc := ⟨22, [.slot 4],
  (.seq (.reg c_record_compareData_r0 [2, 3]) (.seq (.regd c_record_compareData_r1 [4]) .ret))⟩
def c_name_Under_r0 : List AOper := [
  ⟨(some 4), .sim (.mov (.c (.bool false))), none⟩,
  ⟨(some 5), .sim (.mov (.c (.int .i64 0))), none⟩]
def c_name_Under_r1 : List AOper := [
  ⟨(some 6), .sim (.mov (.t 0)), none⟩,
  ⟨(some 7), .callp 50 [.t 6], none⟩,
  ⟨(some 8), .sim (.not (.t 7)), none⟩,
  ⟨(some 9), .sim (.mov (.t 8)), none⟩,
  ⟨(some 10), .sim (.mov (.t 1)), (some (9, false))⟩,
  ⟨(some 11), .callp 50 [.t 10], (some (9, false))⟩,
  ⟨(some 12), .sim (.not (.t 11)), (some (9, false))⟩,
  ⟨(some 13), .sim (.pick (.t 9) (.c (.bool true)) (.t 12)), none⟩]
def c_name_Under_r2 : List AOper := [
  ⟨(some 4), .sim (.mov (.c (.bool false))), none⟩,
  ⟨(some 5), .sim (.mov (.c (.int .i64 11))), none⟩]
def c_name_Under_r3 : List AOper := [
  ⟨(some 14), .sim (.mov (.t 0)), none⟩,
  ⟨(some 15), .sim (.mov (.t 1)), none⟩,
  ⟨(some 16), .sim (.bin .eql (.t 14) (.t 15)), none⟩,
  ⟨(some 17), .sim (.mov (.t 16)), none⟩,
  ⟨(some 18), .sim (.mov (.t 1)), (some (17, false))⟩,
  ⟨(some 19), .sim (.bin .eql (.t 18) (.c (.string ⟨#[46]⟩))), (some (17, false))⟩,
  ⟨(some 20), .sim (.pick (.t 17) (.c (.bool true)) (.t 19)), none⟩]
def c_name_Under_r4 : List AOper := [
  ⟨(some 4), .sim (.mov (.c (.bool true))), none⟩,
  ⟨(some 5), .sim (.mov (.c (.int .i64 0))), none⟩]
def c_name_Under_r5 : List AOper := [
  ⟨(some 21), .sim (.mov (.t 0)), none⟩,
  ⟨(some 22), .sim (.len true (.t 21)), none⟩,
  ⟨(some 23), .sim (.mov (.t 1)), none⟩,
  ⟨(some 24), .sim (.len true (.t 23)), none⟩,
  ⟨(some 25), .sim (.bin .gtr (.t 22) (.t 24)), none⟩,
  ⟨(some 26), .sim (.mov (.t 25)), none⟩,
  ⟨(some 27), .sim (.mov (.t 0)), (some (26, true))⟩,
  ⟨(some 28), .sim (.mov (.t 1)), (some (26, true))⟩,
  ⟨(some 29), .callp 94 [.t 27, .t 28], (some (26, true))⟩,
  ⟨(some 30), .sim (.pick (.t 26) (.t 29) (.c (.bool false))), none⟩,
  ⟨(some 31), .sim (.mov (.t 30)), none⟩,
  ⟨(some 32), .sim (.mov (.t 0)), (some (31, true))⟩,
  ⟨(some 33), .sim (.mov (.t 0)), (some (31, true))⟩,
  ⟨(some 34), .sim (.len true (.t 33)), (some (31, true))⟩,
  ⟨(some 35), .sim (.mov (.t 1)), (some (31, true))⟩,
  ⟨(some 36), .sim (.len true (.t 35)), (some (31, true))⟩,
  ⟨(some 37), .sim (.bin .sub (.t 34) (.t 36)), (some (31, true))⟩,
  ⟨(some 38), .sim (.bin .sub (.t 37) (.c (.int .i64 1))), (some (31, true))⟩,
  ⟨(some 39), .sim (.idxs (.t 32) (.t 38)), (some (31, true))⟩,
  ⟨(some 40), .sim (.bin .eql (.t 39) (.c (.int .u8 46))), (some (31, true))⟩,
  ⟨(some 41), .sim (.pick (.t 31) (.t 40) (.c (.bool false))), none⟩,
  ⟨(some 4), .sim (.mov (.t 41)), none⟩,
  ⟨(some 5), .sim (.mov (.c (.int .i64 0))), none⟩]
/-- nameplan/name.Under -/
def c_name_Under : AFunc := ⟨42, [.slot 4, .slot 5],
  (.seq (.reg c_name_Under_r0 [0, 1]) (.seq (.seq (.reg c_name_Under_r1 [0, 1, 13]) (.cond (.t 13) (.seq (.reg c_name_Under_r2 [4, 5]) .ret) .skip)) (.seq (.seq (.reg c_name_Under_r3 [0, 1, 20]) (.cond (.t 20) (.seq (.reg c_name_Under_r4 [4, 5]) .ret) .skip)) (.seq (.reg c_name_Under_r5 [4, 5]) .ret))))⟩
def c_zone_comparePlaces_r0 : List AOper := [
  ⟨(some 8), .sim (.mov (.c (.int .i64 0))), none⟩]
def c_zone_comparePlaces_r1 : List AOper := [
  ⟨(some 11), .sim (.mov (.t 0)), none⟩,
  ⟨(some 12), .sim (.mov (.t 2)), none⟩,
  ⟨(some 13), .sim (.bin .neq (.t 11) (.t 12)), none⟩]
def c_zone_comparePlaces_r2 : List AOper := [
  ⟨(some 15), .sim (.mov (.t 0)), none⟩,
  ⟨(some 16), .sim (.mov (.t 2)), none⟩,
  ⟨(some 17), .callp 95 [.t 15, .t 16], none⟩,
  ⟨(some 14), .sim (.mov (.t 17)), none⟩,
  ⟨(some 18), .sim (.ext 0 (.t 14)), none⟩,
  ⟨(some 19), .sim (.ext 1 (.t 14)), none⟩,
  ⟨(some 9), .sim (.mov (.t 18)), none⟩,
  ⟨(some 10), .sim (.mov (.t 19)), none⟩]
def c_zone_comparePlaces_r3 : List AOper := [
  ⟨(some 20), .sim (.mov (.t 9)), none⟩,
  ⟨(some 8), .sim (.mov (.t 20)), none⟩]
def c_zone_comparePlaces_r4 : List AOper := [
  ⟨(some 21), .sim (.mov (.t 1)), none⟩,
  ⟨(some 22), .sim (.mov (.t 3)), none⟩,
  ⟨(some 23), .callp 89 [.t 21, .t 22], none⟩,
  ⟨(some 8), .sim (.mov (.t 23)), none⟩]
/-- nameplan/zone.comparePlaces -/
def c_zone_comparePlaces : AFunc := ⟨24, [.slot 8],
  (.seq (.reg c_zone_comparePlaces_r0 [0, 1, 2, 3]) (.seq (.seq (.reg c_zone_comparePlaces_r1 [0, 1, 2, 3, 13]) (.cond (.t 13) (.seq (.reg c_zone_comparePlaces_r2 [9]) (.seq (.reg c_zone_comparePlaces_r3 [8]) .ret)) .skip)) (.seq (.reg c_zone_comparePlaces_r4 [8]) .ret)))⟩
def c_zone_body_find_r0 : List AOper := [
  ⟨(some 2), .sim (.box (.t 0)), none⟩,
  ⟨(some 3), .sim (.box (.t 1)), none⟩,
  ⟨(some 4), .sim (.mov (.c (.int .i64 0))), none⟩,
  ⟨(some 5), .sim (.mov (.c (.bool false))), none⟩]
def c_zone_body_find_r1 : List AOper := [
  ⟨(some 6), .sim (.fld 0 (.t 2)), none⟩,
  ⟨(some 7), .sim (.fld 1 (.t 6)), none⟩,
  ⟨(some 8), .sim (.ld none (.t 7)), none⟩,
  ⟨(some 9), .sim (.ld (some 2) (.t 3)), none⟩,
  ⟨(some 10), .callp 97 [.t 8, .t 9, .f 96], none⟩,
  ⟨(some 11), .sim (.ext 0 (.t 10)), none⟩,
  ⟨(some 12), .sim (.ext 1 (.t 10)), none⟩,
  ⟨(some 4), .sim (.mov (.t 11)), none⟩,
  ⟨(some 5), .sim (.mov (.t 12)), none⟩]
/-- (nameplan/zone.body).find -/
def c_zone_body_find : AFunc := ⟨13, [.slot 4, .slot 5],
  (.seq (.reg c_zone_body_find_r0 [2, 3]) (.seq (.reg c_zone_body_find_r1 [4, 5]) .ret))⟩
def c_zone_fitsApex_r0 : List AOper := [
  ⟨(some 4), .sim (.mov (.c (.bool false))), none⟩]
def c_zone_fitsApex_r1 : List AOper := [
  ⟨(some 5), .sim (.mov (.t 0)), none⟩]
def c_zone_fitsApex_r2 : List AOper := [
  ⟨(some 7), .sim (.bin .eql (.t 5) (.c (.int .i64 3))), none⟩,
  ⟨(some 6), .sim (.mov (.t 7)), none⟩]
def c_zone_fitsApex_r3 : List AOper := [
  ⟨(some 8), .sim (.bin .eql (.t 5) (.c (.int .i64 6))), none⟩,
  ⟨(some 6), .sim (.mov (.t 8)), none⟩]
def c_zone_fitsApex_r4 : List AOper := [
  ⟨(some 9), .sim (.mov (.t 1)), none⟩,
  ⟨(some 10), .sim (.not (.t 9)), none⟩,
  ⟨(some 4), .sim (.mov (.t 10)), none⟩]
def c_zone_fitsApex_r5 : List AOper := [
  ⟨(some 12), .sim (.bin .eql (.t 5) (.c (.int .i64 4))), none⟩,
  ⟨(some 11), .sim (.mov (.t 12)), none⟩]
def c_zone_fitsApex_r6 : List AOper := [
  ⟨(some 13), .sim (.bin .eql (.t 5) (.c (.int .i64 7))), none⟩,
  ⟨(some 11), .sim (.mov (.t 13)), none⟩]
def c_zone_fitsApex_r7 : List AOper := [
  ⟨(some 14), .sim (.mov (.t 1)), none⟩,
  ⟨(some 4), .sim (.mov (.t 14)), none⟩]
def c_zone_fitsApex_r8 : List AOper := [
  ⟨(some 4), .sim (.mov (.c (.bool true))), none⟩]
/-- nameplan/zone.fitsApex -/
def c_zone_fitsApex : AFunc := ⟨15, [.slot 4],
  (.seq (.reg c_zone_fitsApex_r0 [0, 1]) (.seq (.seq (.reg c_zone_fitsApex_r1 [1, 5]) (.block 0 (.seq (.seq (.reg c_zone_fitsApex_r2 [1, 5, 6]) (.cond (.t 6) .skip (.reg c_zone_fitsApex_r3 [1, 5, 6]))) (.cond (.t 6) (.seq (.reg c_zone_fitsApex_r4 [4]) .ret) (.seq (.seq (.reg c_zone_fitsApex_r5 [1, 5, 11]) (.cond (.t 11) .skip (.reg c_zone_fitsApex_r6 [1, 11]))) (.cond (.t 11) (.seq (.reg c_zone_fitsApex_r7 [4]) .ret) .skip)))))) (.seq (.reg c_zone_fitsApex_r8 [4]) .ret)))⟩
def c_zone_inForm_r0 : List AOper := [
  ⟨(some 4), .sim (.mov (.c (.bool false))), none⟩]
def c_zone_inForm_r1 : List AOper := [
  ⟨(some 7), .sim (.mov (.t 0)), none⟩,
  ⟨(some 8), .sim (.len false (.t 7)), none⟩,
  ⟨(some 9), .sim (.bin .gtr (.t 8) (.c (.int .i64 6))), none⟩]
def c_zone_inForm_r2 : List AOper := [
  ⟨(some 4), .sim (.mov (.c (.bool false))), none⟩]
def c_zone_inForm_r3 : List AOper := [
  ⟨(some 10), .sim (.mov (.t 0)), none⟩,
  ⟨(some 11), .sim (.len false (.t 10)), none⟩,
  ⟨(some 12), .sim (.mov (.c (.int .i64 0))), none⟩]
def c_zone_inForm_r4 : List AOper := [
  ⟨(some 13), .sim (.bin .lss (.t 12) (.t 11)), none⟩]
def c_zone_inForm_r5 : List AOper := [
  ⟨(some 14), .sim (.mov (.t 12)), none⟩,
  ⟨(some 15), .sim (.idx 6 (.t 10) (.t 12)), none⟩,
  ⟨(some 16), .sim (.ld (some 6) (.t 15)), none⟩,
  ⟨(some 6), .sim (.new [.string ⟨#[]⟩, .int .i64 0, .int .i64 0, .int .i64 0, .int .i64 0, .int .u64 0]), none⟩,
  ⟨(some 5), .sim (.mov (.t 14)), none⟩,
  ⟨none, .st 6 (.t 6) (.t 16), none⟩]
def c_zone_inForm_r6 : List AOper := [
  ⟨(some 17), .sim (.fld 0 (.t 6)), none⟩,
  ⟨(some 18), .sim (.ld none (.t 17)), none⟩,
  ⟨(some 19), .sim (.mov (.t 1)), none⟩,
  ⟨(some 20), .sim (.bin .neq (.t 18) (.t 19)), none⟩,
  ⟨(some 21), .sim (.mov (.t 20)), none⟩,
  ⟨(some 22), .sim (.fld 1 (.t 6)), (some (21, false))⟩,
  ⟨(some 23), .sim (.ld none (.t 22)), (some (21, false))⟩,
  ⟨(some 24), .sim (.bin .lss (.t 23) (.c (.int .i64 1))), (some (21, false))⟩,
  ⟨(some 25), .sim (.pick (.t 21) (.c (.bool true)) (.t 24)), none⟩,
  ⟨(some 26), .sim (.mov (.t 25)), none⟩,
  ⟨(some 27), .sim (.fld 1 (.t 6)), (some (26, false))⟩,
  ⟨(some 28), .sim (.ld none (.t 27)), (some (26, false))⟩,
  ⟨(some 29), .sim (.bin .gtr (.t 28) (.c (.int .i64 1000000))), (some (26, false))⟩,
  ⟨(some 30), .sim (.pick (.t 26) (.c (.bool true)) (.t 29)), none⟩,
  ⟨(some 31), .sim (.mov (.t 30)), none⟩,
  ⟨(some 32), .sim (.fld 2 (.t 6)), (some (31, false))⟩,
  ⟨(some 33), .sim (.ld none (.t 32)), (some (31, false))⟩,
  ⟨(some 34), .sim (.bin .lss (.t 33) (.c (.int .i64 1))), (some (31, false))⟩,
  ⟨(some 35), .sim (.pick (.t 31) (.c (.bool true)) (.t 34)), none⟩,
  ⟨(some 36), .sim (.mov (.t 35)), none⟩,
  ⟨(some 37), .sim (.fld 2 (.t 6)), (some (36, false))⟩,
  ⟨(some 38), .sim (.ld none (.t 37)), (some (36, false))⟩,
  ⟨(some 39), .sim (.bin .gtr (.t 38) (.c (.int .i64 3))), (some (36, false))⟩,
  ⟨(some 40), .sim (.pick (.t 36) (.c (.bool true)) (.t 39)), none⟩]
def c_zone_inForm_r7 : List AOper := [
  ⟨(some 4), .sim (.mov (.c (.bool false))), none⟩]
def c_zone_inForm_r8 : List AOper := [
  ⟨(some 41), .sim (.fld 3 (.t 6)), none⟩,
  ⟨(some 42), .sim (.ld none (.t 41)), none⟩,
  ⟨(some 43), .sim (.bin .lss (.t 42) (.c (.int .i64 0))), none⟩,
  ⟨(some 44), .sim (.mov (.t 43)), none⟩,
  ⟨(some 45), .sim (.fld 3 (.t 6)), (some (44, false))⟩,
  ⟨(some 46), .sim (.ld none (.t 45)), (some (44, false))⟩,
  ⟨(some 47), .sim (.fld 4 (.t 6)), (some (44, false))⟩,
  ⟨(some 48), .sim (.ld none (.t 47)), (some (44, false))⟩,
  ⟨(some 49), .sim (.bin .gtr (.t 46) (.t 48)), (some (44, false))⟩,
  ⟨(some 50), .sim (.pick (.t 44) (.c (.bool true)) (.t 49)), none⟩,
  ⟨(some 51), .sim (.mov (.t 50)), none⟩,
  ⟨(some 52), .sim (.fld 4 (.t 6)), (some (51, false))⟩,
  ⟨(some 53), .sim (.ld none (.t 52)), (some (51, false))⟩,
  ⟨(some 54), .sim (.bin .gtr (.t 53) (.c (.int .i64 20000000))), (some (51, false))⟩,
  ⟨(some 55), .sim (.pick (.t 51) (.c (.bool true)) (.t 54)), none⟩]
def c_zone_inForm_r9 : List AOper := [
  ⟨(some 4), .sim (.mov (.c (.bool false))), none⟩]
def c_zone_inForm_r10 : List DOp := [
  ⟨0, ⟨(some 56), .sim (.mov (.t 5)), none⟩, []⟩,
  ⟨1, ⟨(some 57), .sim (.bin .gtr (.t 56) (.c (.int .i64 0))), none⟩, []⟩,
  ⟨2, ⟨(some 58), .sim (.mov (.t 57)), none⟩, []⟩,
  ⟨3, ⟨(some 59), .sim (.fld 3 (.t 6)), (some (58, true))⟩, []⟩,
  ⟨4, ⟨(some 60), .sim (.ld none (.t 59)), (some (58, true))⟩, []⟩,
  ⟨5, ⟨(some 61), .sim (.mov (.t 0)), (some (58, true))⟩, []⟩,
  ⟨6, ⟨(some 62), .sim (.idx 6 (.t 61) (.c (.int .i64 0))), (some (58, true))⟩, []⟩,
  ⟨7, ⟨(some 63), .sim (.fld 3 (.t 62)), (some (58, true))⟩, []⟩,
  ⟨8, ⟨(some 64), .sim (.ld none (.t 63)), (some (58, true))⟩, []⟩,
  ⟨9, ⟨(some 65), .sim (.bin .neq (.t 60) (.t 64)), (some (58, true))⟩, []⟩,
  ⟨10, ⟨(some 66), .sim (.mov (.t 65)), (some (58, true))⟩, []⟩,
  ⟨11, ⟨(some 67), .sim (.fld 4 (.t 6)), (some (66, false))⟩, []⟩,
  ⟨12, ⟨(some 68), .sim (.ld none (.t 67)), (some (66, false))⟩, []⟩,
  ⟨13, ⟨(some 69), .sim (.mov (.t 0)), (some (66, false))⟩, []⟩,
  ⟨14, ⟨(some 70), .sim (.idx 6 (.t 69) (.c (.int .i64 0))), (some (66, false))⟩, []⟩,
  ⟨15, ⟨(some 71), .sim (.fld 4 (.t 70)), (some (66, false))⟩, []⟩,
  ⟨16, ⟨(some 72), .sim (.ld none (.t 71)), (some (66, false))⟩, []⟩,
  ⟨17, ⟨(some 73), .sim (.bin .neq (.t 68) (.t 72)), (some (66, false))⟩, []⟩,
  ⟨18, ⟨(some 74), .sim (.pick (.t 66) (.c (.bool true)) (.t 73)), (some (58, true))⟩, []⟩,
  ⟨19, ⟨(some 75), .sim (.mov (.t 74)), (some (58, true))⟩, []⟩,
  ⟨20, ⟨(some 76), .sim (.fld 1 (.t 6)), (some (75, false))⟩, []⟩,
  ⟨21, ⟨(some 77), .sim (.ld none (.t 76)), (some (75, false))⟩, []⟩,
  ⟨22, ⟨(some 78), .sim (.mov (.t 0)), (some (75, false))⟩, []⟩,
  ⟨23, ⟨(some 79), .sim (.mov (.t 5)), (some (75, false))⟩, []⟩,
  ⟨24, ⟨(some 80), .sim (.bin .sub (.t 79) (.c (.int .i64 1))), (some (75, false))⟩, []⟩,
  ⟨25, ⟨(some 81), .sim (.idx 6 (.t 78) (.t 80)), (some (75, false))⟩, []⟩,
  ⟨26, ⟨(some 82), .sim (.fld 1 (.t 81)), (some (75, false))⟩, []⟩,
  ⟨27, ⟨(some 83), .sim (.ld none (.t 82)), (some (75, false))⟩, []⟩,
  ⟨28, ⟨(some 84), .sim (.bin .leq (.t 77) (.t 83)), (some (75, false))⟩, []⟩,
  ⟨29, ⟨(some 85), .sim (.pick (.t 75) (.c (.bool true)) (.t 84)), (some (58, true))⟩, []⟩,
  ⟨30, ⟨(some 86), .sim (.pick (.t 58) (.t 85) (.c (.bool false))), none⟩, []⟩]
def c_zone_inForm_r11 : List AOper := [
  ⟨(some 4), .sim (.mov (.c (.bool false))), none⟩]
def c_zone_inForm_r12 : List AOper := [
  ⟨(some 87), .sim (.bin .add (.t 12) (.c (.int .i64 1))), none⟩,
  ⟨(some 12), .sim (.mov (.t 87)), none⟩]
def c_zone_inForm_r13 : List AOper := [
  ⟨(some 4), .sim (.mov (.c (.bool true))), none⟩]
/-- nameplan/zone.inForm -/
def c_zone_inForm : AFunc := ⟨88, [.slot 4],
  (.seq (.reg c_zone_inForm_r0 [0, 1]) (.seq (.seq (.reg c_zone_inForm_r1 [0, 1, 9]) (.cond (.t 9) (.seq (.reg c_zone_inForm_r2 [4]) .ret) .skip)) (.seq (.seq (.reg c_zone_inForm_r3 [0, 1, 10, 11, 12]) (.block 0 (.loop [0, 1, 10, 11, 12] (.seq (.reg c_zone_inForm_r4 [0, 1, 10, 11, 12, 13]) (.seq (.cond (.t 13) .skip (.exit 0)) (.seq (.block 1 (.seq (.reg c_zone_inForm_r5 [0, 1, 5, 6, 10, 11, 12]) (.seq (.seq (.reg c_zone_inForm_r6 [0, 1, 5, 6, 10, 11, 12, 40]) (.cond (.t 40) (.seq (.reg c_zone_inForm_r7 [4]) .ret) .skip)) (.seq (.seq (.reg c_zone_inForm_r8 [0, 1, 5, 6, 10, 11, 12, 55]) (.cond (.t 55) (.seq (.reg c_zone_inForm_r9 [4]) .ret) .skip)) (.seq (.regd c_zone_inForm_r10 [0, 1, 10, 11, 12, 86]) (.cond (.t 86) (.seq (.reg c_zone_inForm_r11 [4]) .ret) .skip)))))) (.reg c_zone_inForm_r12 [0, 1, 10, 11, 12]))))))) (.seq (.reg c_zone_inForm_r13 [4]) .ret))))⟩
def c_cmp_isNaN_int_r0 : List AOper := [
  ⟨(some 2), .sim (.mov (.c (.bool false))), none⟩]
def c_cmp_isNaN_int_r1 : List AOper := [
  ⟨(some 3), .sim (.mov (.t 0)), none⟩,
  ⟨(some 4), .sim (.mov (.t 0)), none⟩,
  ⟨(some 5), .sim (.bin .neq (.t 3) (.t 4)), none⟩,
  ⟨(some 2), .sim (.mov (.t 5)), none⟩]
/-- cmp.isNaN[int] -/
def c_cmp_isNaN_int : AFunc := ⟨6, [.slot 2],
  (.seq (.reg c_cmp_isNaN_int_r0 [0]) (.seq (.reg c_cmp_isNaN_int_r1 [2]) .ret))⟩
def c_strings_LastIndexByte_r0 : List AOper := [
  ⟨(some 4), .sim (.mov (.c (.int .i64 0))), none⟩]
def c_strings_LastIndexByte_r1 : List AOper := [
  ⟨(some 5), .sim (.mov (.t 0)), none⟩,
  ⟨(some 6), .sim (.mov (.t 1)), none⟩,
  ⟨(some 7), .callp 98 [.t 5, .t 6], none⟩,
  ⟨(some 4), .sim (.mov (.t 7)), none⟩]
/-- strings.LastIndexByte -/
def c_strings_LastIndexByte : AFunc := ⟨8, [.slot 4],
  (.seq (.reg c_strings_LastIndexByte_r0 [0, 1]) (.seq (.reg c_strings_LastIndexByte_r1 [4]) .ret))⟩
def c_record_isFree_r0 : List AOper := [
  ⟨(some 2), .sim (.mov (.c (.bool false))), none⟩]
def c_record_isFree_r1 : List AOper := [
  ⟨(some 5), .sim (.mov (.t 0)), none⟩,
  ⟨(some 6), .sim (.len true (.t 5)), none⟩,
  ⟨(some 7), .callp 74 [.t 6, .c (.int .i64 1), .c (.int .i64 40)], none⟩,
  ⟨(some 8), .sim (.not (.t 7)), none⟩,
  ⟨(some 9), .sim (.mov (.t 8)), none⟩,
  ⟨(some 10), .sim (.mov (.t 0)), (some (9, false))⟩,
  ⟨(some 11), .sim (.idxs (.t 10) (.c (.int .i64 0))), (some (9, false))⟩,
  ⟨(some 12), .sim (.bin .eql (.t 11) (.c (.int .u8 32))), (some (9, false))⟩,
  ⟨(some 13), .sim (.pick (.t 9) (.c (.bool true)) (.t 12)), none⟩,
  ⟨(some 14), .sim (.mov (.t 13)), none⟩,
  ⟨(some 15), .sim (.mov (.t 0)), (some (14, false))⟩,
  ⟨(some 16), .sim (.mov (.t 0)), (some (14, false))⟩,
  ⟨(some 17), .sim (.len true (.t 16)), (some (14, false))⟩,
  ⟨(some 18), .sim (.bin .sub (.t 17) (.c (.int .i64 1))), (some (14, false))⟩,
  ⟨(some 19), .sim (.idxs (.t 15) (.t 18)), (some (14, false))⟩,
  ⟨(some 20), .sim (.bin .eql (.t 19) (.c (.int .u8 32))), (some (14, false))⟩,
  ⟨(some 21), .sim (.pick (.t 14) (.c (.bool true)) (.t 20)), none⟩]
def c_record_isFree_r2 : List AOper := [
  ⟨(some 2), .sim (.mov (.c (.bool false))), none⟩]
def c_record_isFree_r3 : List AOper := [
  ⟨(some 22), .sim (.mov (.t 0)), none⟩,
  ⟨(some 23), .sim (.len true (.t 22)), none⟩,
  ⟨(some 24), .sim (.mov (.c (.int .i64 0))), none⟩]
def c_record_isFree_r4 : List AOper := [
  ⟨(some 25), .sim (.bin .lss (.t 24) (.t 23)), none⟩]
def c_record_isFree_r5 : List AOper := [
  ⟨(some 26), .sim (.mov (.t 24)), none⟩,
  ⟨(some 3), .sim (.mov (.t 26)), none⟩]
def c_record_isFree_r6 : List AOper := [
  ⟨(some 27), .sim (.mov (.t 0)), none⟩,
  ⟨(some 28), .sim (.mov (.t 3)), none⟩,
  ⟨(some 29), .sim (.idxs (.t 27) (.t 28)), none⟩,
  ⟨(some 4), .sim (.mov (.t 29)), none⟩]
def c_record_isFree_r7 : List AOper := [
  ⟨(some 30), .sim (.mov (.t 4)), none⟩,
  ⟨(some 31), .callp 99 [.t 30, .c (.int .u8 97), .c (.int .u8 122)], none⟩,
  ⟨(some 32), .sim (.not (.t 31)), none⟩,
  ⟨(some 33), .sim (.mov (.t 32)), none⟩,
  ⟨(some 34), .sim (.mov (.t 4)), (some (33, true))⟩,
  ⟨(some 35), .callp 99 [.t 34, .c (.int .u8 48), .c (.int .u8 57)], (some (33, true))⟩,
  ⟨(some 36), .sim (.not (.t 35)), (some (33, true))⟩,
  ⟨(some 37), .sim (.pick (.t 33) (.t 36) (.c (.bool false))), none⟩,
  ⟨(some 38), .sim (.mov (.t 37)), none⟩,
  ⟨(some 39), .sim (.mov (.t 4)), (some (38, true))⟩,
  ⟨(some 40), .sim (.bin .neq (.t 39) (.c (.int .u8 32))), (some (38, true))⟩,
  ⟨(some 41), .sim (.pick (.t 38) (.t 40) (.c (.bool false))), none⟩]
def c_record_isFree_r8 : List AOper := [
  ⟨(some 2), .sim (.mov (.c (.bool false))), none⟩]
def c_record_isFree_r9 : List AOper := [
  ⟨(some 42), .sim (.bin .add (.t 24) (.c (.int .i64 1))), none⟩,
  ⟨(some 24), .sim (.mov (.t 42)), none⟩]
def c_record_isFree_r10 : List AOper := [
  ⟨(some 2), .sim (.mov (.c (.bool true))), none⟩]
/-- nameplan/record.isFree -/
def c_record_isFree : AFunc := ⟨43, [.slot 2],
  (.seq (.reg c_record_isFree_r0 [0]) (.seq (.seq (.reg c_record_isFree_r1 [0, 21]) (.cond (.t 21) (.seq (.reg c_record_isFree_r2 [2]) .ret) .skip)) (.seq (.seq (.reg c_record_isFree_r3 [0, 23, 24]) (.block 0 (.loop [0, 23, 24] (.seq (.reg c_record_isFree_r4 [0, 23, 24, 25]) (.seq (.cond (.t 25) .skip (.exit 0)) (.seq (.block 1 (.seq (.reg c_record_isFree_r5 [0, 3, 23, 24]) (.seq (.reg c_record_isFree_r6 [0, 4, 23, 24]) (.seq (.reg c_record_isFree_r7 [0, 23, 24, 41]) (.cond (.t 41) (.seq (.reg c_record_isFree_r8 [2]) .ret) .skip))))) (.reg c_record_isFree_r9 [0, 23, 24]))))))) (.seq (.reg c_record_isFree_r10 [2]) .ret))))⟩
def c_cmp_Or_int_r0 : List AOper := [
  ⟨(some 2), .sim (.mov (.c (.int .i64 0))), none⟩]
def c_cmp_Or_int_r1 : List AOper := [
  ⟨(some 3), .sim (.mov (.c (.int .i64 0))), none⟩]
def c_cmp_Or_int_r2 : List AOper := [
  ⟨(some 6), .sim (.mov (.t 0)), none⟩,
  ⟨(some 7), .sim (.len false (.t 6)), none⟩,
  ⟨(some 8), .sim (.mov (.c (.int .i64 0))), none⟩]
def c_cmp_Or_int_r3 : List AOper := [
  ⟨(some 9), .sim (.bin .lss (.t 8) (.t 7)), none⟩]
def c_cmp_Or_int_r4 : List AOper := [
  ⟨(some 10), .sim (.idx 1 (.t 6) (.t 8)), none⟩,
  ⟨(some 11), .sim (.ld none (.t 10)), none⟩,
  ⟨(some 5), .sim (.mov (.t 11)), none⟩]
def c_cmp_Or_int_r5 : List AOper := [
  ⟨(some 12), .sim (.mov (.t 5)), none⟩,
  ⟨(some 13), .sim (.mov (.t 3)), none⟩,
  ⟨(some 14), .sim (.bin .neq (.t 12) (.t 13)), none⟩]
def c_cmp_Or_int_r6 : List AOper := [
  ⟨(some 15), .sim (.mov (.t 5)), none⟩,
  ⟨(some 2), .sim (.mov (.t 15)), none⟩]
def c_cmp_Or_int_r7 : List AOper := [
  ⟨(some 16), .sim (.bin .add (.t 8) (.c (.int .i64 1))), none⟩,
  ⟨(some 8), .sim (.mov (.t 16)), none⟩]
def c_cmp_Or_int_r8 : List AOper := [
  ⟨(some 17), .sim (.mov (.t 3)), none⟩,
  ⟨(some 2), .sim (.mov (.t 17)), none⟩]
/-- cmp.Or[int] -/
def c_cmp_Or_int : AFunc := ⟨18, [.slot 2],
  (.seq (.reg c_cmp_Or_int_r0 [0]) (.seq (.reg c_cmp_Or_int_r1 [0, 3]) (.seq (.seq (.reg c_cmp_Or_int_r2 [3, 6, 7, 8]) (.block 0 (.loop [3, 6, 7, 8] (.seq (.reg c_cmp_Or_int_r3 [3, 6, 7, 8, 9]) (.seq (.cond (.t 9) .skip (.exit 0)) (.seq (.block 1 (.seq (.reg c_cmp_Or_int_r4 [3, 5, 6, 7, 8]) (.seq (.reg c_cmp_Or_int_r5 [3, 5, 6, 7, 8, 14]) (.cond (.t 14) (.seq (.reg c_cmp_Or_int_r6 [2]) .ret) .skip)))) (.reg c_cmp_Or_int_r7 [3, 6, 7, 8]))))))) (.seq (.reg c_cmp_Or_int_r8 [2]) .ret))))⟩
def c_cmp_Compare_string_r0 : List AOper := [
  ⟨(some 4), .sim (.mov (.c (.int .i64 0))), none⟩]
def c_cmp_Compare_string_r1 : List AOper := [
  ⟨(some 7), .sim (.mov (.t 0)), none⟩,
  ⟨(some 8), .callp 100 [.t 7], none⟩,
  ⟨(some 5), .sim (.mov (.t 8)), none⟩]
def c_cmp_Compare_string_r2 : List AOper := [
  ⟨(some 9), .sim (.mov (.t 1)), none⟩,
  ⟨(some 10), .callp 100 [.t 9], none⟩,
  ⟨(some 6), .sim (.mov (.t 10)), none⟩]
def c_cmp_Compare_string_r3 : List AOper := [
  ⟨(some 11), .sim (.mov (.t 5)), none⟩]
def c_cmp_Compare_string_r4 : List AOper := [
  ⟨(some 12), .sim (.mov (.t 6)), none⟩]
def c_cmp_Compare_string_r5 : List AOper := [
  ⟨(some 4), .sim (.mov (.c (.int .i64 0))), none⟩]
def c_cmp_Compare_string_r6 : List AOper := [
  ⟨(some 4), .sim (.mov (.c (.int .i64 (-1)))), none⟩]
def c_cmp_Compare_string_r7 : List AOper := [
  ⟨(some 13), .sim (.mov (.t 6)), none⟩]
def c_cmp_Compare_string_r8 : List AOper := [
  ⟨(some 4), .sim (.mov (.c (.int .i64 1))), none⟩]
def c_cmp_Compare_string_r9 : List AOper := [
  ⟨(some 14), .sim (.mov (.t 0)), none⟩,
  ⟨(some 15), .sim (.mov (.t 1)), none⟩,
  ⟨(some 16), .sim (.bin .lss (.t 14) (.t 15)), none⟩]
def c_cmp_Compare_string_r10 : List AOper := [
  ⟨(some 4), .sim (.mov (.c (.int .i64 (-1)))), none⟩]
def c_cmp_Compare_string_r11 : List AOper := [
  ⟨(some 17), .sim (.mov (.t 0)), none⟩,
  ⟨(some 18), .sim (.mov (.t 1)), none⟩,
  ⟨(some 19), .sim (.bin .gtr (.t 17) (.t 18)), none⟩]
def c_cmp_Compare_string_r12 : List AOper := [
  ⟨(some 4), .sim (.mov (.c (.int .i64 1))), none⟩]
def c_cmp_Compare_string_r13 : List AOper := [
  ⟨(some 4), .sim (.mov (.c (.int .i64 0))), none⟩]
/-- cmp.Compare[string] -/
def c_cmp_Compare_string : AFunc := ⟨20, [.slot 4],
  (.seq (.reg c_cmp_Compare_string_r0 [0, 1]) (.seq (.reg c_cmp_Compare_string_r1 [0, 1, 5]) (.seq (.reg c_cmp_Compare_string_r2 [0, 1, 5, 6]) (.seq (.seq (.reg c_cmp_Compare_string_r3 [0, 1, 6, 11]) (.cond (.t 11) (.seq (.seq (.reg c_cmp_Compare_string_r4 [12]) (.cond (.t 12) (.seq (.reg c_cmp_Compare_string_r5 [4]) .ret) .skip)) (.seq (.reg c_cmp_Compare_string_r6 [4]) .ret)) .skip)) (.seq (.seq (.reg c_cmp_Compare_string_r7 [0, 1, 13]) (.cond (.t 13) (.seq (.reg c_cmp_Compare_string_r8 [4]) .ret) .skip)) (.seq (.seq (.reg c_cmp_Compare_string_r9 [0, 1, 16]) (.cond (.t 16) (.seq (.reg c_cmp_Compare_string_r10 [4]) .ret) .skip)) (.seq (.seq (.reg c_cmp_Compare_string_r11 [19]) (.cond (.t 19) (.seq (.reg c_cmp_Compare_string_r12 [4]) .ret) .skip)) (.seq (.reg c_cmp_Compare_string_r13 [4]) .ret))))))))⟩
def c_strings_HasSuffix_r0 : List AOper := [
  ⟨(some 4), .sim (.mov (.c (.bool false))), none⟩]
def c_strings_HasSuffix_r1 : List AOper := [
  ⟨(some 5), .sim (.mov (.t 0)), none⟩,
  ⟨(some 6), .sim (.mov (.t 1)), none⟩,
  ⟨(some 7), .callp 101 [.t 5, .t 6], none⟩,
  ⟨(some 4), .sim (.mov (.t 7)), none⟩]
/-- strings.HasSuffix -/
def c_strings_HasSuffix : AFunc := ⟨8, [.slot 4],
  (.seq (.reg c_strings_HasSuffix_r0 [0, 1]) (.seq (.reg c_strings_HasSuffix_r1 [4]) .ret))⟩
def c_name_Compare_r0 : List AOper := [
  ⟨(some 4), .newH [.int .i64 0], none⟩,
  ⟨(some 5), .newH [.int .i64 0], none⟩]
def c_name_Compare_r1 : List AOper := [
  ⟨(some 14), .sim (.mov (.t 0)), none⟩,
  ⟨(some 15), .sim (.mov (.t 1)), none⟩,
  ⟨(some 6), .sim (.mov (.t 14)), none⟩,
  ⟨(some 7), .sim (.mov (.t 15)), none⟩]
def c_name_Compare_r2 : List AOper := [
  ⟨(some 16), .sim (.mov (.t 6)), none⟩,
  ⟨(some 17), .callp 50 [.t 16], none⟩,
  ⟨(some 18), .sim (.not (.t 17)), none⟩,
  ⟨(some 19), .sim (.mov (.t 18)), none⟩,
  ⟨(some 20), .sim (.mov (.t 7)), (some (19, false))⟩,
  ⟨(some 21), .callp 50 [.t 20], (some (19, false))⟩,
  ⟨(some 22), .sim (.not (.t 21)), (some (19, false))⟩,
  ⟨(some 23), .sim (.pick (.t 19) (.c (.bool true)) (.t 22)), none⟩]
def c_name_Compare_r3 : List AOper := [
  ⟨none, .st 1 (.t 4) (.c (.int .i64 0)), none⟩,
  ⟨none, .st 1 (.t 5) (.c (.int .i64 11)), none⟩]
def c_name_Compare_r4 : List AOper := [
  ⟨(some 24), .sim (.mov (.t 6)), none⟩,
  ⟨(some 25), .sim (.mov (.t 7)), none⟩,
  ⟨(some 26), .sim (.bin .eql (.t 24) (.t 25)), none⟩]
def c_name_Compare_r5 : List AOper := [
  ⟨none, .st 1 (.t 4) (.c (.int .i64 0)), none⟩,
  ⟨none, .st 1 (.t 5) (.c (.int .i64 0)), none⟩]
def c_name_Compare_r6 : List AOper := [
  ⟨(some 27), .sim (.mov (.t 7)), none⟩,
  ⟨(some 28), .call 102 [.t 27], none⟩,
  ⟨(some 8), .newH [.nilFunc], none⟩,
  ⟨none, .st 1 (.t 8) (.t 28), none⟩]
def c_name_Compare_r7 : List AOper := [
  ⟨(some 29), .sim (.mov (.t 6)), none⟩,
  ⟨(some 30), .sim (.mkf 65 [.t 29] []), none⟩,
  ⟨(some 9), .sim (.mov (.t 30)), none⟩]
def c_name_Compare_r8 : List AOper := [
  ⟨(some 31), .sim (.mov (.t 9)), none⟩]
def c_name_Compare_r9 : List AOper := [
  ⟨(some 10), .sim (.mov (.t 32)), none⟩]
def c_name_Compare_r10 : List AOper := [
  ⟨(some 34), .sim (.ld none (.t 8)), none⟩,
  ⟨(some 35), .callv (.t 34) [], none⟩,
  ⟨(some 33), .sim (.mov (.t 35)), none⟩,
  ⟨(some 36), .sim (.ext 0 (.t 33)), none⟩,
  ⟨(some 37), .sim (.ext 1 (.t 33)), none⟩,
  ⟨(some 11), .sim (.mov (.t 36)), none⟩,
  ⟨(some 12), .sim (.mov (.t 37)), none⟩]
def c_name_Compare_r11 : List AOper := [
  ⟨(some 38), .sim (.mov (.t 12)), none⟩,
  ⟨(some 39), .sim (.not (.t 38)), none⟩]
def c_name_Compare_r12 : List AOper := [
  ⟨none, .st 1 (.t 4) (.c (.int .i64 1)), none⟩,
  ⟨none, .st 1 (.t 5) (.c (.int .i64 0)), none⟩]
def c_name_Compare_r13 : List AOper := [
  ⟨(some 40), .sim (.mov (.t 10)), none⟩,
  ⟨(some 41), .sim (.mov (.t 11)), none⟩,
  ⟨(some 42), .callp 103 [.t 40, .t 41], none⟩,
  ⟨(some 13), .sim (.mov (.t 42)), none⟩]
def c_name_Compare_r14 : List AOper := [
  ⟨(some 43), .sim (.mov (.t 13)), none⟩,
  ⟨(some 44), .sim (.bin .neq (.t 43) (.c (.int .i64 0))), none⟩]
def c_name_Compare_r15 : List AOper := [
  ⟨(some 45), .sim (.mov (.t 13)), none⟩,
  ⟨none, .st 1 (.t 4) (.t 45), none⟩,
  ⟨none, .st 1 (.t 5) (.c (.int .i64 0)), none⟩]
def c_name_Compare_r16 : List AOper := [
  ⟨none, .st 1 (.t 4) (.c (.int .i64 (-1))), none⟩,
  ⟨none, .st 1 (.t 5) (.c (.int .i64 0)), none⟩]
/-- nameplan/name.Compare -/
def c_name_Compare : AFunc := ⟨46, [.cell 4 none, .cell 5 none],
  (.seq (.reg c_name_Compare_r0 [0, 1, 4, 5]) (.seq (.reg c_name_Compare_r1 [4, 5, 6, 7]) (.seq (.seq (.reg c_name_Compare_r2 [4, 5, 6, 7, 23]) (.cond (.t 23) (.seq (.reg c_name_Compare_r3 [4, 5]) .ret) .skip)) (.seq (.seq (.reg c_name_Compare_r4 [4, 5, 6, 7, 26]) (.cond (.t 26) (.seq (.reg c_name_Compare_r5 [4, 5]) .ret) .skip)) (.seq (.reg c_name_Compare_r6 [4, 5, 6, 8]) (.seq (.reg c_name_Compare_r7 [4, 5, 8, 9]) (.seq (.seq (.reg c_name_Compare_r8 [4, 5, 8, 31]) (.block 0 (.rangeF (.t 31) [32] (.reg c_name_Compare_r9 [4, 5, 8, 10]) (.block 1 (.seq (.reg c_name_Compare_r10 [4, 5, 10, 11, 12]) (.seq (.seq (.reg c_name_Compare_r11 [4, 5, 10, 11, 39]) (.cond (.t 39) (.seq (.reg c_name_Compare_r12 []) .ret) .skip)) (.seq (.reg c_name_Compare_r13 [4, 5, 13]) (.seq (.reg c_name_Compare_r14 [4, 5, 13, 44]) (.cond (.t 44) (.seq (.reg c_name_Compare_r15 []) .ret) .skip))))))))) (.seq (.reg c_name_Compare_r16 [4, 5]) .ret))))))))⟩
def c_slices_BinarySearchFunc_Signed_r0 : List AOper := [
  ⟨(some 4), .sim (.box (.t 1)), none⟩,
  ⟨(some 6), .sim (.mov (.c (.int .i64 0))), none⟩,
  ⟨(some 7), .sim (.mov (.c (.bool false))), none⟩]
def c_slices_BinarySearchFunc_Signed_r1 : List AOper := [
  ⟨(some 12), .sim (.mov (.t 0)), none⟩,
  ⟨(some 13), .sim (.len false (.t 12)), none⟩,
  ⟨(some 8), .sim (.mov (.t 13)), none⟩]
def c_slices_BinarySearchFunc_Signed_r2 : List AOper := [
  ⟨(some 14), .sim (.mov (.t 8)), none⟩,
  ⟨(some 9), .sim (.mov (.c (.int .i64 0))), none⟩,
  ⟨(some 10), .sim (.mov (.t 14)), none⟩]
def c_slices_BinarySearchFunc_Signed_r3 : List AOper := [
  ⟨(some 15), .sim (.mov (.t 9)), none⟩,
  ⟨(some 16), .sim (.mov (.t 10)), none⟩,
  ⟨(some 17), .sim (.bin .lss (.t 15) (.t 16)), none⟩]
def c_slices_BinarySearchFunc_Signed_r4 : List AOper := [
  ⟨(some 18), .sim (.mov (.t 9)), none⟩,
  ⟨(some 19), .sim (.mov (.t 10)), none⟩,
  ⟨(some 20), .sim (.bin .add (.t 18) (.t 19)), none⟩,
  ⟨(some 21), .sim (.cvi .u64 (.t 20)), none⟩,
  ⟨(some 22), .sim (.bin .shr (.t 21) (.c (.int .u64 1))), none⟩,
  ⟨(some 23), .sim (.cvi .i64 (.t 22)), none⟩,
  ⟨(some 11), .sim (.mov (.t 23)), none⟩]
def c_slices_BinarySearchFunc_Signed_r5 : List DOp := [
  ⟨0, ⟨(some 24), .sim (.mov (.t 2)), none⟩, []⟩,
  ⟨1, ⟨(some 25), .sim (.mov (.t 0)), none⟩, []⟩,
  ⟨2, ⟨(some 26), .sim (.mov (.t 11)), none⟩, []⟩,
  ⟨3, ⟨(some 27), .sim (.idx 5 (.t 25) (.t 26)), none⟩, []⟩,
  ⟨4, ⟨(some 28), .sim (.ld (some 5) (.t 27)), none⟩, []⟩,
  ⟨5, ⟨(some 29), .sim (.ld (some 2) (.t 4)), none⟩, []⟩,
  ⟨6, ⟨(some 30), .callv (.t 24) [.t 28, .t 29], none⟩, []⟩,
  ⟨7, ⟨(some 31), .sim (.bin .lss (.t 30) (.c (.int .i64 0))), none⟩, []⟩]
def c_slices_BinarySearchFunc_Signed_r6 : List AOper := [
  ⟨(some 32), .sim (.mov (.t 11)), none⟩,
  ⟨(some 33), .sim (.bin .add (.t 32) (.c (.int .i64 1))), none⟩,
  ⟨(some 9), .sim (.mov (.t 33)), none⟩]
def c_slices_BinarySearchFunc_Signed_r7 : List AOper := [
  ⟨(some 34), .sim (.mov (.t 11)), none⟩,
  ⟨(some 10), .sim (.mov (.t 34)), none⟩]
def c_slices_BinarySearchFunc_Signed_r8 : List DOp := [
  ⟨0, ⟨(some 35), .sim (.mov (.t 9)), none⟩, []⟩,
  ⟨1, ⟨(some 36), .sim (.mov (.t 9)), none⟩, []⟩,
  ⟨2, ⟨(some 37), .sim (.mov (.t 8)), none⟩, []⟩,
  ⟨3, ⟨(some 38), .sim (.bin .lss (.t 36) (.t 37)), none⟩, []⟩,
  ⟨4, ⟨(some 39), .sim (.mov (.t 38)), none⟩, []⟩,
  ⟨5, ⟨(some 40), .sim (.mov (.t 2)), (some (39, true))⟩, []⟩,
  ⟨6, ⟨(some 41), .sim (.mov (.t 0)), (some (39, true))⟩, []⟩,
  ⟨7, ⟨(some 42), .sim (.mov (.t 9)), (some (39, true))⟩, []⟩,
  ⟨8, ⟨(some 43), .sim (.idx 5 (.t 41) (.t 42)), (some (39, true))⟩, []⟩,
  ⟨9, ⟨(some 44), .sim (.ld (some 5) (.t 43)), (some (39, true))⟩, []⟩,
  ⟨10, ⟨(some 45), .sim (.ld (some 2) (.t 4)), (some (39, true))⟩, []⟩,
  ⟨11, ⟨(some 46), .callv (.t 40) [.t 44, .t 45], (some (39, true))⟩, [0]⟩,
  ⟨12, ⟨(some 47), .sim (.bin .eql (.t 46) (.c (.int .i64 0))), (some (39, true))⟩, []⟩,
  ⟨13, ⟨(some 48), .sim (.pick (.t 39) (.t 47) (.c (.bool false))), none⟩, []⟩,
  ⟨14, ⟨(some 6), .sim (.mov (.t 35)), none⟩, []⟩,
  ⟨15, ⟨(some 7), .sim (.mov (.t 48)), none⟩, []⟩]
/-- slices.BinarySearchFunc[[]nameplan/api.Signed,nameplan/api.Signed,nameplan/api.Question] -/
def c_slices_BinarySearchFunc_Signed : AFunc := ⟨49, [.slot 6, .slot 7],
  (.seq (.reg c_slices_BinarySearchFunc_Signed_r0 [0, 2, 4]) (.seq (.reg c_slices_BinarySearchFunc_Signed_r1 [0, 2, 4, 8]) (.seq (.reg c_slices_BinarySearchFunc_Signed_r2 [0, 2, 4, 8, 9, 10]) (.seq (.block 0 (.loop [0, 2, 4, 8, 9, 10] (.seq (.seq (.reg c_slices_BinarySearchFunc_Signed_r3 [0, 2, 4, 8, 9, 10, 17]) (.cond (.t 17) .skip (.exit 0))) (.block 1 (.seq (.reg c_slices_BinarySearchFunc_Signed_r4 [0, 2, 4, 8, 9, 10, 11]) (.seq (.regd c_slices_BinarySearchFunc_Signed_r5 [0, 2, 4, 8, 9, 10, 11, 31]) (.cond (.t 31) (.reg c_slices_BinarySearchFunc_Signed_r6 [0, 2, 4, 8, 9, 10]) (.reg c_slices_BinarySearchFunc_Signed_r7 [0, 2, 4, 8, 9, 10])))))))) (.seq (.regd c_slices_BinarySearchFunc_Signed_r8 [6, 7]) .ret)))))⟩
def c_zone_body_find_1_r0 : List AOper := [
  ⟨(some 2), .sim (.box (.t 0)), none⟩,
  ⟨(some 3), .sim (.box (.t 1)), none⟩,
  ⟨(some 4), .sim (.mov (.c (.int .i64 0))), none⟩]
def c_zone_body_find_1_r1 : List AOper := [
  ⟨(some 5), .sim (.fld 0 (.t 2)), none⟩,
  ⟨(some 6), .sim (.fld 0 (.t 5)), none⟩,
  ⟨(some 7), .sim (.ld none (.t 6)), none⟩,
  ⟨(some 8), .sim (.fld 0 (.t 2)), none⟩,
  ⟨(some 9), .sim (.fld 1 (.t 8)), none⟩,
  ⟨(some 10), .sim (.ld none (.t 9)), none⟩,
  ⟨(some 11), .sim (.fld 0 (.t 3)), none⟩,
  ⟨(some 12), .sim (.ld none (.t 11)), none⟩,
  ⟨(some 13), .sim (.fld 1 (.t 3)), none⟩,
  ⟨(some 14), .sim (.ld none (.t 13)), none⟩,
  ⟨(some 15), .callp 81 [.t 7, .t 10, .t 12, .t 14], none⟩,
  ⟨(some 4), .sim (.mov (.t 15)), none⟩]
/-- (nameplan/zone.body).find$1 -/
def c_zone_body_find_1 : AFunc := ⟨16, [.slot 4],
  (.seq (.reg c_zone_body_find_1_r0 [2, 3]) (.seq (.reg c_zone_body_find_1_r1 [4]) .ret))⟩
def c_record_within_byte_r0 : List AOper := [
  ⟨(some 6), .sim (.mov (.c (.bool false))), none⟩]
def c_record_within_byte_r1 : List AOper := [
  ⟨(some 7), .sim (.mov (.t 1)), none⟩,
  ⟨(some 8), .sim (.mov (.t 0)), none⟩,
  ⟨(some 9), .sim (.bin .leq (.t 7) (.t 8)), none⟩,
  ⟨(some 10), .sim (.mov (.t 9)), none⟩,
  ⟨(some 11), .sim (.mov (.t 0)), (some (10, true))⟩,
  ⟨(some 12), .sim (.mov (.t 2)), (some (10, true))⟩,
  ⟨(some 13), .sim (.bin .leq (.t 11) (.t 12)), (some (10, true))⟩,
  ⟨(some 14), .sim (.pick (.t 10) (.t 13) (.c (.bool false))), none⟩,
  ⟨(some 6), .sim (.mov (.t 14)), none⟩]
/-- nameplan/record.within[byte] -/
def c_record_within_byte : AFunc := ⟨15, [.slot 6],
  (.seq (.reg c_record_within_byte_r0 [0, 1, 2]) (.seq (.reg c_record_within_byte_r1 [6]) .ret))⟩
def c_cmp_isNaN_string_r0 : List AOper := [
  ⟨(some 2), .sim (.mov (.c (.bool false))), none⟩]
def c_cmp_isNaN_string_r1 : List AOper := [
  ⟨(some 3), .sim (.mov (.t 0)), none⟩,
  ⟨(some 4), .sim (.mov (.t 0)), none⟩,
  ⟨(some 5), .sim (.bin .neq (.t 3) (.t 4)), none⟩,
  ⟨(some 2), .sim (.mov (.t 5)), none⟩]
/-- cmp.isNaN[string] -/
def c_cmp_isNaN_string : AFunc := ⟨6, [.slot 2],
  (.seq (.reg c_cmp_isNaN_string_r0 [0]) (.seq (.reg c_cmp_isNaN_string_r1 [2]) .ret))⟩
def c_internal_stringslite_HasSuffix_r0 : List AOper := [
  ⟨(some 4), .sim (.mov (.c (.bool false))), none⟩]
def c_internal_stringslite_HasSuffix_r1 : List AOper := [
  ⟨(some 5), .sim (.mov (.t 0)), none⟩,
  ⟨(some 6), .sim (.len true (.t 5)), none⟩,
  ⟨(some 7), .sim (.mov (.t 1)), none⟩,
  ⟨(some 8), .sim (.len true (.t 7)), none⟩,
  ⟨(some 9), .sim (.bin .geq (.t 6) (.t 8)), none⟩,
  ⟨(some 10), .sim (.mov (.t 9)), none⟩,
  ⟨(some 11), .sim (.mov (.t 0)), (some (10, true))⟩,
  ⟨(some 12), .sim (.mov (.t 0)), (some (10, true))⟩,
  ⟨(some 13), .sim (.len true (.t 12)), (some (10, true))⟩,
  ⟨(some 14), .sim (.mov (.t 1)), (some (10, true))⟩,
  ⟨(some 15), .sim (.len true (.t 14)), (some (10, true))⟩,
  ⟨(some 16), .sim (.bin .sub (.t 13) (.t 15)), (some (10, true))⟩,
  ⟨(some 17), .sim (.slcs (.t 11) (some (.t 16)) none), (some (10, true))⟩,
  ⟨(some 18), .sim (.mov (.t 1)), (some (10, true))⟩,
  ⟨(some 19), .sim (.bin .eql (.t 17) (.t 18)), (some (10, true))⟩,
  ⟨(some 20), .sim (.pick (.t 10) (.t 19) (.c (.bool false))), none⟩,
  ⟨(some 4), .sim (.mov (.t 20)), none⟩]
/-- internal/stringslite.HasSuffix -/
def c_internal_stringslite_HasSuffix : AFunc := ⟨21, [.slot 4],
  (.seq (.reg c_internal_stringslite_HasSuffix_r0 [0, 1]) (.seq (.reg c_internal_stringslite_HasSuffix_r1 [4]) .ret))⟩
def c_name_text_puller_r0 : List AOper := [
  ⟨(some 2), .sim (.mov (.c (.nilFunc))), none⟩]
def c_name_text_puller_r1 : List AOper := [
  ⟨(some 5), .sim (.mov (.t 0)), none⟩,
  ⟨(some 6), .sim (.mov (.t 0)), none⟩,
  ⟨(some 7), .sim (.bin .neq (.t 6) (.c (.string ⟨#[46]⟩))), none⟩,
  ⟨(some 3), .newH [.string ⟨#[]⟩], none⟩,
  ⟨(some 4), .newH [.bool false], none⟩,
  ⟨none, .st 1 (.t 3) (.t 5), none⟩,
  ⟨none, .st 1 (.t 4) (.t 7), none⟩]
def c_name_text_puller_r2 : List AOper := [
  ⟨(some 8), .sim (.mkf 104 [] [.t 4, .t 3]), none⟩,
  ⟨(some 2), .sim (.mov (.t 8)), none⟩]
/-- (nameplan/name.text).puller -/
def c_name_text_puller : AFunc := ⟨9, [.slot 2],
  (.seq (.reg c_name_text_puller_r0 [0]) (.seq (.reg c_name_text_puller_r1 [3, 4]) (.seq (.reg c_name_text_puller_r2 [2]) .ret)))⟩
def c_strings_Compare_r0 : List AOper := [
  ⟨(some 4), .sim (.mov (.c (.int .i64 0))), none⟩]
def c_strings_Compare_r1 : List AOper := [
  ⟨(some 5), .sim (.mov (.t 0)), none⟩,
  ⟨(some 6), .sim (.mov (.t 1)), none⟩,
  ⟨(some 7), .callp 105 [.t 5, .t 6], none⟩,
  ⟨(some 4), .sim (.mov (.t 7)), none⟩]
/-- strings.Compare -/
def c_strings_Compare : AFunc := ⟨8, [.slot 4],
  (.seq (.reg c_strings_Compare_r0 [0, 1]) (.seq (.reg c_strings_Compare_r1 [4]) .ret))⟩
def c_name_text_puller_1_r0 : List AOper := [
  ⟨(some 2), .sim (.mov (.c (.string ⟨#[]⟩))), none⟩,
  ⟨(some 3), .sim (.mov (.c (.bool false))), none⟩]
def c_name_text_puller_1_r1 : List AOper := [
  ⟨(some 6), .sim (.ld none (.t 0)), none⟩,
  ⟨(some 7), .sim (.not (.t 6)), none⟩]
def c_name_text_puller_1_r2 : List AOper := [
  ⟨(some 2), .sim (.mov (.c (.string ⟨#[]⟩))), none⟩,
  ⟨(some 3), .sim (.mov (.c (.bool false))), none⟩]
def c_name_text_puller_1_r3 : List AOper := [
  ⟨(some 8), .sim (.ld none (.t 1)), none⟩,
  ⟨(some 9), .callp 90 [.t 8, .c (.int .u8 46)], none⟩,
  ⟨(some 4), .sim (.mov (.t 9)), none⟩]
def c_name_text_puller_1_r4 : List AOper := [
  ⟨(some 10), .sim (.ld none (.t 1)), none⟩,
  ⟨(some 11), .sim (.mov (.t 4)), none⟩,
  ⟨(some 12), .sim (.bin .add (.t 11) (.c (.int .i64 1))), none⟩,
  ⟨(some 13), .sim (.slcs (.t 10) (some (.t 12)) none), none⟩,
  ⟨(some 5), .sim (.mov (.t 13)), none⟩]
def c_name_text_puller_1_r5 : List AOper := [
  ⟨(some 14), .sim (.mov (.t 4)), none⟩,
  ⟨(some 15), .sim (.bin .lss (.t 14) (.c (.int .i64 0))), none⟩]
def c_name_text_puller_1_r6 : List AOper := [
  ⟨none, .st 1 (.t 0) (.c (.bool false)), none⟩]
def c_name_text_puller_1_r7 : List AOper := [
  ⟨(some 16), .sim (.ld none (.t 1)), none⟩,
  ⟨(some 17), .sim (.mov (.t 4)), none⟩,
  ⟨(some 18), .sim (.slcs (.t 16) none (some (.t 17))), none⟩,
  ⟨none, .st 1 (.t 1) (.t 18), none⟩]
def c_name_text_puller_1_r8 : List AOper := [
  ⟨(some 19), .sim (.mov (.t 5)), none⟩,
  ⟨(some 2), .sim (.mov (.t 19)), none⟩,
  ⟨(some 3), .sim (.mov (.c (.bool true))), none⟩]
/-- (nameplan/name.text).puller$1 -/
def c_name_text_puller_1 : AFunc := ⟨20, [.slot 2, .slot 3],
  (.seq (.reg c_name_text_puller_1_r0 [0, 1]) (.seq (.seq (.reg c_name_text_puller_1_r1 [0, 1, 7]) (.cond (.t 7) (.seq (.reg c_name_text_puller_1_r2 [2, 3]) .ret) .skip)) (.seq (.reg c_name_text_puller_1_r3 [0, 1, 4]) (.seq (.reg c_name_text_puller_1_r4 [0, 1, 4, 5]) (.seq (.seq (.reg c_name_text_puller_1_r5 [0, 1, 4, 5, 15]) (.cond (.t 15) (.reg c_name_text_puller_1_r6 [5]) (.reg c_name_text_puller_1_r7 [5]))) (.seq (.reg c_name_text_puller_1_r8 [2, 3]) .ret))))))⟩
end Go.SL
