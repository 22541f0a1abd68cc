import Derived.Test.YtilkdjdnhkchpaaGreatDoorNplK
namespace Go.SL
open Go
def c_internal_bytealg_LastIndexByteString_r0 : List AOper := [
  ⟨(some 4), .sim (.mov (.c (.int .i64 0))), none⟩]
def c_internal_bytealg_LastIndexByteString_r1 : List AOper := [
  ⟨(some 6), .sim (.mov (.t 0)), none⟩,
  ⟨(some 7), .sim (.len true (.t 6)), none⟩,
  ⟨(some 8), .sim (.bin .sub (.t 7) (.c (.int .i64 1))), none⟩,
  ⟨(some 5), .sim (.mov (.t 8)), none⟩]
def c_internal_bytealg_LastIndexByteString_r2 : List AOper := [
  ⟨(some 9), .sim (.mov (.t 5)), none⟩,
  ⟨(some 10), .sim (.bin .geq (.t 9) (.c (.int .i64 0))), none⟩]
def c_internal_bytealg_LastIndexByteString_r4 : List AOper := [
  ⟨(some 13), .sim (.mov (.t 0)), none⟩,
  ⟨(some 14), .sim (.mov (.t 5)), none⟩,
  ⟨(some 15), .sim (.idxs (.t 13) (.t 14)), none⟩,
  ⟨(some 16), .sim (.mov (.t 1)), none⟩,
  ⟨(some 17), .sim (.bin .eql (.t 15) (.t 16)), none⟩]
def c_internal_bytealg_LastIndexByteString_r5 : List AOper := [
  ⟨(some 18), .sim (.mov (.t 5)), none⟩,
  ⟨(some 4), .sim (.mov (.t 18)), none⟩]
def c_internal_bytealg_LastIndexByteString_r3 : List AOper := [
  ⟨(some 11), .sim (.mov (.t 5)), none⟩,
  ⟨(some 12), .sim (.bin .sub (.t 11) (.c (.int .i64 1))), none⟩,
  ⟨(some 5), .sim (.mov (.t 12)), none⟩]
def c_internal_bytealg_LastIndexByteString_r6 : List AOper := [
  ⟨(some 4), .sim (.mov (.c (.int .i64 (-1)))), none⟩]
/-- internal/bytealg.LastIndexByteString -/
def c_internal_bytealg_LastIndexByteString : AFunc := ⟨19, [.slot 4],
  (.seq (.reg c_internal_bytealg_LastIndexByteString_r0 [0, 1]) (.seq (.seq (.reg c_internal_bytealg_LastIndexByteString_r1 [0, 1, 5]) (.block 0 (.loop [0, 1, 5] (.seq (.seq (.reg c_internal_bytealg_LastIndexByteString_r2 [0, 1, 5, 10]) (.cond (.t 10) .skip (.exit 0))) (.seq (.block 1 (.seq (.reg c_internal_bytealg_LastIndexByteString_r4 [0, 1, 5, 17]) (.cond (.t 17) (.seq (.reg c_internal_bytealg_LastIndexByteString_r5 [4]) .ret) .skip))) (.reg c_internal_bytealg_LastIndexByteString_r3 [0, 1, 5])))))) (.seq (.reg c_internal_bytealg_LastIndexByteString_r6 [4]) .ret)))⟩
def c_internal_bytealg_CompareString_r0 : List AOper := [
  ⟨(some 4), .sim (.mov (.c (.int .i64 0))), none⟩]
def c_internal_bytealg_CompareString_r1 : List AOper := [
  ⟨(some 5), .sim (.mov (.t 0)), none⟩,
  ⟨(some 6), .sim (.mov (.t 1)), none⟩,
  ⟨(some 7), .call 106 [.t 5, .t 6], none⟩,
  ⟨(some 4), .sim (.mov (.t 7)), none⟩]
/-- internal/bytealg.CompareString -/
def c_internal_bytealg_CompareString : AFunc := ⟨8, [.slot 4],
  (.seq (.reg c_internal_bytealg_CompareString_r0 [0, 1]) (.seq (.reg c_internal_bytealg_CompareString_r1 [4]) .ret))⟩
def c_law40_example_1_r0 : List AOper := [
  ⟨(some 2), .sim (.new [.string ⟨#[]⟩, .slice none 0 0]), none⟩]
def c_law40_example_1_r1 : List AOper := [
  ⟨(some 3), .sim (.mov (.f 107)), none⟩]
def c_law40_example_1_r2 : List AOper := [
  ⟨(some 4), .sim (.mov (.t 3)), none⟩,
  ⟨(some 5), .sim (.bld [.string ⟨#[]⟩, .int .i64 0, .int .i64 0] [(0, 1, .c (.string ⟨#[98]⟩))]), none⟩,
  ⟨(some 6), .callv (.t 4) [.c (.int .i64 2), .t 5], none⟩,
  ⟨(some 7), .sim (.mov (.t 3)), none⟩,
  ⟨(some 8), .sim (.mov (.t 0)), none⟩,
  ⟨(some 9), .sim (.bld [.string ⟨#[]⟩, .int .i64 0, .int .i64 0] [(1, 1, .t 8)]), none⟩,
  ⟨(some 10), .callv (.t 7) [.c (.int .i64 4), .t 9], none⟩,
  ⟨(some 11), .mksl 5 2 [.string ⟨#[]⟩, .int .i64 0, .int .i64 0, .slice none 0 0, .slice none 0 0, .string ⟨#[]⟩, .int .i64 0, .int .i64 0, .slice none 0 0, .slice none 0 0] [(0, 5, .t 6), (5, 5, .t 10)], none⟩,
  ⟨(some 12), .sim (.bld [.string ⟨#[]⟩, .slice none 0 0] [(0, 1, .c (.string ⟨#[120]⟩)), (1, 1, .t 11)]), none⟩,
  ⟨none, .st 2 (.t 2) (.t 12), none⟩]
/-- nameplan/nameplanlaw40.example$1 -/
def c_law40_example_1 : AFunc := ⟨13, [.cell 2 (some 2)],
  (.seq (.reg c_law40_example_1_r0 [0, 2]) (.seq (.reg c_law40_example_1_r1 [0, 2, 3]) (.seq (.reg c_law40_example_1_r2 [2]) .ret)))⟩
def c_law40_example_1_1_r0 : List AOper := [
  ⟨(some 3), .sim (.box (.t 1)), none⟩,
  ⟨(some 4), .sim (.new [.string ⟨#[]⟩, .int .i64 0, .int .i64 0, .slice none 0 0, .slice none 0 0]), none⟩]
def c_law40_example_1_1_r1 : List AOper := [
  ⟨(some 5), .sim (.mov (.t 0)), none⟩,
  ⟨(some 6), .sim (.ld (some 3) (.t 3)), none⟩,
  ⟨(some 7), .mksl 3 1 [.string ⟨#[]⟩, .int .i64 0, .int .i64 0] [(0, 3, .t 6)], none⟩,
  ⟨(some 8), .sim (.bld [.string ⟨#[]⟩, .int .i64 0, .int .i64 0, .slice none 0 0] [(0, 1, .c (.string ⟨#[120]⟩)), (1, 1, .t 5), (2, 1, .c (.int .i64 9)), (3, 1, .t 7)]), none⟩,
  ⟨(some 9), .sim (.bld [.string ⟨#[]⟩, .int .i64 0, .int .i64 0, .slice none 0 0, .slice none 0 0] [(0, 4, .t 8)]), none⟩,
  ⟨none, .st 5 (.t 4) (.t 9), none⟩]
/-- nameplan/nameplanlaw40.example$1$1 -/
def c_law40_example_1_1 : AFunc := ⟨10, [.cell 4 (some 5)],
  (.seq (.reg c_law40_example_1_1_r0 [0, 3, 4]) (.seq (.reg c_law40_example_1_1_r1 [4]) .ret))⟩
def c_rollback_back_apply_r0 : List AOper := [
  ⟨(some 4), .sim (.box (.t 1)), none⟩,
  ⟨(some 6), .sim (.new [.slice none 0 0, .slice none 0 0, .string ⟨#[]⟩, .int .i64 0, .int .i64 0, .slice none 0 0, .slice none 0 0, .int .i64 0, .int .i64 0]), none⟩]
def c_rollback_back_apply_r1 : List AOper := [
  ⟨(some 9), .sim (.mov (.t 0)), none⟩,
  ⟨(some 10), .sim (.nilc (.t 9)), none⟩,
  ⟨(some 11), .sim (.fld 13 (.t 10)), none⟩,
  ⟨(some 12), .sim (.ld none (.t 11)), none⟩,
  ⟨(some 13), .sim (.bin .neq (.t 12) (.c (.int .i64 0))), none⟩]
def c_rollback_back_apply_r2 : List AOper := [
  ⟨(some 14), .sim (.bld [.slice none 0 0, .slice none 0 0, .string ⟨#[]⟩, .int .i64 0, .int .i64 0, .slice none 0 0, .slice none 0 0, .int .i64 0, .int .i64 0] []), none⟩,
  ⟨none, .st 9 (.t 6) (.t 14), none⟩]
def c_rollback_back_apply_r3 : List AOper := [
  ⟨(some 16), .sim (.ld (some 9) (.t 4)), none⟩,
  ⟨(some 17), .sim (.mov (.t 2)), none⟩,
  ⟨(some 18), .call 72 [.t 16, .t 17], none⟩,
  ⟨(some 15), .sim (.mov (.t 18)), none⟩,
  ⟨(some 19), .sim (.ext 0 (.t 15)), none⟩,
  ⟨(some 20), .sim (.ext 1 (.t 15)), none⟩,
  ⟨(some 7), .sim (.new [.slice none 0 0, .slice none 0 0, .string ⟨#[]⟩, .int .i64 0, .int .i64 0, .slice none 0 0, .slice none 0 0, .int .i64 0, .int .i64 0]), none⟩,
  ⟨none, .st 9 (.t 7) (.t 19), none⟩,
  ⟨(some 8), .sim (.mov (.t 20)), none⟩]
def c_rollback_back_apply_r4 : List AOper := [
  ⟨(some 21), .sim (.mov (.t 0)), none⟩,
  ⟨(some 22), .sim (.mov (.t 8)), none⟩,
  ⟨(some 23), .sim (.nilc (.t 21)), none⟩,
  ⟨(some 24), .sim (.fld 13 (.t 23)), none⟩,
  ⟨none, .st 1 (.t 24) (.t 22), none⟩]
def c_rollback_back_apply_r5 : List AOper := [
  ⟨(some 25), .sim (.ld (some 9) (.t 7)), none⟩,
  ⟨none, .st 9 (.t 6) (.t 25), none⟩]
/-- (*nameplan/rollback.back).apply -/
def c_rollback_back_apply : AFunc := ⟨26, [.cell 6 (some 9)],
  (.seq (.reg c_rollback_back_apply_r0 [0, 2, 4, 6]) (.seq (.seq (.reg c_rollback_back_apply_r1 [0, 2, 4, 6, 13]) (.cond (.t 13) (.seq (.reg c_rollback_back_apply_r2 [6]) .ret) .skip)) (.seq (.reg c_rollback_back_apply_r3 [0, 6, 7, 8]) (.seq (.reg c_rollback_back_apply_r4 [6, 7]) (.seq (.reg c_rollback_back_apply_r5 [6]) .ret)))))⟩
def c_rollback_backwards_r0 : List AOper := [
  ⟨(some 1), .boxH (.t 0), none⟩,
  ⟨(some 2), .sim (.mov (.c (.nilFunc))), none⟩]
def c_rollback_backwards_r1 : List AOper := [
  ⟨(some 3), .sim (.mkf 108 [] [.t 1]), none⟩,
  ⟨(some 2), .sim (.mov (.t 3)), none⟩]
/-- nameplan/rollback.backwards -/
def c_rollback_backwards : AFunc := ⟨4, [.slot 2],
  (.seq (.reg c_rollback_backwards_r0 [1]) (.seq (.reg c_rollback_backwards_r1 [2]) .ret))⟩
def c_rollback_backwards_1_r0 : List AOper := [
  ⟨(some 4), .sim (.ld none (.t 1)), none⟩,
  ⟨(some 5), .sim (.len false (.t 4)), none⟩,
  ⟨(some 6), .sim (.bin .sub (.t 5) (.c (.int .i64 1))), none⟩,
  ⟨(some 3), .sim (.mov (.t 6)), none⟩]
def c_rollback_backwards_1_r1 : List AOper := [
  ⟨(some 7), .sim (.mov (.t 3)), none⟩,
  ⟨(some 8), .sim (.bin .geq (.t 7) (.c (.int .i64 0))), none⟩]
def c_rollback_backwards_1_r3 : List DOp := [
  ⟨0, ⟨(some 11), .sim (.mov (.t 0)), none⟩, []⟩,
  ⟨1, ⟨(some 12), .sim (.ld none (.t 1)), none⟩, []⟩,
  ⟨2, ⟨(some 13), .sim (.mov (.t 3)), none⟩, []⟩,
  ⟨3, ⟨(some 14), .sim (.idx 2 (.t 12) (.t 13)), none⟩, []⟩,
  ⟨4, ⟨(some 15), .sim (.ld (some 2) (.t 14)), none⟩, []⟩,
  ⟨5, ⟨(some 16), .sim (.ld none (.t 1)), none⟩, []⟩,
  ⟨6, ⟨(some 17), .sim (.mov (.t 3)), none⟩, []⟩,
  ⟨7, ⟨(some 18), .sim (.slc 2 (.t 16) none (some (.t 17)) none), none⟩, []⟩,
  ⟨8, ⟨(some 19), .callv (.t 11) [.t 15, .t 18], none⟩, []⟩,
  ⟨9, ⟨(some 20), .sim (.not (.t 19)), none⟩, []⟩]
def c_rollback_backwards_1_r2 : List AOper := [
  ⟨(some 9), .sim (.mov (.t 3)), none⟩,
  ⟨(some 10), .sim (.bin .sub (.t 9) (.c (.int .i64 1))), none⟩,
  ⟨(some 3), .sim (.mov (.t 10)), none⟩]
/-- nameplan/rollback.backwards$1 -/
def c_rollback_backwards_1 : AFunc := ⟨21, [],
  (.seq (.reg c_rollback_backwards_1_r0 [0, 1, 3]) (.block 0 (.loop [0, 1, 3] (.seq (.seq (.reg c_rollback_backwards_1_r1 [0, 1, 3, 8]) (.cond (.t 8) .skip (.exit 0))) (.seq (.block 1 (.seq (.regd c_rollback_backwards_1_r3 [0, 1, 3, 20]) (.cond (.t 20) .ret .skip))) (.reg c_rollback_backwards_1_r2 [0, 1, 3]))))))⟩
def c_slices_pdqsortCmpFunc_api_Span_r0 : List AOper := [
  ⟨(some 10), .sim (.mov (.c (.bool true))), none⟩]
def c_slices_pdqsortCmpFunc_api_Span_r1 : List AOper := [
  ⟨(some 11), .sim (.mov (.c (.bool true))), none⟩]
def c_slices_pdqsortCmpFunc_api_Span_r2 : List AOper := [
  ⟨(some 21), .sim (.mov (.t 2)), none⟩,
  ⟨(some 22), .sim (.mov (.t 1)), none⟩,
  ⟨(some 23), .sim (.bin .sub (.t 21) (.t 22)), none⟩,
  ⟨(some 12), .sim (.mov (.t 23)), none⟩]
def c_slices_pdqsortCmpFunc_api_Span_r3 : List AOper := [
  ⟨(some 24), .sim (.mov (.t 12)), none⟩,
  ⟨(some 25), .sim (.bin .leq (.t 24) (.c (.int .i64 12))), none⟩]
def c_slices_pdqsortCmpFunc_api_Span_r4 : List AOper := [
  ⟨(some 26), .sim (.mov (.t 0)), none⟩,
  ⟨(some 27), .sim (.mov (.t 1)), none⟩,
  ⟨(some 28), .sim (.mov (.t 2)), none⟩,
  ⟨(some 29), .sim (.mov (.t 4)), none⟩,
  ⟨(some 30), .call 109 [.t 26, .t 27, .t 28, .t 29], none⟩]
def c_slices_pdqsortCmpFunc_api_Span_r5 : List AOper := [
  ⟨(some 31), .sim (.mov (.t 3)), none⟩,
  ⟨(some 32), .sim (.bin .eql (.t 31) (.c (.int .i64 0))), none⟩]
def c_slices_pdqsortCmpFunc_api_Span_r6 : List AOper := [
  ⟨(some 33), .sim (.mov (.t 0)), none⟩,
  ⟨(some 34), .sim (.mov (.t 1)), none⟩,
  ⟨(some 35), .sim (.mov (.t 2)), none⟩,
  ⟨(some 36), .sim (.mov (.t 4)), none⟩,
  ⟨(some 37), .call 110 [.t 33, .t 34, .t 35, .t 36], none⟩]
def c_slices_pdqsortCmpFunc_api_Span_r7 : List AOper := [
  ⟨(some 38), .sim (.mov (.t 10)), none⟩,
  ⟨(some 39), .sim (.not (.t 38)), none⟩]
def c_slices_pdqsortCmpFunc_api_Span_r8 : List AOper := [
  ⟨(some 40), .sim (.mov (.t 0)), none⟩,
  ⟨(some 41), .sim (.mov (.t 1)), none⟩,
  ⟨(some 42), .sim (.mov (.t 2)), none⟩,
  ⟨(some 43), .sim (.mov (.t 4)), none⟩,
  ⟨(some 44), .call 111 [.t 40, .t 41, .t 42, .t 43], none⟩]
def c_slices_pdqsortCmpFunc_api_Span_r9 : List AOper := [
  ⟨(some 45), .sim (.mov (.t 3)), none⟩,
  ⟨(some 46), .sim (.bin .sub (.t 45) (.c (.int .i64 1))), none⟩,
  ⟨(some 3), .sim (.mov (.t 46)), none⟩]
def c_slices_pdqsortCmpFunc_api_Span_r10 : List AOper := [
  ⟨(some 48), .sim (.mov (.t 0)), none⟩,
  ⟨(some 49), .sim (.mov (.t 1)), none⟩,
  ⟨(some 50), .sim (.mov (.t 2)), none⟩,
  ⟨(some 51), .sim (.mov (.t 4)), none⟩,
  ⟨(some 52), .call 112 [.t 48, .t 49, .t 50, .t 51], none⟩,
  ⟨(some 47), .sim (.mov (.t 52)), none⟩,
  ⟨(some 53), .sim (.ext 0 (.t 47)), none⟩,
  ⟨(some 54), .sim (.ext 1 (.t 47)), none⟩,
  ⟨(some 13), .sim (.mov (.t 53)), none⟩,
  ⟨(some 14), .sim (.mov (.t 54)), none⟩]
def c_slices_pdqsortCmpFunc_api_Span_r11 : List AOper := [
  ⟨(some 55), .sim (.mov (.t 14)), none⟩,
  ⟨(some 56), .sim (.bin .eql (.t 55) (.c (.int .i64 2))), none⟩]
def c_slices_pdqsortCmpFunc_api_Span_r12 : List AOper := [
  ⟨(some 57), .sim (.mov (.t 0)), none⟩,
  ⟨(some 58), .sim (.mov (.t 1)), none⟩,
  ⟨(some 59), .sim (.mov (.t 2)), none⟩,
  ⟨(some 60), .sim (.mov (.t 4)), none⟩,
  ⟨(some 61), .call 113 [.t 57, .t 58, .t 59, .t 60], none⟩]
def c_slices_pdqsortCmpFunc_api_Span_r13 : List AOper := [
  ⟨(some 62), .sim (.mov (.t 2)), none⟩,
  ⟨(some 63), .sim (.bin .sub (.t 62) (.c (.int .i64 1))), none⟩,
  ⟨(some 64), .sim (.mov (.t 13)), none⟩,
  ⟨(some 65), .sim (.mov (.t 1)), none⟩,
  ⟨(some 66), .sim (.bin .sub (.t 64) (.t 65)), none⟩,
  ⟨(some 67), .sim (.bin .sub (.t 63) (.t 66)), none⟩,
  ⟨(some 13), .sim (.mov (.t 67)), none⟩]
def c_slices_pdqsortCmpFunc_api_Span_r14 : List AOper := [
  ⟨(some 14), .sim (.mov (.c (.int .i64 1))), none⟩]
def c_slices_pdqsortCmpFunc_api_Span_r15 : List AOper := [
  ⟨(some 68), .sim (.mov (.t 10)), none⟩,
  ⟨(some 69), .sim (.mov (.t 68)), none⟩,
  ⟨(some 70), .sim (.mov (.t 11)), (some (69, true))⟩,
  ⟨(some 71), .sim (.pick (.t 69) (.t 70) (.c (.bool false))), none⟩,
  ⟨(some 72), .sim (.mov (.t 71)), none⟩,
  ⟨(some 73), .sim (.mov (.t 14)), (some (72, true))⟩,
  ⟨(some 74), .sim (.bin .eql (.t 73) (.c (.int .i64 1))), (some (72, true))⟩,
  ⟨(some 75), .sim (.pick (.t 72) (.t 74) (.c (.bool false))), none⟩]
def c_slices_pdqsortCmpFunc_api_Span_r16 : List AOper := [
  ⟨(some 76), .sim (.mov (.t 0)), none⟩,
  ⟨(some 77), .sim (.mov (.t 1)), none⟩,
  ⟨(some 78), .sim (.mov (.t 2)), none⟩,
  ⟨(some 79), .sim (.mov (.t 4)), none⟩,
  ⟨(some 80), .call 114 [.t 76, .t 77, .t 78, .t 79], none⟩]
def c_slices_pdqsortCmpFunc_api_Span_r17 : List DOp := [
  ⟨0, ⟨(some 81), .sim (.mov (.t 1)), none⟩, []⟩,
  ⟨1, ⟨(some 82), .sim (.bin .gtr (.t 81) (.c (.int .i64 0))), none⟩, []⟩,
  ⟨2, ⟨(some 83), .sim (.mov (.t 82)), none⟩, []⟩,
  ⟨3, ⟨(some 84), .sim (.mov (.t 4)), (some (83, true))⟩, []⟩,
  ⟨4, ⟨(some 85), .sim (.mov (.t 0)), (some (83, true))⟩, []⟩,
  ⟨5, ⟨(some 86), .sim (.mov (.t 1)), (some (83, true))⟩, []⟩,
  ⟨6, ⟨(some 87), .sim (.bin .sub (.t 86) (.c (.int .i64 1))), (some (83, true))⟩, []⟩,
  ⟨7, ⟨(some 88), .sim (.idx 2 (.t 85) (.t 87)), (some (83, true))⟩, []⟩,
  ⟨8, ⟨(some 89), .sim (.ld (some 2) (.t 88)), (some (83, true))⟩, []⟩,
  ⟨9, ⟨(some 90), .sim (.mov (.t 0)), (some (83, true))⟩, []⟩,
  ⟨10, ⟨(some 91), .sim (.mov (.t 13)), (some (83, true))⟩, []⟩,
  ⟨11, ⟨(some 92), .sim (.idx 2 (.t 90) (.t 91)), (some (83, true))⟩, []⟩,
  ⟨12, ⟨(some 93), .sim (.ld (some 2) (.t 92)), (some (83, true))⟩, []⟩,
  ⟨13, ⟨(some 94), .callv (.t 84) [.t 89, .t 93], (some (83, true))⟩, []⟩,
  ⟨14, ⟨(some 95), .sim (.bin .lss (.t 94) (.c (.int .i64 0))), (some (83, true))⟩, []⟩,
  ⟨15, ⟨(some 96), .sim (.not (.t 95)), (some (83, true))⟩, []⟩,
  ⟨16, ⟨(some 97), .sim (.pick (.t 83) (.t 96) (.c (.bool false))), none⟩, []⟩]
def c_slices_pdqsortCmpFunc_api_Span_r18 : List AOper := [
  ⟨(some 98), .sim (.mov (.t 0)), none⟩,
  ⟨(some 99), .sim (.mov (.t 1)), none⟩,
  ⟨(some 100), .sim (.mov (.t 2)), none⟩,
  ⟨(some 101), .sim (.mov (.t 13)), none⟩,
  ⟨(some 102), .sim (.mov (.t 4)), none⟩,
  ⟨(some 103), .call 115 [.t 98, .t 99, .t 100, .t 101, .t 102], none⟩,
  ⟨(some 15), .sim (.mov (.t 103)), none⟩]
def c_slices_pdqsortCmpFunc_api_Span_r19 : List AOper := [
  ⟨(some 104), .sim (.mov (.t 15)), none⟩,
  ⟨(some 1), .sim (.mov (.t 104)), none⟩]
def c_slices_pdqsortCmpFunc_api_Span_r20 : List AOper := [
  ⟨(some 106), .sim (.mov (.t 0)), none⟩,
  ⟨(some 107), .sim (.mov (.t 1)), none⟩,
  ⟨(some 108), .sim (.mov (.t 2)), none⟩,
  ⟨(some 109), .sim (.mov (.t 13)), none⟩,
  ⟨(some 110), .sim (.mov (.t 4)), none⟩,
  ⟨(some 111), .call 116 [.t 106, .t 107, .t 108, .t 109, .t 110], none⟩,
  ⟨(some 105), .sim (.mov (.t 111)), none⟩,
  ⟨(some 112), .sim (.ext 0 (.t 105)), none⟩,
  ⟨(some 113), .sim (.ext 1 (.t 105)), none⟩,
  ⟨(some 16), .sim (.mov (.t 112)), none⟩,
  ⟨(some 17), .sim (.mov (.t 113)), none⟩]
def c_slices_pdqsortCmpFunc_api_Span_r21 : List AOper := [
  ⟨(some 114), .sim (.mov (.t 17)), none⟩,
  ⟨(some 11), .sim (.mov (.t 114)), none⟩]
def c_slices_pdqsortCmpFunc_api_Span_r22 : List AOper := [
  ⟨(some 115), .sim (.mov (.t 16)), none⟩,
  ⟨(some 116), .sim (.mov (.t 1)), none⟩,
  ⟨(some 117), .sim (.bin .sub (.t 115) (.t 116)), none⟩,
  ⟨(some 118), .sim (.mov (.t 2)), none⟩,
  ⟨(some 119), .sim (.mov (.t 16)), none⟩,
  ⟨(some 120), .sim (.bin .sub (.t 118) (.t 119)), none⟩,
  ⟨(some 18), .sim (.mov (.t 117)), none⟩,
  ⟨(some 19), .sim (.mov (.t 120)), none⟩]
def c_slices_pdqsortCmpFunc_api_Span_r23 : List AOper := [
  ⟨(some 121), .sim (.mov (.t 12)), none⟩,
  ⟨(some 122), .sim (.bin .quo (.t 121) (.c (.int .i64 8))), none⟩,
  ⟨(some 20), .sim (.mov (.t 122)), none⟩]
def c_slices_pdqsortCmpFunc_api_Span_r24 : List AOper := [
  ⟨(some 123), .sim (.mov (.t 18)), none⟩,
  ⟨(some 124), .sim (.mov (.t 19)), none⟩,
  ⟨(some 125), .sim (.bin .lss (.t 123) (.t 124)), none⟩]
def c_slices_pdqsortCmpFunc_api_Span_r25 : List AOper := [
  ⟨(some 126), .sim (.mov (.t 18)), none⟩,
  ⟨(some 127), .sim (.mov (.t 20)), none⟩,
  ⟨(some 128), .sim (.bin .geq (.t 126) (.t 127)), none⟩,
  ⟨(some 10), .sim (.mov (.t 128)), none⟩]
def c_slices_pdqsortCmpFunc_api_Span_r26 : List AOper := [
  ⟨(some 129), .sim (.mov (.t 0)), none⟩,
  ⟨(some 130), .sim (.mov (.t 1)), none⟩,
  ⟨(some 131), .sim (.mov (.t 16)), none⟩,
  ⟨(some 132), .sim (.mov (.t 3)), none⟩,
  ⟨(some 133), .sim (.mov (.t 4)), none⟩,
  ⟨(some 134), .call 86 [.t 129, .t 130, .t 131, .t 132, .t 133], none⟩]
def c_slices_pdqsortCmpFunc_api_Span_r27 : List AOper := [
  ⟨(some 135), .sim (.mov (.t 16)), none⟩,
  ⟨(some 136), .sim (.bin .add (.t 135) (.c (.int .i64 1))), none⟩,
  ⟨(some 1), .sim (.mov (.t 136)), none⟩]
def c_slices_pdqsortCmpFunc_api_Span_r28 : List AOper := [
  ⟨(some 137), .sim (.mov (.t 19)), none⟩,
  ⟨(some 138), .sim (.mov (.t 20)), none⟩,
  ⟨(some 139), .sim (.bin .geq (.t 137) (.t 138)), none⟩,
  ⟨(some 10), .sim (.mov (.t 139)), none⟩]
def c_slices_pdqsortCmpFunc_api_Span_r29 : List AOper := [
  ⟨(some 140), .sim (.mov (.t 0)), none⟩,
  ⟨(some 141), .sim (.mov (.t 16)), none⟩,
  ⟨(some 142), .sim (.bin .add (.t 141) (.c (.int .i64 1))), none⟩,
  ⟨(some 143), .sim (.mov (.t 2)), none⟩,
  ⟨(some 144), .sim (.mov (.t 3)), none⟩,
  ⟨(some 145), .sim (.mov (.t 4)), none⟩,
  ⟨(some 146), .call 86 [.t 140, .t 142, .t 143, .t 144, .t 145], none⟩]
def c_slices_pdqsortCmpFunc_api_Span_r30 : List AOper := [
  ⟨(some 147), .sim (.mov (.t 16)), none⟩,
  ⟨(some 2), .sim (.mov (.t 147)), none⟩]
/-- slices.pdqsortCmpFunc[nameplan/api.Span] -/
def c_slices_pdqsortCmpFunc_api_Span : AFunc := ⟨148, [],
  (.seq (.reg c_slices_pdqsortCmpFunc_api_Span_r0 [0, 1, 2, 3, 4, 10]) (.seq (.reg c_slices_pdqsortCmpFunc_api_Span_r1 [0, 1, 2, 3, 4, 10, 11]) (.block 0 (.loop [0, 1, 2, 3, 4, 10, 11] (.block 1 (.seq (.reg c_slices_pdqsortCmpFunc_api_Span_r2 [0, 1, 2, 3, 4, 10, 11, 12]) (.seq (.seq (.reg c_slices_pdqsortCmpFunc_api_Span_r3 [0, 1, 2, 3, 4, 10, 11, 12, 25]) (.cond (.t 25) (.seq (.reg c_slices_pdqsortCmpFunc_api_Span_r4 []) .ret) .skip)) (.seq (.seq (.reg c_slices_pdqsortCmpFunc_api_Span_r5 [0, 1, 2, 3, 4, 10, 11, 12, 32]) (.cond (.t 32) (.seq (.reg c_slices_pdqsortCmpFunc_api_Span_r6 []) .ret) .skip)) (.seq (.seq (.reg c_slices_pdqsortCmpFunc_api_Span_r7 [0, 1, 2, 3, 4, 10, 11, 12, 39]) (.cond (.t 39) (.seq (.reg c_slices_pdqsortCmpFunc_api_Span_r8 [0, 1, 2, 3, 4, 10, 11, 12]) (.reg c_slices_pdqsortCmpFunc_api_Span_r9 [0, 1, 2, 3, 4, 10, 11, 12])) .skip)) (.seq (.reg c_slices_pdqsortCmpFunc_api_Span_r10 [0, 1, 2, 3, 4, 10, 11, 12, 13, 14]) (.seq (.seq (.reg c_slices_pdqsortCmpFunc_api_Span_r11 [0, 1, 2, 3, 4, 10, 11, 12, 13, 14, 56]) (.cond (.t 56) (.seq (.reg c_slices_pdqsortCmpFunc_api_Span_r12 [0, 1, 2, 3, 4, 10, 11, 12, 13]) (.seq (.reg c_slices_pdqsortCmpFunc_api_Span_r13 [0, 1, 2, 3, 4, 10, 11, 12, 13]) (.reg c_slices_pdqsortCmpFunc_api_Span_r14 [0, 1, 2, 3, 4, 10, 11, 12, 13, 14]))) .skip)) (.seq (.seq (.reg c_slices_pdqsortCmpFunc_api_Span_r15 [0, 1, 2, 3, 4, 10, 11, 12, 13, 75]) (.cond (.t 75) (.seq (.reg c_slices_pdqsortCmpFunc_api_Span_r16 [0, 1, 2, 3, 4, 10, 11, 12, 13, 80]) (.cond (.t 80) .ret .skip)) .skip)) (.seq (.seq (.regd c_slices_pdqsortCmpFunc_api_Span_r17 [0, 1, 2, 3, 4, 10, 11, 12, 13, 97]) (.cond (.t 97) (.seq (.reg c_slices_pdqsortCmpFunc_api_Span_r18 [0, 2, 3, 4, 10, 11, 15]) (.seq (.reg c_slices_pdqsortCmpFunc_api_Span_r19 [0, 1, 2, 3, 4, 10, 11]) (.exit 1))) .skip)) (.seq (.reg c_slices_pdqsortCmpFunc_api_Span_r20 [0, 1, 2, 3, 4, 12, 16, 17]) (.seq (.reg c_slices_pdqsortCmpFunc_api_Span_r21 [0, 1, 2, 3, 4, 11, 12, 16]) (.seq (.reg c_slices_pdqsortCmpFunc_api_Span_r22 [0, 1, 2, 3, 4, 11, 12, 16, 18, 19]) (.seq (.reg c_slices_pdqsortCmpFunc_api_Span_r23 [0, 1, 2, 3, 4, 11, 16, 18, 19, 20]) (.seq (.reg c_slices_pdqsortCmpFunc_api_Span_r24 [0, 1, 2, 3, 4, 11, 16, 18, 19, 20, 125]) (.cond (.t 125) (.seq (.reg c_slices_pdqsortCmpFunc_api_Span_r25 [0, 1, 2, 3, 4, 10, 11, 16]) (.seq (.reg c_slices_pdqsortCmpFunc_api_Span_r26 [0, 2, 3, 4, 10, 11, 16]) (.reg c_slices_pdqsortCmpFunc_api_Span_r27 [0, 1, 2, 3, 4, 10, 11]))) (.seq (.reg c_slices_pdqsortCmpFunc_api_Span_r28 [0, 1, 2, 3, 4, 10, 11, 16]) (.seq (.reg c_slices_pdqsortCmpFunc_api_Span_r29 [0, 1, 3, 4, 10, 11, 16]) (.reg c_slices_pdqsortCmpFunc_api_Span_r30 [0, 1, 2, 3, 4, 10, 11]))))))))))))))))))))))⟩
def c_math_bits_Len_r0 : List AOper := [
  ⟨(some 2), .sim (.mov (.c (.int .i64 0))), none⟩]
def c_math_bits_Len_r1 : List AOper := [
  ⟨(some 3), .sim (.mov (.t 0)), none⟩,
  ⟨(some 4), .sim (.cvi .u32 (.t 3)), none⟩,
  ⟨(some 5), .call 117 [.t 4], none⟩,
  ⟨(some 2), .sim (.mov (.t 5)), none⟩]
def c_math_bits_Len_r2 : List AOper := [
  ⟨(some 6), .sim (.mov (.t 0)), none⟩,
  ⟨(some 7), .call 118 [.t 6], none⟩,
  ⟨(some 2), .sim (.mov (.t 7)), none⟩]
/-- math/bits.Len -/
def c_math_bits_Len : AFunc := ⟨8, [.slot 2],
  (.seq (.reg c_math_bits_Len_r0 [0]) (.seq (.cond (.c (.bool false)) (.seq (.reg c_math_bits_Len_r1 [2]) .ret) .skip) (.seq (.reg c_math_bits_Len_r2 [2]) .ret)))⟩
def c_history_unique_api_Copy_string_r0 : List AOper := [
  ⟨(some 4), .sim (.mov (.c (.slice none 0 0))), none⟩]
def c_history_unique_api_Copy_string_r1 : List AOper := [
  ⟨(some 10), .mkmap none, none⟩,
  ⟨(some 5), .sim (.mov (.t 10)), none⟩]
def c_history_unique_api_Copy_string_r2 : List AOper := [
  ⟨(some 6), .sim (.mov (.c (.slice none 0 0))), none⟩]
def c_history_unique_api_Copy_string_r3 : List AOper := [
  ⟨(some 11), .sim (.mov (.t 0)), none⟩,
  ⟨(some 12), .sim (.len false (.t 11)), none⟩,
  ⟨(some 13), .sim (.mov (.c (.int .i64 0))), none⟩]
def c_history_unique_api_Copy_string_r4 : List AOper := [
  ⟨(some 14), .sim (.bin .lss (.t 13) (.t 12)), none⟩]
def c_history_unique_api_Copy_string_r5 : List AOper := [
  ⟨(some 15), .sim (.idx 5 (.t 11) (.t 13)), none⟩,
  ⟨(some 16), .sim (.ld (some 5) (.t 15)), none⟩,
  ⟨(some 8), .sim (.new [.int .i64 0, .int .i64 0, .int .i64 0, .string ⟨#[]⟩, .slice none 0 0]), none⟩,
  ⟨none, .st 5 (.t 8) (.t 16), none⟩]
def c_history_unique_api_Copy_string_r6 : List AOper := [
  ⟨(some 17), .sim (.mov (.t 1)), none⟩,
  ⟨(some 18), .sim (.ld (some 5) (.t 8)), none⟩,
  ⟨(some 19), .callv (.t 17) [.t 18], none⟩,
  ⟨(some 9), .sim (.mov (.t 19)), none⟩]
def c_history_unique_api_Copy_string_r7 : List AOper := [
  ⟨(some 20), .sim (.mov (.t 5)), none⟩,
  ⟨(some 21), .sim (.mov (.t 9)), none⟩,
  ⟨(some 22), .look false [.s] (.bool false) false (.t 20) (.t 21), none⟩,
  ⟨(some 23), .sim (.not (.t 22)), none⟩]
def c_history_unique_api_Copy_string_r8 : List AOper := [
  ⟨(some 24), .sim (.mov (.t 5)), none⟩,
  ⟨(some 25), .sim (.mov (.t 9)), none⟩,
  ⟨none, .upd false [.s] (.t 24) (.t 25) (.c (.bool true)), none⟩]
def c_history_unique_api_Copy_string_r9 : List AOper := [
  ⟨(some 26), .sim (.mov (.t 6)), none⟩,
  ⟨(some 27), .sim (.mov (.t 9)), none⟩,
  ⟨(some 28), .mksl 1 1 [.string ⟨#[]⟩] [(0, 1, .t 27)], none⟩,
  ⟨(some 29), .app 1 16 [.string ⟨#[]⟩] (.t 26) (.t 28), none⟩,
  ⟨(some 6), .sim (.mov (.t 29)), none⟩]
def c_history_unique_api_Copy_string_r10 : List AOper := [
  ⟨(some 30), .sim (.bin .add (.t 13) (.c (.int .i64 1))), none⟩,
  ⟨(some 13), .sim (.mov (.t 30)), none⟩]
def c_history_unique_api_Copy_string_r11 : List AOper := [
  ⟨(some 31), .sim (.mov (.t 6)), none⟩,
  ⟨(some 4), .sim (.mov (.t 31)), none⟩]
/-- nameplan/history.unique[nameplan/api.Copy,string] -/
def c_history_unique_api_Copy_string : AFunc := ⟨32, [.slot 4],
  (.seq (.reg c_history_unique_api_Copy_string_r0 [0, 1]) (.seq (.reg c_history_unique_api_Copy_string_r1 [0, 1, 5]) (.seq (.reg c_history_unique_api_Copy_string_r2 [0, 1, 5, 6]) (.seq (.seq (.reg c_history_unique_api_Copy_string_r3 [1, 5, 6, 11, 12, 13]) (.block 0 (.loop [1, 5, 6, 11, 12, 13] (.seq (.reg c_history_unique_api_Copy_string_r4 [1, 5, 6, 11, 12, 13, 14]) (.seq (.cond (.t 14) .skip (.exit 0)) (.seq (.block 1 (.seq (.reg c_history_unique_api_Copy_string_r5 [1, 5, 6, 8, 11, 12, 13]) (.seq (.reg c_history_unique_api_Copy_string_r6 [1, 5, 6, 9, 11, 12, 13]) (.seq (.reg c_history_unique_api_Copy_string_r7 [1, 5, 6, 9, 11, 12, 13, 23]) (.cond (.t 23) (.seq (.reg c_history_unique_api_Copy_string_r8 [1, 5, 6, 9, 11, 12, 13]) (.reg c_history_unique_api_Copy_string_r9 [1, 5, 6, 11, 12, 13])) .skip))))) (.reg c_history_unique_api_Copy_string_r10 [1, 5, 6, 11, 12, 13]))))))) (.seq (.reg c_history_unique_api_Copy_string_r11 [4]) .ret)))))⟩
def c_history_apexOf_r0 : List AOper := [
  ⟨(some 1), .sim (.box (.t 0)), none⟩,
  ⟨(some 2), .sim (.mov (.c (.string ⟨#[]⟩))), none⟩]
def c_history_apexOf_r1 : List AOper := [
  ⟨(some 3), .sim (.fld 3 (.t 1)), none⟩,
  ⟨(some 4), .sim (.fld 0 (.t 3)), none⟩,
  ⟨(some 5), .sim (.ld none (.t 4)), none⟩,
  ⟨(some 2), .sim (.mov (.t 5)), none⟩]
/-- nameplan/history.apexOf -/
def c_history_apexOf : AFunc := ⟨6, [.slot 2],
  (.seq (.reg c_history_apexOf_r0 [1]) (.seq (.reg c_history_apexOf_r1 [2]) .ret))⟩
def c_steps_tooMany_api_Copy_r0 : List AOper := [
  ⟨(some 8), .sim (.mov (.c (.bool false))), none⟩]
def c_steps_tooMany_api_Copy_r1 : List AOper := [
  ⟨(some 12), .mkmap none, none⟩,
  ⟨(some 9), .sim (.mov (.t 12)), none⟩]
def c_steps_tooMany_api_Copy_r2 : List AOper := [
  ⟨(some 13), .sim (.mov (.t 0)), none⟩,
  ⟨(some 14), .sim (.len false (.t 13)), none⟩,
  ⟨(some 15), .sim (.mov (.c (.int .i64 0))), none⟩]
def c_steps_tooMany_api_Copy_r3 : List AOper := [
  ⟨(some 16), .sim (.bin .lss (.t 15) (.t 14)), none⟩]
def c_steps_tooMany_api_Copy_r4 : List AOper := [
  ⟨(some 17), .sim (.idx 5 (.t 13) (.t 15)), none⟩,
  ⟨(some 18), .sim (.ld (some 5) (.t 17)), none⟩,
  ⟨(some 11), .sim (.new [.int .i64 0, .int .i64 0, .int .i64 0, .string ⟨#[]⟩, .slice none 0 0]), none⟩,
  ⟨none, .st 5 (.t 11) (.t 18), none⟩]
def c_steps_tooMany_api_Copy_r5 : List AOper := [
  ⟨(some 19), .sim (.mov (.t 9)), none⟩,
  ⟨(some 20), .sim (.mov (.t 3)), none⟩,
  ⟨(some 21), .sim (.ld (some 5) (.t 11)), none⟩,
  ⟨(some 22), .callv (.t 20) [.t 21], none⟩,
  ⟨none, .upd false [.s] (.t 19) (.t 22) (.c (.bool true)), none⟩]
def c_steps_tooMany_api_Copy_r6 : List AOper := [
  ⟨(some 23), .sim (.bin .add (.t 15) (.c (.int .i64 1))), none⟩,
  ⟨(some 15), .sim (.mov (.t 23)), none⟩]
def c_steps_tooMany_api_Copy_r7 : List AOper := [
  ⟨(some 24), .sim (.mov (.t 0)), none⟩,
  ⟨(some 25), .sim (.len false (.t 24)), none⟩,
  ⟨(some 26), .sim (.mov (.t 1)), none⟩,
  ⟨(some 27), .sim (.bin .gtr (.t 25) (.t 26)), none⟩,
  ⟨(some 28), .sim (.mov (.t 27)), none⟩,
  ⟨(some 29), .sim (.mov (.t 9)), (some (28, false))⟩,
  ⟨(some 30), .mlen (.t 29), (some (28, false))⟩,
  ⟨(some 31), .sim (.mov (.t 2)), (some (28, false))⟩,
  ⟨(some 32), .sim (.bin .gtr (.t 30) (.t 31)), (some (28, false))⟩,
  ⟨(some 33), .sim (.pick (.t 28) (.c (.bool true)) (.t 32)), none⟩,
  ⟨(some 8), .sim (.mov (.t 33)), none⟩]
/-- nameplan/steps.tooMany[nameplan/api.Copy] -/
def c_steps_tooMany_api_Copy : AFunc := ⟨34, [.slot 8],
  (.seq (.reg c_steps_tooMany_api_Copy_r0 [0, 1, 2, 3]) (.seq (.reg c_steps_tooMany_api_Copy_r1 [0, 1, 2, 3, 9]) (.seq (.seq (.reg c_steps_tooMany_api_Copy_r2 [0, 1, 2, 3, 9, 13, 14, 15]) (.block 0 (.loop [0, 1, 2, 3, 9, 13, 14, 15] (.seq (.reg c_steps_tooMany_api_Copy_r3 [0, 1, 2, 3, 9, 13, 14, 15, 16]) (.seq (.cond (.t 16) .skip (.exit 0)) (.seq (.block 1 (.seq (.reg c_steps_tooMany_api_Copy_r4 [0, 1, 2, 3, 9, 11, 13, 14, 15]) (.reg c_steps_tooMany_api_Copy_r5 [0, 1, 2, 3, 9, 13, 14, 15]))) (.reg c_steps_tooMany_api_Copy_r6 [0, 1, 2, 3, 9, 13, 14, 15]))))))) (.seq (.reg c_steps_tooMany_api_Copy_r7 [8]) .ret))))⟩
def c_slices_Clone_Copy_r0 : List AOper := [
  ⟨(some 2), .sim (.mov (.c (.slice none 0 0))), none⟩]
def c_slices_Clone_Copy_r1 : List AOper := [
  ⟨(some 3), .sim (.mov (.t 0)), none⟩,
  ⟨(some 4), .sim (.eqn false (.t 3) (.c (.slice none 0 0))), none⟩]
def c_slices_Clone_Copy_r2 : List AOper := [
  ⟨(some 2), .sim (.mov (.c (.slice none 0 0))), none⟩]
def c_slices_Clone_Copy_r3 : List AOper := [
  ⟨(some 5), .mksl 5 0 [] [], none⟩,
  ⟨(some 6), .sim (.mov (.t 0)), none⟩,
  ⟨(some 7), .app 5 64 [.int .i64 0, .int .i64 0, .int .i64 0, .string ⟨#[]⟩, .slice none 0 0] (.t 5) (.t 6), none⟩,
  ⟨(some 2), .sim (.mov (.t 7)), none⟩]
/-- slices.Clone[[]nameplan/api.Copy,nameplan/api.Copy] -/
def c_slices_Clone_Copy : AFunc := ⟨8, [.slot 2],
  (.seq (.reg c_slices_Clone_Copy_r0 [0]) (.seq (.seq (.reg c_slices_Clone_Copy_r1 [0, 4]) (.cond (.t 4) (.seq (.reg c_slices_Clone_Copy_r2 [2]) .ret) .skip)) (.seq (.reg c_slices_Clone_Copy_r3 [2]) .ret)))⟩
def c_steps_Apply_1_r0 : List AOper := [
  ⟨(some 1), .sim (.box (.t 0)), none⟩,
  ⟨(some 2), .sim (.mov (.c (.string ⟨#[]⟩))), none⟩]
def c_steps_Apply_1_r1 : List AOper := [
  ⟨(some 3), .sim (.fld 3 (.t 1)), none⟩,
  ⟨(some 4), .sim (.fld 0 (.t 3)), none⟩,
  ⟨(some 5), .sim (.ld none (.t 4)), none⟩,
  ⟨(some 2), .sim (.mov (.t 5)), none⟩]
/-- nameplan/steps.Apply$1 -/
def c_steps_Apply_1 : AFunc := ⟨6, [.slot 2],
  (.seq (.reg c_steps_Apply_1_r0 [1]) (.seq (.reg c_steps_Apply_1_r1 [2]) .ret))⟩
end Go.SL

namespace Go.SL
open Go
def c_history_Valid_r0 : List AOper := [
  ⟨(some 1), .sim (.box (.t 0)), none⟩,
  ⟨(some 2), .sim (.mov (.c (.bool false))), none⟩]
def c_history_Valid_r1 : List AOper := [
  ⟨(some 10), .sim (.fld 8 (.t 1)), none⟩,
  ⟨(some 11), .sim (.ld none (.t 10)), none⟩,
  ⟨(some 12), .sim (.bin .lss (.t 11) (.c (.int .i64 1))), none⟩,
  ⟨(some 13), .sim (.mov (.t 12)), none⟩,
  ⟨(some 14), .sim (.fld 8 (.t 1)), (some (13, false))⟩,
  ⟨(some 15), .sim (.ld none (.t 14)), (some (13, false))⟩,
  ⟨(some 16), .sim (.bin .gtr (.t 15) (.c (.int .i64 10000000))), (some (13, false))⟩,
  ⟨(some 17), .sim (.pick (.t 13) (.c (.bool true)) (.t 16)), none⟩,
  ⟨(some 18), .sim (.mov (.t 17)), none⟩,
  ⟨(some 19), .sim (.fld 7 (.t 1)), (some (18, false))⟩,
  ⟨(some 20), .sim (.ld none (.t 19)), (some (18, false))⟩,
  ⟨(some 21), .sim (.bin .lss (.t 20) (.c (.int .i64 0))), (some (18, false))⟩,
  ⟨(some 22), .sim (.pick (.t 18) (.c (.bool true)) (.t 21)), none⟩,
  ⟨(some 23), .sim (.mov (.t 22)), none⟩,
  ⟨(some 24), .sim (.fld 7 (.t 1)), (some (23, false))⟩,
  ⟨(some 25), .sim (.ld none (.t 24)), (some (23, false))⟩,
  ⟨(some 26), .sim (.bin .gtr (.t 25) (.c (.int .i64 1000))), (some (23, false))⟩,
  ⟨(some 27), .sim (.pick (.t 23) (.c (.bool true)) (.t 26)), none⟩,
  ⟨(some 28), .sim (.mov (.t 27)), none⟩,
  ⟨(some 29), .sim (.fld 1 (.t 1)), (some (28, false))⟩,
  ⟨(some 30), .sim (.ld none (.t 29)), (some (28, false))⟩,
  ⟨(some 31), .sim (.len false (.t 30)), (some (28, false))⟩,
  ⟨(some 32), .sim (.bin .gtr (.t 31) (.c (.int .i64 4000))), (some (28, false))⟩,
  ⟨(some 33), .sim (.pick (.t 28) (.c (.bool true)) (.t 32)), none⟩]
def c_history_Valid_r2 : List AOper := [
  ⟨(some 2), .sim (.mov (.c (.bool false))), none⟩]
def c_history_Valid_r3 : List AOper := [
  ⟨(some 34), .sim (.fld 0 (.t 1)), none⟩,
  ⟨(some 35), .sim (.ld none (.t 34)), none⟩,
  ⟨(some 36), .sim (.fld 2 (.t 1)), none⟩,
  ⟨(some 37), .sim (.ld (some 4) (.t 36)), none⟩,
  ⟨(some 38), .sim (.fld 6 (.t 1)), none⟩,
  ⟨(some 39), .sim (.ld none (.t 38)), none⟩,
  ⟨(some 40), .sim (.bld [.slice none 0 0, .slice none 0 0, .string ⟨#[]⟩, .int .i64 0, .int .i64 0, .slice none 0 0, .slice none 0 0] [(0, 1, .t 35), (2, 4, .t 37), (6, 1, .t 39)]), none⟩,
  ⟨(some 41), .callp 14 [.t 40], none⟩,
  ⟨(some 42), .sim (.not (.t 41)), none⟩]
def c_history_Valid_r4 : List AOper := [
  ⟨(some 2), .sim (.mov (.c (.bool false))), none⟩]
def c_history_Valid_r5 : List AOper := [
  ⟨(some 43), .mkmap none, none⟩,
  ⟨(some 3), .sim (.mov (.t 43)), none⟩]
def c_history_Valid_r6 : List AOper := [
  ⟨(some 44), .sim (.fld 1 (.t 1)), none⟩,
  ⟨(some 45), .sim (.ld none (.t 44)), none⟩,
  ⟨(some 46), .sim (.len false (.t 45)), none⟩,
  ⟨(some 47), .sim (.mov (.c (.int .i64 0))), none⟩]
def c_history_Valid_r7 : List AOper := [
  ⟨(some 48), .sim (.bin .lss (.t 47) (.t 46)), none⟩]
def c_history_Valid_r8 : List AOper := [
  ⟨(some 49), .sim (.idx 5 (.t 45) (.t 47)), none⟩,
  ⟨(some 50), .sim (.ld (some 5) (.t 49)), none⟩,
  ⟨(some 5), .sim (.new [.int .i64 0, .int .i64 0, .int .i64 0, .string ⟨#[]⟩, .slice none 0 0]), none⟩,
  ⟨none, .st 5 (.t 5) (.t 50), none⟩]
def c_history_Valid_r9 : List AOper := [
  ⟨(some 51), .sim (.fld 0 (.t 5)), none⟩,
  ⟨(some 52), .sim (.ld none (.t 51)), none⟩,
  ⟨(some 53), .sim (.bin .lss (.t 52) (.c (.int .i64 0))), none⟩,
  ⟨(some 54), .sim (.mov (.t 53)), none⟩,
  ⟨(some 55), .sim (.fld 0 (.t 5)), (some (54, false))⟩,
  ⟨(some 56), .sim (.ld none (.t 55)), (some (54, false))⟩,
  ⟨(some 57), .sim (.fld 0 (.t 1)), (some (54, false))⟩,
  ⟨(some 58), .sim (.ld none (.t 57)), (some (54, false))⟩,
  ⟨(some 59), .sim (.len false (.t 58)), (some (54, false))⟩,
  ⟨(some 60), .sim (.bin .geq (.t 56) (.t 59)), (some (54, false))⟩,
  ⟨(some 61), .sim (.pick (.t 54) (.c (.bool true)) (.t 60)), none⟩,
  ⟨(some 62), .sim (.mov (.t 61)), none⟩,
  ⟨(some 63), .sim (.fld 1 (.t 5)), (some (62, false))⟩,
  ⟨(some 64), .sim (.ld none (.t 63)), (some (62, false))⟩,
  ⟨(some 65), .sim (.bin .lss (.t 64) (.c (.int .i64 0))), (some (62, false))⟩,
  ⟨(some 66), .sim (.pick (.t 62) (.c (.bool true)) (.t 65)), none⟩,
  ⟨(some 67), .sim (.mov (.t 66)), none⟩,
  ⟨(some 68), .sim (.fld 1 (.t 5)), (some (67, false))⟩,
  ⟨(some 69), .sim (.ld none (.t 68)), (some (67, false))⟩,
  ⟨(some 70), .sim (.fld 2 (.t 5)), (some (67, false))⟩,
  ⟨(some 71), .sim (.ld none (.t 70)), (some (67, false))⟩,
  ⟨(some 72), .sim (.bin .geq (.t 69) (.t 71)), (some (67, false))⟩,
  ⟨(some 73), .sim (.pick (.t 67) (.c (.bool true)) (.t 72)), none⟩,
  ⟨(some 74), .sim (.mov (.t 73)), none⟩,
  ⟨(some 75), .sim (.fld 2 (.t 5)), (some (74, false))⟩,
  ⟨(some 76), .sim (.ld none (.t 75)), (some (74, false))⟩,
  ⟨(some 77), .sim (.fld 8 (.t 1)), (some (74, false))⟩,
  ⟨(some 78), .sim (.ld none (.t 77)), (some (74, false))⟩,
  ⟨(some 79), .sim (.bin .gtr (.t 76) (.t 78)), (some (74, false))⟩,
  ⟨(some 80), .sim (.pick (.t 74) (.c (.bool true)) (.t 79)), none⟩]
def c_history_Valid_r10 : List AOper := [
  ⟨(some 2), .sim (.mov (.c (.bool false))), none⟩]
def c_history_Valid_r11 : List AOper := [
  ⟨(some 81), .sim (.fld 3 (.t 5)), none⟩,
  ⟨(some 82), .sim (.ld (some 2) (.t 81)), none⟩,
  ⟨(some 83), .callp 43 [.t 82], none⟩,
  ⟨(some 84), .sim (.not (.t 83)), none⟩]
def c_history_Valid_r12 : List AOper := [
  ⟨(some 2), .sim (.mov (.c (.bool false))), none⟩]
def c_history_Valid_r13 : List AOper := [
  ⟨(some 85), .sim (.fld 0 (.t 5)), none⟩,
  ⟨(some 86), .sim (.ld none (.t 85)), none⟩,
  ⟨(some 87), .sim (.fld 3 (.t 5)), none⟩,
  ⟨(some 88), .sim (.fld 0 (.t 87)), none⟩,
  ⟨(some 89), .sim (.ld none (.t 88)), none⟩,
  ⟨(some 90), .sim (.bld [.int .i64 0, .string ⟨#[]⟩] [(0, 1, .t 86), (1, 1, .t 89)]), none⟩,
  ⟨(some 6), .sim (.new [.int .i64 0, .string ⟨#[]⟩]), none⟩,
  ⟨none, .st 2 (.t 6) (.t 90), none⟩]
def c_history_Valid_r14 : List AOper := [
  ⟨(some 91), .sim (.mov (.t 3)), none⟩,
  ⟨(some 92), .sim (.ld (some 2) (.t 6)), none⟩,
  ⟨(some 94), .sim (.fld 1 (.t 5)), none⟩,
  ⟨(some 95), .sim (.ld none (.t 94)), none⟩,
  ⟨(some 96), .sim (.fld 2 (.t 5)), none⟩,
  ⟨(some 97), .sim (.ld none (.t 96)), none⟩,
  ⟨(some 98), .sim (.bld [.int .i64 0, .int .i64 0] [(0, 1, .t 95), (1, 1, .t 97)]), none⟩,
  ⟨(some 99), .mksl 2 1 [.int .i64 0, .int .i64 0] [(0, 2, .t 98)], none⟩,
  ⟨(some 100), .ment true [.i, .s] (.slice none 0 0) (.t 91) (.t 92), none⟩,
  ⟨(some 93), .sim (.ext 0 (.t 100)), none⟩,
  ⟨(some 101), .app 2 16 [.int .i64 0, .int .i64 0] (.t 93) (.t 99), none⟩,
  ⟨(some 102), .sim (.ext 1 (.t 100)), none⟩,
  ⟨none, .est (.t 91) (.t 102) (.t 101), none⟩]
def c_history_Valid_r15 : List AOper := [
  ⟨(some 103), .sim (.bin .add (.t 47) (.c (.int .i64 1))), none⟩,
  ⟨(some 47), .sim (.mov (.t 103)), none⟩]
def c_history_Valid_r16 : List AOper := [
  ⟨(some 104), .sim (.mov (.t 3)), none⟩,
  ⟨(some 105), .rng (.t 104), none⟩]
def c_history_Valid_r17 : List AOper := [
  ⟨(some 106), .nxt (.t 105), none⟩,
  ⟨(some 107), .sim (.ext 0 (.t 106)), none⟩]
def c_history_Valid_r18 : List AOper := [
  ⟨(some 108), .ent (.t 105), none⟩,
  ⟨(some 109), .sim (.ext 1 (.t 108)), none⟩,
  ⟨(some 8), .sim (.mov (.t 109)), none⟩]
def c_history_Valid_r19 : List AOper := [
  ⟨(some 110), .sim (.mov (.t 8)), none⟩,
  ⟨(some 111), .call 87 [.t 110, .f 121], none⟩]
def c_history_Valid_r20 : List AOper := [
  ⟨(some 9), .sim (.mov (.c (.int .i64 1))), none⟩]
def c_history_Valid_r21 : List AOper := [
  ⟨(some 112), .sim (.mov (.t 9)), none⟩,
  ⟨(some 113), .sim (.mov (.t 8)), none⟩,
  ⟨(some 114), .sim (.len false (.t 113)), none⟩,
  ⟨(some 115), .sim (.bin .lss (.t 112) (.t 114)), none⟩]
def c_history_Valid_r23 : List DOp := [
  ⟨0, ⟨(some 118), .sim (.mov (.t 8)), none⟩, []⟩,
  ⟨1, ⟨(some 119), .sim (.mov (.t 9)), none⟩, []⟩,
  ⟨2, ⟨(some 120), .sim (.idx 2 (.t 118) (.t 119)), none⟩, []⟩,
  ⟨3, ⟨(some 121), .sim (.fld 0 (.t 120)), none⟩, []⟩,
  ⟨4, ⟨(some 122), .sim (.ld none (.t 121)), none⟩, []⟩,
  ⟨5, ⟨(some 123), .sim (.mov (.t 8)), none⟩, []⟩,
  ⟨6, ⟨(some 124), .sim (.mov (.t 9)), none⟩, []⟩,
  ⟨7, ⟨(some 125), .sim (.bin .sub (.t 124) (.c (.int .i64 1))), none⟩, []⟩,
  ⟨8, ⟨(some 126), .sim (.idx 2 (.t 123) (.t 125)), none⟩, []⟩,
  ⟨9, ⟨(some 127), .sim (.fld 1 (.t 126)), none⟩, []⟩,
  ⟨10, ⟨(some 128), .sim (.ld none (.t 127)), none⟩, []⟩,
  ⟨11, ⟨(some 129), .sim (.bin .lss (.t 122) (.t 128)), none⟩, []⟩]
def c_history_Valid_r24 : List AOper := [
  ⟨(some 2), .sim (.mov (.c (.bool false))), none⟩]
def c_history_Valid_r22 : List AOper := [
  ⟨(some 116), .sim (.mov (.t 9)), none⟩,
  ⟨(some 117), .sim (.bin .add (.t 116) (.c (.int .i64 1))), none⟩,
  ⟨(some 9), .sim (.mov (.t 117)), none⟩]
def c_history_Valid_r25 : List AOper := [
  ⟨(some 130), .sim (.fld 1 (.t 1)), none⟩,
  ⟨(some 131), .sim (.ld none (.t 130)), none⟩,
  ⟨(some 132), .call 119 [.t 131, .f 120], none⟩,
  ⟨(some 133), .sim (.len false (.t 132)), none⟩,
  ⟨(some 134), .sim (.bin .leq (.t 133) (.c (.int .i64 500))), none⟩,
  ⟨(some 2), .sim (.mov (.t 134)), none⟩]
/-- nameplan/history.Valid -/
def c_history_Valid : AFunc := ⟨135, [.slot 2],
  (.seq (.reg c_history_Valid_r0 [1]) (.seq (.seq (.reg c_history_Valid_r1 [1, 33]) (.cond (.t 33) (.seq (.reg c_history_Valid_r2 [2]) .ret) .skip)) (.seq (.seq (.reg c_history_Valid_r3 [1, 42]) (.cond (.t 42) (.seq (.reg c_history_Valid_r4 [2]) .ret) .skip)) (.seq (.reg c_history_Valid_r5 [1, 3]) (.seq (.seq (.reg c_history_Valid_r6 [1, 3, 45, 46, 47]) (.block 0 (.loop [1, 3, 45, 46, 47] (.seq (.reg c_history_Valid_r7 [1, 3, 45, 46, 47, 48]) (.seq (.cond (.t 48) .skip (.exit 0)) (.seq (.block 1 (.seq (.reg c_history_Valid_r8 [1, 3, 5, 45, 46, 47]) (.seq (.seq (.reg c_history_Valid_r9 [1, 3, 5, 45, 46, 47, 80]) (.cond (.t 80) (.seq (.reg c_history_Valid_r10 [2]) .ret) .skip)) (.seq (.seq (.reg c_history_Valid_r11 [1, 3, 5, 45, 46, 47, 84]) (.cond (.t 84) (.seq (.reg c_history_Valid_r12 [2]) .ret) .skip)) (.seq (.reg c_history_Valid_r13 [1, 3, 5, 6, 45, 46, 47]) (.reg c_history_Valid_r14 [1, 3, 45, 46, 47])))))) (.reg c_history_Valid_r15 [1, 3, 45, 46, 47]))))))) (.seq (.seq (.reg c_history_Valid_r16 [1, 105]) (.block 2 (.loop [1, 105] (.seq (.reg c_history_Valid_r17 [1, 105, 107]) (.seq (.cond (.t 107) .skip (.exit 2)) (.block 3 (.seq (.reg c_history_Valid_r18 [1, 8, 105]) (.seq (.reg c_history_Valid_r19 [1, 8, 105]) (.seq (.reg c_history_Valid_r20 [1, 8, 9, 105]) (.block 4 (.loop [1, 8, 9, 105] (.seq (.seq (.reg c_history_Valid_r21 [1, 8, 9, 105, 115]) (.cond (.t 115) .skip (.exit 4))) (.seq (.block 5 (.seq (.regd c_history_Valid_r23 [1, 8, 9, 105, 129]) (.cond (.t 129) (.seq (.reg c_history_Valid_r24 [2]) .ret) .skip))) (.reg c_history_Valid_r22 [1, 8, 9, 105])))))))))))))) (.seq (.reg c_history_Valid_r25 [2]) .ret)))))))⟩
def c_history_Valid_1_r0 : List AOper := [
  ⟨(some 2), .sim (.box (.t 0)), none⟩,
  ⟨(some 3), .sim (.box (.t 1)), none⟩,
  ⟨(some 4), .sim (.mov (.c (.int .i64 0))), none⟩]
def c_history_Valid_1_r1 : List AOper := [
  ⟨(some 5), .sim (.fld 0 (.t 2)), none⟩,
  ⟨(some 6), .sim (.ld none (.t 5)), none⟩,
  ⟨(some 7), .sim (.fld 0 (.t 3)), none⟩,
  ⟨(some 8), .sim (.ld none (.t 7)), none⟩,
  ⟨(some 9), .callp 89 [.t 6, .t 8], none⟩,
  ⟨(some 4), .sim (.mov (.t 9)), none⟩]
/-- nameplan/history.Valid$1 -/
def c_history_Valid_1 : AFunc := ⟨10, [.slot 4],
  (.seq (.reg c_history_Valid_1_r0 [2, 3]) (.seq (.reg c_history_Valid_1_r1 [4]) .ret))⟩
def c_slices_insertionSortCmpFunc_api_Span_r0 : List AOper := [
  ⟨(some 10), .sim (.mov (.t 1)), none⟩,
  ⟨(some 11), .sim (.bin .add (.t 10) (.c (.int .i64 1))), none⟩,
  ⟨(some 8), .sim (.mov (.t 11)), none⟩]
def c_slices_insertionSortCmpFunc_api_Span_r1 : List AOper := [
  ⟨(some 12), .sim (.mov (.t 8)), none⟩,
  ⟨(some 13), .sim (.mov (.t 2)), none⟩,
  ⟨(some 14), .sim (.bin .lss (.t 12) (.t 13)), none⟩]
def c_slices_insertionSortCmpFunc_api_Span_r3 : List AOper := [
  ⟨(some 17), .sim (.mov (.t 8)), none⟩,
  ⟨(some 9), .sim (.mov (.t 17)), none⟩]
def c_slices_insertionSortCmpFunc_api_Span_r4 : List DOp := [
  ⟨0, ⟨(some 18), .sim (.mov (.t 9)), none⟩, []⟩,
  ⟨1, ⟨(some 19), .sim (.mov (.t 1)), none⟩, []⟩,
  ⟨2, ⟨(some 20), .sim (.bin .gtr (.t 18) (.t 19)), none⟩, []⟩,
  ⟨3, ⟨(some 21), .sim (.mov (.t 20)), none⟩, []⟩,
  ⟨4, ⟨(some 22), .sim (.mov (.t 3)), (some (21, true))⟩, []⟩,
  ⟨5, ⟨(some 23), .sim (.mov (.t 0)), (some (21, true))⟩, []⟩,
  ⟨6, ⟨(some 24), .sim (.mov (.t 9)), (some (21, true))⟩, []⟩,
  ⟨7, ⟨(some 25), .sim (.idx 2 (.t 23) (.t 24)), (some (21, true))⟩, []⟩,
  ⟨8, ⟨(some 26), .sim (.ld (some 2) (.t 25)), (some (21, true))⟩, []⟩,
  ⟨9, ⟨(some 27), .sim (.mov (.t 0)), (some (21, true))⟩, []⟩,
  ⟨10, ⟨(some 28), .sim (.mov (.t 9)), (some (21, true))⟩, []⟩,
  ⟨11, ⟨(some 29), .sim (.bin .sub (.t 28) (.c (.int .i64 1))), (some (21, true))⟩, []⟩,
  ⟨12, ⟨(some 30), .sim (.idx 2 (.t 27) (.t 29)), (some (21, true))⟩, []⟩,
  ⟨13, ⟨(some 31), .sim (.ld (some 2) (.t 30)), (some (21, true))⟩, []⟩,
  ⟨14, ⟨(some 32), .callv (.t 22) [.t 26, .t 31], (some (21, true))⟩, []⟩,
  ⟨15, ⟨(some 33), .sim (.bin .lss (.t 32) (.c (.int .i64 0))), (some (21, true))⟩, []⟩,
  ⟨16, ⟨(some 34), .sim (.pick (.t 21) (.t 33) (.c (.bool false))), none⟩, []⟩]
def c_slices_insertionSortCmpFunc_api_Span_r6 : List DOp := [
  ⟨0, ⟨(some 37), .sim (.mov (.t 0)), none⟩, []⟩,
  ⟨1, ⟨(some 38), .sim (.mov (.t 9)), none⟩, []⟩,
  ⟨2, ⟨(some 39), .sim (.mov (.t 0)), none⟩, []⟩,
  ⟨3, ⟨(some 40), .sim (.mov (.t 9)), none⟩, []⟩,
  ⟨4, ⟨(some 41), .sim (.bin .sub (.t 40) (.c (.int .i64 1))), none⟩, []⟩,
  ⟨5, ⟨(some 42), .sim (.mov (.t 0)), none⟩, []⟩,
  ⟨6, ⟨(some 43), .sim (.mov (.t 9)), none⟩, []⟩,
  ⟨7, ⟨(some 44), .sim (.bin .sub (.t 43) (.c (.int .i64 1))), none⟩, []⟩,
  ⟨8, ⟨(some 45), .sim (.idx 2 (.t 42) (.t 44)), none⟩, []⟩,
  ⟨9, ⟨(some 46), .sim (.ld (some 2) (.t 45)), none⟩, []⟩,
  ⟨10, ⟨(some 47), .sim (.mov (.t 0)), none⟩, []⟩,
  ⟨11, ⟨(some 48), .sim (.mov (.t 9)), none⟩, []⟩,
  ⟨12, ⟨(some 49), .sim (.idx 2 (.t 47) (.t 48)), none⟩, []⟩,
  ⟨13, ⟨(some 50), .sim (.ld (some 2) (.t 49)), none⟩, []⟩,
  ⟨14, ⟨(some 51), .sim (.idx 2 (.t 37) (.t 38)), none⟩, []⟩,
  ⟨15, ⟨none, .st 2 (.t 51) (.t 46), none⟩, [2, 3, 4]⟩,
  ⟨16, ⟨(some 52), .sim (.idx 2 (.t 39) (.t 41)), none⟩, []⟩,
  ⟨17, ⟨none, .st 2 (.t 52) (.t 50), none⟩, []⟩]
def c_slices_insertionSortCmpFunc_api_Span_r5 : List AOper := [
  ⟨(some 35), .sim (.mov (.t 9)), none⟩,
  ⟨(some 36), .sim (.bin .sub (.t 35) (.c (.int .i64 1))), none⟩,
  ⟨(some 9), .sim (.mov (.t 36)), none⟩]
def c_slices_insertionSortCmpFunc_api_Span_r2 : List AOper := [
  ⟨(some 15), .sim (.mov (.t 8)), none⟩,
  ⟨(some 16), .sim (.bin .add (.t 15) (.c (.int .i64 1))), none⟩,
  ⟨(some 8), .sim (.mov (.t 16)), none⟩]
/-- slices.insertionSortCmpFunc[nameplan/api.Span] -/
def c_slices_insertionSortCmpFunc_api_Span : AFunc := ⟨53, [],
  (.seq (.reg c_slices_insertionSortCmpFunc_api_Span_r0 [0, 1, 2, 3, 8]) (.block 0 (.loop [0, 1, 2, 3, 8] (.seq (.seq (.reg c_slices_insertionSortCmpFunc_api_Span_r1 [0, 1, 2, 3, 8, 14]) (.cond (.t 14) .skip (.exit 0))) (.seq (.block 1 (.seq (.reg c_slices_insertionSortCmpFunc_api_Span_r3 [0, 1, 2, 3, 8, 9]) (.block 2 (.loop [0, 1, 2, 3, 8, 9] (.seq (.seq (.regd c_slices_insertionSortCmpFunc_api_Span_r4 [0, 1, 2, 3, 8, 9, 34]) (.cond (.t 34) .skip (.exit 2))) (.seq (.block 3 (.regd c_slices_insertionSortCmpFunc_api_Span_r6 [0, 1, 2, 3, 8, 9])) (.reg c_slices_insertionSortCmpFunc_api_Span_r5 [0, 1, 2, 3, 8, 9]))))))) (.reg c_slices_insertionSortCmpFunc_api_Span_r2 [0, 1, 2, 3, 8]))))))⟩
def c_math_bits_Len64_r0 : List AOper := [
  ⟨(some 2), .sim (.mov (.c (.int .i64 0))), none⟩]
def c_math_bits_Len64_r1 : List AOper := [
  ⟨(some 3), .sim (.mov (.t 0)), none⟩,
  ⟨(some 4), .sim (.bin .geq (.t 3) (.c (.int .u64 4294967296))), none⟩]
def c_math_bits_Len64_r2 : List AOper := [
  ⟨(some 5), .sim (.mov (.t 0)), none⟩,
  ⟨(some 6), .sim (.bin .shr (.t 5) (.c (.int .u64 32))), none⟩,
  ⟨(some 0), .sim (.mov (.t 6)), none⟩]
def c_math_bits_Len64_r3 : List AOper := [
  ⟨(some 2), .sim (.mov (.c (.int .i64 32))), none⟩]
def c_math_bits_Len64_r4 : List AOper := [
  ⟨(some 7), .sim (.mov (.t 0)), none⟩,
  ⟨(some 8), .sim (.bin .geq (.t 7) (.c (.int .u64 65536))), none⟩]
def c_math_bits_Len64_r5 : List AOper := [
  ⟨(some 9), .sim (.mov (.t 0)), none⟩,
  ⟨(some 10), .sim (.bin .shr (.t 9) (.c (.int .u64 16))), none⟩,
  ⟨(some 0), .sim (.mov (.t 10)), none⟩]
def c_math_bits_Len64_r6 : List AOper := [
  ⟨(some 11), .sim (.mov (.t 2)), none⟩,
  ⟨(some 12), .sim (.bin .add (.t 11) (.c (.int .i64 16))), none⟩,
  ⟨(some 2), .sim (.mov (.t 12)), none⟩]
def c_math_bits_Len64_r7 : List AOper := [
  ⟨(some 13), .sim (.mov (.t 0)), none⟩,
  ⟨(some 14), .sim (.bin .geq (.t 13) (.c (.int .u64 256))), none⟩]
def c_math_bits_Len64_r8 : List AOper := [
  ⟨(some 15), .sim (.mov (.t 0)), none⟩,
  ⟨(some 16), .sim (.bin .shr (.t 15) (.c (.int .u64 8))), none⟩,
  ⟨(some 0), .sim (.mov (.t 16)), none⟩]
def c_math_bits_Len64_r9 : List AOper := [
  ⟨(some 17), .sim (.mov (.t 2)), none⟩,
  ⟨(some 18), .sim (.bin .add (.t 17) (.c (.int .i64 8))), none⟩,
  ⟨(some 2), .sim (.mov (.t 18)), none⟩]
def c_math_bits_Len64_r10 : List AOper := [
  ⟨(some 19), .sim (.mov (.t 2)), none⟩,
  ⟨(some 20), .sim (.mov (.t 0)), none⟩,
  ⟨(some 21), .sim (.cvi .u8 (.t 20)), none⟩,
  ⟨(some 22), .sim (.idxs (.c (.string ⟨#[0, 1, 2, 2, 3, 3, 3, 3, 4, 4, 4, 4, 4, 4, 4, 4, 5, 5, 5, 5, 5, 5, 5, 5, 5, 5, 5, 5, 5, 5, 5, 5, 6, 6, 6, 6, 6, 6, 6, 6, 6, 6, 6, 6, 6, 6, 6, 6, 6, 6, 6, 6, 6, 6, 6, 6, 6, 6, 6, 6, 6, 6, 6, 6, 7, 7, 7, 7, 7, 7, 7, 7, 7, 7, 7, 7, 7, 7, 7, 7, 7, 7, 7, 7, 7, 7, 7, 7, 7, 7, 7, 7, 7, 7, 7, 7, 7, 7, 7, 7, 7, 7, 7, 7, 7, 7, 7, 7, 7, 7, 7, 7, 7, 7, 7, 7, 7, 7, 7, 7, 7, 7, 7, 7, 7, 7, 7, 7, 8, 8, 8, 8, 8, 8, 8, 8, 8, 8, 8, 8, 8, 8, 8, 8, 8, 8, 8, 8, 8, 8, 8, 8, 8, 8, 8, 8, 8, 8, 8, 8, 8, 8, 8, 8, 8, 8, 8, 8, 8, 8, 8, 8, 8, 8, 8, 8, 8, 8, 8, 8, 8, 8, 8, 8, 8, 8, 8, 8, 8, 8, 8, 8, 8, 8, 8, 8, 8, 8, 8, 8, 8, 8, 8, 8, 8, 8, 8, 8, 8, 8, 8, 8, 8, 8, 8, 8, 8, 8, 8, 8, 8, 8, 8, 8, 8, 8, 8, 8, 8, 8, 8, 8, 8, 8, 8, 8, 8, 8, 8, 8, 8, 8, 8, 8, 8, 8, 8, 8, 8, 8, 8, 8, 8, 8, 8, 8]⟩)) (.t 21)), none⟩,
  ⟨(some 23), .sim (.cvi .i64 (.t 22)), none⟩,
  ⟨(some 24), .sim (.bin .add (.t 19) (.t 23)), none⟩,
  ⟨(some 2), .sim (.mov (.t 24)), none⟩]
/-- math/bits.Len64 -/
def c_math_bits_Len64 : AFunc := ⟨25, [.slot 2],
  (.seq (.reg c_math_bits_Len64_r0 [0, 2]) (.seq (.seq (.reg c_math_bits_Len64_r1 [0, 2, 4]) (.cond (.t 4) (.seq (.reg c_math_bits_Len64_r2 [0]) (.reg c_math_bits_Len64_r3 [0, 2])) .skip)) (.seq (.seq (.reg c_math_bits_Len64_r4 [0, 2, 8]) (.cond (.t 8) (.seq (.reg c_math_bits_Len64_r5 [0, 2]) (.reg c_math_bits_Len64_r6 [0, 2])) .skip)) (.seq (.seq (.reg c_math_bits_Len64_r7 [0, 2, 14]) (.cond (.t 14) (.seq (.reg c_math_bits_Len64_r8 [0, 2]) (.reg c_math_bits_Len64_r9 [0, 2])) .skip)) (.seq (.reg c_math_bits_Len64_r10 [2]) .ret)))))⟩
end Go.SL

namespace Go.SL
open Go
def c_law40_example_r0 : List AOper := [
  ⟨(some 0), .sim (.new [.slice none 0 0, .slice none 0 0, .string ⟨#[]⟩, .int .i64 0, .int .i64 0, .slice none 0 0, .slice none 0 0]), none⟩,
  ⟨(some 1), .sim (.new [.slice none 0 0]), none⟩]
def c_law40_example_r1 : List AOper := [
  ⟨(some 2), .sim (.mov (.f 26)), none⟩]
def c_law40_example_r2 : List AOper := [
  ⟨(some 5), .sim (.bld [.string ⟨#[]⟩, .int .i64 0, .int .i64 0] [(0, 1, .c (.string ⟨#[97]⟩)), (1, 1, .c (.int .i64 1))]), none⟩,
  ⟨(some 6), .sim (.bld [.string ⟨#[]⟩, .int .i64 0, .int .i64 0] [(0, 1, .c (.string ⟨#[98]⟩)), (1, 1, .c (.int .i64 2))]), none⟩,
  ⟨(some 7), .sim (.bld [.string ⟨#[]⟩, .int .i64 0, .int .i64 0] [(0, 1, .c (.string ⟨#[99]⟩)), (1, 1, .c (.int .i64 3))]), none⟩,
  ⟨(some 8), .mksl 3 3 [.string ⟨#[]⟩, .int .i64 0, .int .i64 0, .string ⟨#[]⟩, .int .i64 0, .int .i64 0, .string ⟨#[]⟩, .int .i64 0, .int .i64 0] [(0, 3, .t 5), (3, 3, .t 6), (6, 3, .t 7)], none⟩,
  ⟨(some 3), .sim (.mov (.t 8)), none⟩]
def c_law40_example_r3 : List AOper := [
  ⟨(some 9), .sim (.mov (.t 3)), none⟩,
  ⟨(some 10), .sim (.mov (.t 2)), none⟩,
  ⟨(some 11), .callv (.t 10) [.c (.int .i64 1)], none⟩,
  ⟨(some 12), .sim (.bld [.int .i64 0, .string ⟨#[]⟩, .slice none 0 0] [(0, 1, .c (.int .i64 1)), (1, 2, .t 11)]), none⟩,
  ⟨(some 13), .mksl 3 1 [.int .i64 0, .string ⟨#[]⟩, .slice none 0 0] [(0, 3, .t 12)], none⟩,
  ⟨(some 14), .sim (.bld [.string ⟨#[]⟩, .int .i64 0, .int .i64 0] [(1, 1, .c (.int .i64 1)), (2, 1, .c (.int .i64 1))]), none⟩,
  ⟨(some 15), .mksl 3 1 [.string ⟨#[]⟩, .int .i64 0, .int .i64 0] [(0, 3, .t 14)], none⟩,
  ⟨(some 16), .sim (.bld [.string ⟨#[]⟩, .int .i64 0, .int .i64 0, .slice none 0 0] [(0, 1, .c (.string ⟨#[46]⟩)), (1, 1, .c (.int .i64 6)), (3, 1, .t 15)]), none⟩,
  ⟨(some 17), .mksl 1 1 [.int .i64 0] [(0, 1, .c (.int .i64 1))], none⟩,
  ⟨(some 18), .sim (.bld [.slice none 0 0, .slice none 0 0, .string ⟨#[]⟩, .int .i64 0, .int .i64 0, .slice none 0 0, .slice none 0 0] [(0, 1, .t 9), (1, 1, .t 13), (2, 4, .t 16), (6, 1, .t 17)]), none⟩,
  ⟨(some 4), .sim (.new [.slice none 0 0, .slice none 0 0, .string ⟨#[]⟩, .int .i64 0, .int .i64 0, .slice none 0 0, .slice none 0 0]), none⟩,
  ⟨none, .st 7 (.t 4) (.t 18), none⟩]
def c_law40_example_r4 : List ROp := [
  ⟨[], ⟨(some 19), .sim (.ld (some 7) (.t 4)), none⟩⟩,
  ⟨[], ⟨(some 20), .sim (.mov (.t 2)), none⟩⟩,
  ⟨[1], ⟨(some 21), .callv (.t 20) [.c (.int .i64 2)], none⟩⟩,
  ⟨[2], ⟨(some 22), .sim (.bld [.int .i64 0, .string ⟨#[]⟩, .slice none 0 0] [(0, 1, .c (.int .i64 1)), (1, 2, .t 21)]), none⟩⟩,
  ⟨[], ⟨(some 23), .sim (.mov (.t 2)), none⟩⟩,
  ⟨[2, 4], ⟨(some 24), .callv (.t 23) [.c (.int .i64 2)], none⟩⟩,
  ⟨[5], ⟨(some 25), .sim (.bld [.int .i64 0, .string ⟨#[]⟩, .slice none 0 0] [(0, 1, .c (.int .i64 2)), (1, 2, .t 24)]), none⟩⟩,
  ⟨[3, 6], ⟨(some 26), .mksl 3 2 [.int .i64 0, .string ⟨#[]⟩, .slice none 0 0, .int .i64 0, .string ⟨#[]⟩, .slice none 0 0] [(0, 3, .t 22), (3, 3, .t 25)], none⟩⟩,
  ⟨[7], ⟨(some 27), .sim (.bld [.slice none 0 0] [(0, 1, .t 26)]), none⟩⟩,
  ⟨[0, 0, 5], ⟨none, .st 7 (.t 0) (.t 19), none⟩⟩,
  ⟨[0, 1, 2, 3, 4, 5, 6, 7, 8, 8, 9, 9], ⟨none, .st 1 (.t 1) (.t 27), none⟩⟩]
/-- nameplan/nameplanlaw40.example -/
def c_law40_example : AFunc := ⟨28, [.cell 0 (some 7), .cell 1 (some 1)],
  (.seq (.reg c_law40_example_r0 [0, 1]) (.seq (.reg c_law40_example_r1 [0, 1, 2]) (.seq (.reg c_law40_example_r2 [0, 1, 2, 3]) (.seq (.reg c_law40_example_r3 [0, 1, 2, 4]) (.seq (.rega c_law40_example_r4 [0, 1]) .ret)))))⟩
end Go.SL
