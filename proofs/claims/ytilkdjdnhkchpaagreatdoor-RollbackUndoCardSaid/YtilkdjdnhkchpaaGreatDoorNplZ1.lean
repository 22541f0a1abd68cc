import Derived.Test.YtilkdjdnhkchpaaGreatDoorProg
import Derived.Test.YtilkdjdnhkchpaaGreatDoorNplO9
import Derived.KernelRfl
namespace Go.SL
open Go
def fnTab : Array Nat := #[4, 5, 6, 7, 8, 9, 10, 3, 11, 12, 13, 14, 15, 18, 19, 20, 21, 22, 24, 23, 25, 26, 27, 28, 29, 30, 31, 33, 34, 35, 37, 38, 39, 41, 40, 17, 16, 42, 43, 44, 45, 46, 47, 48, 49, 36, 50, 51, 52, 53, 54, 55, 60, 61, 62, 64, 63, 65, 66, 67, 68, 69, 70, 71, 72, 78, 79, 81, 80, 82, 83, 84, 56, 91, 92, 0, 93, 94, 95, 96, 97, 98, 99, 100, 101, 103, 102, 73, 104, 75, 105, 116, 118, 117, 119, 120, 122, 121, 133, 143, 144, 145, 146, 147, 176, 177, 232, 32, 57, 123, 124, 125, 126, 127, 128, 129, 130, 131, 132, 76, 77, 74]
noncomputable def theE : Env := ⟨Go.Proofs.Tryz.prog, fun k => fnTab.getD k 0, fun k => fnTab.getD k 0⟩
theorem c7T : chkFunc theE (theE.fn 7) c_law40_RollbackUndo = true := by kernel_rfl
theorem c0T : chkFunc theE (theE.fn 0) c_law40_head = true := by kernel_rfl
theorem c1T : chkFunc theE (theE.fn 1) c_ref16_Few = true := by kernel_rfl
theorem c2T : chkFunc theE (theE.fn 2) c_ref35_FewStage = true := by kernel_rfl
theorem c3T : chkFunc theE (theE.fn 3) c_rollback_Undo = true := by kernel_rfl
theorem c4T : chkFunc theE (theE.fn 4) c_steps_World = true := by kernel_rfl
theorem c5T : chkFunc theE (theE.fn 5) c_ref35_SameWorld = true := by kernel_rfl
theorem c6T : chkFunc theE (theE.fn 6) c_ref35_SameStage = true := by kernel_rfl
theorem c9T : chkFunc theE (theE.fn 9) c_ref02_SameZone = true := by kernel_rfl
theorem c10T : chkFunc theE (theE.fn 10) c_rollback_Back = true := by kernel_rfl
theorem c11T : chkFunc theE (theE.fn 11) c_ref06_Few = true := by kernel_rfl
theorem c12T : chkFunc theE (theE.fn 12) c_rollback_Undo_1 = true := by kernel_rfl
theorem c36T : chkFunc theE (theE.fn 36) c_slices_ContainsFunc_Placed = true := by kernel_rfl
theorem c35T : chkFunc theE (theE.fn 35) c_rollback_Undo_1_1 = true := by kernel_rfl
theorem c13T : chkFunc theE (theE.fn 13) c_rollback_copyZone = true := by kernel_rfl
theorem c14T : chkFunc theE (theE.fn 14) c_world_Valid = true := by kernel_rfl
theorem c15T : chkFunc theE (theE.fn 15) c_steps_stageOK = true := by kernel_rfl
theorem c16T : chkFunc theE (theE.fn 16) c_steps_mentioned = true := by kernel_rfl
theorem c17T : chkFunc theE (theE.fn 17) c_steps_isStop = true := by kernel_rfl
theorem c19T : chkFunc theE (theE.fn 19) c_steps_tooMany_api_Placed = true := by kernel_rfl
theorem c18T : chkFunc theE (theE.fn 18) c_steps_World_1 = true := by kernel_rfl
theorem c20T : chkFunc theE (theE.fn 20) c_steps_cloned = true := by kernel_rfl
theorem c21T : chkFunc theE (theE.fn 21) c_slices_Clone_Host = true := by kernel_rfl
theorem c22T : chkFunc theE (theE.fn 22) c_slices_Clone_Datum = true := by kernel_rfl
theorem c23T : chkFunc theE (theE.fn 23) c_slices_Clone_int = true := by kernel_rfl
theorem c24T : chkFunc theE (theE.fn 24) c_ref35_hosts = true := by kernel_rfl
theorem c25T : chkFunc theE (theE.fn 25) c_ref35_same = true := by kernel_rfl
theorem c27T : chkFunc theE (theE.fn 27) c_ref02_SameList = true := by kernel_rfl
theorem c28T : chkFunc theE (theE.fn 28) c_steps_Valid = true := by kernel_rfl
theorem c29T : chkFunc theE (theE.fn 29) c_rollback_Back_1 = true := by kernel_rfl
theorem c45T : chkFunc theE (theE.fn 45) c_name_Valid = true := by kernel_rfl
theorem c30T : chkFunc theE (theE.fn 30) c_slices_ContainsFunc_Question = true := by kernel_rfl
theorem c37T : chkFunc theE (theE.fn 37) c_slices_IndexFunc_Placed = true := by kernel_rfl
theorem c38T : chkFunc theE (theE.fn 38) c_slices_Clone_Signed = true := by kernel_rfl
theorem c39T : chkFunc theE (theE.fn 39) c_slices_Clone_Sig = true := by kernel_rfl
theorem c40T : chkFunc theE (theE.fn 40) c_world_validHosts = true := by kernel_rfl
theorem c41T : chkFunc theE (theE.fn 41) c_world_validCopies = true := by kernel_rfl
theorem c42T : chkFunc theE (theE.fn 42) c_world_validRoot = true := by kernel_rfl
theorem c43T : chkFunc theE (theE.fn 43) c_zone_Valid = true := by kernel_rfl
theorem c44T : chkFunc theE (theE.fn 44) c_strings_HasPrefix = true := by kernel_rfl
theorem c46T : chkFunc theE (theE.fn 46) c_ref02_Same = true := by kernel_rfl
theorem c47T : chkFunc theE (theE.fn 47) c_ref02_SameSigned = true := by kernel_rfl
theorem c49T : chkFunc theE (theE.fn 49) c_steps_stepsOK = true := by kernel_rfl
theorem c50T : chkFunc theE (theE.fn 50) c_name_text_valid = true := by kernel_rfl
theorem c51T : chkFunc theE (theE.fn 51) c_slices_IndexFunc_Question = true := by kernel_rfl
theorem c72T : chkFunc theE (theE.fn 72) c_steps_Apply = true := by kernel_rfl
theorem c52T : chkFunc theE (theE.fn 52) c_world_wildcard = true := by kernel_rfl
theorem c53T : chkFunc theE (theE.fn 53) c_world_validAddr = true := by kernel_rfl
theorem c54T : chkFunc theE (theE.fn 54) c_record_Valid = true := by kernel_rfl
theorem c56T : chkFunc theE (theE.fn 56) c_slices_ContainsFunc_int = true := by kernel_rfl
theorem c55T : chkFunc theE (theE.fn 55) c_world_validRoot_1 = true := by kernel_rfl
theorem c57T : chkFunc theE (theE.fn 57) c_zone_body_ordered = true := by kernel_rfl
theorem c58T : chkFunc theE (theE.fn 58) c_zone_body_apexHolds = true := by kernel_rfl
theorem c59T : chkFunc theE (theE.fn 59) c_zone_lay = true := by kernel_rfl
theorem c60T : chkFunc theE (theE.fn 60) c_zone_layout_aliasesHold = true := by kernel_rfl
theorem c61T : chkFunc theE (theE.fn 61) c_zone_layout_cutsHold = true := by kernel_rfl
theorem c62T : chkFunc theE (theE.fn 62) c_zone_layout_sigsHold = true := by kernel_rfl
theorem c63T : chkFunc theE (theE.fn 63) c_zone_layout_formHolds = true := by kernel_rfl
theorem c64T : chkFunc theE (theE.fn 64) c_internal_stringslite_HasPrefix = true := by kernel_rfl
theorem c87T : chkFunc theE (theE.fn 87) c_slices_SortFunc_Span = true := by kernel_rfl
theorem c89T : chkFunc theE (theE.fn 89) c_cmp_Compare_int = true := by kernel_rfl
theorem c65T : chkFunc theE (theE.fn 65) c_name_text_backwards = true := by kernel_rfl
theorem c66T : chkFunc theE (theE.fn 66) c_name_isLabel = true := by kernel_rfl
theorem c79T : chkFunc theE (theE.fn 79) c_slices_IndexFunc_int = true := by kernel_rfl
theorem c73T : chkFunc theE (theE.fn 73) c_name_Labels = true := by kernel_rfl
theorem c74T : chkFunc theE (theE.fn 74) c_record_within_int = true := by kernel_rfl
theorem c76T : chkFunc theE (theE.fn 76) c_record_isWildcard = true := by kernel_rfl
theorem c77T : chkFunc theE (theE.fn 77) c_record_validDatum = true := by kernel_rfl
theorem c78T : chkFunc theE (theE.fn 78) c_record_compareData = true := by kernel_rfl
theorem c80T : chkFunc theE (theE.fn 80) c_name_Under = true := by kernel_rfl
theorem c81T : chkFunc theE (theE.fn 81) c_zone_comparePlaces = true := by kernel_rfl
theorem c82T : chkFunc theE (theE.fn 82) c_zone_body_find = true := by kernel_rfl
theorem c83T : chkFunc theE (theE.fn 83) c_zone_fitsApex = true := by kernel_rfl
theorem c84T : chkFunc theE (theE.fn 84) c_zone_inForm = true := by kernel_rfl
theorem c88T : chkFunc theE (theE.fn 88) c_cmp_isNaN_int = true := by kernel_rfl
theorem c90T : chkFunc theE (theE.fn 90) c_strings_LastIndexByte = true := by kernel_rfl
theorem c91T : chkFunc theE (theE.fn 91) c_record_isFree = true := by kernel_rfl
theorem c93T : chkFunc theE (theE.fn 93) c_cmp_Or_int = true := by kernel_rfl
theorem c92T : chkFunc theE (theE.fn 92) c_cmp_Compare_string = true := by kernel_rfl
theorem c94T : chkFunc theE (theE.fn 94) c_strings_HasSuffix = true := by kernel_rfl
theorem c95T : chkFunc theE (theE.fn 95) c_name_Compare = true := by kernel_rfl
theorem c97T : chkFunc theE (theE.fn 97) c_slices_BinarySearchFunc_Signed = true := by kernel_rfl
theorem c96T : chkFunc theE (theE.fn 96) c_zone_body_find_1 = true := by kernel_rfl
theorem c99T : chkFunc theE (theE.fn 99) c_record_within_byte = true := by kernel_rfl
theorem c100T : chkFunc theE (theE.fn 100) c_cmp_isNaN_string = true := by kernel_rfl
theorem c101T : chkFunc theE (theE.fn 101) c_internal_stringslite_HasSuffix = true := by kernel_rfl
theorem c102T : chkFunc theE (theE.fn 102) c_name_text_puller = true := by kernel_rfl
theorem c103T : chkFunc theE (theE.fn 103) c_strings_Compare = true := by kernel_rfl
theorem c104T : chkFunc theE (theE.fn 104) c_name_text_puller_1 = true := by kernel_rfl
theorem e12T : enters theE.P (theE.fn 12) = true := by kernel_rfl
theorem e18T : enters theE.P (theE.fn 18) = true := by kernel_rfl
theorem e26T : enters theE.P (theE.fn 26) = true := by kernel_rfl
theorem e29T : enters theE.P (theE.fn 29) = true := by kernel_rfl
theorem e35T : enters theE.P (theE.fn 35) = true := by kernel_rfl
theorem e55T : enters theE.P (theE.fn 55) = true := by kernel_rfl
theorem e69T : enters theE.P (theE.fn 69) = true := by kernel_rfl
theorem e96T : enters theE.P (theE.fn 96) = true := by kernel_rfl
theorem e104T : enters theE.P (theE.fn 104) = true := by kernel_rfl
theorem e65T : enters theE.P (theE.fn 65) = true := by kernel_rfl
theorem c98T : chkFunc theE (theE.fn 98) c_internal_bytealg_LastIndexByteString = true := by kernel_rfl
theorem c26T : chkFunc theE (theE.fn 26) c_law40_example_1 = true := by kernel_rfl
theorem c107T : chkFunc theE (theE.fn 107) c_law40_example_1_1 = true := by kernel_rfl
theorem c31T : chkFunc theE (theE.fn 31) c_rollback_back_apply = true := by kernel_rfl
theorem c32T : chkFunc theE (theE.fn 32) c_rollback_backwards = true := by kernel_rfl
theorem c108T : chkFunc theE (theE.fn 108) c_rollback_backwards_1 = true := by kernel_rfl
theorem c86T : chkFunc theE (theE.fn 86) c_slices_pdqsortCmpFunc_api_Span = true := by kernel_rfl
theorem c85T : chkFunc theE (theE.fn 85) c_math_bits_Len = true := by kernel_rfl
theorem c119T : chkFunc theE (theE.fn 119) c_history_unique_api_Copy_string = true := by kernel_rfl
theorem c120T : chkFunc theE (theE.fn 120) c_history_apexOf = true := by kernel_rfl
theorem c70T : chkFunc theE (theE.fn 70) c_steps_tooMany_api_Copy = true := by kernel_rfl
theorem c71T : chkFunc theE (theE.fn 71) c_slices_Clone_Copy = true := by kernel_rfl
theorem c69T : chkFunc theE (theE.fn 69) c_steps_Apply_1 = true := by kernel_rfl
theorem c48T : chkFunc theE (theE.fn 48) c_history_Valid = true := by kernel_rfl
theorem c121T : chkFunc theE (theE.fn 121) c_history_Valid_1 = true := by kernel_rfl
theorem c109T : chkFunc theE (theE.fn 109) c_slices_insertionSortCmpFunc_api_Span = true := by kernel_rfl
theorem c118T : chkFunc theE (theE.fn 118) c_math_bits_Len64 = true := by kernel_rfl
theorem e107T : enters theE.P (theE.fn 107) = true := by kernel_rfl
theorem e108T : enters theE.P (theE.fn 108) = true := by kernel_rfl
theorem e120T : enters theE.P (theE.fn 120) = true := by kernel_rfl
theorem e121T : enters theE.P (theE.fn 121) = true := by kernel_rfl
theorem codes2T : Codes2 theE := ⟨c98T, c26T, c107T, c31T, c32T, c108T, c86T, c85T, c119T, c120T, c70T, c71T, c69T, c48T, c121T, c109T, c118T, e107T, e108T, e120T, e121T⟩
theorem codesT (h1 : ∀ (H : Hp) (l : Bs), l.length ≤ 60 → FnP theE 98 [S l, .int .u8 46] H (.int .i64 (ixI (lastIx 46 l)))) (h2 : ∀ (H : Hp) (a b : Bs), FnP theE 105 [S a, S b] H (.int .i64 (cmpBs a b))) : Codes theE := ⟨c7T, c0T, c1T, c2T, c3T, c4T, c5T, c6T, c9T, c10T, c11T, c12T, c36T, c35T, c13T, c14T, c15T, c16T, c17T, c19T, c18T, c20T, c21T, c22T, c23T, c24T, c25T, c27T, c28T, c29T, c45T, c30T, c37T, c38T, c39T, c40T, c41T, c42T, c43T, c44T, c46T, c47T, c49T, c50T, c51T, c72T, c52T, c53T, c54T, c56T, c55T, c57T, c58T, c59T, c60T, c61T, c62T, c63T, c64T, c87T, c89T, c65T, c66T, c79T, c73T, c74T, c76T, c77T, c78T, c80T, c81T, c82T, c83T, c84T, c88T, c90T, c91T, c93T, c92T, c94T, c95T, c97T, c96T, c99T, c100T, c101T, c102T, c103T, c104T, e12T, e18T, e26T, e29T, e35T, e55T, e69T, e96T, e104T, e65T, h1, h2⟩
end Go.SL
