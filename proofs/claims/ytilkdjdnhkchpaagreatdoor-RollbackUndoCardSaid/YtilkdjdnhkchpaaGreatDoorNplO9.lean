/- The codes of the further functions. -/
import Derived.Test.YtilkdjdnhkchpaaGreatDoorNplO4
import Derived.Test.YtilkdjdnhkchpaaGreatDoorNplM2
namespace Go.SL
open Go
structure Codes2 (E : Env) : Prop where
  c98 : chkFunc E (E.fn 98) c_internal_bytealg_LastIndexByteString = true
  c26 : chkFunc E (E.fn 26) c_law40_example_1 = true
  c107 : chkFunc E (E.fn 107) c_law40_example_1_1 = true
  c31 : chkFunc E (E.fn 31) c_rollback_back_apply = true
  c32 : chkFunc E (E.fn 32) c_rollback_backwards = true
  c108 : chkFunc E (E.fn 108) c_rollback_backwards_1 = true
  c86 : chkFunc E (E.fn 86) c_slices_pdqsortCmpFunc_api_Span = true
  c85 : chkFunc E (E.fn 85) c_math_bits_Len = true
  c119 : chkFunc E (E.fn 119) c_history_unique_api_Copy_string = true
  c120 : chkFunc E (E.fn 120) c_history_apexOf = true
  c70 : chkFunc E (E.fn 70) c_steps_tooMany_api_Copy = true
  c71 : chkFunc E (E.fn 71) c_slices_Clone_Copy = true
  c69 : chkFunc E (E.fn 69) c_steps_Apply_1 = true
  c48 : chkFunc E (E.fn 48) c_history_Valid = true
  c121 : chkFunc E (E.fn 121) c_history_Valid_1 = true
  c109 : chkFunc E (E.fn 109) c_slices_insertionSortCmpFunc_api_Span = true
  c118 : chkFunc E (E.fn 118) c_math_bits_Len64 = true
  e107 : enters E.P (E.fn 107) = true
  e108 : enters E.P (E.fn 108) = true
  e120 : enters E.P (E.fn 120) = true
  e121 : enters E.P (E.fn 121) = true
end Go.SL
