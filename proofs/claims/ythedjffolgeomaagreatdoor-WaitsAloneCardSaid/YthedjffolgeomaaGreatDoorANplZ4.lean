/- The seat: walks of what is owed of the library: CompareString, cmp.Less, copyCheck and String of a Builder, FormatUint. -/
import Derived.Test.YthedjffolgeomaaGreatDoorChecked
import Derived.Test.YthedjffolgeomaaGreatDoorANplZ5
import Derived.Lib.Strings
import Derived.Lib.Slices
import Derived.Lib.Walk
import Derived.Lib.Bytealg
import Derived.Lib.Builder
import Derived.Lib.UnsafeStr
import Derived.Lib.AppendIntMem
import Derived.Shelf.Strconv.Itoa3
import Derived.Lib.Hide
import Derived.Laws.Externs
import Derived.Deep.Draws
import Derived.WalkKit
import Derived.BigCall
import Derived.BigGuard
namespace Go.Proofs
open Go.RowKit Go.Sort Go.Lib Go.Shelf
set_option maxHeartbeats 1000000 in
set_option maxRecDepth 100000 in
theorem Tryz.cmpStr0 (a b : ByteArray) (w : World) :
  Calls Tryz.prog 203 #[.string a,.string b] w fun e w'=>e = .returned (.int .i64 (Lib.compareBytes a.data.toList b.data.toList))∧w'=w:=by
 go_enter Tryz.func203,Tryz.ntmps203
 go_wp2
 rw [run_callFunc_extern Tryz.func254 (by kernel_rfl) (by kernel_rfl) (by kernel_rfl) (e:=Extern.BytealgCompare.compare) (by kernel_rfl),Lib.run_compareString]
 simp only [Result.andThen]
 rw [Oper.upon_value]
 go_wp2
 go_ret
 exact⟨rfl,rfl⟩
set_option maxHeartbeats 1000000 in
set_option maxRecDepth 100000 in
theorem Tryz.less0 (a b : Int) (w : World) :
  Calls Tryz.prog 170 #[.int .i64 a,.int .i64 b] w fun e w'=>e = .returned (.bool (decide (a < b)))∧w'=w:=by
 go_enter Tryz.func170,Tryz.ntmps170
 go_wp2
 all_goals (go_ret; exact⟨by simp,rfl⟩)
theorem Tryz.sizeBuilder:(Tryz.prog.info? 161).map (·.size)=some 2:=by kernel_rfl
theorem Tryz.liesBuilder:liesAt Tryz.prog Tryz.prog.depth 161 (2 / Tryz.prog.cellsOf 161) 0 161 1=true:=by kernel_rfl
theorem Tryz.cellsByte:Tryz.prog.cellsOf 5=1:=by kernel_rfl
set_option maxHeartbeats 1000000 in
set_option maxRecDepth 100000 in
theorem Tryz.chk_used (b : Nat) (w : World) (h0 : w.cell? ⟨b, 0, none⟩ = some (.pointer (some ⟨b, 0, none⟩))) :
  Calls Tryz.prog 149 #[.pointer (some ⟨b,0,none⟩)] w fun e w'=>e = .returned (.tuple #[])∧w'=w:=by
 obtain⟨j,hj,_⟩:=Option.map_eq_some_iff.1 Tryz.sizeBuilder
 go_enter Tryz.func149,Tryz.ntmps149
 go_wp2
 rw [Lib.run_neq_ptr_same w _ Tryz.underlying158 hj]
 go_wp2
 go_end0
 exact⟨rfl,rfl⟩
set_option maxHeartbeats 1000000 in
set_option maxRecDepth 100000 in
theorem Tryz.chk_fresh (b : Nat) (w : World) (h0 : w.cell? ⟨b, 0, none⟩ = some (.pointer none)) (hsh : w.shape? b = some (161, 2)) (hfz : w.frozen? ⟨b, 0, none⟩ = false) :
  Calls Tryz.prog 149 #[.pointer (some ⟨b,0,none⟩)] w fun e w'=>e = .returned (.tuple #[])∧w'=w.setCell ⟨b,0,none⟩ (.pointer (some ⟨b,0,none⟩)):=by
 obtain⟨j,hj,hjs⟩:=Option.map_eq_some_iff.1 Tryz.sizeBuilder
 go_enter Tryz.func149,Tryz.ntmps149
 go_wp2
 rw [Lib.run_to_unsafe w ⟨b,0,none⟩ Tryz.underlying158 Tryz.underlying273 hj (by rw [hjs]; decide) hsh (Nat.zero_lt_succ 1)]
 simp only [Result.andThen]
 rw [Oper.upon_value]
 go_wp2
 rw [run_callFunc_extern Tryz.func209 (by kernel_rfl) (by kernel_rfl) (by kernel_rfl) (e:=Extern.AbiNoEscape.same) (by kernel_rfl)]
 rw [Lib.run_noEscape]
 simp only [Result.andThen]
 rw [Oper.upon_value]
 go_wp2
 rw [Lib.run_from_unsafe w ⟨b,0,none⟩ Tryz.underlying273 Tryz.underlying158 hj hsh Tryz.liesBuilder]
 simp only [Result.andThen]
 rw [Oper.upon_value]
 go_wp2
 go_end0
 exact⟨rfl,rfl⟩
set_option maxHeartbeats 1000000 in
set_option maxRecDepth 100000 in
theorem Tryz.str0 (b g cap : Nat) (p : Value) (cur : Array Value) (l : List UInt8) (w : World) (h0 : l ≠ []) (hb : w.heap[b]? = some (.cells #[p, .slice (some ⟨g, 0, none⟩) l.length cap] 161 (0, 0)))
  (hg:w.heap[g]? = some (.cells cur 5 (0,0))) (hcs:cur.size=cap) (hnc:l.length≤cap) (hl:l.length≤1000000000) (hcell:∀ j x,l[j]? = some x→w.cell? ⟨g,j,none⟩=some (.int .u8 x.toNat)) :
  Calls Tryz.prog 90 #[.pointer (some ⟨b,0,none⟩)] w fun e w'=>e = .returned (.string ⟨l.toArray⟩)∧∃ k,w'=(w.drewN k).freeze ⟨g,0,none⟩ l.length:=by
 have hl0:l.length≠0:=by simpa using h0
 have c1 : w.drew.cell? ⟨b, 1, none⟩ = some (.slice (some ⟨g, 0, none⟩) l.length cap) := by
  have:w.drew.heap[b]? = some (.cells #[p,.slice (some ⟨g,0,none⟩) l.length cap] 161 (0,0)):=hb
  rw [Lib.cell_of_heap this]; rfl
 have hSD : (Builtin.unsafeSliceData_ #[159] 220 #[.slice (some ⟨g, 0, none⟩) l.length cap]).run Tryz.prog w.drew = .ok (.pointer (some ⟨g, 0, none⟩)) w.drew :=
  Lib.run_unsafeSliceData_row _ _ _ _ _ _ (by omega)
 have hUS : (Builtin.unsafeString_ #[220, 3] 9 #[.pointer (some ⟨g, 0, none⟩), .int .i64 l.length]).run Tryz.prog w.drew = .ok (.string ⟨l.toArray⟩) (w.drew.freeze ⟨g, 0, none⟩ l.length) := by
  refine Lib.run_unsafeString_row w.drew 220 3 9 5 Tryz.underlying220 Tryz.cellsByte g cur.size (by have hg':w.drew.heap[g]? = some (.cells cur 5 (0,0)):=hg; simp [World.shape?,hg']) l h0 (by omega) (by omega) ?_
  intro j x hx
  rw [Lib.add_plain,Nat.zero_add]
  exact hcell j x hx
 go_enter Tryz.func90,Tryz.ntmps90
 go_wp2
 go_region
 all_goals (go_wp2; go_ret; exact⟨rfl,1,rfl⟩)
set_option maxHeartbeats 1000000 in
set_option maxRecDepth 100000 in
theorem Tryz.fmtU_small (i : Nat) (hi : i < 100) (w : World) :
  Calls Tryz.prog 151 #[.int .u64 i,.int .i64 10] w fun e w'=>e = .returned (.string ⟨(Lib.decDigits i).toArray⟩)∧w'=w:=by
 have hsm:∀ W,Calls Tryz.prog 211 #[.int .i64 i] W fun e w'=>e = .returned (.string ⟨(Lib.decDigits i).toArray⟩)∧w'=W:=fun W=>Any.internal_strconv_small { Tryz.laysM171 with } i hi W
 go_enter Tryz.func151,Tryz.ntmps151
 go_wp2_with (go_at_call 211; refine(hsm _).mono ?_; rintro e w' ⟨rfl,rfl⟩)
 all_goals (go_ret; exact⟨rfl,rfl⟩)
set_option maxHeartbeats 6400000 in
set_option maxRecDepth 100000 in
theorem Tryz.fmtU_big (u : Nat) (hu : 100 ≤ u) (hu64 : u < 18446744073709551616) (w : World)
  (htab:Lib.TabIs Tryz.prog w nmPow .u64 Lib.pow10Tab) :
  Calls Tryz.prog 151 #[.int .u64 u,.int .i64 10] w fun e w'=>e = .returned (.string ⟨(Lib.decDigits u).toArray⟩)∧∃ k os,w'=grow (w.drewN k) os:=by
 have hu1:1≤u:=by omega
 have hnd20:Lib.nDigits u≤20:=by have:=Lib.numDigits_eq u hu1 hu64; split at this<;>omega
 have hal:Tryz.prog.arrayLen 276=24:=by simp [Program.arrayLen,Tryz.underlying276]
 have hsl : ∀ W, (Instr.sliceAt 276 (.pointer (some ⟨w.heap.size, 0, none⟩)) none (some (.int .i64 (Lib.nDigits u : Int))) none).run Tryz.prog W = .ok (.slice (some ⟨w.heap.size, 0, none⟩) (Lib.nDigits u) 24) W := fun W => by
  rw [run_sliceAt_array_h W 276 ⟨w.heap.size,0,none⟩ (by simp [Program.arrayLen,Program.elem,Tryz.underlying276]) .i64 (Lib.nDigits u:Int) (by omega) (by rw [hal]; omega)]
  go_simp
 have hH0:=Lib.holds_zero0 w 276 (Lib.nDigits u) (by omega)
 have hnum : Calls Tryz.prog 212 #[.int .u64 u] (w.alloc (.cells Lib.zeros24 276)) fun e w' => e = .returned (.int .i64 (Lib.nDigits u)) ∧ w' = w.alloc (.cells Lib.zeros24 276) :=
  Any.internal_strconv_numDigits { Tryz.laysM171 with } u hu1 hu64 _ (Lib.tabIs_alloc htab _)
 have hfmt : Calls Tryz.prog 213 #[.slice (some ⟨w.heap.size, 0, none⟩) (Array.replicate (Lib.nDigits u) (0 : UInt8)).size 24, .int .u64 u] (w.alloc (.cells Lib.zeros24 276)) _ :=
  Any.internal_strconv_formatBase10 { Tryz.laysM171 with } w.heap.size 0 24 u (Array.replicate (Lib.nDigits u) 0) (w.alloc (.cells Lib.zeros24 276)) hH0 (by rw [Array.size_replicate]; exact Lib.lt_pow_nDigits u) hu64 (by rw [Array.size_replicate]; omega)
 rw [Array.size_replicate] at hfmt
 have HH0:=Lib.hid hH0
 have iu:(100:Int)≤(u:Int):=by omega
 clear hH0 hal
 go_enter Tryz.func151,Tryz.ntmps151
 go_wp2_with (go_at_call 212; refine hnum.mono ?_; rintro e w' ⟨rfl,rfl⟩)
 go_at_call 213
 refine hfmt.mono ?_
 rintro e w' ⟨rfl,k,v',dk,rfl,hF⟩
 have hcv : (convert 159 9 (.slice (some ⟨w.heap.size, 0, none⟩) (Lib.nDigits u) 24)).run Tryz.prog ((putRow (fun (b : UInt8) => Value.int .u8 (b.toNat : Int)) (w.alloc (.cells Lib.zeros24 276)) w.heap.size 0 dk).drewN k) = .ok (.string ⟨(Lib.decDigits u).toArray⟩) ((putRow (fun (b : UInt8) => Value.int .u8 (b.toNat : Int)) (w.alloc (.cells Lib.zeros24 276)) w.heap.size 0 dk).drewN k) := by
  have h := run_convert_bytes_back (P := Tryz.prog) ((putRow (fun (b : UInt8) => Value.int .u8 (b.toNat : Int)) (w.alloc (.cells Lib.zeros24 276)) w.heap.size 0 dk).drewN k) 159 9 5 ⟨w.heap.size, 0, none⟩ 24 (Lib.decDigits u) Tryz.underlying159 Tryz.underlying5 Tryz.underlying9 (fun j hj => by
   rw [Lib.row_is_numeral hF j hj,Lib.add_plain,World.cell?_drewN]
   exact cell?_putRow (fun(b:UInt8)=>Value.int .u8 (b.toNat:Int)) _ w.heap.size 0 _ dk HH0.out (by rw [hF.size,Array.size_replicate]) j (by rw [hF.size]; rw [Lib.decDigits_length] at hj; exact hj))
  rw [Lib.decDigits_length] at h
  exact h
 go_wp2
 go_ret
 obtain⟨os,eo⟩:=Lib.fin_at w (.cells Lib.zeros24 276) dk k 0
 exact⟨rfl,k,os,eo⟩
set_option maxHeartbeats 1000000 in
set_option maxRecDepth 100000 in
theorem Tryz.fmtU0 (n : Int) (h0 : 0 ≤ n) (h1 : n ≤ 18446744073709551615) (w : World) (htab : Lib.TabIs Tryz.prog w nmPow .u64 Lib.pow10Tab) :
  Calls Tryz.prog 89 #[.int .u64 n,.int .i64 10] w fun e w'=>e = .returned (.string ⟨(Lib.itoa n).toArray⟩)∧∃ k os,w'=grow (w.drewN k) os:=by
 obtain⟨u,rfl⟩:∃ u:Nat,n=u:=⟨n.toNat,by omega⟩
 have hall : Calls Tryz.prog 151 #[.int .u64 u, .int .i64 10] w fun e w' => e = .returned (.string ⟨(Lib.decDigits u).toArray⟩) ∧ ∃ k os, w' = grow (w.drewN k) os := by
  by_cases hs:u < 100
  ·refine(Tryz.fmtU_small u hs w).mono ?_
   rintro e w' ⟨rfl,rfl⟩
   exact⟨rfl,0,#[],by simp [World.drewN_zero]⟩
  ·exact Tryz.fmtU_big u (by omega) (by omega) w htab
 rw [Lib.itoa_nonneg]
 go_enter Tryz.func89,Tryz.ntmps89
 go_wp2_with (go_at_call 151; refine hall.mono ?_; rintro e w' ⟨rfl,k,os,rfl⟩)
 go_ret
 exact⟨rfl,k,os,rfl⟩
theorem Tryz.itoa0 (n : Int) (h0 : -9223372036854775808 ≤ n) (h1 : n ≤ 9223372036854775807) (w : World) (htab : Lib.TabIs Tryz.prog w nmPow .u64 Lib.pow10Tab) :
  Calls Tryz.prog 88 #[.int .i64 n] w fun e w'=>e = .returned (.string ⟨(Lib.itoa n).toArray⟩)∧∃ k os,w'=grow (w.drewN k) os :=
 Any.strconv_Itoa Tryz.laysM171 n h0 h1 w htab
end Go.Proofs
