/- WaitsLongest: for every history, zone and time the law returns true, and its arguments read afterwards as before; the package's table record.rules (and three of the library's) as the program's text lays them. Conditions: none beyond the given statement's. -/
import Derived.Test.YtloknibdaldffaaGreatDoorCards
import Derived.Test.YtloknibdaldffaaGreatDoorTie
import Derived.WalkKit
import Derived.ProofKit
import Derived.OpenShut
import Derived.Deep.DeepHandedRow
import Derived.Lib.LaidTab
import Derived.Test.YtloknibdaldffaaGreatDoorNplZ6
import Derived.Test.YtloknibdaldffaaGreatDoorNplF9
import Derived.Test.YtloknibdaldffaaGreatDoorNplF6
import Derived.Test.YtloknibdaldffaaGreatDoorNplF7
namespace Go.Proofs.YtloknibdaldffaaGreatDoor.longest
open Go Go.ChangeShapes Go.WideShapes Go.ChangeAt Go.RowKit Go.SL
theorem own : ownKnob Tryz.prog.godebug = none := by kernel_rfl
def nmRules : String := ((Rows.waitsLongestRow.laid.drop 3).headD ("", .nil)).1
theorem gRules : Tryz.prog.globalNamed nmRules = some 0 := by kernel_rfl
theorem gRulesType : (Tryz.prog.globals[0]?).map (·.type) = some 250 := by kernel_rfl
theorem laidRules : (Rows.laid_nameplan_record_rules : DataW Unit) = rulesD := rfl
theorem gPowType : (Tryz.prog.globals[2]?).map (·.type) = some 312 := by kernel_rfl
theorem uPow : Tryz.prog.underlying 312 = some (.array 20 75) := by kernel_rfl
theorem cPow : Tryz.prog.cellsOf 312 = 20 := by kernel_rfl
theorem laidPow : (Rows.laid_internal_strconv_uint64pow10 : DataW Unit) = Lib.tabData .u64 Lib.pow10Tab := rfl
theorem base_of {W : World} (h : laidMetH Tryz.prog Rows.waitsLongestRow.laid W) : Base theE (rowsOf W) ∧ Base2 theE (rowsOf W) := by
 have h1 : laidMet Tryz.prog Rows.waitsLongestRow.laid W := h
 obtain ⟨ps,hv,_⟩ := h1
 obtain ⟨_,_,_,_,_,_,_,_,_,_,hv,_⟩ := hv
 obtain ⟨_,_,_,_,_,_,_,_,_,_,hv,_⟩ := hv
 obtain ⟨_,_,_,_,_,_,_,_,_,_,hv,_⟩ := hv
 refine ⟨?_,?_⟩
 ·obtain ⟨g,t,cs,fuel,p,q,hg,ht,hvar,htr,_,_⟩ := hv
  obtain rfl := Option.some.inj (gRules.symm.trans hg)
  obtain rfl := Option.some.inj (gRulesType.symm.trans ht)
  rw [laidRules] at htr
  have hc := rules_cells ruleTy htr
  unfold World.var? at hvar
  rw [hg] at hvar
  simp only [Option.bind_some] at hvar
  split at hvar
  ·rename_i c T fz hh
   cases hvar
   exact ⟨cs.size,false,by rw [gl75E,rowsOf_some hh,hc]⟩
  ·cases hvar
 ·have h2 : laidMet Tryz.prog Rows.waitsLongestRow.laid W := h
  obtain ⟨ps,hv,_⟩ := h2
  obtain ⟨_,_,_,_,_,_,_,_,_,_,hv,_⟩ := hv
  obtain ⟨_,_,_,_,_,_,_,_,_,_,hv,_⟩ := hv
  obtain ⟨g,t,cs,fuel,p,q,hg,ht,hvar,htr,_,_⟩ := hv
  obtain rfl := Option.some.inj (gPow.symm.trans hg)
  obtain rfl := Option.some.inj (gPowType.symm.trans ht)
  rw [laidPow] at htr
  have hc := Lib.cells_of_tab uPow tys.hu64 tys.cu64 cPow htr
  unfold World.var? at hvar
  rw [hg] at hvar
  simp only [Option.bind_some] at hvar
  split at hvar
  ·rename_i c T fz hh
   cases hvar
   refine ⟨false,?_⟩
   have hsz : cs.size = 20 := by rw [← Array.length_toList,hc]; rfl
   rw [gl180E,rowsOf_some hh,hc,hsz,tabPow]
  ·cases hvar
set_option maxRecDepth 100000 in
theorem contract (H : Type) (enc : TypeId × Value → H) (W : World) (base : Nat) (args : Array Value) (ds gs : List (DataW H)) (before : List MemPlace)
  (hval : ∀ (j : Nat) t v,Tryz.f3.params[j]? = some t → args[j]? = some v → Value.okWide Tryz.prog W .any base t v)
  (hW : DataW.Whole enc Tryz.prog Tryz.f3.params.toList Rows.waitsLongestSpec.vars false W args.toList ds gs before) (hL : laidMetH Tryz.prog Rows.waitsLongestRow.laid W) :
  Calls Tryz.prog 3 args W fun e W' => ∃ v,e = .returned v ∧ Rows.waitsLongestSpec.post enc Tryz.prog Tryz.f3 false true false false W args v W' := by
 have hW' := hW
 obtain ⟨p,q,hA0,hV,hbef,hfz,hnd⟩ := hW
 have hA : DataW.TrodAll enc Tryz.prog W 0 (fun _ => true) true Tryz.f3.params.toList args.toList ds p := hA0
 have hA1 := hA
 rw [Tryz.params3] at hA hval
 obtain ⟨v0,vs0,d0,ds0,p0,q0,hargs,rfl,rfl,h0,r0⟩ := trodAll_cons hA
 obtain ⟨v1,vs1,d1,ds1,p1,q1,rfl,rfl,rfl,h1,r1⟩ := trodAll_cons r0
 obtain ⟨v2,vs2,d2,ds2,p2,q2,rfl,rfl,rfl,h2,r2⟩ := trodAll_cons r1
 obtain ⟨rfl,rfl,rfl⟩ := trodAll_nil r2
 obtain rfl : args = #[v0,v1,v2] := by cases args; simp_all
 obtain ⟨rfl,rfl⟩ := trodVars_none hV
 rw [List.append_nil] at hbef
 subst hbef
 obtain ⟨fs0,hu0,_⟩ := tys.hhist
 obtain ⟨cs0,rfl,_⟩ := okWide_struct (t := 29) hu0 (hval 0 29 v0 rfl rfl)
 obtain ⟨s1,rfl⟩ := okWide_string tys.hstring (hval 1 9 v1 rfl rfl)
 obtain ⟨i2,rfl⟩ := okWide_int tys.hint (hval 2 3 v2 rfl rfl)
 obtain ⟨n0,t0⟩ := h0
 obtain ⟨hd,hhd,hsum⟩ := hist_of tys t0
 have e0 : Value.agg (Value.agg cs0).cells.toList.toArray = Value.agg cs0 := by simp [Value.cells]
 rw [e0] at hhd
 have hB := base_of hL
 have hf := lawT hB.1 hB.2 hhd hsum s1.data.toList i2 W (rowsOf_sat W)
 rw [fnLawE] at hf
 have es : S s1.data.toList = .string s1 := by rw [S,← S_eta]
 have hf' : Calls Tryz.prog 3 #[.agg cs0, .string s1, .int .i64 i2] W fun e w' => ∃ v H', e = .returned v ∧ Sat w'.heap H' ∧ Kept (rowsOf W) W w' H' ∧ (v = .bool true ∧ (rowsOf W).le H') := by
  rw [← es]; exact hf
 refine hf'.mono ?_
 rintro e W' ⟨v,H',rfl,hs,hk,rfl,hl⟩
 have hold := same_of_kept hk hs hl
 refine ⟨_,rfl,[d0,d1,d2],[],_,[],p0 ++ (p1 ++ (p2 ++ [])),[],hW',?_,?_,rfl,keptBut_of_old hold hk.os hk.output _,fun h => by cases h⟩
 ·exact trodAll_cons_mk (shut_bool Tryz.underlying4 _) trodAll_mk0
 ·refine trodAll_again hold (fun t ht => ?_) hA1 (fun p hp => ?_)
  ·rw [Tryz.params3] at ht
   have ht' : t = 29 ∨ t = 9 ∨ t = 3 := by simpa using ht
   rcases ht' with rfl | rfl | rfl
   ·exact tys.okHist
   ·exact .str tys.hstring
   ·exact .int tys.hint
  ·exact decide_eq_true (hW'.lt p hp)
def setCells (c : Array Value) : Obj → Obj
 | .cells _ t frozen => .cells c t frozen
 | o => o
noncomputable def laidWorld (os : Os) : World :=
 { World.holding Tryz.prog os ⟨#[],#[],[]⟩ with heap := ((((World.holding Tryz.prog os ⟨#[],#[],[]⟩).heap.modify 0 (setCells rulesCells.toArray)).modify 2 (setCells pow10Cells.toArray)).modify 3 (setCells #[.int .u8 0,.int .u8 1,.int .u8 28,.int .u8 2,.int .u8 29,.int .u8 14,.int .u8 24,.int .u8 3,.int .u8 30,.int .u8 22,.int .u8 20,.int .u8 15,.int .u8 25,.int .u8 17,.int .u8 4,.int .u8 8,.int .u8 31,.int .u8 27,.int .u8 13,.int .u8 23,.int .u8 21,.int .u8 19,.int .u8 16,.int .u8 7,.int .u8 26,.int .u8 12,.int .u8 18,.int .u8 6,.int .u8 11,.int .u8 5,.int .u8 10,.int .u8 9])).modify 4 (setCells #[.int .u8 0,.int .u8 1,.int .u8 56,.int .u8 2,.int .u8 57,.int .u8 49,.int .u8 28,.int .u8 3,.int .u8 61,.int .u8 58,.int .u8 42,.int .u8 50,.int .u8 38,.int .u8 29,.int .u8 17,.int .u8 4,.int .u8 62,.int .u8 47,.int .u8 59,.int .u8 36,.int .u8 45,.int .u8 43,.int .u8 51,.int .u8 22,.int .u8 53,.int .u8 39,.int .u8 33,.int .u8 30,.int .u8 24,.int .u8 18,.int .u8 12,.int .u8 5,.int .u8 63,.int .u8 55,.int .u8 48,.int .u8 27,.int .u8 60,.int .u8 41,.int .u8 37,.int .u8 16,.int .u8 46,.int .u8 35,.int .u8 44,.int .u8 21,.int .u8 52,.int .u8 32,.int .u8 23,.int .u8 11,.int .u8 54,.int .u8 26,.int .u8 40,.int .u8 15,.int .u8 34,.int .u8 20,.int .u8 31,.int .u8 10,.int .u8 25,.int .u8 14,.int .u8 19,.int .u8 9,.int .u8 13,.int .u8 8,.int .u8 7,.int .u8 6]) }
def args0 : Array Value := #[.agg #[.slice none 0 0,.slice none 0 0,.string ⟨#[]⟩,.int .i64 0,.int .i64 0,.slice none 0 0,.slice none 0 0,.int .i64 0,.int .i64 0],.string ⟨#[]⟩,.int .i64 0]
theorem laid_met (os : Os) : laidMet Tryz.prog Rows.waitsLongestRow.laid ((laidWorld os).forCall (fun _ _ => 0) ⟨#[], args0, []⟩).memory :=
 laidMet_of_run' 8 (by kernel_rfl) (by kernel_rfl)
theorem reads (os : Os) {H : Type} (enc : TypeId × Value → H) : ∃ places, DataW.whole enc Tryz.prog ((laidWorld os).forCall (fun _ _ => 0) ⟨#[], args0, []⟩).memory Tryz.f3.params.toList Rows.waitsLongestSpec.vars false args0.toList 8 = some ([.agg [.nil, .nil, .agg [.lit (.string []), .lit (.int .i64 0), .lit (.int .i64 0), .nil], .nil, .lit (.int .i64 0), .lit (.int .i64 0)], .lit (.string []), .lit (.int .i64 0)], [], places) :=
 ⟨[],by kernel_rfl⟩
set_option maxRecDepth 100000 in
theorem lifted (os : Os) (started : os.Started) (H : Type) (enc : TypeId × Value → H) (F : Stop.Interp) :
  ReturnsInHanded {} Tryz.checked os 3 .any ((OpenSpec.ofChange Rows.waitsLongestSpec).preRow enc Tryz.prog Tryz.f3 Rows.waitsLongestRow.domain false Rows.waitsLongestRow.laid) (((OpenSpec.ofChange Rows.waitsLongestSpec).at F).post enc Tryz.prog Tryz.f3 false true false false) := by
 obtain ⟨places,hx⟩ := reads os enc
 refine returnsInHanded_of_row (C := Tryz.checked) (s := OpenSpec.ofChange Rows.waitsLongestSpec) own started (by kernel_rfl) Tryz.func3
  (witness_row_at (enc := enc) (C := Tryz.checked) false (laidWorld os) args0 rfl (by kernel_rfl) (by kernel_rfl) (by kernel_rfl)
   (OpenSpec.preRow_of_cond 8 hx (by kernel_rfl) (fun k hk => by cases hk) (by kernel_rfl) (laid_met os))) ?_
 intro W base args ds gs before hval hW _ _ _ hL _ _
 exact contract H enc W base args ds gs before hval hW hL
theorem said : Rows.WaitsLongestSaid :=
 OpenClaim.holds_of_cond 3 Tryz.f3 rfl rfl rfl rfl rfl rfl rfl ⟨rfl, rfl, rfl, rfl, rfl⟩ rfl rfl rfl rfl rfl facts.hfn Tryz.func3 facts.joined facts.inst facts.wrapper
  (fun os started H enc _ F => by rw [OpenClaim.pre_eq_preRow]; exact lifted os started H enc F)
theorem plain (f : FuncId) (fn : Func) (hf : Tryz.pinned.checked.prog.funcNamed Rows.waitsLongestRow.func = some f) (hfn : Tryz.pinned.checked.prog.funcs[f]? = some fn) :
  false = Tryz.pinned.checked.prog.looks [] ∧ ∀ (j : Nat) t,fn.params[j]? = some t → Tryz.pinned.checked.prog.wantsStandIn t = false := by
 obtain rfl : f = 3 := (Option.some.inj (facts.hfn.symm.trans hf)).symm
 obtain rfl : fn = Tryz.f3 := (Option.some.inj (Tryz.func3.symm.trans hfn)).symm
 refine ⟨facts.looksT,fun j t ht => ?_⟩
 rw [Tryz.params3] at ht
 have ht' : t = 29 ∨ t = 9 ∨ t = 3 := by simpa using Array.mem_of_getElem? ht
 rcases ht' with rfl | rfl | rfl
 ·exact facts.want0
 ·exact facts.want1
 ·exact facts.want2
theorem card : Rows.WaitsLongestCardSaid :=
 Claim7.holds_tied_plain_at .later [] _ _ _ _ said (fun _ h => by cases h) facts.wfText (fun _ h => by cases h) waitsLongest_row_tie rfl ⟨rfl,rfl⟩ facts.mainT rfl plain facts.goesT
end Go.Proofs.YtloknibdaldffaaGreatDoor.longest
#print axioms Go.Proofs.YtloknibdaldffaaGreatDoor.longest.card
