/- WaitsAlone: for every history, zone, time and number of ticks later the law returns true, and its arguments read afterwards as before; the package's table record.rules (and three of the library's) as the program's text lays them. Conditions: none beyond the given statement's. -/
import Derived.Test.YthedjffolgeomaaGreatDoorCards
import Derived.Test.YthedjffolgeomaaGreatDoorTie
import Derived.WalkKit
import Derived.ProofKit
import Derived.OpenShut
import Derived.Deep.DeepHandedRow
import Derived.Lib.LaidTab
import Derived.Test.YthedjffolgeomaaGreatDoorANplZ7a
import Derived.Test.YthedjffolgeomaaGreatDoorANplW6
import Derived.Test.YthedjffolgeomaaGreatDoorANplF9a
import Derived.Test.YthedjffolgeomaaGreatDoorANplF6a
import Derived.Test.YthedjffolgeomaaGreatDoorANplF7a
namespace Go.Proofs.YthedjffolgeomaaGreatDoor.alone
open Go Go.ChangeShapes Go.WideShapes Go.ChangeAt Go.RowKit Go.SL
theorem yRP:Tryz.prog.underlying 52=some (.int .u16):=by kernel_rfl
theorem own:ownKnob Tryz.prog.godebug=none:=by kernel_rfl
def yVd : String := ((Rows.waitsAloneRow.laid.drop 3).headD ("", .nil)).1
theorem yVv:Tryz.prog.globalNamed yVd=some 0:=by kernel_rfl
theorem yGR:(Tryz.prog.globals[0]?).map (·.type)=some 300:=by kernel_rfl
theorem yPb:(Rows.laid_nameplan_record_rules:DataW Unit)=zPZ:=rfl
theorem yRv:(Tryz.prog.globals[2]?).map (·.type)=some 312:=by kernel_rfl
theorem xAD:Tryz.prog.underlying 312=some (.array 20 81):=by kernel_rfl
theorem xBX:Tryz.prog.cellsOf 312=20:=by kernel_rfl
theorem yVg:(Rows.laid_internal_strconv_uint64pow10:DataW Unit)=Lib.tabData .u64 Lib.pow10Tab:=rfl
theorem yVb {W : World} (h : laidMetH Tryz.prog Rows.waitsAloneRow.laid W) : qU zD (rowsOf W) ∧ uD zD (rowsOf W) := by
 have h1:laidMet Tryz.prog Rows.waitsAloneRow.laid W:=h
 obtain⟨ps,hv,_⟩:=h1
 obtain⟨_,_,_,_,_,_,_,_,_,_,hv,_⟩:=hv
 obtain⟨_,_,_,_,_,_,_,_,_,_,hv,_⟩:=hv
 obtain⟨_,_,_,_,_,_,_,_,_,_,hv,_⟩:=hv
 refine⟨?_,?_⟩
 ·obtain⟨g,t,cs,fuel,p,q,hg,ht,hvar,htr,_,_⟩:=hv
  obtain rfl:=Option.some.inj (yVv.symm.trans hg)
  obtain rfl:=Option.some.inj (yGR.symm.trans ht)
  rw [yPb] at htr
  have hc:=zSv yWe htr
  unfold World.var? at hvar
  rw [hg] at hvar
  simp only [Option.bind_some] at hvar
  split at hvar
  ·rename_i c T fz hh
   cases hvar
   exact⟨cs.size,false,by rw [yYg,zEA hh,hc]⟩
  ·cases hvar
 ·have h2:laidMet Tryz.prog Rows.waitsAloneRow.laid W:=h
  obtain⟨ps,hv,_⟩:=h2
  obtain⟨_,_,_,_,_,_,_,_,_,_,hv,_⟩:=hv
  obtain⟨_,_,_,_,_,_,_,_,_,_,hv,_⟩:=hv
  obtain⟨g,t,cs,fuel,p,q,hg,ht,hvar,htr,_,_⟩:=hv
  obtain rfl:=Option.some.inj (yVU.symm.trans hg)
  obtain rfl:=Option.some.inj (yRv.symm.trans ht)
  rw [yVg] at htr
  have hc:=Lib.cells_of_tab xAD tys.hu64 tys.cu64 xBX htr
  unfold World.var? at hvar
  rw [hg] at hvar
  simp only [Option.bind_some] at hvar
  split at hvar
  ·rename_i c T fz hh
   cases hvar
   refine⟨false,?_⟩
   have hsz:cs.size=20:=by rw [← Array.length_toList,hc]; rfl
   rw [yKE,zEA hh,hc,hsz,yLt]
  ·cases hvar
set_option maxRecDepth 100000 in
theorem ySL (H : Type) (enc : TypeId × Value → H) (W : World) (base : Nat) (args : Array Value) (ds gs : List (DataW H)) (before : List MemPlace)
  (hval:∀ (j:Nat) t v,Tryz.f4.params[j]? = some t→args[j]? = some v→Value.okWide Tryz.prog W .any base t v)
  (hW:DataW.Whole enc Tryz.prog Tryz.f4.params.toList Rows.waitsAloneSpec.vars false W args.toList ds gs before) (hL:laidMetH Tryz.prog Rows.waitsAloneRow.laid W) :
  Calls Tryz.prog 4 args W fun e W'=>∃ v,e = .returned v∧Rows.waitsAloneSpec.post enc Tryz.prog Tryz.f4 false true false false W args v W':=by
 have hW':=hW
 obtain⟨p,q,hA0,hV,hbef,hfz,hnd⟩:=hW
 have hA:DataW.TrodAll enc Tryz.prog W 0 (fun _=>true) true Tryz.f4.params.toList args.toList ds p:=hA0
 have hA1:=hA
 rw [Tryz.params4] at hA hval
 obtain⟨v0,vs0,d0,ds0,p0,q0,hargs,rfl,rfl,h0,r0⟩:=trodAll_cons hA
 obtain⟨v1,vs1,d1,ds1,p1,q1,rfl,rfl,rfl,h1,r1⟩:=trodAll_cons r0
 obtain⟨v2,vs2,d2,ds2,p2,q2,rfl,rfl,rfl,h2,r2⟩:=trodAll_cons r1
 obtain⟨v3,vs3,d3,ds3,p3,q3,rfl,rfl,rfl,h3,r3⟩:=trodAll_cons r2
 obtain⟨rfl,rfl,rfl⟩:=trodAll_nil r3
 obtain rfl:args = #[v0,v1,v2,v3]:=by cases args; simp_all
 obtain⟨rfl,rfl⟩:=trodVars_none hV
 rw [List.append_nil] at hbef
 subst hbef
 obtain⟨fs0,hu0,_⟩:=tys.hhist
 obtain⟨cs0,rfl,_⟩:=okWide_struct (t:=29) hu0 (hval 0 29 v0 rfl rfl)
 obtain⟨s1,rfl⟩:=okWide_string tys.hstring (hval 1 9 v1 rfl rfl)
 obtain⟨i2,rfl⟩:=okWide_int tys.hint (hval 2 3 v2 rfl rfl)
 obtain⟨i3,rfl⟩:=okWide_int yRP (hval 3 52 v3 rfl rfl)
 obtain⟨n3,t3⟩:=h3
 obtain⟨j3,hc3,hj0,hj1⟩:=yVZ yRP t3
 have hij : i3 = j3 := by
  have:[Value.int .u16 i3] = [Value.int .u16 j3]:=hc3
  cases this; rfl
 subst hij
 obtain⟨n0,t0⟩:=h0
 obtain⟨hd,hhd,hsum⟩:=yUj tys t0
 have e0:Value.agg (Value.agg cs0).cells.toList.toArray=Value.agg cs0:=by simp [Value.cells]
 rw [e0] at hhd
 have hB:=yVb hL
 have hf:=xBV hB.1 hB.2 hhd hsum s1.data.toList i2 i3 hj0 hj1 W (yIh W)
 rw [yUN] at hf
 have es:S s1.data.toList = .string s1:=by rw [S,← yTz]
 have hf' : Calls Tryz.prog 4 #[.agg cs0, .string s1, .int .i64 i2, .int .u16 i3] W fun e w' => ∃ v H', e = .returned v ∧ Sat w'.heap H' ∧ Kept (rowsOf W) W w' H' ∧ (v = .bool true ∧ (rowsOf W).le H') := by
  rw [← es]; exact hf
 refine hf'.mono ?_
 rintro e W' ⟨v,H',rfl,hs,hk,rfl,hl⟩
 have hold:=zRF hk hs hl
 refine⟨_,rfl,[d0,d1,d2,d3],[],_,[],p0 ++ (p1 ++ (p2 ++ (p3 ++ []))),[],hW',?_,?_,rfl,zJM hold hk.os hk.output _,fun h=>by cases h⟩
 ·exact trodAll_cons_mk (shut_bool Tryz.underlying4 _) trodAll_mk0
 ·refine zGc hold (fun t ht=>?_) hA1 (fun p hp=>?_)
  ·rw [Tryz.params4] at ht
   have ht':t=29∨t=9∨t=3∨t=52:=by simpa using ht
   rcases ht' with rfl | rfl | rfl | rfl
   ·exact tys.okHist
   ·exact .str tys.hstring
   ·exact .int tys.hint
   ·exact .int yRP
  ·exact decide_eq_true (hW'.lt p hp)
def setCells (c : Array Value) : Obj → Obj
 | .cells _ t frozen=>.cells c t frozen
 | o=>o
noncomputable def zGQ (os : Os) : World :=
 { World.holding Tryz.prog os ⟨#[],#[],[]⟩ with heap:=((((World.holding Tryz.prog os ⟨#[],#[],[]⟩).heap.modify 0 (setCells zBM.toArray)).modify 2 (setCells zCY.toArray)).modify 3 (setCells #[.int .u8 0,.int .u8 1,.int .u8 28,.int .u8 2,.int .u8 29,.int .u8 14,.int .u8 24,.int .u8 3,.int .u8 30,.int .u8 22,.int .u8 20,.int .u8 15,.int .u8 25,.int .u8 17,.int .u8 4,.int .u8 8,.int .u8 31,.int .u8 27,.int .u8 13,.int .u8 23,.int .u8 21,.int .u8 19,.int .u8 16,.int .u8 7,.int .u8 26,.int .u8 12,.int .u8 18,.int .u8 6,.int .u8 11,.int .u8 5,.int .u8 10,.int .u8 9])).modify 4 (setCells #[.int .u8 0,.int .u8 1,.int .u8 56,.int .u8 2,.int .u8 57,.int .u8 49,.int .u8 28,.int .u8 3,.int .u8 61,.int .u8 58,.int .u8 42,.int .u8 50,.int .u8 38,.int .u8 29,.int .u8 17,.int .u8 4,.int .u8 62,.int .u8 47,.int .u8 59,.int .u8 36,.int .u8 45,.int .u8 43,.int .u8 51,.int .u8 22,.int .u8 53,.int .u8 39,.int .u8 33,.int .u8 30,.int .u8 24,.int .u8 18,.int .u8 12,.int .u8 5,.int .u8 63,.int .u8 55,.int .u8 48,.int .u8 27,.int .u8 60,.int .u8 41,.int .u8 37,.int .u8 16,.int .u8 46,.int .u8 35,.int .u8 44,.int .u8 21,.int .u8 52,.int .u8 32,.int .u8 23,.int .u8 11,.int .u8 54,.int .u8 26,.int .u8 40,.int .u8 15,.int .u8 34,.int .u8 20,.int .u8 31,.int .u8 10,.int .u8 25,.int .u8 14,.int .u8 19,.int .u8 9,.int .u8 13,.int .u8 8,.int .u8 7,.int .u8 6]) }
def zMI:Array Value:=#[.agg #[.slice none 0 0,.slice none 0 0,.string ⟨#[]⟩,.int .i64 0,.int .i64 0,.slice none 0 0,.slice none 0 0,.int .i64 0,.int .i64 0],.string ⟨#[]⟩,.int .i64 0,.int .u16 0]
theorem yRZ (os : Os) : laidMet Tryz.prog Rows.waitsAloneRow.laid ((zGQ os).forCall (fun _ _ => 0) ⟨#[], zMI, []⟩).memory :=
 laidMet_of_run' 8 (by kernel_rfl) (by kernel_rfl)
theorem reads (os : Os) {H : Type} (enc : TypeId × Value → H) : ∃ places, DataW.whole enc Tryz.prog ((zGQ os).forCall (fun _ _ => 0) ⟨#[], zMI, []⟩).memory Tryz.f4.params.toList Rows.waitsAloneSpec.vars false zMI.toList 8 = some ([.agg [.nil, .nil, .agg [.lit (.string []), .lit (.int .i64 0), .lit (.int .i64 0), .nil], .nil, .lit (.int .i64 0), .lit (.int .i64 0)], .lit (.string []), .lit (.int .i64 0), .lit (.int .u16 0)], [], places) :=
 ⟨[],by kernel_rfl⟩
set_option maxRecDepth 100000 in
theorem lifted (os : Os) (started : os.Started) (H : Type) (enc : TypeId × Value → H) (F : Stop.Interp) :
  ReturnsInHanded {} Tryz.checked os 4 .any ((OpenSpec.ofChange Rows.waitsAloneSpec).preRow enc Tryz.prog Tryz.f4 Rows.waitsAloneRow.domain false Rows.waitsAloneRow.laid) (((OpenSpec.ofChange Rows.waitsAloneSpec).at F).post enc Tryz.prog Tryz.f4 false true false false):=by
 obtain⟨places,hx⟩:=reads os enc
 refine returnsInHanded_of_row (C := Tryz.checked) (s := OpenSpec.ofChange Rows.waitsAloneSpec) own started (by kernel_rfl) Tryz.func4
  (witness_row_at (enc := enc) (C := Tryz.checked) false (zGQ os) zMI rfl (by kernel_rfl) (by kernel_rfl) (by kernel_rfl)
   (OpenSpec.preRow_of_cond 8 hx (by kernel_rfl) (fun k hk=>by cases hk) (by kernel_rfl) (yRZ os))) ?_
 intro W base args ds gs before hval hW _ _ _ hL _ _
 exact ySL H enc W base args ds gs before hval hW hL
theorem said : Rows.WaitsAloneSaid :=
 OpenClaim.holds_of_cond 4 Tryz.f4 rfl rfl rfl rfl rfl rfl rfl ⟨rfl, rfl, rfl, rfl, rfl⟩ rfl rfl rfl rfl rfl facts.hfn Tryz.func4 facts.joined facts.inst facts.wrapper
  (fun os started H enc _ F=>by rw [OpenClaim.pre_eq_preRow]; exact lifted os started H enc F)
theorem plain (f : FuncId) (fn : Func) (hf : Tryz.pinned.checked.prog.funcNamed Rows.waitsAloneRow.func = some f) (hfn : Tryz.pinned.checked.prog.funcs[f]? = some fn) :
  false=Tryz.pinned.checked.prog.looks []∧∀ (j:Nat) t,fn.params[j]? = some t→Tryz.pinned.checked.prog.wantsStandIn t=false:=by
 obtain rfl:f=4:=(Option.some.inj (facts.hfn.symm.trans hf)).symm
 obtain rfl:fn=Tryz.f4:=(Option.some.inj (Tryz.func4.symm.trans hfn)).symm
 refine⟨facts.looksT,fun j t ht=>?_⟩
 rw [Tryz.params4] at ht
 have ht':t=29∨t=9∨t=3∨t=52:=by simpa using Array.mem_of_getElem? ht
 rcases ht' with rfl | rfl | rfl | rfl
 ·exact facts.want0
 ·exact facts.want1
 ·exact facts.want2
 ·exact facts.want3
theorem card : Rows.WaitsAloneCardSaid :=
 Claim7.holds_tied_plain_at .later [] _ _ _ _ said (fun _ h=>by cases h) facts.wfText (fun _ h=>by cases h) waitsAlone_row_tie rfl ⟨rfl,rfl⟩ facts.mainT rfl plain facts.goesT
end Go.Proofs.YthedjffolgeomaaGreatDoor.alone
#print axioms Go.Proofs.YthedjffolgeomaaGreatDoor.alone.card
