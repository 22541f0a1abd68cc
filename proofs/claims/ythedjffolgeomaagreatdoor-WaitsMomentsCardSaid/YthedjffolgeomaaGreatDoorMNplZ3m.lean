/- WaitsMoments: for every history and time the law returns true, and its arguments read afterwards as before; the package's table record.rules (and three of the library's) as the program's text lays them. Conditions: none beyond the given statement's. -/
import Derived.Test.YthedjffolgeomaaGreatDoorCards
import Derived.Test.YthedjffolgeomaaGreatDoorTie
import Derived.WalkKit
import Derived.ProofKit
import Derived.OpenShut
import Derived.Deep.DeepHandedRow
import Derived.Lib.LaidTab
import Derived.Test.YthedjffolgeomaaGreatDoorMNplZ7m
import Derived.Test.YthedjffolgeomaaGreatDoorMNplF9m
import Derived.Test.YthedjffolgeomaaGreatDoorMNplF6m
import Derived.Test.YthedjffolgeomaaGreatDoorMNplF7m
namespace Go.Proofs.YthedjffolgeomaaGreatDoor.moments
open Go Go.ChangeShapes Go.WideShapes Go.ChangeAt Go.RowKit Go.SL
theorem own:ownKnob Tryz.prog.godebug=none:=by kernel_rfl
def yUf : String := ((Rows.waitsMomentsRow.laid.drop 3).headD ("", .nil)).1
theorem yVX:Tryz.prog.globalNamed yUf=some 0:=by kernel_rfl
theorem yHi:(Tryz.prog.globals[0]?).map (·.type)=some 300:=by kernel_rfl
theorem yKx:(Rows.laid_nameplan_record_rules:DataW Unit)=zQI:=rfl
theorem ySb:(Tryz.prog.globals[2]?).map (·.type)=some 312:=by kernel_rfl
theorem xBb:Tryz.prog.underlying 312=some (.array 20 81):=by kernel_rfl
theorem xAd:Tryz.prog.cellsOf 312=20:=by kernel_rfl
theorem yTN:(Rows.laid_internal_strconv_uint64pow10:DataW Unit)=Lib.tabData .u64 Lib.pow10Tab:=rfl
theorem yTY {W : World} (h : laidMetH Tryz.prog Rows.waitsMomentsRow.laid W) : qT zD (rowsOf W) ∧ qC zD (rowsOf W) := by
 have h1:laidMet Tryz.prog Rows.waitsMomentsRow.laid W:=h
 obtain⟨ps,hv,_⟩:=h1
 obtain⟨_,_,_,_,_,_,_,_,_,_,hv,_⟩:=hv
 obtain⟨_,_,_,_,_,_,_,_,_,_,hv,_⟩:=hv
 obtain⟨_,_,_,_,_,_,_,_,_,_,hv,_⟩:=hv
 refine⟨?_,?_⟩
 ·obtain⟨g,t,cs,fuel,p,q,hg,ht,hvar,htr,_,_⟩:=hv
  obtain rfl:=Option.some.inj (yVX.symm.trans hg)
  obtain rfl:=Option.some.inj (yHi.symm.trans ht)
  rw [yKx] at htr
  have hc:=zSn yVb htr
  unfold World.var? at hvar
  rw [hg] at hvar
  simp only [Option.bind_some] at hvar
  split at hvar
  ·rename_i c T fz hh
   cases hvar
   exact⟨cs.size,false,by rw [yYr,zEJ hh,hc]⟩
  ·cases hvar
 ·have h2:laidMet Tryz.prog Rows.waitsMomentsRow.laid W:=h
  obtain⟨ps,hv,_⟩:=h2
  obtain⟨_,_,_,_,_,_,_,_,_,_,hv,_⟩:=hv
  obtain⟨_,_,_,_,_,_,_,_,_,_,hv,_⟩:=hv
  obtain⟨g,t,cs,fuel,p,q,hg,ht,hvar,htr,_,_⟩:=hv
  obtain rfl:=Option.some.inj (yWr.symm.trans hg)
  obtain rfl:=Option.some.inj (ySb.symm.trans ht)
  rw [yTN] at htr
  have hc:=Lib.cells_of_tab xBb tys.hu64 tys.cu64 xAd htr
  unfold World.var? at hvar
  rw [hg] at hvar
  simp only [Option.bind_some] at hvar
  split at hvar
  ·rename_i c T fz hh
   cases hvar
   refine⟨false,?_⟩
   have hsz:cs.size=20:=by rw [← Array.length_toList,hc]; rfl
   rw [yKm,zEJ hh,hc,hsz,yLu]
  ·cases hvar
set_option maxRecDepth 100000 in
theorem ySw (H : Type) (enc : TypeId × Value → H) (W : World) (base : Nat) (args : Array Value) (ds gs : List (DataW H)) (before : List MemPlace)
  (hval:∀ (j:Nat) t v,Tryz.f3.params[j]? = some t→args[j]? = some v→Value.okWide Tryz.prog W .any base t v)
  (hW:DataW.Whole enc Tryz.prog Tryz.f3.params.toList Rows.waitsMomentsSpec.vars false W args.toList ds gs before) (hL:laidMetH Tryz.prog Rows.waitsMomentsRow.laid W) :
  Calls Tryz.prog 3 args W fun e W'=>∃ v,e = .returned v∧Rows.waitsMomentsSpec.post enc Tryz.prog Tryz.f3 false true false false W args v W':=by
 have hW':=hW
 obtain⟨p,q,hA0,hV,hbef,hfz,hnd⟩:=hW
 have hA:DataW.TrodAll enc Tryz.prog W 0 (fun _=>true) true Tryz.f3.params.toList args.toList ds p:=hA0
 have hA1:=hA
 rw [Tryz.params3] at hA hval
 obtain⟨v0,vs0,d0,ds0,p0,q0,hargs,rfl,rfl,h0,r0⟩:=trodAll_cons hA
 obtain⟨v1,vs1,d1,ds1,p1,q1,rfl,rfl,rfl,h1,r1⟩:=trodAll_cons r0
 obtain⟨rfl,rfl,rfl⟩:=trodAll_nil r1
 obtain rfl:args = #[v0,v1]:=by cases args; simp_all
 obtain⟨rfl,rfl⟩:=trodVars_none hV
 rw [List.append_nil] at hbef
 subst hbef
 obtain⟨fs0,hu0,_⟩:=tys.hhist
 obtain⟨cs0,rfl,_⟩:=okWide_struct (t:=29) hu0 (hval 0 29 v0 rfl rfl)
 obtain⟨i1,rfl⟩:=okWide_int tys.hint (hval 1 3 v1 rfl rfl)
 obtain⟨n0,t0⟩:=h0
 obtain⟨hd,hhd,hsum⟩:=yUo tys t0
 have e0:Value.agg (Value.agg cs0).cells.toList.toArray=Value.agg cs0:=by simp [Value.cells]
 rw [e0] at hhd
 have hB:=yTY hL
 have hf:=xBN hB.1 hB.2 hhd hsum i1 W (yHc W)
 rw [yUK] at hf
 have hf' : Calls Tryz.prog 3 #[.agg cs0, .int .i64 i1] W fun e w' => ∃ v H', e = .returned v ∧ Sat w'.heap H' ∧ Kept (rowsOf W) W w' H' ∧ (v = .bool true ∧ (rowsOf W).le H') := by
  exact hf
 refine hf'.mono ?_
 rintro e W' ⟨v,H',rfl,hs,hk,rfl,hl⟩
 have hold:=zPg hk hs hl
 refine⟨_,rfl,[d0,d1],[],_,[],p0 ++ (p1 ++ []),[],hW',?_,?_,rfl,zKg hold hk.os hk.output _,fun h=>by cases h⟩
 ·exact trodAll_cons_mk (shut_bool Tryz.underlying4 _) trodAll_mk0
 ·refine zGh hold (fun t ht=>?_) hA1 (fun p hp=>?_)
  ·rw [Tryz.params3] at ht
   have ht':t=29∨t=3:=by simpa using ht
   rcases ht' with rfl | rfl
   ·exact tys.okHist
   ·exact .int tys.hint
  ·exact decide_eq_true (hW'.lt p hp)
def setCells (c : Array Value) : Obj → Obj
 | .cells _ t frozen=>.cells c t frozen
 | o=>o
noncomputable def zGm (os : Os) : World :=
 { World.holding Tryz.prog os ⟨#[],#[],[]⟩ with heap:=((((World.holding Tryz.prog os ⟨#[],#[],[]⟩).heap.modify 0 (setCells zBT.toArray)).modify 2 (setCells zDi.toArray)).modify 3 (setCells #[.int .u8 0,.int .u8 1,.int .u8 28,.int .u8 2,.int .u8 29,.int .u8 14,.int .u8 24,.int .u8 3,.int .u8 30,.int .u8 22,.int .u8 20,.int .u8 15,.int .u8 25,.int .u8 17,.int .u8 4,.int .u8 8,.int .u8 31,.int .u8 27,.int .u8 13,.int .u8 23,.int .u8 21,.int .u8 19,.int .u8 16,.int .u8 7,.int .u8 26,.int .u8 12,.int .u8 18,.int .u8 6,.int .u8 11,.int .u8 5,.int .u8 10,.int .u8 9])).modify 4 (setCells #[.int .u8 0,.int .u8 1,.int .u8 56,.int .u8 2,.int .u8 57,.int .u8 49,.int .u8 28,.int .u8 3,.int .u8 61,.int .u8 58,.int .u8 42,.int .u8 50,.int .u8 38,.int .u8 29,.int .u8 17,.int .u8 4,.int .u8 62,.int .u8 47,.int .u8 59,.int .u8 36,.int .u8 45,.int .u8 43,.int .u8 51,.int .u8 22,.int .u8 53,.int .u8 39,.int .u8 33,.int .u8 30,.int .u8 24,.int .u8 18,.int .u8 12,.int .u8 5,.int .u8 63,.int .u8 55,.int .u8 48,.int .u8 27,.int .u8 60,.int .u8 41,.int .u8 37,.int .u8 16,.int .u8 46,.int .u8 35,.int .u8 44,.int .u8 21,.int .u8 52,.int .u8 32,.int .u8 23,.int .u8 11,.int .u8 54,.int .u8 26,.int .u8 40,.int .u8 15,.int .u8 34,.int .u8 20,.int .u8 31,.int .u8 10,.int .u8 25,.int .u8 14,.int .u8 19,.int .u8 9,.int .u8 13,.int .u8 8,.int .u8 7,.int .u8 6]) }
def zLP:Array Value:=#[.agg #[.slice none 0 0,.slice none 0 0,.string ⟨#[]⟩,.int .i64 0,.int .i64 0,.slice none 0 0,.slice none 0 0,.int .i64 0,.int .i64 0],.int .i64 0]
theorem ySA (os : Os) : laidMet Tryz.prog Rows.waitsMomentsRow.laid ((zGm os).forCall (fun _ _ => 0) ⟨#[], zLP, []⟩).memory :=
 laidMet_of_run' 8 (by kernel_rfl) (by kernel_rfl)
theorem reads (os : Os) {H : Type} (enc : TypeId × Value → H) : ∃ places, DataW.whole enc Tryz.prog ((zGm os).forCall (fun _ _ => 0) ⟨#[], zLP, []⟩).memory Tryz.f3.params.toList Rows.waitsMomentsSpec.vars false zLP.toList 8 = some ([.agg [.nil, .nil, .agg [.lit (.string []), .lit (.int .i64 0), .lit (.int .i64 0), .nil], .nil, .lit (.int .i64 0), .lit (.int .i64 0)], .lit (.int .i64 0)], [], places) :=
 ⟨[],by kernel_rfl⟩
set_option maxRecDepth 100000 in
theorem lifted (os : Os) (started : os.Started) (H : Type) (enc : TypeId × Value → H) (F : Stop.Interp) :
  ReturnsInHanded {} Tryz.checked os 3 .any ((OpenSpec.ofChange Rows.waitsMomentsSpec).preRow enc Tryz.prog Tryz.f3 Rows.waitsMomentsRow.domain false Rows.waitsMomentsRow.laid) (((OpenSpec.ofChange Rows.waitsMomentsSpec).at F).post enc Tryz.prog Tryz.f3 false true false false):=by
 obtain⟨places,hx⟩:=reads os enc
 refine returnsInHanded_of_row (C := Tryz.checked) (s := OpenSpec.ofChange Rows.waitsMomentsSpec) own started (by kernel_rfl) Tryz.func3
  (witness_row_at (enc := enc) (C := Tryz.checked) false (zGm os) zLP rfl (by kernel_rfl) (by kernel_rfl) (by kernel_rfl)
   (OpenSpec.preRow_of_cond 8 hx (by kernel_rfl) (fun k hk=>by cases hk) (by kernel_rfl) (ySA os))) ?_
 intro W base args ds gs before hval hW _ _ _ hL _ _
 exact ySw H enc W base args ds gs before hval hW hL
theorem said : Rows.WaitsMomentsSaid :=
 OpenClaim.holds_of_cond 3 Tryz.f3 rfl rfl rfl rfl rfl rfl rfl ⟨rfl, rfl, rfl, rfl, rfl⟩ rfl rfl rfl rfl rfl facts.hfn Tryz.func3 facts.joined facts.inst facts.wrapper
  (fun os started H enc _ F=>by rw [OpenClaim.pre_eq_preRow]; exact lifted os started H enc F)
theorem plain (f : FuncId) (fn : Func) (hf : Tryz.pinned.checked.prog.funcNamed Rows.waitsMomentsRow.func = some f) (hfn : Tryz.pinned.checked.prog.funcs[f]? = some fn) :
  false=Tryz.pinned.checked.prog.looks []∧∀ (j:Nat) t,fn.params[j]? = some t→Tryz.pinned.checked.prog.wantsStandIn t=false:=by
 obtain rfl:f=3:=(Option.some.inj (facts.hfn.symm.trans hf)).symm
 obtain rfl:fn=Tryz.f3:=(Option.some.inj (Tryz.func3.symm.trans hfn)).symm
 refine⟨facts.looksT,fun j t ht=>?_⟩
 rw [Tryz.params3] at ht
 have ht':t=29∨t=3:=by simpa using Array.mem_of_getElem? ht
 rcases ht' with rfl | rfl
 ·exact facts.want0
 ·exact facts.want1
theorem card : Rows.WaitsMomentsCardSaid :=
 Claim7.holds_tied_plain_at .later [] _ _ _ _ said (fun _ h=>by cases h) facts.wfText (fun _ h=>by cases h) waitsMoments_row_tie rfl ⟨rfl,rfl⟩ facts.mainT rfl plain facts.goesT
end Go.Proofs.YthedjffolgeomaaGreatDoor.moments
#print axioms Go.Proofs.YthedjffolgeomaaGreatDoor.moments.card
