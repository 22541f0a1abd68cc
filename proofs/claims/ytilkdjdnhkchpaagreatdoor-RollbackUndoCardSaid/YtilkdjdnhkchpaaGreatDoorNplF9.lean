/- RollbackUndo: for every world and stage the law returns true, and its arguments read afterwards as before; the package's table record.rules (and three of the library's) as the program's text lays them. Conditions: none beyond the given statement's. -/
import Derived.Test.YtilkdjdnhkchpaaGreatDoorNplF1
import Derived.Test.YtilkdjdnhkchpaaGreatDoorNplF2
import Derived.Test.YtilkdjdnhkchpaaGreatDoorNplF3
import Derived.Test.YtilkdjdnhkchpaaGreatDoorNplF4
import Derived.Test.YtilkdjdnhkchpaaGreatDoorNplF5
import Derived.Test.YtilkdjdnhkchpaaGreatDoorRows
import Derived.OpenShut
import Derived.ProofKit
import Derived.Test.YtilkdjdnhkchpaaGreatDoorCards
import Derived.Test.YtilkdjdnhkchpaaGreatDoorTie
import Derived.WalkKit
import Derived.Deep.DeepHandedRow
import Derived.Lib.LaidTab
import Derived.Test.YtilkdjdnhkchpaaGreatDoorNplZ2
import Derived.Test.YtilkdjdnhkchpaaGreatDoorNplF6
import Derived.Test.YtilkdjdnhkchpaaGreatDoorNplF7
namespace Go.Proofs.YtilkdjdnhkchpaaGreatDoor.facts
open Go
set_option maxRecDepth 100000
theorem joined : joinedFacts Tryz.prog 3 Tryz.f3 (OpenSpec.ofChange Rows.rollbackUndoSpec).bare Rows.rollbackUndoRow = true := by
  simp only [joinedFacts, Bool.and_eq_true]
  exact ⟨⟨⟨⟨⟨⟨⟨⟨⟨⟨⟨⟨⟨⟨⟨⟨⟨⟨⟨⟨⟨⟨⟨⟨⟨⟨⟨⟨⟨⟨⟨wf, laidOut⟩, mapsRowed⟩, params⟩, namedTie⟩, stops1⟩, stops2⟩, knobs1⟩, knobs2⟩, inPlace⟩, unfollowed⟩, recurses⟩, named⟩, maps⟩, ifaces⟩, mapsOut⟩, loops⟩, wideKeys⟩, vars⟩, results⟩, ifacesOut⟩, loopsOut⟩, plainKeys⟩, shortTexts⟩, stopsHeard⟩, mayEnter⟩, lifted⟩, make⟩, kinds⟩, pinned⟩, veiled⟩, veiledFits⟩
end Go.Proofs.YtilkdjdnhkchpaaGreatDoor.facts

namespace Go.Proofs.YtilkdjdnhkchpaaGreatDoor.undo
open Go Go.ChangeShapes Go.WideShapes Go.ChangeAt Go.RowKit Go.SL

theorem own : ownKnob Tryz.prog.godebug = none := by kernel_rfl
/-- the name of the last listed variable: the table of the package record -/
def nmRules : String := ((Rows.rollbackUndoRow.laid.drop 3).headD ("", .nil)).1
theorem gRules : Tryz.prog.globalNamed nmRules = some 0 := by kernel_rfl
theorem gRulesType : (Tryz.prog.globals[0]?).map (·.type) = some 175 := by kernel_rfl
theorem laidRules : (Rows.laid_nameplan_record_rules : DataW Unit) = rulesD := rfl

/-- what the row's list gives: the table's cells -/
theorem base_of {W : World} (h : laidMetH Tryz.prog Rows.rollbackUndoRow.laid W) : Base theE (rowsOf W) := by
  have h1 : laidMet Tryz.prog Rows.rollbackUndoRow.laid W := h
  obtain ⟨ps, hv, _⟩ := h1
  obtain ⟨_, _, _, _, _, _, _, _, _, _, hv, _⟩ := hv
  obtain ⟨_, _, _, _, _, _, _, _, _, _, hv, _⟩ := hv
  obtain ⟨_, _, _, _, _, _, _, _, _, _, hv, _⟩ := hv
  obtain ⟨g, t, cs, fuel, p, q, hg, ht, hvar, htr, _, _⟩ := hv
  obtain rfl := Option.some.inj (gRules.symm.trans hg)
  obtain rfl := Option.some.inj (gRulesType.symm.trans ht)
  rw [laidRules] at htr
  have hc := rules_cells ruleTy htr
  unfold World.var? at hvar
  rw [hg] at hvar
  simp only [Option.bind_some] at hvar
  split at hvar
  · rename_i c T fz hh
    cases hvar
    exact ⟨cs.size, false, by rw [gl75E, rowsOf_some hh, hc]⟩
  · cases hvar

set_option maxRecDepth 100000 in
/-- what the law's contract gives, for every argument and every memory that holds the tables -/
theorem contract (H : Type) (enc : TypeId × Value → H) (W : World) (base : Nat) (args : Array Value) (ds gs : List (DataW H)) (before : List MemPlace)
    (hval : ∀ (j : Nat) t v, Tryz.f3.params[j]? = some t → args[j]? = some v → Value.okWide Tryz.prog W .any base t v)
    (hW : DataW.Whole enc Tryz.prog Tryz.f3.params.toList Rows.rollbackUndoSpec.vars false W args.toList ds gs before) (hL : laidMetH Tryz.prog Rows.rollbackUndoRow.laid W) :
    Calls Tryz.prog 3 args W fun e W' => ∃ v, e = .returned v ∧ Rows.rollbackUndoSpec.post enc Tryz.prog Tryz.f3 false true false false W args v W' := by
  have hW' := hW
  obtain ⟨p, q, hA0, hV, hbef, hfz, hnd⟩ := hW
  have hA : DataW.TrodAll enc Tryz.prog W 0 (fun _ => true) true Tryz.f3.params.toList args.toList ds p := hA0
  have hA1 := hA
  rw [Tryz.params3] at hA hval
  obtain ⟨v0, vs0, d0, ds0, p0, q0, hargs, rfl, rfl, h0, r0⟩ := trodAll_cons hA
  obtain ⟨v1, vs1, d1, ds1, p1, q1, rfl, rfl, rfl, h1, r1⟩ := trodAll_cons r0
  obtain ⟨rfl, rfl, rfl⟩ := trodAll_nil r1
  obtain rfl : args = #[v0, v1] := by cases args; simp_all
  obtain ⟨rfl, rfl⟩ := trodVars_none hV
  rw [List.append_nil] at hbef
  subst hbef
  obtain ⟨fs0, hu0, _⟩ := tys.hworld
  obtain ⟨fs1, hu1, _⟩ := tys.hstage
  obtain ⟨cs0, rfl, _⟩ := okWide_struct (t := 29) hu0 (hval 0 29 v0 rfl rfl)
  obtain ⟨cs1, rfl, _⟩ := okWide_struct (t := 31) hu1 (hval 1 31 v1 rfl rfl)
  obtain ⟨n0, t0⟩ := h0
  obtain ⟨n1, t1⟩ := h1
  obtain ⟨wd, hwd⟩ := world_of tys t0
  obtain ⟨vp, ps, hvp, hps⟩ := stage_of tys t1
  have e0 : Value.agg (Value.agg cs0).cells.toList.toArray = Value.agg cs0 := by simp [Value.cells]
  have e1 : Value.agg cs1 = Value.agg #[vp] := by
    have : cs1.toList = [vp] := hvp
    rw [show cs1 = #[vp] from by cases cs1; simp_all]
  rw [e0] at hwd
  have hf := lawT (base_of hL) hwd hps W (rowsOf_sat W)
  rw [fn7E] at hf
  have hf' : Calls Tryz.prog 3 #[.agg cs0, .agg cs1] W fun e w' => ∃ v H', e = .returned v ∧ Sat w'.heap H' ∧ Kept (rowsOf W) W w' H' ∧ (v = .bool true ∧ (rowsOf W).le H') := by
    rw [e1]; exact hf
  refine hf'.mono ?_
  rintro e W' ⟨v, H', rfl, hs, hk, rfl, hl⟩
  have hold := same_of_kept hk hs hl
  refine ⟨_, rfl, [d0, d1], [], _, [], p0 ++ (p1 ++ []), [], hW', ?_, ?_, rfl, keptBut_of_old hold hk.os hk.output _, fun h => by cases h⟩
  · exact trodAll_cons_mk (shut_bool Tryz.underlying4 _) trodAll_mk0
  · refine trodAll_again hold (fun t ht => ?_) hA1 (fun p hp => ?_)
    · rw [Tryz.params3] at ht
      have ht' : t = 29 ∨ t = 31 := by simpa using ht
      rcases ht' with rfl | rfl
      · exact tys.okWorld.1
      · exact tys.okWorld.2
    · exact decide_eq_true (hW'.lt p hp)

/-- a row's new cells -/
def setCells (c : Array Value) : Obj → Obj
  | .cells _ t frozen => .cells c t frozen
  | o => o
/-- a memory for the witness: the tables as their initialisers lay them -/
noncomputable def laidWorld (os : Os) : World :=
  { World.holding Tryz.prog os ⟨#[], #[], []⟩ with heap := ((((World.holding Tryz.prog os ⟨#[], #[], []⟩).heap.modify 0 (setCells rulesCells.toArray)).modify 2 (setCells #[.int .u64 1, .int .u64 10, .int .u64 100, .int .u64 1000, .int .u64 10000, .int .u64 100000, .int .u64 1000000, .int .u64 10000000, .int .u64 100000000, .int .u64 1000000000, .int .u64 10000000000, .int .u64 100000000000, .int .u64 1000000000000, .int .u64 10000000000000, .int .u64 100000000000000, .int .u64 1000000000000000, .int .u64 10000000000000000, .int .u64 100000000000000000, .int .u64 1000000000000000000, .int .u64 10000000000000000000])).modify 3 (setCells #[.int .u8 0, .int .u8 1, .int .u8 28, .int .u8 2, .int .u8 29, .int .u8 14, .int .u8 24, .int .u8 3, .int .u8 30, .int .u8 22, .int .u8 20, .int .u8 15, .int .u8 25, .int .u8 17, .int .u8 4, .int .u8 8, .int .u8 31, .int .u8 27, .int .u8 13, .int .u8 23, .int .u8 21, .int .u8 19, .int .u8 16, .int .u8 7, .int .u8 26, .int .u8 12, .int .u8 18, .int .u8 6, .int .u8 11, .int .u8 5, .int .u8 10, .int .u8 9])).modify 4 (setCells #[.int .u8 0, .int .u8 1, .int .u8 56, .int .u8 2, .int .u8 57, .int .u8 49, .int .u8 28, .int .u8 3, .int .u8 61, .int .u8 58, .int .u8 42, .int .u8 50, .int .u8 38, .int .u8 29, .int .u8 17, .int .u8 4, .int .u8 62, .int .u8 47, .int .u8 59, .int .u8 36, .int .u8 45, .int .u8 43, .int .u8 51, .int .u8 22, .int .u8 53, .int .u8 39, .int .u8 33, .int .u8 30, .int .u8 24, .int .u8 18, .int .u8 12, .int .u8 5, .int .u8 63, .int .u8 55, .int .u8 48, .int .u8 27, .int .u8 60, .int .u8 41, .int .u8 37, .int .u8 16, .int .u8 46, .int .u8 35, .int .u8 44, .int .u8 21, .int .u8 52, .int .u8 32, .int .u8 23, .int .u8 11, .int .u8 54, .int .u8 26, .int .u8 40, .int .u8 15, .int .u8 34, .int .u8 20, .int .u8 31, .int .u8 10, .int .u8 25, .int .u8 14, .int .u8 19, .int .u8 9, .int .u8 13, .int .u8 8, .int .u8 7, .int .u8 6]) }
def args0 : Array Value := #[.agg #[.slice none 0 0, .slice none 0 0, .string ⟨#[]⟩, .int .i64 0, .int .i64 0, .slice none 0 0, .slice none 0 0], .agg #[.slice none 0 0]]
theorem laid_met (os : Os) : laidMet Tryz.prog Rows.rollbackUndoRow.laid ((laidWorld os).forCall (fun _ _ => 0) ⟨#[], args0, []⟩).memory :=
  laidMet_of_run' 8 (by kernel_rfl) (by kernel_rfl)
theorem reads (os : Os) {H : Type} (enc : TypeId × Value → H) : ∃ places, DataW.whole enc Tryz.prog ((laidWorld os).forCall (fun _ _ => 0) ⟨#[], args0, []⟩).memory Tryz.f3.params.toList Rows.rollbackUndoSpec.vars false args0.toList 8 = some ([.agg [.nil, .nil, .agg [.lit (.string []), .lit (.int .i64 0), .lit (.int .i64 0), .nil], .nil], .agg [.nil]], [], places) :=
  ⟨[], by kernel_rfl⟩

set_option maxRecDepth 100000 in
/-- the first form's step -/
theorem lifted (os : Os) (started : os.Started) (H : Type) (enc : TypeId × Value → H) (F : Stop.Interp) :
    ReturnsInHanded {} Tryz.checked os 3 .any ((OpenSpec.ofChange Rows.rollbackUndoSpec).preRow enc Tryz.prog Tryz.f3 Rows.rollbackUndoRow.domain false Rows.rollbackUndoRow.laid) (((OpenSpec.ofChange Rows.rollbackUndoSpec).at F).post enc Tryz.prog Tryz.f3 false true false false) := by
  obtain ⟨places, hx⟩ := reads os enc
  refine returnsInHanded_of_row (C := Tryz.checked) (s := OpenSpec.ofChange Rows.rollbackUndoSpec) own started (by kernel_rfl) Tryz.func3
    (witness_row_at (enc := enc) (C := Tryz.checked) false (laidWorld os) args0 rfl (by kernel_rfl) (by kernel_rfl) (by kernel_rfl)
      (OpenSpec.preRow_of_cond 8 hx (by kernel_rfl) (fun k hk => by cases hk) (by kernel_rfl) (laid_met os))) ?_
  intro W base args ds gs before hval hW _ _ _ hL _ _
  exact contract H enc W base args ds gs before hval hW hL

theorem said : Rows.RollbackUndoSaid :=
  OpenClaim.holds_of_cond 3 Tryz.f3 rfl rfl rfl rfl rfl rfl rfl ⟨rfl, rfl, rfl, rfl, rfl⟩ rfl rfl rfl rfl rfl facts.hfn Tryz.func3 facts.joined facts.inst facts.wrapper
    (fun os started H enc _ F => by rw [OpenClaim.pre_eq_preRow]; exact lifted os started H enc F)

/-- no parameter wants a stand-in; the program's own looks are off -/
theorem plain (f : FuncId) (fn : Func) (hf : Tryz.pinned.checked.prog.funcNamed Rows.rollbackUndoRow.func = some f) (hfn : Tryz.pinned.checked.prog.funcs[f]? = some fn) :
    false = Tryz.pinned.checked.prog.looks [] ∧ ∀ (j : Nat) t, fn.params[j]? = some t → Tryz.pinned.checked.prog.wantsStandIn t = false := by
  obtain rfl : f = 3 := (Option.some.inj (facts.hfn.symm.trans hf)).symm
  obtain rfl : fn = Tryz.f3 := (Option.some.inj (Tryz.func3.symm.trans hfn)).symm
  refine ⟨facts.looksT, fun j t ht => ?_⟩
  rw [Tryz.params3] at ht
  have ht' : t = 29 ∨ t = 31 := by simpa using Array.mem_of_getElem? ht
  rcases ht' with rfl | rfl
  · exact facts.want29
  · exact facts.want31

/-- THE CARD -/
theorem card : Rows.RollbackUndoCardSaid :=
  Claim7.holds_tied_plain_at .later [] _ _ _ _ said (fun _ h => by cases h) facts.wfText (fun _ h => by cases h) rollbackUndo_row_tie rfl ⟨rfl, rfl⟩ facts.mainT rfl plain facts.goesT
end Go.Proofs.YtilkdjdnhkchpaaGreatDoor.undo
#print axioms Go.Proofs.YtilkdjdnhkchpaaGreatDoor.undo.card
