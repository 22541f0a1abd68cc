/- Contracts: sorting one span. -/
import Derived.Test.YtilkdjdnhkchpaaGreatDoorNplO
import Derived.Test.YtilkdjdnhkchpaaGreatDoorNplT28
namespace Go.SL
open Go
variable {E : Env} {H : Hp}

section
variable {fr : Fr} {Q : X → Fr → Hp → Prop} {k : List Item} {d : Option Nat} {r : List AOper} {live : List Nat}
theorem vks_big {op : BOp} (hop : ∀ x, op ≠ .sim x) (hop' : ∀ f a, op ≠ .callp f a) (h : big E op d fr H (fun fr' H' => vks E (.ops r live :: k) fr' H' Q)) : vks E (.ops (⟨d, op, none⟩ :: r) live :: k) fr H Q := by
  simp only [vks, evs, ev1, gok, gcond]
  cases op <;> first | exact absurd rfl (hop _) | exact absurd rfl (hop' _ _) | exact ⟨trivial, fun _ => (by simpa only [vks] using h), fun h => by cases h⟩
end

theorem decF (i : Decidable False) : @decide False i = false := by cases i <;> first | rfl | (rename_i h; exact h.elim)
theorem decT (i : Decidable True) : @decide True i = true := by cases i <;> first | rfl | (rename_i h; exact (h trivial).elim)
theorem c1N : ((1 : Nat) : Int) = 1 := rfl
theorem c0N : ((0 : Nat) : Int) = 0 := rfl
theorem w01 : IntKind.i64.wrap (0 + 1) = 1 := by decide
theorem w10 : IntKind.i64.wrap (1 - 0) = 1 := by decide
theorem wu1 : IntKind.u64.wrap 1 = 1 := by decide
theorem wb1 : IntKind.u8.wrap 1 = 1 := by decide
theorem wi1 : IntKind.i64.wrap 1 = 1 := by decide
theorem q1 : decide ((1 : Int) ≥ 4294967296) = false := by decide
theorem q2 : decide ((1 : Int) ≥ 65536) = false := by decide
theorem q3 : decide ((1 : Int) ≥ 256) = false := by decide
theorem q4 : decide ((1 : Int) < 1) = false := by decide
theorem q5 : decide ((1 : Int) ≤ 12) = true := by decide
set_option maxRecDepth 100000 in
theorem fn118 (h2 : Codes2 E) : FnP E 118 [.int .u64 1] H (.int .i64 1) := by
  refine Fn.of_vks h2.c118 (by simp [c_math_bits_Len64]) ?_
  simp only [c_math_bits_Len64, c_math_bits_Len64_r0, c_math_bits_Len64_r1, c_math_bits_Len64_r2, c_math_bits_Len64_r3, c_math_bits_Len64_r4, c_math_bits_Len64_r5, c_math_bits_Len64_r6, c_math_bits_Len64_r7, c_math_bits_Len64_r8, c_math_bits_Len64_r9, c_math_bits_Len64_r10]
  simp only [↓q1, ↓q2, ↓q3, wb1, go_sem, Nat.reduceEqDiff, Nat.reduceBEq, Nat.reduceAdd, reduceCtorEq, Int.reduceToNat, Int.reduceLE, Int.reduceLT, Int.reduceAdd, binO]
  exact ⟨by decide, by decide⟩
theorem fn85 (h2 : Codes2 E) : FnP E 85 [.int .u64 1] H (.int .i64 1) := by
  refine Fn.of_vks h2.c85 (by simp [c_math_bits_Len]) ?_
  simp only [c_math_bits_Len, c_math_bits_Len_r0, c_math_bits_Len_r1, c_math_bits_Len_r2]
  simp only [go_sem, Nat.reduceBEq, reduceCtorEq]
  refine vks_call ?_ (Fn.same (fn118 h2)) ?_
  · simp only [go_sem, reduceCtorEq]
  rintro u H' ⟨rfl, rfl⟩
  simp only [go_sem, Nat.reduceEqDiff, Nat.reduceBEq, reduceCtorEq]
theorem fn109 (h2 : Codes2 E) (v f : Value) : Fn E.P (E.fn 109) [v, .int .i64 0, .int .i64 1, f] H (fun _ H' => H' = H) := by
  refine Fn.of_vks h2.c109 (by simp [c_slices_insertionSortCmpFunc_api_Span]) ?_
  simp only [c_slices_insertionSortCmpFunc_api_Span, c_slices_insertionSortCmpFunc_api_Span_r0, c_slices_insertionSortCmpFunc_api_Span_r1, c_slices_insertionSortCmpFunc_api_Span_r3, c_slices_insertionSortCmpFunc_api_Span_r4, c_slices_insertionSortCmpFunc_api_Span_r6, c_slices_insertionSortCmpFunc_api_Span_r5, c_slices_insertionSortCmpFunc_api_Span_r2]
  simp only [go_sem, Nat.reduceEqDiff, Nat.reduceBEq, Nat.reduceAdd, reduceCtorEq, Int.reduceAdd, binO]
  refine vks_loopN 0 0 (fun _ => [(0, ⟨true, .val v⟩), (1, ⟨true, .val (.int .i64 0)⟩), (2, ⟨true, .val (.int .i64 1)⟩), (3, ⟨true, .val f⟩), (8, ⟨true, .val (.int .i64 1)⟩)]) (fun _ => True) (Nat.le_refl _) rfl trivial ?_
  intro k hk _
  simp only [↓q4, go_sem, Nat.reduceEqDiff, Nat.reduceBEq, reduceCtorEq, binO]
set_option maxHeartbeats 1000000 in
theorem fn86 (h2 : Codes2 E) (v f : Value) (m : Int) : Fn E.P (E.fn 86) [v, .int .i64 0, .int .i64 1, .int .i64 m, f] H (fun _ H' => H' = H) := by
  refine Fn.of_vks h2.c86 (by simp [c_slices_pdqsortCmpFunc_api_Span]) ?_
  simp only [c_slices_pdqsortCmpFunc_api_Span, c_slices_pdqsortCmpFunc_api_Span_r0, c_slices_pdqsortCmpFunc_api_Span_r1, c_slices_pdqsortCmpFunc_api_Span_r2, c_slices_pdqsortCmpFunc_api_Span_r3, c_slices_pdqsortCmpFunc_api_Span_r4]
  simp only [go_sem, Nat.reduceEqDiff, Nat.reduceBEq, Nat.reduceAdd, reduceCtorEq]
  refine vks_loopN 0 0 (fun _ => [(0, ⟨true, .val v⟩), (1, ⟨true, .val (.int .i64 0)⟩), (2, ⟨true, .val (.int .i64 1)⟩), (3, ⟨true, .val (.int .i64 m)⟩), (4, ⟨true, .val f⟩), (10, ⟨true, .val (.bool true)⟩), (11, ⟨true, .val (.bool true)⟩)]) (fun _ => True) (Nat.le_refl _) rfl trivial ?_
  intro k hk _
  simp only [wi1, decT, go_sem, Nat.reduceEqDiff, Nat.reduceBEq, reduceCtorEq, Int.reduceLE, Int.reduceSub, binO]
  refine vks_call ?_ (fn109 h2 v f) ?_
  · simp only [go_sem, Nat.reduceEqDiff, reduceCtorEq]
  rintro u H' rfl
  simp only [go_sem, Nat.reduceBEq]
theorem fn87 (hE : Codes E) (h2 : Codes2 E) (a : Option Addr) (cap : Nat) (f : Value) : Fn E.P (E.fn 87) [.slice a 1 cap, f] H (fun _ H' => H' = H) := by
  refine Fn.of_vks hE.c87 (by simp [c_slices_SortFunc_Span]) ?_
  simp only [c_slices_SortFunc_Span, c_slices_SortFunc_Span_r0, c_slices_SortFunc_Span_r1]
  simp only [c1N, wu1, go_sem, Nat.reduceEqDiff, Nat.reduceBEq, reduceCtorEq]
  refine vks_callp _ ?_ (fun _ => ⟨?_, fn85 h2⟩) ?_ <;> simp only [go_sem, Nat.reduceEqDiff, Nat.reduceBEq, reduceCtorEq]
  refine vks_call ?_ (fn86 h2 _ f 1) ?_
  · simp only [go_sem, Nat.reduceEqDiff, reduceCtorEq]
  rintro u H' rfl
  simp only [go_sem, Nat.reduceBEq]
theorem PutsAt.nil0 {H : Hp} : PutsAt H (.slice none 0 0) [] := ⟨fun _ => undef, SlAt.nil, fun i hi => by simp at hi⟩
theorem HostsAt.sl {v : Value} {hs : List HostD} (h : HostsAt H v hs) : ∃ a c, v = .slice a hs.length c := by obtain ⟨a, c, h, _⟩ := h; exact ⟨a, c, h⟩
end Go.SL

/- Contracts: steps are valid; what Apply and Back do with a history of one copy. -/
namespace Go.SL
open Go
variable {E : Env} {H : Hp}

def lastAt (l : List StepD) : Nat → Int
  | 0 => -1
  | k + 1 => (l.getD k default).at_
def stepOk (e nh : Int) (l : List StepD) (i : Nat) : Bool := !(decide ((l.getD i default).at_ ≤ lastAt l i) || decide ((l.getD i default).at_ ≥ e) || !stageOKB (l.getD i default).puts nh)
def stepsOKB (e nh : Int) (l : List StepD) : Bool := decide (l.length ≤ 400) && allN (stepOk e nh l) l.length
set_option maxHeartbeats 1000000 in
theorem fn49 (hE : Codes E) (hB : Base E H) {v vl : Value} {h : HistD} {l : List StepD} (hh : HistAt H v h) (hl : StepsAt H vl l) : FnP E 49 [v, vl] H (.bool (stepsOKB h.end_ h.hosts.length l)) := by
  obtain ⟨vh, vc, vd, vi, rfl, g1, g2, g3, g4⟩ := hh
  have hh1 := SlAt.one g1
  have hc1 := CopiesAt.one g2
  have hd1 := SlAt.one g3
  have hi1 := SlAt.one g4
  have hvh := HostsAt.sl g1
  obtain ⟨ah, ch, rfl⟩ := hvh
  obtain ⟨z, ⟨a, cap, rfl, hsp, hr⟩, hdeep⟩ := hl
  refine Fn.of_vks hE.c49 (by simp [c_steps_stepsOK]) ?_
  simp only [c_steps_stepsOK, c_steps_stepsOK_r0, c_steps_stepsOK_r1, c_steps_stepsOK_r2, c_steps_stepsOK_r3, c_steps_stepsOK_r4, c_steps_stepsOK_r5, c_steps_stepsOK_r6, c_steps_stepsOK_r7, c_steps_stepsOK_r8, c_steps_stepsOK_r9, c_steps_stepsOK_r10, c_steps_stepsOK_r11]
  simp only [go_sem, Nat.reduceEqDiff, Nat.reduceBEq, reduceCtorEq, binO]
  have hc : decide ((l.length : Int) > 400) = !decide (l.length ≤ 400) := by rw [Bool.eq_iff_iff, Bool.not_eq_true', decide_eq_true_eq, decide_eq_false_iff_not]; omega
  rw [hc]
  refine ⟨fun hq => ?_, fun hq => ?_⟩
  · rw [Bool.not_eq_true'] at hq; simp only [stepsOKB, hq, Bool.false_and]
  have hn : l.length ≤ 400 := by simpa using hq
  have ho : ∀ e nh, stepsOKB e nh l = allN (stepOk e nh l) l.length := by intro e nh; simp only [stepsOKB, hn, decide_true, Bool.true_and]
  rw [ho]
  refine vks_loopN l.length 0 (fun k => [(2, ⟨true, .box [.slice ah h.hosts.length ch, vc, S h.aname, .int .i64 h.atype, .int .i64 h.alife, vd, vi, .int .i64 h.drift, .int .i64 h.end_]⟩), (5, ⟨true, .val (.int .i64 (lastAt l k))⟩), (11, ⟨true, .val (.slice a l.length cap)⟩), (12, ⟨true, .val (.int .i64 l.length)⟩), (13, ⟨true, .val (.int .i64 k)⟩)]) (fun k => allN (stepOk h.end_ h.hosts.length l) k = true) (Nat.zero_le _) rfl rfl ?_
  intro k hk hP
  by_cases hlt : k < l.length
  · have hd : decide ((k : Int) < (l.length : Int)) = true := by simpa using hlt
    have hF := fun hx => (allN_false (P := stepOk h.end_ h.hosts.length l) hlt hx).symm
    have hS := fun hx => allN_succ hP hx
    have hr' := hr (by omega)
    obtain ⟨b, o, vs, c, wr, ha, hb, hi⟩ := hr'
    subst ha
    have hi1' := (hi k hlt).1
    have hi2 := (hi k hlt).2
    have hzk := hdeep k hlt
    have hz1 : one1 (z k) = true := PutsAt.one hzk
    have hok : ∀ e nh, stepOk e nh l k = !(decide ((l.getD k default).at_ ≤ lastAt l k) || decide ((l.getD k default).at_ ≥ e) || !stageOKB (l.getD k default).puts nh) := fun _ _ => rfl
    have hla : lastAt l (k + 1) = (l.getD k default).at_ := rfl
    obtain ⟨x, hx⟩ : ∃ y, l.getD k default = y := ⟨_, rfl⟩
    rw [hx] at hzk hok hla
    simp only [hd, hb, hi2, rStep, hx, hz1, go_sem, Nat.reduceLeDiff, Nat.reduceEqDiff, Nat.reduceBEq, Nat.reduceAdd, binO]
    refine ⟨⟨by omega, by omega⟩, hi1', fun h => ⟨h, h⟩, ?_⟩
    refine vks_callp _ ?_ (fun hg => ⟨?_, fn15 hE hB (h.hosts.length : Int) hzk⟩) ?_ <;> simp only [go_sem, Nat.reduceLeDiff, Nat.reduceEqDiff, Nat.reduceBEq, Nat.reduceAdd, binO]
    · simp only [go_sem, Nat.reduceEqDiff] at hg ⊢; exact ⟨hg, hg⟩
    refine ⟨fun h1 => hF (by rw [hok, h1]; rfl), fun h1 => ⟨hlt, ⟨hla.symm, wrapS (by omega)⟩, hS (by rw [hok, h1]; rfl)⟩⟩
  · have hd : decide ((k : Int) < (l.length : Int)) = false := by simpa using hlt
    have : k = l.length := by omega
    subst this
    simp only [hd, go_sem, Nat.reduceEqDiff, Nat.reduceBEq, Nat.reduceAdd, binO]
    exact hP.symm
theorem fn28 (hE : Codes E) (hB : Base E H) {v vl : Value} {h : HistD} {l : List StepD} {q : Bool} (hh : HistAt H v h) (hl : StepsAt H vl l) (h48 : FnP E 48 [v] H (.bool q)) :
    FnP E 28 [v, vl] H (.bool (q && stepsOKB h.end_ h.hosts.length l)) := by
  have hf := fn49 hE hB hh hl
  obtain ⟨vh, vc, vd, vi, rfl, g1, g2, g3, g4⟩ := hh
  have hh1 := SlAt.one g1
  have hc1 := CopiesAt.one g2
  have hd1 := SlAt.one g3
  have hi1 := SlAt.one g4
  refine Fn.of_vks hE.c28 (by simp [c_steps_Valid]) ?_
  simp only [c_steps_Valid, c_steps_Valid_r0, c_steps_Valid_r1]
  simp only [go_sem, Nat.reduceEqDiff, Nat.reduceBEq, Nat.reduceAdd, reduceCtorEq]
  refine vks_callp _ ?_ (fun _ => ⟨?_, h48⟩) ?_ <;> simp only [go_sem, Nat.reduceEqDiff, Nat.reduceBEq, Nat.reduceAdd]
  refine vks_callp _ ?_ (fun hg => ⟨?_, hf⟩) ?_ <;> simp only [go_sem, Nat.reduceEqDiff, Nat.reduceBEq]
  · simp only [go_sem, Nat.reduceEqDiff] at hg ⊢; exact ⟨hg, hg⟩
end Go.SL
