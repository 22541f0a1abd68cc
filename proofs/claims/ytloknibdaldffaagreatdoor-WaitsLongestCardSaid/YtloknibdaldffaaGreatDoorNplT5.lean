/- Contracts of package zone, first part. -/
import Derived.Test.YtloknibdaldffaaGreatDoorNplQ
import Derived.Test.YtloknibdaldffaaGreatDoorNplT2
import Derived.Test.YtloknibdaldffaaGreatDoorNplT6
namespace Go.SL
open Go
variable {E : Env} {H : Hp}
def ordOk (apex : Bs) (ss : List SignedD) (i : Nat) : Bool := recValid (sAt ss i).name (sAt ss i).type (sAt ss i).life (sAt ss i).data && underB (sAt ss i).name apex &&
 (i == 0 || !decide (cmpPl (sAt ss (i - 1)).name (sAt ss (i - 1)).type (sAt ss i).name (sAt ss i).type ≥ 0))
set_option maxHeartbeats 1000000 in
theorem fn57 (hE : Codes E) (hB : Base E H) (apex : Bs) {v : Value} {ss : List SignedD} (hss : SetsAt H v ss) : FnP E 57 [.agg #[S apex, v]] H (.bool (orderedB apex ss)) := by
 obtain ⟨d,g,⟨a,cap,rfl,hs,hr⟩,hdeep⟩ := hss
 refine Fn.of_vks hE.c57 (by simp [cf57]) ?_
 simp only [cf57,cf57_0,cf57_1,cf57_2,cf57_3,cf57_4,cf57_5,cf57_6,cf57_7,cf57_8,cf57_9,cf57_10,cf57_11,cf57_12,cf57_13,cf57_14,cf57_15,cf57_16]
 simp only [go_sem,Nat.reduceLeDiff,Nat.reduceEqDiff,Nat.reduceBEq,Nat.reduceAdd,reduceCtorEq]
 refine vks_callp _ ?_ (fun _ => ⟨?_,fn45 hE apex⟩) ?_ <;> simp only [go_sem,Nat.reduceLeDiff,Nat.reduceEqDiff,Nat.reduceBEq,Nat.reduceAdd]
 refine vks_callp _ ?_ (fun hg => ⟨?_,fn44 hE apex [42]⟩) ?_ <;> simp only [go_sem,Nat.reduceEqDiff,Nat.reduceBEq,Nat.reduceAdd,binO]
 ·simp only [go_sem,Nat.reduceEqDiff] at hg ⊢; exact hg
 have ho : orderedB apex ss = (!(!nameValid apex || hasPre apex [42] || decide (ss.length > 20000)) && allN (ordOk apex ss) ss.length) := rfl
 have hc : decide ((ss.length : Int) > 20000) = decide (ss.length > 20000) := by rw [Bool.eq_iff_iff]; simp; omega
 rw [hc]
 refine ⟨fun h => ?_,fun h => ?_⟩
 ·rw [ho,h]; rfl
 have hn : ss.length ≤ 20000 := by
  simp only [Bool.or_eq_false_iff,decide_eq_false_iff_not] at h; omega
 rw [ho,h,Bool.not_false,Bool.true_and]
 refine vks_loopN ss.length 0 (fun k => [(1,⟨true,.box [S apex,.slice a ss.length cap]⟩),(28,⟨true,.val (.slice a ss.length cap)⟩),(29,⟨true,.val (.int .i64 ss.length)⟩),(30,⟨true,.val (.int .i64 k)⟩)]) (fun k => allN (ordOk apex ss) k = true) (Nat.zero_le _) rfl rfl ?_
 intro k hk hP
 by_cases hlt : k < ss.length
 ·have hd : decide ((k : Int) < (ss.length : Int)) = true := by simpa using hlt
  have hF : ordOk apex ss k = false → false = allN (ordOk apex ss) ss.length := fun h => (allN_false hlt h).symm
  have hS : ordOk apex ss k = true → k < ss.length ∧ IntKind.i64.wrap ((k : Int) + 1) = ((k + 1 : Nat) : Int) ∧ allN (ordOk apex ss) (k + 1) = true := fun h => ⟨hlt,wrapS (by omega),allN_succ hP h⟩
  have hr' := hr (by omega)
  obtain ⟨b,o,vs,c,wr,ha,hb,hi⟩ := hr'
  subst ha
  have hi1 := (hi k hlt).1
  have hi2 := (hi k hlt).2
  have hdk := (hdeep k hlt).1
  have hd1 := SlAt.one hdk
  have hg1 := SlAt.one (hdeep k hlt).2
  simp only [hd,hb,hi2,rSigned,hd1,hg1,go_sem,Nat.reduceLeDiff,Nat.reduceEqDiff,Nat.reduceBEq,Nat.reduceAdd,binO]
  refine ⟨⟨by omega,by omega⟩,hi1,?_⟩
  refine vks_callp _ ?_ (fun _ => ⟨?_,fn54 hE hB (ss.getD k default).name (ss.getD k default).type (ss.getD k default).life hdk⟩) ?_ <;> simp only [go_sem,Nat.reduceLeDiff,Nat.reduceEqDiff,Nat.reduceBEq,Nat.reduceAdd]
  refine ⟨fun h1 => hF ?_,fun h1 => ?_⟩
  ·have h1' : recValid (sAt ss k).name (sAt ss k).type (sAt ss k).life (sAt ss k).data = false := h1
   simp only [ordOk,h1',Bool.false_and]
  have h1' : recValid (sAt ss k).name (sAt ss k).type (sAt ss k).life (sAt ss k).data = true := h1
  refine vks_callp _ ?_ (fun _ => ⟨?_,fn80 hE (ss.getD k default).name apex⟩) ?_ <;> simp only [go_sem,Nat.reduceLT,Nat.reduceEqDiff,Nat.reduceBEq,Nat.reduceAdd,binO]
  refine ⟨fun h2 => hF ?_,fun h2 => ?_⟩
  ·have h2' : underB (sAt ss k).name apex = false := h2
   simp only [ordOk,h2',Bool.and_false,Bool.false_and]
  have h2' : underB (sAt ss k).name apex = true := h2
  have ho1 : ordOk apex ss k = (k == 0 || !decide (cmpPl (sAt ss (k - 1)).name (sAt ss (k - 1)).type (sAt ss k).name (sAt ss k).type ≥ 0)) := by simp only [ordOk,h1',h2',Bool.true_and]
  by_cases hk0 : k = 0
  ·have e0 : ((k : Int) == 0) = true := by simp; omega
   simp only [e0,go_sem]
   refine hS ?_
   rw [ho1,hk0]; rfl
  ·have e0 : ((k : Int) == 0) = false := by simp; omega
   have e1 : IntKind.i64.wrap ((k : Int) - 1) = ((k - 1 : Nat) : Int) := by rw [wrapI] <;> omega
   have hj1 := (hi (k - 1) (by omega)).1
   have hjd := SlAt.one (hdeep (k - 1) (by omega)).1
   have hj2 := take_of_take (hi (k - 1) (by omega)).2 0 4 (by omega)
   simp only [Nat.add_zero] at hj2
   simp only [e0,e1,hb,hj2,rSigned,hjd,go_sem,Nat.reduceLeDiff,Nat.reduceEqDiff,Nat.reduceBEq,Nat.reduceAdd]
   refine ⟨⟨by omega,by omega⟩,by omega,?_⟩
   refine vks_callp _ ?_ (fun _ => ⟨?_,fn81 hE (ss.getD (k - 1) default).name (ss.getD (k - 1) default).type (ss.getD k default).name (ss.getD k default).type⟩) ?_ <;> simp only [go_sem,Nat.reduceEqDiff,Nat.reduceBEq,binO]
   have hkb : (k == 0) = false := by simpa using hk0
   rw [hkb,Bool.false_or] at ho1
   refine ⟨fun h3 => hF ?_,fun h3 => hS ?_⟩
   ·rw [ho1]; exact congrArg not h3
   ·rw [ho1]; exact congrArg not h3
 ·have hd : decide ((k : Int) < (ss.length : Int)) = false := by simpa using hlt
  have : k = ss.length := by omega
  simp only [hd,go_sem,Nat.reduceEqDiff,Nat.reduceBEq,Nat.reduceAdd,binO]
  rw [← this]; exact hP.symm
end Go.SL
/- Contracts of package zone, second part. -/
namespace Go.SL
open Go
variable {E : Env} {H : Hp}
def apexOk (apex : Bs) (ss : List SignedD) (i : Nat) : Bool := fitsApexB (sAt ss i).type ((sAt ss i).name == apex)
set_option maxHeartbeats 1000000 in
theorem fn58 (hE : Codes E) (apex : Bs) {v : Value} {ss : List SignedD} (hss : SetsAt H v ss) (hn : ss.length ≤ 1099511627776) : FnP E 58 [.agg #[S apex, v]] H (.bool (apexHoldsB apex ss)) := by
 have hss0 := hss
 obtain ⟨d,g,⟨a,cap,rfl,hs,hr⟩,hdeep⟩ := hss
 refine Fn.of_vks hE.c58 (by simp [cf58]) ?_
 simp only [cf58,cf58_0,cf58_1,cf58_2,cf58_3,cf58_4,cf58_5,cf58_6,cf58_7,cf58_8,cf58_9,cf58_10,cf58_11,cf58_12,cf58_13,cf58_14]
 simp only [go_sem,Nat.reduceLeDiff,Nat.reduceEqDiff,Nat.reduceBEq,Nat.reduceAdd,reduceCtorEq]
 intro b9 hb9
 have hle : H.le (H.put b9 (.row [.int .i64 4,.int .i64 2] 2 true)) := le_put hb9 _
 have hss1 := SetsAt.mono hss0 hle
 have hk9 : (H.put b9 (.row [.int .i64 4,.int .i64 2] 2 true)) b9 = some (.row [.int .i64 4,.int .i64 2] 2 true) := Hp.put_same ..
 have hdeep1 : ∀ i,i < ss.length → one1 (d i) = true ∧ one1 (g i) = true := fun i hi => ⟨SlAt.one (hdeep i hi).1,SlAt.one (hdeep i hi).2⟩
 have ho : apexHoldsB apex ss = (findB ss apex 4 && findB ss apex 2 && allN (apexOk apex ss) ss.length) := rfl
 refine vks_loopN 2 0 (fun k => [(1,⟨true,.box [S apex,.slice a ss.length cap]⟩),(9,⟨true,.val (.slice (some ⟨b9,0,none⟩) 2 2)⟩),(10,⟨true,.val (.int .i64 2)⟩),(11,⟨true,.val (.int .i64 k)⟩)]) (fun k => (0 < k → findB ss apex 4 = true) ∧ (1 < k → findB ss apex 2 = true)) (Nat.zero_le _) rfl ⟨fun h => absurd h (by omega),fun h => absurd h (by omega)⟩ ?_
 intro k hk hP
 have hk' : k = 0 ∨ k = 1 ∨ k = 2 := by omega
 rcases hk' with rfl | rfl | rfl
 ·have e0 : decide (((0 : Nat) : Int) < 2) = true := by decide
  have e2 : (((0 : Nat) : Int)).toNat = 0 := rfl
  have e3 : IntKind.i64.wrap (((0 : Nat) : Int) + 1) = ((0 + 1 : Nat) : Int) := wrapS (by omega)
  simp only [e0,e2,hk9,go_sem,Nat.reduceLeDiff,Nat.reduceEqDiff,Nat.reduceBEq,Nat.reduceAdd,binO]
  refine ⟨by omega,?_⟩
  refine vks_callp _ ?_ (fun _ => ⟨?_,fn82 hE apex 4 apex hss1 hn⟩) ?_ <;> simp only [e3,go_sem,Nat.reduceLT,Nat.reduceEqDiff,Nat.reduceBEq,Nat.reduceAdd,binO]
  intro h
  refine ⟨?_,hle⟩
  rw [ho,h]; rfl
 ·have e0 : decide (((1 : Nat) : Int) < 2) = true := by decide
  have e2 : (((1 : Nat) : Int)).toNat = 1 := rfl
  have e3 : IntKind.i64.wrap (((1 : Nat) : Int) + 1) = ((1 + 1 : Nat) : Int) := wrapS (by omega)
  simp only [e0,e2,hk9,go_sem,Nat.reduceLeDiff,Nat.reduceEqDiff,Nat.reduceBEq,Nat.reduceAdd,Nat.reduceMul,binO]
  refine ⟨by omega,?_⟩
  refine vks_callp _ ?_ (fun _ => ⟨?_,fn82 hE apex 2 apex hss1 hn⟩) ?_ <;> simp only [e3,go_sem,Nat.reduceLT,Nat.reduceEqDiff,Nat.reduceBEq,Nat.reduceAdd,binO]
  refine ⟨fun h => ⟨?_,hle⟩,fun h => ?_⟩
  ·rw [ho,h,Bool.and_false,Bool.false_and]
  ·first | exact ⟨hP.1 (by omega),h⟩ | exact hP.1 (by omega)
 ·have e0 : decide (((2 : Nat) : Int) < 2) = false := by decide
  simp only [e0,go_sem,Nat.reduceLeDiff,Nat.reduceEqDiff,Nat.reduceBEq,Nat.reduceAdd,Nat.reduceMul,binO]
  rw [ho,hP.1 (by omega),hP.2 (by omega),Bool.true_and,Bool.true_and]
  refine vks_loopN ss.length 0 (fun k => [(1,⟨true,.box [S apex,.slice a ss.length cap]⟩),(30,⟨true,.val (.slice a ss.length cap)⟩),(31,⟨true,.val (.int .i64 ss.length)⟩),(32,⟨true,.val (.int .i64 k)⟩)]) (fun k => allN (apexOk apex ss) k = true) (Nat.zero_le _) rfl rfl ?_
  intro k hk hP
  by_cases hlt : k < ss.length
  ·have hd : decide ((k : Int) < (ss.length : Int)) = true := by simpa using hlt
   have hF : apexOk apex ss k = false → false = allN (apexOk apex ss) ss.length := fun h => (allN_false hlt h).symm
   have hS : apexOk apex ss k = true → k < ss.length ∧ IntKind.i64.wrap ((k : Int) + 1) = ((k + 1 : Nat) : Int) ∧ allN (apexOk apex ss) (k + 1) = true := fun h => ⟨hlt,wrapS (by omega),allN_succ hP h⟩
   have hr' := hr (by omega)
   obtain ⟨b,o,vs,c,wr,ha,hb,hi⟩ := hr'
   subst ha
   have hb1 := hle _ _ hb
   have hi1 := (hi k hlt).1
   have hi2 := (hi k hlt).2
   have hd1 := (hdeep1 k hlt).1
   have hg1 := (hdeep1 k hlt).2
   simp only [hd,hb1,hi2,rSigned,hd1,hg1,go_sem,Nat.reduceLeDiff,Nat.reduceEqDiff,Nat.reduceBEq,Nat.reduceAdd,binO]
   refine ⟨⟨by omega,by omega⟩,hi1,?_⟩
   refine vks_callp _ ?_ (fun _ => ⟨?_,fn83 hE (ss.getD k default).type ((ss.getD k default).name == apex)⟩) ?_ <;> simp only [go_sem,Nat.reduceEqDiff,Nat.reduceBEq,binO]
   exact ⟨fun h => ⟨hF h,hle⟩,fun h => hS h⟩
  ·have hd : decide ((k : Int) < (ss.length : Int)) = false := by simpa using hlt
   have : k = ss.length := by omega
   simp only [hd,go_sem,Nat.reduceEqDiff,Nat.reduceBEq,Nat.reduceAdd,binO]
   rw [← this]; exact ⟨hP.symm,hle⟩
def BehAt (H : Hp) (v : Value) (n : Nat) (f : Nat → Bs) : Prop := SlAt H 1 v n (fun i => [S (f i)])
def aliasOk (ss : List SignedD) (i : Nat) : Bool := (sAt ss i).type != 3 || (!(decide (0 < i) && (sAt ss (i - 1)).name == (sAt ss i).name) && !(decide (i + 1 < ss.length) && (sAt ss (i + 1)).name == (sAt ss i).name && (sAt ss (i + 1)).type != 8))
end Go.SL
/- Contracts of package zone: what holds of a layout. -/
namespace Go.SL
open Go
variable {E : Env} {H : Hp}
set_option maxHeartbeats 1000000 in
set_option maxRecDepth 100000 in
theorem fn63 (hE : Codes E) (apex : Bs) {v w : Value} {ss : List SignedD} (hss : SetsAt H v ss) (hw : BehAt H w ss.length (behind apex ss)) (hn : ss.length ≤ 1099511627775) : FnP E 63 [.agg #[S apex, v, w]] H (.bool (formB apex ss)) := by
 obtain ⟨d,g,⟨a,cap,rfl,hs,hr⟩,hdeep⟩ := hss
 obtain ⟨aw,capw,rfl,hsw,hrw⟩ := hw
 have ho : formB apex ss = allN (fun i => inFormB apex (sAt ss i).sigs) ss.length := rfl
 refine Fn.of_vks hE.c63 (by simp [cf63]) ?_
 simp only [cf63,cf63_0,cf63_1,cf63_2,cf63_3,cf63_4,cf63_5,cf63_6,cf63_7]
 rw [ho]
 simp only [go_sem,Nat.reduceLeDiff,Nat.reduceEqDiff,Nat.reduceBEq,Nat.reduceAdd,reduceCtorEq]
 refine vks_loopN ss.length 0 (fun k => [(1,⟨true,.box [S apex,.slice a ss.length cap,.slice aw ss.length capw]⟩),(8,⟨true,.val (.slice a ss.length cap)⟩),(9,⟨true,.val (.int .i64 ss.length)⟩),(10,⟨true,.val (.int .i64 k)⟩)]) (fun k => allN (fun i => inFormB apex (sAt ss i).sigs) k = true) (Nat.zero_le _) rfl rfl ?_
 intro k hk hP
 by_cases hlt : k < ss.length
 ·have hd : decide ((k : Int) < (ss.length : Int)) = true := by simpa using hlt
  have hF : (fun i => inFormB apex (sAt ss i).sigs) k = false → false = allN (fun i => inFormB apex (sAt ss i).sigs) ss.length := fun h => (allN_false hlt h).symm
  have hS : (fun i => inFormB apex (sAt ss i).sigs) k = true → k < ss.length ∧ IntKind.i64.wrap ((k : Int) + 1) = ((k + 1 : Nat) : Int) ∧ allN (fun i => inFormB apex (sAt ss i).sigs) (k + 1) = true := fun h => ⟨hlt,wrapS (by omega),allN_succ hP h⟩
  have hr' := hr (by omega)
  obtain ⟨b,o,vs,c,wr,ha,hb,hi⟩ := hr'
  subst ha
  have hrw' := hrw (by omega)
  obtain ⟨bw,ow,vw,cw,ww,haw,hbw,hiw⟩ := hrw'
  subst haw
  have hi1 := (hi k hlt).1
  have hi2 := (hi k hlt).2
  have hw1 := (hiw k hlt).1
  have hw2 := getD_of_take (hiw k hlt).2 (j := 0) (by omega)
  simp only [Nat.mul_one,Nat.add_zero] at hw1 hw2
  have hd1 := SlAt.one (hdeep k hlt).1
  have hg1 := SlAt.one (hdeep k hlt).2
  obtain ⟨sk,hsk⟩ : ∃ x,ss.getD k default = x := ⟨_,rfl⟩
  have hsk' : sAt ss k = sk := hsk
  obtain ⟨bk,hbk⟩ : ∃ x,behind apex ss k = x := ⟨_,rfl⟩
  simp only [hd,hb,hi2,rSigned,hsk,hd1,hg1,go_sem,Nat.reduceLeDiff,Nat.reduceEqDiff,Nat.reduceBEq,Nat.reduceAdd,binO]
  refine ⟨⟨by omega,by omega⟩,hi1,?_⟩
  refine vks_callp _ ?_ (fun _ => ⟨?_,fn84 hE apex (hdeep k hlt).2⟩) ?_ <;> simp only [go_sem,Nat.reduceEqDiff,Nat.reduceBEq,binO]
  exact ⟨fun h => hF h,fun h => hS h⟩
 ·have hd : decide ((k : Int) < (ss.length : Int)) = false := by simpa using hlt
  have : k = ss.length := by omega
  simp only [hd,go_sem,Nat.reduceEqDiff,Nat.reduceBEq,Nat.reduceAdd,binO]
  rw [← this]; exact hP.symm
set_option maxHeartbeats 1000000 in
set_option maxRecDepth 100000 in
theorem fn62 (hE : Codes E) (apex : Bs) {v w : Value} {ss : List SignedD} (hss : SetsAt H v ss) (hw : BehAt H w ss.length (behind apex ss)) (hn : ss.length ≤ 1099511627775) : FnP E 62 [.agg #[S apex, v, w]] H (.bool (sigsB apex ss)) := by
 obtain ⟨d,g,⟨a,cap,rfl,hs,hr⟩,hdeep⟩ := hss
 obtain ⟨aw,capw,rfl,hsw,hrw⟩ := hw
 have ho : sigsB apex ss = allN (fun i => !((behind apex ss i != [] && ((sAt ss i).type == 2 || (sAt ss i).type == 1)) && decide ((sAt ss i).sigs.length > 0))) ss.length := rfl
 refine Fn.of_vks hE.c62 (by simp [cf62]) ?_
 simp only [cf62,cf62_0,cf62_1,cf62_2,cf62_3,cf62_4,cf62_5,cf62_6,cf62_7,cf62_8]
 rw [ho]
 simp only [go_sem,Nat.reduceLeDiff,Nat.reduceEqDiff,Nat.reduceBEq,Nat.reduceAdd,reduceCtorEq]
 refine vks_loopN ss.length 0 (fun k => [(1,⟨true,.box [S apex,.slice a ss.length cap,.slice aw ss.length capw]⟩),(9,⟨true,.val (.slice a ss.length cap)⟩),(10,⟨true,.val (.int .i64 ss.length)⟩),(11,⟨true,.val (.int .i64 k)⟩)]) (fun k => allN (fun i => !((behind apex ss i != [] && ((sAt ss i).type == 2 || (sAt ss i).type == 1)) && decide ((sAt ss i).sigs.length > 0))) k = true) (Nat.zero_le _) rfl rfl ?_
 intro k hk hP
 by_cases hlt : k < ss.length
 ·have hd : decide ((k : Int) < (ss.length : Int)) = true := by simpa using hlt
  have hF : (fun i => !((behind apex ss i != [] && ((sAt ss i).type == 2 || (sAt ss i).type == 1)) && decide ((sAt ss i).sigs.length > 0))) k = false → false = allN (fun i => !((behind apex ss i != [] && ((sAt ss i).type == 2 || (sAt ss i).type == 1)) && decide ((sAt ss i).sigs.length > 0))) ss.length := fun h => (allN_false hlt h).symm
  have hS : (fun i => !((behind apex ss i != [] && ((sAt ss i).type == 2 || (sAt ss i).type == 1)) && decide ((sAt ss i).sigs.length > 0))) k = true → k < ss.length ∧ IntKind.i64.wrap ((k : Int) + 1) = ((k + 1 : Nat) : Int) ∧ allN (fun i => !((behind apex ss i != [] && ((sAt ss i).type == 2 || (sAt ss i).type == 1)) && decide ((sAt ss i).sigs.length > 0))) (k + 1) = true := fun h => ⟨hlt,wrapS (by omega),allN_succ hP h⟩
  have hr' := hr (by omega)
  obtain ⟨b,o,vs,c,wr,ha,hb,hi⟩ := hr'
  subst ha
  have hrw' := hrw (by omega)
  obtain ⟨bw,ow,vw,cw,ww,haw,hbw,hiw⟩ := hrw'
  subst haw
  have hi1 := (hi k hlt).1
  have hi2 := (hi k hlt).2
  have hw1 := (hiw k hlt).1
  have hw2 := getD_of_take (hiw k hlt).2 (j := 0) (by omega)
  simp only [Nat.mul_one,Nat.add_zero] at hw1 hw2
  have hd1 := SlAt.one (hdeep k hlt).1
  have hg1 := SlAt.one (hdeep k hlt).2
  obtain ⟨sk,hsk⟩ : ∃ x,ss.getD k default = x := ⟨_,rfl⟩
  have hsk' : sAt ss k = sk := hsk
  obtain ⟨bk,hbk⟩ : ∃ x,behind apex ss k = x := ⟨_,rfl⟩
  have hsg := (hdeep k hlt).2
  obtain ⟨ag,cg,hgv,_⟩ := hsg
  rw [hsk] at hgv
  simp only [hd,hb,hbw,hi2,hw2,hbk,rSigned,hsk,hgv,hd1,go_sem,Nat.reduceLeDiff,Nat.reduceEqDiff,Nat.reduceBEq,Nat.reduceAdd,binO,Nat.mul_one]
  have hcc : decide ((sk.sigs.length : Int) > 0) = decide (sk.sigs.length > 0) := by rw [Bool.eq_iff_iff]; simp
  rw [hcc]
  have hp : (!((behind apex ss k != [] && ((sAt ss k).type == 2 || (sAt ss k).type == 1)) && decide ((sAt ss k).sigs.length > 0))) = !((!(bk == [])) && (sk.type == 2 || sk.type == 1) && decide (sk.sigs.length > 0)) := by rw [hbk,hsk']; rfl
  exact ⟨⟨by omega,by omega⟩,hi1,⟨by omega,by omega⟩,hw1,fun hx => ⟨hx,fun hy => by rw [hx,hy]; rfl⟩,fun h => hF (hp.trans (congrArg not h)),fun h => hS (hp.trans (congrArg not h))⟩
 ·have hd : decide ((k : Int) < (ss.length : Int)) = false := by simpa using hlt
  have : k = ss.length := by omega
  simp only [hd,go_sem,Nat.reduceEqDiff,Nat.reduceBEq,Nat.reduceAdd,reduceCtorEq,binO]
  rw [← this]; exact hP.symm
set_option maxHeartbeats 1000000 in
set_option maxRecDepth 100000 in
theorem fn61 (hE : Codes E) (apex : Bs) {v w : Value} {ss : List SignedD} (hss : SetsAt H v ss) (hw : BehAt H w ss.length (behind apex ss)) (hn : ss.length ≤ 1099511627775) : FnP E 61 [.agg #[S apex, v, w]] H (.bool (cutsB apex ss)) := by
 obtain ⟨d,g,⟨a,cap,rfl,hs,hr⟩,hdeep⟩ := hss
 obtain ⟨aw,capw,rfl,hsw,hrw⟩ := hw
 have ho : cutsB apex ss = allN (fun i => cutOk (behind apex ss i) (sAt ss i).name (sAt ss i).type) ss.length := rfl
 refine Fn.of_vks hE.c61 (by simp [cf61]) ?_
 simp only [cf61,cf61_0,cf61_1,cf61_2,cf61_3,cf61_4,cf61_5,cf61_8,cf61_9,cf61_10,cf61_11,cf61_12,cf61_13,cf61_6,cf61_7,cf61_14,cf61_15]
 rw [ho]
 simp only [go_sem,Nat.reduceLeDiff,Nat.reduceEqDiff,Nat.reduceBEq,Nat.reduceAdd,reduceCtorEq]
 refine vks_loopN ss.length 0 (fun k => [(1,⟨true,.box [S apex,.slice a ss.length cap,.slice aw ss.length capw]⟩),(9,⟨true,.val (.slice a ss.length cap)⟩),(10,⟨true,.val (.int .i64 ss.length)⟩),(11,⟨true,.val (.int .i64 k)⟩)]) (fun k => allN (fun i => cutOk (behind apex ss i) (sAt ss i).name (sAt ss i).type) k = true) (Nat.zero_le _) rfl rfl ?_
 intro k hk hP
 by_cases hlt : k < ss.length
 ·have hd : decide ((k : Int) < (ss.length : Int)) = true := by simpa using hlt
  have hF : (fun i => cutOk (behind apex ss i) (sAt ss i).name (sAt ss i).type) k = false → false = allN (fun i => cutOk (behind apex ss i) (sAt ss i).name (sAt ss i).type) ss.length := fun h => (allN_false hlt h).symm
  have hS : (fun i => cutOk (behind apex ss i) (sAt ss i).name (sAt ss i).type) k = true → k < ss.length ∧ IntKind.i64.wrap ((k : Int) + 1) = ((k + 1 : Nat) : Int) ∧ allN (fun i => cutOk (behind apex ss i) (sAt ss i).name (sAt ss i).type) (k + 1) = true := fun h => ⟨hlt,wrapS (by omega),allN_succ hP h⟩
  have hr' := hr (by omega)
  obtain ⟨b,o,vs,c,wr,ha,hb,hi⟩ := hr'
  subst ha
  have hrw' := hrw (by omega)
  obtain ⟨bw,ow,vw,cw,ww,haw,hbw,hiw⟩ := hrw'
  subst haw
  have hi1 := (hi k hlt).1
  have hi2 := (hi k hlt).2
  have hw1 := (hiw k hlt).1
  have hw2 := getD_of_take (hiw k hlt).2 (j := 0) (by omega)
  simp only [Nat.mul_one,Nat.add_zero] at hw1 hw2
  have hd1 := SlAt.one (hdeep k hlt).1
  have hg1 := SlAt.one (hdeep k hlt).2
  obtain ⟨sk,hsk⟩ : ∃ x,ss.getD k default = x := ⟨_,rfl⟩
  have hsk' : sAt ss k = sk := hsk
  obtain ⟨bk,hbk⟩ : ∃ x,behind apex ss k = x := ⟨_,rfl⟩
  simp only [hd,hb,hbw,hi2,hw2,hbk,rSigned,hsk,hd1,hg1,go_sem,Nat.reduceLeDiff,Nat.reduceEqDiff,Nat.reduceBEq,Nat.reduceAdd,binO,Nat.mul_one]
  have hp : cutOk (behind apex ss k) (sAt ss k).name (sAt ss k).type = cutOk bk sk.name sk.type := by rw [hbk,hsk']
  refine ⟨⟨by omega,by omega⟩,hi1,⟨by omega,by omega⟩,hw1,fun h1 => ?_,fun h1 => ⟨fun h2 => ?_,fun h2 => ?_⟩⟩
  ·have e1 : bk = [] := by simpa using h1
   exact ⟨fun h2 => hF (hp.trans (by rw [cutOk,if_pos e1,bne,h2]; rfl)),fun h2 => hS (hp.trans (by rw [cutOk,if_pos e1,bne,h2]; rfl))⟩
  ·have e1 : bk ≠ [] := by simpa using h1
   have e2 : bk = sk.name := by simpa using h2
   exact ⟨fun h3 => hF (hp.trans (by rw [cutOk,if_neg e1,if_pos e2,h3]; rfl)),fun h3 => hS (hp.trans (by rw [cutOk,if_neg e1,if_pos e2,h3]; rfl))⟩
  ·have e1 : bk ≠ [] := by simpa using h1
   have e2 : bk ≠ sk.name := by simpa using h2
   refine ⟨fun h3 => hF (hp.trans ?_),fun h3 => hS (hp.trans ?_)⟩
   ·rw [cutOk,if_neg e1,if_neg e2]; simpa using h3
   ·rw [cutOk,if_neg e1,if_neg e2]; simpa using h3
 ·have hd : decide ((k : Int) < (ss.length : Int)) = false := by simpa using hlt
  have : k = ss.length := by omega
  simp only [hd,go_sem,Nat.reduceEqDiff,Nat.reduceBEq,Nat.reduceAdd,reduceCtorEq,binO]
  rw [← this]; exact hP.symm
end Go.SL
