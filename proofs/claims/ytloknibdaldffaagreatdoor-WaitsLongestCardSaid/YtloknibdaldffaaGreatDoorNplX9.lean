/- Contracts: the reference's sets. -/
import Derived.Test.YtloknibdaldffaaGreatDoorNplX6
import Derived.Test.YtloknibdaldffaaGreatDoorNplW1
namespace Go.SL
open Go
variable {E : Env} {H : Hp}
def rDatC (k : Int) (ds : List DatumD) (i : Nat) : Bool := rDat k (ds.getD i default) && (i == 0 || rLess (ds.getD (i - 1) default) (ds.getD i default))
def rHeadBad (name : Bs) (t l : Int) (n : Nat) : Bool := !rName name || !wIn t 1 8 || !wIn l 0 100000 || !wIn (n : Int) 1 8 || ((t == 3 || t == 4) && decide ((n : Int) > 1))
def rWildBad (name : Bs) (t : Int) : Bool := rWild2 name && t != 1 && t != 5 && t != 8
def rSet (name : Bs) (t l : Int) (ds : List DatumD) : Bool := !rHeadBad name t l ds.length && (!rWildBad name t && allN (rDatC t ds) ds.length)
theorem rHeadBad_len {name : Bs} {t l : Int} {n : Nat} (h : rHeadBad name t l n = false) : n ≤ 8 := by
 unfold rHeadBad wIn at h
 simp only [Bool.or_eq_false_iff,Bool.not_eq_false',Bool.and_eq_true,decide_eq_true_eq] at h
 omega
set_option maxHeartbeats 1000000 in
theorem fn200 (h4 : Codes4 E) (name : Bs) (t l : Int) (ds : List DatumD) {z : Value} (hz : DataAt H z ds) :
  FnP E 200 [.agg #[S name,.int .i64 t,.int .i64 l,z]] H (.bool (rSet name t l ds)) := by
 obtain ⟨a,cap,rfl,hsp,hr⟩ := hz
 refine Fn.of_vks h4.c200 (by simp [cf200]) ?_
 simp only [cf200,cf200_0,cf200_1,cf200_2,cf200_3,cf200_4,cf200_5,cf200_6,cf200_7,cf200_9,cf200_10,cf200_8,cf200_11]
 obtain ⟨q0,hq0⟩ : ∃ y,y = rSet name t l ds := ⟨_,rfl⟩
 rw [← hq0]
 unfold rSet at hq0
 obtain ⟨q1,hq1⟩ : ∃ y,y = rHeadBad name t l ds.length := ⟨_,rfl⟩
 have hq1' := hq1
 unfold rHeadBad at hq1'
 simp only [go_sem,Nat.reduceLeDiff,Nat.reduceEqDiff,Nat.reduceBEq,Nat.reduceAdd,reduceCtorEq]
 refine vks_callp _ (by simp only [go_sem]) (fun _ => ⟨by simp only [go_sem,Nat.reduceEqDiff],fn198 h4 name⟩) ?_
 simp only [go_sem,Nat.reduceLeDiff,Nat.reduceEqDiff,Nat.reduceBEq,Nat.reduceAdd]
 refine vks_callp _ (by simp only [go_sem,Nat.reduceEqDiff]) (fun hg => ⟨by simp only [go_sem,Nat.reduceEqDiff] at hg ⊢; exact hg,fn219' h4 t 1 8⟩) ?_
 simp only [go_sem,Nat.reduceLeDiff,Nat.reduceEqDiff,Nat.reduceBEq,Nat.reduceAdd]
 refine vks_callp _ (by simp only [go_sem,Nat.reduceEqDiff]) (fun hg => ⟨by simp only [go_sem,Nat.reduceEqDiff] at hg ⊢; exact hg,fn219' h4 l 0 100000⟩) ?_
 simp only [go_sem,Nat.reduceEqDiff,Nat.reduceBEq]
 refine vks_callp _ (by simp only [go_sem,Nat.reduceEqDiff]) (fun hg => ⟨by simp only [go_sem,Nat.reduceEqDiff] at hg ⊢; exact hg,fn219' h4 ds.length 1 8⟩) ?_
 simp only [go_sem,Nat.reduceLeDiff,Nat.reduceEqDiff,Nat.reduceBEq,Nat.reduceAdd]
 refine vks_callp _ (by simp only [go_sem,Nat.reduceEqDiff]) (fun hg => ⟨by simp only [go_sem,Nat.reduceEqDiff] at hg ⊢; exact hg,fn220 h4 t⟩) ?_
 simp only [← hq1',go_sem,Nat.reduceLeDiff,Nat.reduceEqDiff,Nat.reduceBEq,Nat.reduceAdd,binO]
 refine ⟨fun h => ⟨h,fun h2 => by rw [h,h2]; rfl⟩,fun h => by rw [hq0,← hq1,h]; rfl,fun h => ?_⟩
 have hm : ds.length ≤ 8 := rHeadBad_len (hq1.symm.trans h)
 rw [← hq1,h,Bool.not_false,Bool.true_and] at hq0
 refine vks_callp _ (by simp only [go_sem]) (fun _ => ⟨by simp only [go_sem,Nat.reduceEqDiff],fn221 h4 name⟩) ?_
 obtain ⟨q2,hq2⟩ : ∃ y,y = rWildBad name t := ⟨_,rfl⟩
 have hq2' := hq2
 unfold rWildBad at hq2'
 rw [← hq2] at hq0
 simp only [← hq2',go_sem,Nat.reduceLeDiff,Nat.reduceEqDiff,Nat.reduceBEq,Nat.reduceAdd,binO]
 refine ⟨fun h => by rw [hq0,h]; rfl,fun h => ?_⟩
 rw [h,Bool.not_false,Bool.true_and] at hq0
 refine vks_loopN ds.length 0 (fun k => [(1,⟨true,.box [S name,.int .i64 t,.int .i64 l,.slice a ds.length cap]⟩),(3,⟨true,.val (.int .i64 ds.length)⟩),(4,⟨true,.val (.int .i64 k)⟩)]) (fun k => allN (rDatC t ds) k = true) (Nat.zero_le _) rfl rfl ?_
 intro k hk hP
 by_cases hlt : k < ds.length
 ·have hdl : decide ((k : Int) < (ds.length : Int)) = true := by simpa using hlt
  obtain ⟨b,o,vs,c,wr,rfl,hb,hi⟩ := hr (by omega)
  have hi1 := (hi k hlt).1
  have hi2 := (hi k hlt).2
  have hdk : rDatC t ds k = (rDat t (ds.getD k default) && (k == 0 || rLess (ds.getD (k - 1) default) (ds.getD k default))) := rfl
  simp only [hdl,hb,hi2,rDatum,go_sem,Nat.reduceLeDiff,Nat.reduceEqDiff,Nat.reduceBEq,Nat.reduceAdd,binO]
  refine ⟨⟨by omega,by omega⟩,hi1,?_⟩
  cases hA : rDat t (ds.getD k default)
  ·refine vks_dcallp _ (by simp only [go_sem]) (fun _ => ⟨by simp only [go_sem,Nat.reduceEqDiff],fn222 h4 t (ds.getD k default)⟩) ?_ ?_
   ·simp only [hb,go_sem,Nat.reduceLeDiff,Nat.reduceEqDiff,Nat.reduceBEq,Nat.reduceAdd]
   ·have hf : q0 = false := by rw [hq0]; exact allN_false hlt (by rw [hdk,hA]; rfl)
    simp only [hA,hb,hf,go_sem,Nat.reduceEqDiff,Nat.reduceBEq,Nat.reduceAdd,binO]
    refine vks_dcallp (.bool false) (by simp only [go_sem,Nat.reduceEqDiff]) (fun hg => by simp only [go_sem,Nat.reduceEqDiff] at hg) ?_ ?_
    ·simp only [hb,go_sem,Nat.reduceLeDiff,Nat.reduceEqDiff,Nat.reduceBEq,Nat.reduceAdd,binO]
    ·simp only [↓simT_pick_t,go_sem,Nat.reduceEqDiff,Nat.reduceBEq,binO]
  ·refine vks_dcallp _ (by simp only [go_sem]) (fun _ => ⟨by simp only [go_sem,Nat.reduceEqDiff],fn222 h4 t (ds.getD k default)⟩) ?_ ?_
   ·simp only [hb,go_sem,Nat.reduceLeDiff,Nat.reduceEqDiff,Nat.reduceBEq,Nat.reduceAdd]
   ·by_cases hk0 : k = 0
    ·have e0 : decide ((k : Int) > 0) = false := by rw [decide_eq_false_iff_not]; omega
     have e0' : (k == 0) = true := by simpa using hk0
     have ht : allN (rDatC t ds) (k + 1) = true := allN_succ hP (by rw [hdk,hA,e0']; rfl)
     simp only [hA,e0,hb,go_sem,Nat.reduceEqDiff,Nat.reduceBEq,Nat.reduceAdd,binO]
     refine vks_dcallp (.bool false) (by simp only [go_sem,Nat.reduceEqDiff]) (fun hg => by simp only [go_sem,Nat.reduceEqDiff] at hg) ?_ ?_
     ·simp only [e0,hb,go_sem,Nat.reduceLeDiff,Nat.reduceEqDiff,Nat.reduceBEq,Nat.reduceAdd,binO]
     ·simp only [ht,↓simT_pick_f,go_sem,Nat.reduceEqDiff,Nat.reduceBEq,binO]
      exact ⟨hlt,wrapS (by omega)⟩
    ·have e0 : decide ((k : Int) > 0) = true := by rw [decide_eq_true_eq]; omega
     have e0' : (k == 0) = false := by simpa using hk0
     have e1 : IntKind.i64.wrap ((k : Int) - 1) = ((k - 1 : Nat) : Int) := by rw [wrapI] <;> omega
     have hj1 := (hi (k - 1) (by omega)).1
     have hj2 := (hi (k - 1) (by omega)).2
     rw [hA,e0',Bool.true_and,Bool.false_or] at hdk
     simp only [hA,e0,e1,toNat_ofNat',hb,hi2,hj2,rDatum,go_sem,Nat.reduceEqDiff,Nat.reduceBEq,Nat.reduceAdd,binO]
     refine ⟨⟨by omega,by omega⟩,hj1,⟨by omega,by omega⟩,hi1,?_⟩
     refine vks_dcallp _ (by simp only [go_sem,Nat.reduceEqDiff]) (fun _ => ⟨by simp only [go_sem,Nat.reduceEqDiff],fn223 h4 (ds.getD (k - 1) default) (ds.getD k default)⟩) ?_ ?_
     ·simp only [e0,e1,toNat_ofNat',hb,hi2,hj2,rDatum,go_sem,Nat.reduceLeDiff,Nat.reduceEqDiff,Nat.reduceBEq,Nat.reduceAdd,binO]
     ·cases hB : rLess (ds.getD (k - 1) default) (ds.getD k default)
      ·have hf : q0 = false := by rw [hq0]; exact allN_false hlt (by rw [hdk,hB])
       simp only [hf,go_sem,Nat.reduceEqDiff,Nat.reduceBEq,binO]
      ·have ht : allN (rDatC t ds) (k + 1) = true := allN_succ hP (by rw [hdk,hB])
       simp only [ht,go_sem,Nat.reduceEqDiff,Nat.reduceBEq,binO]
       exact ⟨hlt,wrapS (by omega)⟩
 ·have hdl : decide ((k : Int) < (ds.length : Int)) = false := by simpa using hlt
  have : k = ds.length := by omega
  subst this
  rw [hP] at hq0
  simp only [hdl,hq0,go_sem,Nat.reduceLeDiff,Nat.reduceEqDiff,Nat.reduceBEq,Nat.reduceAdd,binO]
theorem rSet_name {name : Bs} {t l : Int} {ds : List DatumD} (h : rSet name t l ds = true) : rName name = true := by
 unfold rSet rHeadBad at h
 cases hn : rName name
 ·rw [hn] at h; simp at h
 ·rfl
theorem rSet_len {name : Bs} {t l : Int} {ds : List DatumD} (h : rSet name t l ds = true) : name.length ≤ 1000000 := Nat.le_trans (rName_len (rSet_name h)) (by omega)
end Go.SL
/- Contracts: the reference's zones, first parts. -/
namespace Go.SL
open Go
variable {E : Env} {H : Hp}
def rPlacedAt (t : Int) (a : Bool) : Bool := if a then t != 3 && t != 6 else t != 4 && t != 7
theorem fn209 (h4 : Codes4 E) (t : Int) (a : Bool) : FnP E 209 [.int .i64 t, .bool a] H (.bool (rPlacedAt t a)) := by
 refine Fn.of_vks h4.c209 (by simp [cf209]) ?_
 simp only [cf209,cf209_0,cf209_1,cf209_2,cf209_3]
 unfold rPlacedAt
 cases a <;> simp only [go_sem,Nat.reduceEqDiff,Nat.reduceBEq,reduceCtorEq,binO]
def isAt (ss : List SignedD) (nm : Bs) (t : Int) (k : Nat) : Bool := (ss.getD k default).name == nm && (ss.getD k default).type == t
def rAtGo (ss : List SignedD) (nm : Bs) (t : Int) : Nat → Nat → Int
 | 0,_ => -1
 | r + 1,k => if isAt ss nm t k then (k : Int) else rAtGo ss nm t r (k + 1)
set_option maxHeartbeats 1000000 in
theorem fn208 (h4 : Codes4 E) (apex nm : Bs) (t : Int) {v : Value} {ss : List SignedD} (hss : SetsAt H v ss) (hn : ss.length ≤ 1000000000) :
  FnP E 208 [.agg #[S apex,v],.agg #[S nm,.int .i64 t]] H (.int .i64 (rAtGo ss nm t ss.length 0)) := by
 obtain ⟨d,g,⟨a,cap,rfl,hsp,hr⟩,hdeep⟩ := hss
 refine Fn.of_vks h4.c208 (by simp [cf208]) ?_
 simp only [cf208,cf208_0,cf208_1,cf208_2,cf208_4,cf208_5,cf208_3,cf208_6]
 simp only [go_sem,Nat.reduceEqDiff,Nat.reduceBEq,reduceCtorEq]
 refine vks_loopN ss.length 0 (fun k => [(2,⟨true,.box [S apex,.slice a ss.length cap]⟩),(3,⟨true,.box [S nm,.int .i64 t]⟩),(5,⟨true,.val (.int .i64 k)⟩)]) (fun k => rAtGo ss nm t ss.length 0 = rAtGo ss nm t (ss.length - k) k) (Nat.zero_le _) rfl rfl ?_
 intro k hk hP
 rw [hP]
 by_cases hlt : k < ss.length
 ·have hdl : decide ((k : Int) < (ss.length : Int)) = true := by simpa using hlt
  obtain ⟨b,o,vs,c,wr,rfl,hb,hi⟩ := hr (by omega)
  have hi1 := (hi k hlt).1
  have hi2 := (hi k hlt).2
  have v0 := getD_of_take hi2 (j := 0) (by omega)
  have v1 := getD_of_take hi2 (j := 1) (by omega)
  simp only [rSigned,List.getD_cons_zero,List.getD_cons_succ,Nat.add_zero] at v0 v1
  obtain ⟨r,hr'⟩ : ∃ r,ss.length - k = r + 1 := ⟨ss.length - k - 1,by omega⟩
  have hr2 : ss.length - (k + 1) = r := by omega
  have hgo : rAtGo ss nm t (r + 1) k = if isAt ss nm t k then (k : Int) else rAtGo ss nm t r (k + 1) := rfl
  have hia : isAt ss nm t k = ((ss.getD k default).name == nm && (ss.getD k default).type == t) := rfl
  rw [hr',hgo]
  cases h1 : ((ss.getD k default).name == nm)
  ·rw [h1,Bool.false_and] at hia
   simp only [hdl,hb,v0,v1,h1,hia,hr2,↓simT_pick_f,go_sem,Nat.reduceLeDiff,Nat.reduceEqDiff,Nat.reduceBEq,Nat.reduceAdd,binO]
   exact ⟨⟨by omega,by omega⟩,by omega,hlt,wrapS (by omega)⟩
  ·cases h2 : ((ss.getD k default).type == t)
   ·rw [h1,h2,Bool.and_false] at hia
    simp only [hdl,hb,v0,v1,h1,h2,hia,hr2,go_sem,Nat.reduceLeDiff,Nat.reduceEqDiff,Nat.reduceBEq,Nat.reduceAdd,binO]
    exact ⟨⟨by omega,by omega⟩,by omega,⟨by omega,by omega⟩,by omega,hlt,wrapS (by omega)⟩
   ·rw [h1,h2,Bool.and_true] at hia
    simp only [hdl,hb,v0,v1,h1,h2,hia,hr2,go_sem,Nat.reduceLeDiff,Nat.reduceEqDiff,Nat.reduceBEq,Nat.reduceAdd,reduceCtorEq,binO]
    exact ⟨⟨by omega,by omega⟩,by omega,⟨by omega,by omega⟩,by omega⟩
 ·have hdl : decide ((k : Int) < (ss.length : Int)) = false := by simpa using hlt
  have : k = ss.length := by omega
  subst this
  rw [Nat.sub_self]
  simp only [rAtGo,hdl,go_sem,Nat.reduceEqDiff,Nat.reduceBEq,Nat.reduceAdd,binO]
end Go.SL
/- Contracts: the reference's zones: the apex has what it needs. -/
namespace Go.SL
open Go
variable {E : Env} {H : Hp}
def plAt (apex : Bs) (ss : List SignedD) (k : Nat) : Bool := rPlacedAt (ss.getD k default).type ((ss.getD k default).name == apex)
def rTwo (apex : Bs) (ss : List SignedD) : Bool := !(decide (rAtGo ss apex 4 ss.length 0 < 0) || decide (rAtGo ss apex 2 ss.length 0 < 0)) && allN (plAt apex ss) ss.length
theorem rTwo_def (apex : Bs) (ss : List SignedD) : rTwo apex ss = (!(decide (rAtGo ss apex 4 ss.length 0 < 0) || decide (rAtGo ss apex 2 ss.length 0 < 0)) && allN (plAt apex ss) ss.length) := rfl
set_option maxHeartbeats 1000000 in
theorem fn202 (h4 : Codes4 E) (apex : Bs) {v : Value} {ss : List SignedD} (hss : SetsAt H v ss) (hn : ss.length ≤ 1000000000) :
  FnP E 202 [.agg #[S apex,v]] H (.bool (rTwo apex ss)) := by
 have hss' := hss
 obtain ⟨d,g,⟨a,cap,rfl,hsp,hr⟩,hdeep⟩ := hss
 refine Fn.of_vks h4.c202 (by simp [cf202]) ?_
 simp only [cf202,cf202_0,cf202_1,cf202_2,cf202_3,cf202_4,cf202_6,cf202_7,cf202_5,cf202_8]
 obtain ⟨q0,hq0⟩ : ∃ y,y = rTwo apex ss := ⟨_,rfl⟩
 rw [← hq0]
 rw [rTwo_def] at hq0
 simp only [go_sem,Nat.reduceLeDiff,Nat.reduceEqDiff,Nat.reduceBEq,Nat.reduceAdd,reduceCtorEq]
 refine vks_callp _ (by simp only [go_sem]) (fun _ => ⟨by simp only [go_sem,Nat.reduceEqDiff],fn208 h4 apex apex 4 hss' hn⟩) ?_
 cases h1 : decide (rAtGo ss apex 4 ss.length 0 < 0)
 ·rw [h1,Bool.false_or] at hq0
  simp only [h1,go_sem,Nat.reduceLeDiff,Nat.reduceEqDiff,Nat.reduceBEq,Nat.reduceAdd,binO]
  refine vks_callp _ (by simp only [go_sem,Nat.reduceEqDiff]) (fun _ => ⟨by simp only [go_sem,Nat.reduceEqDiff],fn208 h4 apex apex 2 hss' hn⟩) ?_
  cases h2 : decide (rAtGo ss apex 2 ss.length 0 < 0)
  ·rw [h2,Bool.not_false,Bool.true_and] at hq0
   simp only [h2,go_sem,Nat.reduceEqDiff,Nat.reduceBEq,binO]
   refine vks_loopN ss.length 0 (fun k => [(1,⟨true,.box [S apex,.slice a ss.length cap]⟩),(3,⟨true,.val (.int .i64 k)⟩)]) (fun k => allN (plAt apex ss) k = true) (Nat.zero_le _) rfl rfl ?_
   intro k hk hP
   by_cases hlt : k < ss.length
   ·have hdl : decide ((k : Int) < (ss.length : Int)) = true := by simpa using hlt
    obtain ⟨b,o,vs,c,wr,rfl,hb,hi⟩ := hr (by omega)
    have hi1 := (hi k hlt).1
    have hi2 := (hi k hlt).2
    have v0 := getD_of_take hi2 (j := 0) (by omega)
    have v1 := getD_of_take hi2 (j := 1) (by omega)
    simp only [rSigned,List.getD_cons_zero,List.getD_cons_succ,Nat.add_zero] at v0 v1
    have hpl : plAt apex ss k = rPlacedAt (ss.getD k default).type ((ss.getD k default).name == apex) := rfl
    simp only [hdl,hb,v0,v1,go_sem,Nat.reduceLeDiff,Nat.reduceEqDiff,Nat.reduceBEq,Nat.reduceAdd,binO]
    refine ⟨⟨by omega,by omega⟩,by omega,⟨by omega,by omega⟩,by omega,?_⟩
    refine vks_dcallp _ (by simp only [go_sem]) (fun _ => ⟨by simp only [go_sem,Nat.reduceEqDiff],fn209 h4 (ss.getD k default).type ((ss.getD k default).name == apex)⟩) ?_ ?_
    ·simp only [hb,v0,v1,go_sem,Nat.reduceLeDiff,Nat.reduceEqDiff,Nat.reduceBEq,Nat.reduceAdd,binO]
    ·rw [← hpl]
     cases h3 : plAt apex ss k
     ·have hf : q0 = false := by rw [hq0]; exact allN_false hlt h3
      simp only [hf,go_sem,Nat.reduceEqDiff,Nat.reduceBEq,binO]
     ·have ht : allN (plAt apex ss) (k + 1) = true := allN_succ hP h3
      simp only [ht,go_sem,Nat.reduceEqDiff,Nat.reduceBEq,binO]
      exact ⟨hlt,wrapS (by omega)⟩
   ·have hdl : decide ((k : Int) < (ss.length : Int)) = false := by simpa using hlt
    have : k = ss.length := by omega
    subst this
    rw [hP] at hq0
    simp only [hdl,hq0,go_sem,Nat.reduceEqDiff,Nat.reduceBEq,Nat.reduceAdd,binO]
  ·rw [h2,Bool.not_true,Bool.false_and] at hq0
   simp only [h2,hq0,go_sem,Nat.reduceEqDiff,Nat.reduceBEq,binO]
 ·rw [h1,Bool.true_or,Bool.not_true,Bool.false_and] at hq0
  simp only [h1,hq0,go_sem,Nat.reduceLeDiff,Nat.reduceEqDiff,Nat.reduceBEq,Nat.reduceAdd,binO]
  refine vks_callp (.int .i64 0) (by simp only [go_sem,Nat.reduceEqDiff]) (fun hg => by simp only [go_sem,Nat.reduceEqDiff] at hg) ?_
  simp only [↓simT_pick_t,go_sem,Nat.reduceEqDiff,Nat.reduceBEq,Int.reduceLT,binO,decF]
end Go.SL
/- Contracts: the reference's zones: sets valid, in order, under the apex. -/
namespace Go.SL
open Go
variable {E : Env} {H : Hp}
def SzS (ss : List SignedD) : Prop := ∀ s ∈ ss,s.name.length ≤ 1000000
def sD (ss : List SignedD) (k : Nat) : SignedD := ss.getD k default
def oneAt (apex : Bs) (ss : List SignedD) (k : Nat) : Bool := rSet (sD ss k).name (sD ss k).type (sD ss k).life (sD ss k).data && rIn (sD ss k).name apex && (k == 0 || !decide (rSetOrder (sD ss (k - 1)).name (sD ss k).name (sD ss (k - 1)).type (sD ss k).type ≥ 0))
def rOne (apex : Bs) (ss : List SignedD) : Bool := rName apex && !rWild apex && decide (ss.length ≤ 20000) && allN (oneAt apex ss) ss.length
theorem rOne_def (apex : Bs) (ss : List SignedD) : rOne apex ss = (rName apex && !rWild apex && decide (ss.length ≤ 20000) && allN (oneAt apex ss) ss.length) := rfl
theorem SzS.at {ss : List SignedD} (h : SzS ss) {k : Nat} (hk : k < ss.length) : (sD ss k).name.length ≤ 1000000 := by
 apply h
 unfold sD
 rw [List.getD_eq_getElem?_getD,List.getElem?_eq_getElem hk]; exact List.getElem_mem _
set_option maxHeartbeats 1000000 in
theorem fn201 (h4 : Codes4 E) (apex : Bs) {v : Value} {ss : List SignedD} (hss : SetsAt H v ss) :
  FnP E 201 [.agg #[S apex,v]] H (.bool (rOne apex ss)) := by
 obtain ⟨d,g,⟨a,cap,rfl,hsp,hr⟩,hdeep⟩ := hss
 refine Fn.of_vks h4.c201 (by simp [cf201]) ?_
 simp only [cf201,cf201_0,cf201_1,cf201_2,cf201_3,cf201_4,cf201_6,cf201_7,cf201_8,cf201_5,cf201_9]
 obtain ⟨q0,hq0⟩ : ∃ y,y = rOne apex ss := ⟨_,rfl⟩
 rw [← hq0]
 rw [rOne_def] at hq0
 simp only [go_sem,Nat.reduceLeDiff,Nat.reduceEqDiff,Nat.reduceBEq,Nat.reduceAdd,reduceCtorEq]
 refine vks_callp _ (by simp only [go_sem]) (fun _ => ⟨by simp only [go_sem,Nat.reduceEqDiff],fn198 h4 apex⟩) ?_
 cases h1 : rName apex
 ·rw [h1,Bool.false_and,Bool.false_and,Bool.false_and] at hq0
  simp only [hq0,go_sem,Nat.reduceLeDiff,Nat.reduceEqDiff,Nat.reduceBEq,Nat.reduceAdd]
  refine vks_callp (.bool false) (by simp only [go_sem,Nat.reduceEqDiff]) (fun hg => by simp only [go_sem,Nat.reduceEqDiff] at hg) ?_
  simp only [↓simT_pick_t,go_sem,Nat.reduceEqDiff,Nat.reduceBEq,Nat.reduceAdd,binO]
 ·rw [h1,Bool.true_and] at hq0
  have ha : apex.length ≤ 1000000 := Nat.le_trans (rName_len h1) (by omega)
  simp only [go_sem,Nat.reduceLeDiff,Nat.reduceEqDiff,Nat.reduceBEq,Nat.reduceAdd]
  refine vks_callp _ (by simp only [go_sem,Nat.reduceEqDiff]) (fun _ => ⟨by simp only [go_sem,Nat.reduceEqDiff],fn199 h4 apex ha⟩) ?_
  cases h2 : rWild apex
  ·rw [h2,Bool.not_false,Bool.true_and] at hq0
   by_cases h3 : ss.length ≤ 20000
   ·have e3 : decide ((ss.length : Int) > 20000) = false := by rw [decide_eq_false_iff_not]; omega
    have e3' : decide (ss.length ≤ 20000) = true := by rw [decide_eq_true_eq]; exact h3
    rw [e3',Bool.true_and] at hq0
    simp only [e3,go_sem,Nat.reduceEqDiff,Nat.reduceBEq,Nat.reduceAdd,binO]
    refine vks_loopN ss.length 0 (fun k => [(1,⟨true,.box [S apex,.slice a ss.length cap]⟩),(3,⟨true,.val (.int .i64 k)⟩)]) (fun k => allN (oneAt apex ss) k = true) (Nat.zero_le _) rfl rfl ?_
    intro k hk hP
    by_cases hlt : k < ss.length
    ·have hdl : decide ((k : Int) < (ss.length : Int)) = true := by simpa using hlt
     obtain ⟨b,o,vs,c,wr,rfl,hb,hi⟩ := hr (by omega)
     have hi1 := (hi k hlt).1
     have hi2 := take_of_take (hi k hlt).2 0 4 (by omega)
     have hdz := (hdeep k hlt).1
     have hd1 := SlAt.one hdz
     obtain ⟨s,hs⟩ : ∃ s,s = sD ss k := ⟨_,rfl⟩
     have hs' : ss.getD k default = s := hs.symm
     rw [hs'] at hdz
     simp only [rSigned,hs',List.drop_zero,List.take_succ_cons,List.take_zero,Nat.add_zero] at hi2
     have hone : oneAt apex ss k = (rSet s.name s.type s.life s.data && rIn s.name apex && (k == 0 || !decide (rSetOrder (sD ss (k - 1)).name s.name (sD ss (k - 1)).type s.type ≥ 0))) := by rw [hs]; rfl
     simp only [hdl,hb,hi2,hd1,go_sem,Nat.reduceEqDiff,Nat.reduceBEq,Nat.reduceAdd,binO]
     refine ⟨⟨by omega,by omega⟩,by omega,?_⟩
     refine vks_dcallp _ (by simp only [go_sem]) (fun _ => ⟨by simp only [go_sem,Nat.reduceEqDiff],fn200 h4 s.name s.type s.life s.data hdz⟩) ?_ ?_
     ·simp only [go_sem,Nat.reduceEqDiff,Nat.reduceBEq,Nat.reduceAdd]
     cases hA : rSet s.name s.type s.life s.data
     ·have hf : q0 = false := by rw [hq0]; exact allN_false hlt (by rw [hone,hA]; rfl)
      simp only [hf,go_sem,Nat.reduceLeDiff,Nat.reduceEqDiff,Nat.reduceBEq,Nat.reduceAdd]
      refine vks_dcallp (.bool false) (by simp only [go_sem,Nat.reduceEqDiff]) (fun hg => by simp only [go_sem,Nat.reduceEqDiff] at hg) ?_ ?_
      ·simp only [go_sem,Nat.reduceLeDiff,Nat.reduceEqDiff,Nat.reduceBEq,Nat.reduceAdd]
      simp only [hb,↓simT_pick_t,go_sem,Nat.reduceEqDiff,Nat.reduceBEq,Nat.reduceAdd,binO]
      refine vks_dcallp (.int .i64 0) (by simp only [go_sem,Nat.reduceEqDiff]) (fun hg => by simp only [go_sem,Nat.reduceEqDiff] at hg) ?_ ?_
      ·simp only [hb,↓simT_pick_t,go_sem,Nat.reduceLeDiff,Nat.reduceEqDiff,Nat.reduceBEq,Nat.reduceAdd,binO]
      simp only [↓simT_pick_t,go_sem,Nat.reduceEqDiff,Nat.reduceBEq,binO]
     ·simp only [go_sem,Nat.reduceLeDiff,Nat.reduceEqDiff,Nat.reduceBEq,Nat.reduceAdd]
      refine vks_dcallp _ (by simp only [go_sem,Nat.reduceEqDiff]) (fun _ => ⟨by simp only [go_sem,Nat.reduceEqDiff],fn206 h4 s.name apex (rSet_len hA) ha⟩) ?_ ?_
      ·simp only [go_sem,Nat.reduceLeDiff,Nat.reduceEqDiff,Nat.reduceBEq,Nat.reduceAdd]
      cases hB : rIn s.name apex
      ·have hf : q0 = false := by rw [hq0]; exact allN_false hlt (by rw [hone,hA,hB]; rfl)
       simp only [hb,hf,↓simT_pick_f,go_sem,Nat.reduceEqDiff,Nat.reduceBEq,Nat.reduceAdd,binO]
       refine vks_dcallp (.int .i64 0) (by simp only [go_sem,Nat.reduceEqDiff]) (fun hg => by simp only [go_sem,Nat.reduceEqDiff] at hg) ?_ ?_
       ·simp only [hb,↓simT_pick_f,go_sem,Nat.reduceLeDiff,Nat.reduceEqDiff,Nat.reduceBEq,Nat.reduceAdd,binO]
       simp only [↓simT_pick_t,go_sem,Nat.reduceEqDiff,Nat.reduceBEq,binO]
      ·by_cases hk0 : k = 0
       ·have e0 : decide ((k : Int) > 0) = false := by rw [decide_eq_false_iff_not]; omega
        have e0' : (k == 0) = true := by simpa using hk0
        have ht : allN (oneAt apex ss) (k + 1) = true := allN_succ hP (by rw [hone,hA,hB,e0']; rfl)
        simp only [e0,hb,↓simT_pick_f,go_sem,Nat.reduceEqDiff,Nat.reduceBEq,Nat.reduceAdd,binO]
        refine vks_dcallp (.int .i64 0) (by simp only [go_sem,Nat.reduceEqDiff]) (fun hg => by simp only [go_sem,Nat.reduceEqDiff] at hg) ?_ ?_
        ·simp only [e0,hb,↓simT_pick_f,go_sem,Nat.reduceLeDiff,Nat.reduceEqDiff,Nat.reduceBEq,Nat.reduceAdd,binO]
        simp only [ht,↓simT_pick_f,go_sem,Nat.reduceEqDiff,Nat.reduceBEq,binO]
        exact ⟨hlt,wrapS (by omega)⟩
       ·have e0 : decide ((k : Int) > 0) = true := by rw [decide_eq_true_eq]; omega
        have e0' : (k == 0) = false := by simpa using hk0
        have e1 : IntKind.i64.wrap ((k : Int) - 1) = ((k - 1 : Nat) : Int) := by rw [wrapI] <;> omega
        have hj1 := (hi (k - 1) (by omega)).1
        have hj2 := take_of_take (hi (k - 1) (by omega)).2 0 4 (by omega)
        have hdj := SlAt.one (hdeep (k - 1) (by omega)).1
        obtain ⟨p,hp⟩ : ∃ p,p = sD ss (k - 1) := ⟨_,rfl⟩
        have hp' : ss.getD (k - 1) default = p := hp.symm
        rw [← hp,hA,hB,e0',Bool.true_and,Bool.true_and,Bool.false_or] at hone
        simp only [rSigned,hp',List.drop_zero,List.take_succ_cons,List.take_zero,Nat.add_zero] at hj2
        simp only [e0,e1,toNat_ofNat',hb,hj2,go_sem,Nat.reduceEqDiff,Nat.reduceBEq,Nat.reduceAdd,binO]
        refine ⟨⟨by omega,by omega⟩,by omega,?_⟩
        refine vks_dcallp _ (by simp only [go_sem,Nat.reduceEqDiff]) (fun _ => ⟨by simp only [go_sem,Nat.reduceEqDiff],fn207 h4 p.name s.name p.type s.type p.life s.life (d (k - 1)) (d k) hdj hd1⟩) ?_ ?_
        ·simp only [e0,e1,toNat_ofNat',hb,hj2,go_sem,Nat.reduceLeDiff,Nat.reduceEqDiff,Nat.reduceBEq,Nat.reduceAdd,binO]
        cases hC : decide (rSetOrder p.name s.name p.type s.type ≥ 0)
        ·have ht : allN (oneAt apex ss) (k + 1) = true := allN_succ hP (by rw [hone,hC]; rfl)
         simp only [hC,ht,go_sem,Nat.reduceEqDiff,Nat.reduceBEq,binO]
         exact ⟨hlt,wrapS (by omega)⟩
        ·have hf : q0 = false := by rw [hq0]; exact allN_false hlt (by rw [hone,hC]; rfl)
         simp only [hC,hf,go_sem,Nat.reduceEqDiff,Nat.reduceBEq,binO]
    ·have hdl : decide ((k : Int) < (ss.length : Int)) = false := by simpa using hlt
     have : k = ss.length := by omega
     subst this
     rw [hP] at hq0
     simp only [hdl,hq0,go_sem,Nat.reduceEqDiff,Nat.reduceBEq,Nat.reduceAdd,binO]
   ·have e3 : decide ((ss.length : Int) > 20000) = true := by rw [decide_eq_true_eq]; omega
    have e3' : decide (ss.length ≤ 20000) = false := by rw [decide_eq_false_iff_not]; exact h3
    rw [e3',Bool.false_and] at hq0
    simp only [e3,hq0,go_sem,Nat.reduceEqDiff,Nat.reduceBEq,Nat.reduceAdd,binO]
  ·rw [h2,Bool.not_true,Bool.false_and,Bool.false_and] at hq0
   simp only [hq0,↓simT_pick_t,go_sem,Nat.reduceEqDiff,Nat.reduceBEq,Nat.reduceAdd,binO]
end Go.SL
/- Contracts: the reference's numbers, and hints. -/
namespace Go.SL
open Go
variable {E : Env} {H : Hp}
theorem SlAt.int {v : Value} {l : List Int} (h : IntsAt H v l) {k : Nat} (hk : k < l.length) : ∃ b o c cap vs wr, v = .slice (some ⟨b, o, none⟩) l.length cap ∧ H b = some (.row vs c wr) ∧ vs.getD (o + k) undef = .int .i64 (l.getD k 0) ∧ o + k + 1 ≤ vs.length := by
 obtain ⟨a,cap,rfl,hsp,hr⟩ := h
 obtain ⟨b,o,vs,c,wr,rfl,hb,hi⟩ := hr (by omega)
 have h1 := (hi k hk).1
 have h2 := getD_of_take (hi k hk).2 (j := 0) (by omega)
 rw [Nat.mul_one] at h1 h2
 exact ⟨b,o,c,cap,vs,wr,rfl,hb,h2,h1⟩
def numAt (a b : List Int) (k : Nat) : Bool := a.getD k 0 == b.getD k 0
def rNumbers (a b : List Int) : Bool := (a.length == b.length) && allN (numAt a b) a.length
set_option maxHeartbeats 1000000 in
theorem fn190 (h4 : Codes4 E) {v w : Value} {a b : List Int} (hv : IntsAt H v a) (hw : IntsAt H w b) (hn : a.length ≤ 1000000000) (_hm : b.length ≤ 1000000000) : FnP E 190 [v, w] H (.bool (rNumbers a b)) := by
 refine Fn.of_vks h4.c190 (by simp [cf190]) ?_
 simp only [cf190,cf190_0,cf190_1,cf190_2,cf190_3,cf190_4,cf190_6,cf190_7,cf190_5,cf190_8]
 obtain ⟨q0,hq0⟩ : ∃ y,y = rNumbers a b := ⟨_,rfl⟩
 rw [← hq0]
 unfold rNumbers at hq0
 obtain ⟨a1,c1,rfl⟩ := SlAt.sl hv
 obtain ⟨a2,c2,rfl⟩ := SlAt.sl hw
 by_cases hl : a.length = b.length
 ·have e : ((a.length : Int) != (b.length : Int)) = false := by simp [hl]
  have e' : (a.length == b.length) = true := by simpa using hl
  rw [e',Bool.true_and] at hq0
  simp only [e,go_sem,Nat.reduceEqDiff,Nat.reduceBEq,reduceCtorEq,binO]
  refine vks_loopN a.length 0 (fun k => [(0,⟨true,.val (.slice a1 a.length c1)⟩),(1,⟨true,.val (.slice a2 b.length c2)⟩),(5,⟨true,.val (.int .i64 k)⟩)]) (fun k => allN (numAt a b) k = true) (Nat.zero_le _) rfl rfl ?_
  intro k hk hP
  by_cases hlt : k < a.length
  ·have hdl : decide ((k : Int) < (a.length : Int)) = true := by simpa using hlt
   obtain ⟨x,o,c,cap,vs,wr,hs,hb,hg,hl1⟩ := SlAt.int hv hlt
   obtain ⟨x',o',c',cap',vs',wr',hs',hb',hg',hl1'⟩ := SlAt.int hw (k := k) (by omega)
   cases hs
   cases hs'
   have hna : numAt a b k = (a.getD k 0 == b.getD k 0) := rfl
   cases h3 : (a.getD k 0 == b.getD k 0)
   ·have e3 : (a.getD k 0 != b.getD k 0) = true := by rw [bne,h3]; rfl
    have hf : q0 = false := by rw [hq0]; exact allN_false hlt (by rw [hna,h3])
    simp only [hdl,Nat.mul_one,hb,hb',hg,hg',e3,hf,go_sem,Nat.reduceEqDiff,Nat.reduceBEq,reduceCtorEq,binO]
    exact ⟨⟨by omega,by omega⟩,by omega,⟨by omega,by omega⟩,by omega⟩
   ·have e3 : (a.getD k 0 != b.getD k 0) = false := by rw [bne,h3]; rfl
    have ht : allN (numAt a b) (k + 1) = true := allN_succ hP (by rw [hna,h3])
    simp only [hdl,Nat.mul_one,hb,hb',hg,hg',e3,ht,go_sem,Nat.reduceEqDiff,Nat.reduceBEq,reduceCtorEq,binO]
    exact ⟨⟨by omega,by omega⟩,by omega,⟨by omega,by omega⟩,by omega,hlt,wrapS (by omega)⟩
  ·have hdl : decide ((k : Int) < (a.length : Int)) = false := by simpa using hlt
   have : k = a.length := by omega
   rw [this] at hP
   rw [hP] at hq0
   simp only [this,hq0,Int.lt_irrefl,go_sem,Nat.reduceEqDiff,Nat.reduceBEq,reduceCtorEq,binO,decF]
 ·have e : ((a.length : Int) != (b.length : Int)) = true := by simp; omega
  have e' : (a.length == b.length) = false := by simpa using hl
  rw [e',Bool.false_and] at hq0
  simp only [e,hq0,go_sem,Nat.reduceEqDiff,Nat.reduceBEq,reduceCtorEq,binO]
end Go.SL
/- Contracts: a time in stretches. -/
namespace Go.SL
open Go
variable {E : Env} {H : Hp}
def hasAt (l : List SpanD) (t : Int) (i : Nat) : Bool := decide ((l.getD i default).from_ ≤ t) && decide (t < (l.getD i default).till)
set_option maxHeartbeats 1000000 in
theorem fn187 (h4 : Codes4 E) {v : Value} {l : List SpanD} (t : Int) (hv : SpansAt H v l) (hn : l.length ≤ 1000000000) : FnP E 187 [v, .int .i64 t] H (.bool (hasB l t)) := by
 obtain ⟨a,cap,rfl,hsp,hr⟩ := hv
 refine Fn.of_vks h4.c187 (by simp [cf187]) ?_
 simp only [cf187,cf187_0,cf187_1,cf187_2,cf187_4,cf187_5,cf187_3,cf187_6]
 obtain ⟨q0,hq0⟩ : ∃ y,y = hasB l t := ⟨_,rfl⟩
 rw [← hq0]
 have hq1 : q0 = anyN (hasAt l t) l.length := hq0
 simp only [go_sem,Nat.reduceEqDiff,Nat.reduceBEq,reduceCtorEq]
 refine vks_loopN l.length 0 (fun k => [(0,⟨true,.val (.slice a l.length cap)⟩),(1,⟨true,.val (.int .i64 t)⟩),(5,⟨true,.val (.int .i64 k)⟩)]) (fun k => anyN (hasAt l t) k = false) (Nat.zero_le _) rfl rfl ?_
 intro k hk hP
 by_cases hlt : k < l.length
 ·have hdl : decide ((k : Int) < (l.length : Int)) = true := by simpa using hlt
  obtain ⟨b,o,vs,c,wr,rfl,hb,hi⟩ := hr (by omega)
  have hi1 := (hi k hlt).1
  have hi2 := (hi k hlt).2
  have v0 := getD_of_take hi2 (j := 0) (by omega)
  have v1 := getD_of_take hi2 (j := 1) (by omega)
  simp only [rSpan,List.getD_cons_zero,List.getD_cons_succ,Nat.add_zero] at v0 v1
  have hna : hasAt l t k = (decide ((l.getD k default).from_ ≤ t) && decide (t < (l.getD k default).till)) := rfl
  cases h1 : decide ((l.getD k default).from_ ≤ t)
  ·have ht : anyN (hasAt l t) (k + 1) = false := by show (anyN (hasAt l t) k || hasAt l t k) = false; rw [hP,hna,h1]; rfl
   simp only [hdl,hb,v0,v1,h1,ht,↓simT_pick_f,go_sem,Nat.reduceEqDiff,Nat.reduceBEq,reduceCtorEq,binO]
   exact ⟨⟨by omega,by omega⟩,by omega,hlt,wrapS (by omega)⟩
  ·cases h2 : decide (t < (l.getD k default).till)
   ·have ht : anyN (hasAt l t) (k + 1) = false := by show (anyN (hasAt l t) k || hasAt l t k) = false; rw [hP,hna,h1,h2]; rfl
    simp only [hdl,hb,v0,v1,h1,h2,ht,go_sem,Nat.reduceEqDiff,Nat.reduceBEq,reduceCtorEq,binO]
    exact ⟨⟨by omega,by omega⟩,by omega,⟨by omega,by omega⟩,by omega,hlt,wrapS (by omega)⟩
   ·have hf : q0 = true := by rw [hq1]; exact anyN_true hlt (by rw [hna,h1,h2]; rfl)
    simp only [hdl,hb,v0,v1,h1,h2,hf,go_sem,Nat.reduceEqDiff,Nat.reduceBEq,reduceCtorEq,binO]
    exact ⟨⟨by omega,by omega⟩,by omega,⟨by omega,by omega⟩,by omega⟩
 ·have hdl : decide ((k : Int) < (l.length : Int)) = false := by simpa using hlt
  have : k = l.length := by omega
  subst this
  rw [hP] at hq1
  simp only [hdl,hq1,go_sem,Nat.reduceEqDiff,Nat.reduceBEq,reduceCtorEq,binO]
end Go.SL
/- Contracts: the reference's hints. -/
namespace Go.SL
open Go
variable {E : Env} {H : Hp}
def hintAt (l : List Int) (k : Nat) : Bool := !(decide (l.getD k 0 < 1) || decide (l.getD k 0 > 1000000))
def rRoots (name : Bs) (t l : Int) (ds : List DatumD) (hints : List Int) : Bool := allN (hintAt hints) hints.length && (rSet name t l ds && t == 6 && name == [46] && decide ((hints.length : Int) ≥ 1) && decide ((hints.length : Int) ≤ 8))
set_option maxHeartbeats 1000000 in
theorem fn193 (h4 : Codes4 E) (name : Bs) (t l : Int) (ds : List DatumD) {z w : Value} {hints : List Int} (hz : DataAt H z ds) (hw : IntsAt H w hints) (hh : hints.length ≤ 1000000000) :
  FnP E 193 [.agg #[S name,.int .i64 t,.int .i64 l,z],w] H (.bool (rRoots name t l ds hints)) := by
 refine Fn.of_vks h4.c193 (by simp [cf193]) ?_
 simp only [cf193,cf193_0,cf193_1,cf193_2,cf193_4,cf193_5,cf193_3,cf193_6,cf193_7]
 obtain ⟨q0,hq0⟩ : ∃ y,y = rRoots name t l ds hints := ⟨_,rfl⟩
 rw [← hq0]
 unfold rRoots at hq0
 have hz1 := SlAt.one hz
 obtain ⟨a1,c1,rfl⟩ := SlAt.sl hw
 simp only [go_sem,Nat.reduceEqDiff,Nat.reduceBEq,reduceCtorEq]
 refine vks_loopN hints.length 0 (fun k => [(1,⟨true,.val (.slice a1 hints.length c1)⟩),(2,⟨true,.box [S name,.int .i64 t,.int .i64 l,z]⟩),(5,⟨true,.val (.int .i64 k)⟩)]) (fun k => allN (hintAt hints) k = true) (Nat.zero_le _) rfl rfl ?_
 intro k hk hP
 by_cases hlt : k < hints.length
 ·have hdl : decide ((k : Int) < (hints.length : Int)) = true := by simpa using hlt
  obtain ⟨x,o,c,cap,vs,wr,hs,hb,hg,hl1⟩ := SlAt.int hw hlt
  cases hs
  have hna : hintAt hints k = !(decide (hints.getD k 0 < 1) || decide (hints.getD k 0 > 1000000)) := rfl
  cases h1 : decide (hints.getD k 0 < 1)
  ·cases h2 : decide (hints.getD k 0 > 1000000)
   ·have ht : allN (hintAt hints) (k + 1) = true := allN_succ hP (by rw [hna,h1,h2]; rfl)
    simp only [hdl,Nat.mul_one,hb,hg,h1,h2,ht,go_sem,Nat.reduceEqDiff,Nat.reduceBEq,Nat.reduceAdd,binO]
    exact ⟨⟨by omega,by omega⟩,by omega,⟨by omega,by omega⟩,by omega,hlt,wrapS (by omega)⟩
   ·have hf : q0 = false := by rw [hq0,allN_false hlt (by rw [hna,h1,h2]; rfl)]; rfl
    simp only [hdl,Nat.mul_one,hb,hg,h1,h2,hf,go_sem,Nat.reduceEqDiff,Nat.reduceBEq,Nat.reduceAdd,binO]
    exact ⟨⟨by omega,by omega⟩,by omega,⟨by omega,by omega⟩,by omega⟩
  ·have hf : q0 = false := by rw [hq0,allN_false hlt (by rw [hna,h1]; rfl)]; rfl
   simp only [hdl,Nat.mul_one,hb,hg,h1,hf,↓simT_pick_t,go_sem,Nat.reduceEqDiff,Nat.reduceBEq,Nat.reduceAdd,binO]
   exact ⟨⟨by omega,by omega⟩,by omega⟩
 ·have hdl : decide ((k : Int) < (hints.length : Int)) = false := by simpa using hlt
  have : k = hints.length := by omega
  subst this
  rw [hP,Bool.true_and] at hq0
  simp only [hdl,go_sem,Nat.reduceEqDiff,Nat.reduceBEq,Nat.reduceAdd,binO]
  refine vks_callp _ (by simp only [go_sem]) (fun _ => ⟨by simp only [go_sem,Nat.reduceEqDiff],fn200 h4 name t l ds hz⟩) ?_
  simp only [← hq0,go_sem,Nat.reduceLeDiff,Nat.reduceEqDiff,Nat.reduceBEq,Nat.reduceAdd,binO]
end Go.SL
