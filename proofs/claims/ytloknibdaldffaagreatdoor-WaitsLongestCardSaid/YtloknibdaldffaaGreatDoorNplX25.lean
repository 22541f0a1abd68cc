/- Contracts: the reference's hosts. -/
import Derived.Test.YtloknibdaldffaaGreatDoorNplX9
import Derived.Test.YtloknibdaldffaaGreatDoorNplQ
import Derived.Test.YtloknibdaldffaaGreatDoorNplO7
import Derived.Test.YtloknibdaldffaaGreatDoorNplT14
import Derived.Test.YtloknibdaldffaaGreatDoorNplX24
namespace Go.SL
open Go
variable {E : Env} {H : Hp}
def hD (hs : List HostD) (k : Nat) : HostD := hs.getD k default
def hostBad (h : HostD) : Bool := !rName h.name || rWild h.name || decide (h.addr < 1) || decide (h.addr > 1000000) || decide (h.owner < 0) || decide (h.owner > 31)
def hostNew (hs : List HostD) (k j : Nat) : Bool := !((hD hs j).addr == (hD hs k).addr)
def hostAt (hs : List HostD) (k : Nat) : Bool := !hostBad (hD hs k) && allN (hostNew hs k) k
def rHosts (hs : List HostD) : Bool := decide (hs.length ≤ 64) && allN (hostAt hs) hs.length
set_option maxHeartbeats 1000000 in
theorem fn192 (h4 : Codes4 E) {v : Value} (hs : List HostD) (hv : HostsAt H v hs) : FnP E 192 [v] H (.bool (rHosts hs)) := by
 obtain ⟨a,cap,rfl,hsp,hr⟩ := hv
 refine Fn.of_vks h4.c192 (by simp [cf192]) ?_
 simp only [cf192,cf192_0,cf192_1,cf192_2,cf192_3,cf192_4,cf192_6,cf192_7,cf192_8,cf192_9,cf192_10,cf192_11,cf192_13,cf192_14,cf192_12,cf192_5,cf192_15]
 obtain ⟨q0,hq0⟩ : ∃ y,y = rHosts hs := ⟨_,rfl⟩
 rw [← hq0]
 unfold rHosts at hq0
 by_cases h64 : hs.length ≤ 64
 ·have e1 : decide ((hs.length : Int) > 64) = false := by rw [decide_eq_false_iff_not]; omega
  have e1' : decide (hs.length ≤ 64) = true := by rw [decide_eq_true_eq]; exact h64
  rw [e1',Bool.true_and] at hq0
  simp only [e1,go_sem,Nat.reduceEqDiff,Nat.reduceBEq,reduceCtorEq,binO]
  refine vks_loopN hs.length 0 (fun k => [(0,⟨true,.val (.slice a hs.length cap)⟩),(3,⟨true,.val (.int .i64 k)⟩)]) (fun k => allN (hostAt hs) k = true) (Nat.zero_le _) rfl rfl ?_
  intro k hk hP
  by_cases hlt : k < hs.length
  ·have hdl : decide ((k : Int) < (hs.length : Int)) = true := by simpa using hlt
   obtain ⟨b,o,vs,c,wr,rfl,hb,hi⟩ := hr (by omega)
   have hi1 := (hi k hlt).1
   have hi2 := (hi k hlt).2
   obtain ⟨h,hh⟩ : ∃ h,h = hD hs k := ⟨_,rfl⟩
   have hh' : hs.getD k default = h := hh.symm
   simp only [rHost,hh'] at hi2
   have hat : hostAt hs k = (!hostBad h && allN (hostNew hs k) k) := by rw [hh]; rfl
   obtain ⟨q1,hq1⟩ : ∃ y,y = hostBad h := ⟨_,rfl⟩
   have hq1' := hq1
   unfold hostBad at hq1'
   rw [← hq1] at hat
   simp only [hdl,hb,hi2,go_sem,Nat.reduceLeDiff,Nat.reduceEqDiff,Nat.reduceBEq,Nat.reduceAdd,reduceCtorEq,binO]
   refine ⟨⟨by omega,by omega⟩,hi1,?_⟩
   refine vks_callp _ (by simp only [go_sem]) (fun _ => ⟨by simp only [go_sem,Nat.reduceEqDiff,reduceCtorEq],fn198 h4 h.name⟩) ?_
   simp only [go_sem,Nat.reduceLeDiff,Nat.reduceEqDiff,Nat.reduceBEq,Nat.reduceAdd,reduceCtorEq]
   refine vks_callp _ (by simp only [go_sem,Nat.reduceEqDiff,reduceCtorEq]) (fun hg => ⟨by simp only [go_sem,Nat.reduceEqDiff,reduceCtorEq] at hg ⊢; exact hg,fn199 h4 h.name (Nat.le_trans (rName_len (by simpa only [go_sem,Nat.reduceLT,Nat.reduceLeDiff,Nat.reduceEqDiff,Nat.reduceBEq,Nat.reduceAdd,Nat.reduceMul,Nat.reduceSub,reduceIte,reduceCtorEq,Int.reduceToNat,Int.reduceLE,Int.reduceEq,Int.reduceNe,Int.reduceLT,Int.reduceAdd,Int.reduceSub] using hg)) (by omega))⟩) ?_
   simp only [← hq1',go_sem,Nat.reduceLeDiff,Nat.reduceEqDiff,Nat.reduceBEq,Nat.reduceAdd,reduceCtorEq,binO]
   refine ⟨fun h1 => by rw [hq0]; exact (allN_false hlt (by rw [hat,h1]; rfl)).symm,fun h1 => ?_⟩
   rw [h1,Bool.not_false,Bool.true_and] at hat
   refine vks_loopN k 0 (fun j => [(0,⟨true,.val (.slice (some ⟨b,o,none⟩) hs.length cap)⟩),(3,⟨true,.val (.int .i64 k)⟩),(4,⟨true,.box [S h.name,.int .i64 h.addr,.int .i64 h.owner]⟩),(6,⟨true,.val (.int .i64 j)⟩)]) (fun j => allN (hostNew hs k) j = true) (Nat.zero_le _) rfl rfl ?_
   intro j hj hPj
   by_cases hlj : j < k
   ·have hdj : decide ((j : Int) < (k : Int)) = true := by simpa using hlj
    have hj1 := (hi j (by omega)).1
    have w1 := getD_of_take (hi j (by omega)).2 (j := 1) (by omega)
    simp only [rHost,List.getD_cons_zero,List.getD_cons_succ] at w1
    have hnw : hostNew hs k j = !((hs.getD j default).addr == h.addr) := by rw [hh]; rfl
    cases h3 : ((hs.getD j default).addr == h.addr)
    ·have ht : allN (hostNew hs k) (j + 1) = true := allN_succ hPj (by rw [hnw,h3]; rfl)
     simp only [hdj,hb,w1,h3,ht,go_sem,Nat.reduceLeDiff,Nat.reduceEqDiff,Nat.reduceBEq,Nat.reduceAdd,reduceCtorEq,binO]
     exact ⟨⟨by omega,by omega⟩,by omega,hlj,wrapS (by omega)⟩
    ·have hf : q0 = false := by rw [hq0]; exact allN_false hlt (by rw [hat]; exact allN_false hlj (by rw [hnw,h3]; rfl))
     simp only [hdj,hb,w1,h3,hf,go_sem,Nat.reduceLeDiff,Nat.reduceEqDiff,Nat.reduceBEq,Nat.reduceAdd,reduceCtorEq,binO]
     exact ⟨⟨by omega,by omega⟩,by omega⟩
   ·have hdj : decide ((j : Int) < (k : Int)) = false := by simpa using hlj
    have : j = k := by omega
    subst this
    have ht : allN (hostAt hs) (j + 1) = true := allN_succ hP (by rw [hat]; exact hPj)
    simp only [hdj,ht,go_sem,Nat.reduceEqDiff,Nat.reduceBEq,Nat.reduceAdd,reduceCtorEq,binO]
    exact ⟨hlt,wrapS (by omega)⟩
  ·have hdl : decide ((k : Int) < (hs.length : Int)) = false := by simpa using hlt
   have : k = hs.length := by omega
   subst this
   rw [hP] at hq0
   simp only [hdl,hq0,go_sem,Nat.reduceEqDiff,Nat.reduceBEq,Nat.reduceAdd,reduceCtorEq,binO]
 ·have e1 : decide ((hs.length : Int) > 64) = true := by rw [decide_eq_true_eq]; omega
  have e1' : decide (hs.length ≤ 64) = false := by rw [decide_eq_false_iff_not]; exact h64
  rw [e1',Bool.false_and] at hq0
  simp only [e1,hq0,go_sem,Nat.reduceEqDiff,Nat.reduceBEq,reduceCtorEq,binO]
end Go.SL
/- Contracts: few copies (the reference's smallness). -/
namespace Go.SL
open Go
variable {E : Env} {H : Hp}
def setFew (ss : List SignedD) (i : Nat) : Bool := !(decide ((ss.getD i default).data.length > 20) || decide ((ss.getD i default).sigs.length > 20))
def few6 (ss : List SignedD) : Bool := allN (setFew ss) (min ss.length 101) && decide (ss.length ≤ 100)
theorem dgt (n k : Nat) : decide ((n : Int) > (k : Int)) = decide (n > k) := by rw [Bool.eq_iff_iff,decide_eq_true_eq,decide_eq_true_eq]; omega
theorem dle (n k : Nat) : decide ((n : Int) ≤ (k : Int)) = decide (n ≤ k) := by rw [Bool.eq_iff_iff,decide_eq_true_eq,decide_eq_true_eq]; omega
theorem fn11 (hE : Codes E) (apex : Bs) {v : Value} {ss : List SignedD} (hss : SetsAt H v ss) : FnP E 11 [.agg #[S apex, v]] H (.bool (few6 ss)) := by
 obtain ⟨d,g,⟨a,cap,rfl,hs,hr⟩,hdeep⟩ := hss
 refine Fn.of_vks hE.c11 (by simp [cf11]) ?_
 simp only [cf11,cf11_0,cf11_1,cf11_2,cf11_4,cf11_5,cf11_3,cf11_6]
 simp only [go_sem,Nat.reduceEqDiff,Nat.reduceBEq,reduceCtorEq]
 refine vks_loopN (min ss.length 101) 0 (fun k => [(1,⟨true,.box [S apex,.slice a ss.length cap]⟩),(3,⟨true,.val (.int .i64 k)⟩)]) (fun k => allN (setFew ss) k = true) (Nat.zero_le _) rfl rfl ?_
 intro k hk hP
 by_cases hlt : k < min ss.length 101
 ·have hd : (decide ((k : Int) < (ss.length : Int)) && decide ((k : Int) ≤ 100)) = true := by rw [Bool.and_eq_true,decide_eq_true_eq,decide_eq_true_eq]; omega
  have hd' : decide ((k : Int) < (ss.length : Int)) = true := by rw [decide_eq_true_eq]; omega
  have hd'' : decide ((k : Int) ≤ 100) = true := by rw [decide_eq_true_eq]; omega
  have hlt' : k < ss.length := by omega
  have hF : setFew ss k = false → false = few6 ss := fun h => by rw [few6,allN_false hlt h]; rfl
  have hr' := hr (by omega)
  obtain ⟨b,o,vs,c,wr,ha,hb,hi⟩ := hr'
  subst ha
  have hi1 := (hi k hlt').1
  have hx3 := getD_of_take (hi k hlt').2 (j := 3) (by omega)
  have hx4 := getD_of_take (hi k hlt').2 (j := 4) (by omega)
  have hdk := (hdeep k hlt').1
  have hgk := (hdeep k hlt').2
  obtain ⟨ad,cd,hde,_⟩ := hdk
  obtain ⟨ag,cg,hge,_⟩ := hgk
  have hsf : setFew ss k = !(decide (((ss.getD k default).data.length : Int) > 20) || decide (((ss.getD k default).sigs.length : Int) > 20)) := by
   have e1 := dgt (ss.getD k default).data.length 20
   have e2 := dgt (ss.getD k default).sigs.length 20
   unfold setFew; rw [← e1,← e2]; rfl
  simp only [hd',hd'',hb,hx3,hx4,rSigned,hde,hge,go_sem,Nat.reduceEqDiff,Nat.reduceBEq,Nat.reduceAdd,binO]
  refine ⟨⟨by omega,by omega⟩,by omega,fun h => ⟨h,h,by omega,by omega⟩,fun h => ⟨h,by omega⟩,fun h => hF ?_,fun h => ⟨hlt,wrapS (by omega),allN_succ hP ?_⟩⟩
  ·rw [hsf,h]; rfl
  ·rw [hsf,h]; rfl
 ·have hd : (decide ((k : Int) < (ss.length : Int)) && decide ((k : Int) ≤ 100)) = false := by
   rw [Bool.and_eq_false_iff,decide_eq_false_iff_not,decide_eq_false_iff_not]; omega
  have hk' : k = min ss.length 101 := by omega
  simp only [hd,go_sem,Nat.reduceEqDiff,Nat.reduceBEq,Nat.reduceAdd,binO]
  have e1 := dle ss.length 100
  rw [few6,← hk',hP,Bool.true_and,← e1]; rfl
theorem setFew_of {ss : List SignedD} (h : few6 ss = true) : ss.length ≤ 100 ∧ ∀ i, i < ss.length → (ss.getD i default).data.length ≤ 20 ∧ (ss.getD i default).sigs.length ≤ 20 := by
 simp only [few6,Bool.and_eq_true,decide_eq_true_eq,allN_iff] at h
 refine ⟨by omega,fun i hi => ?_⟩
 have := h.1 i (by omega)
 simp only [setFew,Bool.not_eq_true',Bool.or_eq_false_iff,decide_eq_false_iff_not] at this
 omega
def few21 (h : HistD) : Bool := allN (fun i => few6 (h.copies.getD i default).sets && !decide ((h.copies.getD i default).apex.length > 100)) (min h.copies.length 21) && allN (fun i => !decide ((h.hosts.getD i default).name.length > 100)) (min h.hosts.length 71) &&
 (decide (h.copies.length ≤ 20) && decide (h.hosts.length ≤ 70) && decide (h.hints.length ≤ 20) && decide (h.adata.length ≤ 20))
set_option maxHeartbeats 1000000 in
theorem fn191 (hE : Codes E) (h4 : Codes4 E) {v : Value} {w : HistD} (hw : HistAt H v w) : FnP E 191 [v] H (.bool (few21 w)) := by
 obtain ⟨vh,vz,vd,vi,rfl,h1,h2,h3,h5⟩ := hw
 obtain ⟨ah,ch,rfl,_,hrh⟩ := h1
 obtain ⟨z,⟨a,cap,rfl,hs,hr⟩,hdeep⟩ := h2
 obtain ⟨ad,cd,rfl,_⟩ := h3
 obtain ⟨ai,ci,rfl,_⟩ := h5
 refine Fn.of_vks h4.c191 (by simp [cf191]) ?_
 simp only [cf191,cf191_0,cf191_1,cf191_2,cf191_4,cf191_5,cf191_3,cf191_6,cf191_7,cf191_9,cf191_10,cf191_8,cf191_11]
 simp only [go_sem,Nat.reduceEqDiff,Nat.reduceBEq,reduceCtorEq]
 obtain ⟨F1,hF1⟩ : ∃ F,F = fun i => few6 (w.copies.getD i default).sets && !decide ((w.copies.getD i default).apex.length > 100) := ⟨_,rfl⟩
 obtain ⟨F2,hF2⟩ : ∃ F,F = fun i => !decide ((w.hosts.getD i default).name.length > 100) := ⟨_,rfl⟩
 have hfw : few21 w = (allN F1 (min w.copies.length 21) && allN F2 (min w.hosts.length 71) && (decide (w.copies.length ≤ 20) && decide (w.hosts.length ≤ 70) && decide (w.hints.length ≤ 20) && decide (w.adata.length ≤ 20))) := by rw [hF1,hF2]; rfl
 refine vks_loopN (min w.copies.length 21) 0 (fun k => [(1,⟨true,.box [.slice ah w.hosts.length ch,.slice a w.copies.length cap,S w.aname,.int .i64 w.atype,.int .i64 w.alife,.slice ad w.adata.length cd,.slice ai w.hints.length ci,.int .i64 w.drift,.int .i64 w.end_]⟩),(3,⟨true,.val (.int .i64 k)⟩)]) (fun k => allN F1 k = true) (Nat.zero_le _) rfl rfl ?_
 intro k hk hP
 by_cases hlt : k < min w.copies.length 21
 ·have hd' : decide ((k : Int) < (w.copies.length : Int)) = true := by rw [decide_eq_true_eq]; omega
  have hd'' : decide ((k : Int) ≤ 20) = true := by rw [decide_eq_true_eq]; omega
  have hlt' : k < w.copies.length := by omega
  have hF : F1 k = false → false = few21 w := fun h => by rw [hfw,allN_false hlt h]; rfl
  have hr' := hr (by omega)
  obtain ⟨b,o,vs,c,wr,ha,hb,hi⟩ := hr'
  subst ha
  have hi1 := (hi k hlt').1
  have hx := take_of_take (hi k hlt').2 3 2 (by omega)
  have hx1 := getD_of_take (hi k hlt').2 (j := 3) (by omega)
  simp only [hd',hd'',hb,hx,rCopy,go_sem,Nat.reduceLeDiff,Nat.reduceEqDiff,Nat.reduceBEq,Nat.reduceAdd,binO]
  refine ⟨⟨by omega,by omega⟩,by omega,?_⟩
  refine vks_callp _ ?_ (fun _ => ⟨?_,fn11 hE (w.copies.getD k default).apex (hdeep k hlt')⟩) ?_ <;> simp only [hb,hx1,rCopy,go_sem,Nat.reduceLeDiff,Nat.reduceEqDiff,Nat.reduceBEq,Nat.reduceAdd,binO]
  have hFk : F1 k = !(!few6 (w.copies.getD k default).sets || decide (((w.copies.getD k default).apex.length : Int) > 100)) := by
   have e1 := dgt (w.copies.getD k default).apex.length 100
   rw [hF1,Bool.not_or,Bool.not_not]
   show (few6 _ && !decide _) = _
   rw [← e1]; rfl
  refine ⟨fun h => ⟨h,h,by omega,by omega⟩,fun h => ⟨h,by omega⟩,fun h => hF ?_,fun h => ⟨hlt,wrapS (by omega),allN_succ hP ?_⟩⟩
  ·rw [hFk,h]; rfl
  ·rw [hFk,h]; rfl
 ·have hd : (decide ((k : Int) < (w.copies.length : Int)) && decide ((k : Int) ≤ 20)) = false := by
   rw [Bool.and_eq_false_iff,decide_eq_false_iff_not,decide_eq_false_iff_not]; omega
  have hk' : k = min w.copies.length 21 := by omega
  rw [← hk',hP,Bool.true_and] at hfw
  simp only [hd,go_sem,Nat.reduceLeDiff,Nat.reduceEqDiff,Nat.reduceBEq,Nat.reduceAdd,binO]
  refine vks_loopN (min w.hosts.length 71) 0 (fun k => [(1,⟨true,.box [.slice ah w.hosts.length ch,.slice a w.copies.length cap,S w.aname,.int .i64 w.atype,.int .i64 w.alife,.slice ad w.adata.length cd,.slice ai w.hints.length ci,.int .i64 w.drift,.int .i64 w.end_]⟩),(4,⟨true,.val (.int .i64 k)⟩)]) (fun k => allN F2 k = true) (Nat.zero_le _) rfl rfl ?_
  intro k hk hP2
  by_cases hlt : k < min w.hosts.length 71
  ·have hd' : decide ((k : Int) < (w.hosts.length : Int)) = true := by rw [decide_eq_true_eq]; omega
   have hd'' : decide ((k : Int) ≤ 70) = true := by rw [decide_eq_true_eq]; omega
   have hlt' : k < w.hosts.length := by omega
   have hF : F2 k = false → false = few21 w := fun h => by rw [hfw,allN_false hlt h]; rfl
   have hr' := hrh (by omega)
   obtain ⟨b,o,vs,c,wr,ha,hb,hi⟩ := hr'
   subst ha
   have hi1 := (hi k hlt').1
   have hx := getD_of_take (hi k hlt').2 (j := 0) (by omega)
   simp only [Nat.add_zero] at hx
   have hFk : F2 k = !decide (((w.hosts.getD k default).name.length : Int) > 100) := by
    have e1 := dgt (w.hosts.getD k default).name.length 100
    rw [hF2]
    show (!decide _) = _
    rw [← e1]; rfl
   simp only [hd',hd'',hb,hx,rHost,go_sem,Nat.reduceLeDiff,Nat.reduceEqDiff,Nat.reduceBEq,Nat.reduceAdd,binO]
   refine ⟨⟨by omega,by omega⟩,by omega,fun h => hF ?_,fun h => ⟨hlt,wrapS (by omega),allN_succ hP2 ?_⟩⟩
   ·rw [hFk,h]; rfl
   ·rw [hFk,h]; rfl
  ·have hd : (decide ((k : Int) < (w.hosts.length : Int)) && decide ((k : Int) ≤ 70)) = false := by
    rw [Bool.and_eq_false_iff,decide_eq_false_iff_not,decide_eq_false_iff_not]; omega
   have hk2 : k = min w.hosts.length 71 := by omega
   rw [← hk2,hP2,Bool.true_and] at hfw
   simp only [hd,go_sem,Nat.reduceLeDiff,Nat.reduceEqDiff,Nat.reduceBEq,Nat.reduceAdd,binO]
   have e1 := dle w.copies.length 20
   have e2 := dle w.hosts.length 70
   have e3 := dle w.hints.length 20
   have e4 := dle w.adata.length 20
   rw [hfw,← e1,← e2,← e3,← e4]; rfl
def few38 (h : HistD) : Bool := allN (fun i => !decide ((h.copies.getD i default).sets.length > 30)) (min h.copies.length 8) && (few21 h && decide (h.copies.length ≤ 8))
set_option maxHeartbeats 1000000 in
theorem fn184 (hE : Codes E) (h4 : Codes4 E) {v : Value} {w : HistD} (hw : HistAt H v w) : FnP E 184 [v] H (.bool (few38 w)) := by
 have hf := fn191 hE h4 hw
 obtain ⟨vh,vz,vd,vi,rfl,h1,h2,h3,h5⟩ := hw
 obtain ⟨ah,ch,rfl,_,hrh⟩ := h1
 obtain ⟨z,⟨a,cap,rfl,hs,hr⟩,hdeep⟩ := h2
 obtain ⟨ad,cd,rfl,_⟩ := h3
 obtain ⟨ai,ci,rfl,_⟩ := h5
 refine Fn.of_vks h4.c184 (by simp [cf184]) ?_
 simp only [cf184,cf184_0,cf184_1,cf184_2,cf184_4,cf184_5,cf184_3,cf184_6]
 simp only [go_sem,Nat.reduceEqDiff,Nat.reduceBEq,reduceCtorEq]
 obtain ⟨F1,hF1⟩ : ∃ F,F = fun i => !decide ((w.copies.getD i default).sets.length > 30) := ⟨_,rfl⟩
 have hfw : few38 w = (allN F1 (min w.copies.length 8) && (few21 w && decide (w.copies.length ≤ 8))) := by rw [hF1]; rfl
 refine vks_loopN (min w.copies.length 8) 0 (fun k => [(1,⟨true,.box [.slice ah w.hosts.length ch,.slice a w.copies.length cap,S w.aname,.int .i64 w.atype,.int .i64 w.alife,.slice ad w.adata.length cd,.slice ai w.hints.length ci,.int .i64 w.drift,.int .i64 w.end_]⟩),(3,⟨true,.val (.int .i64 k)⟩)]) (fun k => allN F1 k = true) (Nat.zero_le _) rfl rfl ?_
 intro k hk hP
 by_cases hlt : k < min w.copies.length 8
 ·have hd' : decide ((k : Int) < (w.copies.length : Int)) = true := by rw [decide_eq_true_eq]; omega
  have hd'' : decide ((k : Int) < 8) = true := by rw [decide_eq_true_eq]; omega
  have hlt' : k < w.copies.length := by omega
  have hF : F1 k = false → false = few38 w := fun h => by rw [hfw,allN_false hlt h]; rfl
  obtain ⟨b,o,vs,c,wr,ha,hb,hi⟩ := hr (by omega)
  subst ha
  have hi1 := (hi k hlt').1
  have hx := getD_of_take (hi k hlt').2 (j := 4) (by omega)
  obtain ⟨az,cz,hze⟩ : ∃ a c,z k = .slice a (w.copies.getD k default).sets.length c := by obtain ⟨d,g,h,_⟩ := hdeep k hlt'; exact h.sl
  have hFk : F1 k = !decide (((w.copies.getD k default).sets.length : Int) > 30) := by
   have e1 := dgt (w.copies.getD k default).sets.length 30
   rw [hF1]
   show (!decide _) = _
   rw [← e1]; rfl
  simp only [rCopy,hze,List.getD_cons_zero,List.getD_cons_succ] at hx
  simp only [hd',hd'',hb,hx,go_sem,Nat.reduceLeDiff,Nat.reduceEqDiff,Nat.reduceBEq,Nat.reduceAdd,binO]
  refine ⟨⟨by omega,by omega⟩,by omega,fun h => hF ?_,fun h => ⟨hlt,wrapS (by omega),allN_succ hP ?_⟩⟩
  ·rw [hFk,h]; rfl
  ·rw [hFk,h]; rfl
 ·have hd : (decide ((k : Int) < (w.copies.length : Int)) && decide ((k : Int) < 8)) = false := by
   rw [Bool.and_eq_false_iff,decide_eq_false_iff_not,decide_eq_false_iff_not]; omega
  have hk' : k = min w.copies.length 8 := by omega
  rw [← hk',hP,Bool.true_and] at hfw
  simp only [hd,go_sem,Nat.reduceLeDiff,Nat.reduceEqDiff,Nat.reduceBEq,Nat.reduceAdd,binO]
  refine vks_callp _ (by simp only [go_sem]) (fun _ => ⟨by simp only [go_sem,Nat.reduceEqDiff],hf⟩) ?_
  have e1 := dle w.copies.length 8
  cases hq : few21 w
  ·simp only [hq,hfw,↓simT_pick_f,go_sem,Nat.reduceLeDiff,Nat.reduceEqDiff,Nat.reduceBEq,Nat.reduceAdd,binO]
  ·rw [hq,Bool.true_and] at hfw
   simp only [hfw,go_sem,Nat.reduceLeDiff,Nat.reduceEqDiff,Nat.reduceBEq,Nat.reduceAdd,binO]
   rw [← e1]; rfl
structure FewH (h : HistD) : Prop where
 copies : h.copies.length ≤ 8
 hosts : h.hosts.length ≤ 70
 hints : h.hints.length ≤ 20
 adata : h.adata.length ≤ 20
 sets : ∀ i,i < h.copies.length → (h.copies.getD i default).sets.length ≤ 30
 deep : ∀ i,i < h.copies.length → ∀ j,j < (h.copies.getD i default).sets.length → ((h.copies.getD i default).sets.getD j default).data.length ≤ 20 ∧ ((h.copies.getD i default).sets.getD j default).sigs.length ≤ 20
theorem few38_of {h : HistD} (hf : few38 h = true) : FewH h := by
 simp only [few38,few21,Bool.and_eq_true,decide_eq_true_eq,allN_iff] at hf
 obtain ⟨h1,h2,h3⟩ := hf
 refine ⟨h3,by omega,by omega,by omega,fun i hi => ?_,fun i hi => ?_⟩
 ·have := h1 i (by omega)
  simp only [Bool.not_eq_true',decide_eq_false_iff_not] at this
  omega
 ·exact (setFew_of (h2.1.1 i (by omega)).1).2
end Go.SL
/- Contracts: the reference's valid histories. -/
namespace Go.SL
open Go
variable {E : Env} {H : Hp}
def cD (h : HistD) (k : Nat) : CopyD := h.copies.getD k default
def rcBad (h : HistD) (c : CopyD) : Bool := decide (c.host < 0) || decide (c.host ≥ (h.hosts.length : Int)) || decide (c.from_ < 0) || decide (c.from_ ≥ c.till) || decide (c.till > h.end_) || !rZone c.apex c.sets
def rClash (c d : CopyD) : Bool := d.host == c.host && d.apex == c.apex && decide (d.from_ < c.till) && decide (c.from_ < d.till)
def rcNew (h : HistD) (k j : Nat) : Bool := !rClash (cD h k) (cD h j)
def rcAt (h : HistD) (k : Nat) : Bool := !rcBad h (cD h k) && allN (rcNew h k) k
def rHeadH (h : HistD) : Bool := !rHosts h.hosts || !rRoots h.aname h.atype h.alife h.adata h.hints || decide (h.end_ < 1) || decide (h.end_ > 10000000) || decide (h.drift < 0) || decide (h.drift > 1000) || decide ((h.copies.length : Int) > 4000)
def rHist (h : HistD) : Bool := !rHeadH h && (allN (rcAt h) h.copies.length && decide (((rApx h.copies h.copies.length).length : Int) ≤ 500))
theorem rcAt_apex {h : HistD} {n : Nat} (_hn : n ≤ h.copies.length) (ha : allN (rcAt h) n = true) : ∀ i, i < n → (cD h i).apex.length ≤ 1000000 := by
 intro i hi
 have h1 := allN_iff.1 ha i hi
 unfold rcAt at h1
 rw [Bool.and_eq_true,Bool.not_eq_true'] at h1
 have h2 := h1.1
 unfold rcBad at h2
 rw [Bool.or_eq_false_iff,Bool.not_eq_false'] at h2
 exact rZone_apex h2.2
set_option maxRecDepth 4000 in
set_option maxHeartbeats 4000000 in
theorem fn185 (h4 : Codes4 E) {v : Value} {w : HistD} (hw : HistAt H v w) (hh : w.hints.length ≤ 1000000000) : FnP E 185 [v] H (.bool (rHist w)) := by
 obtain ⟨vh,vz,vd,vi,rfl,g1,g2,g3,g5⟩ := hw
 have f1 := fn192 h4 w.hosts g1
 have f2 := fn193 h4 w.aname w.atype w.alife w.adata g3 g5 hh
 have f3 := fun (ha : w.copies.length ≤ 1000000) (hb : ∀ c ∈ w.copies,c.apex.length ≤ 1000000) => fn195 h4 g2 ha hb
 have o1 := SlAt.one g1
 have o3 := SlAt.one g3
 have o5 := SlAt.one g5
 obtain ⟨ah,ch,rfl⟩ := SlAt.sl g1
 obtain ⟨ad,cd,rfl⟩ := SlAt.sl g3
 obtain ⟨ai,ci,rfl⟩ := SlAt.sl g5
 obtain ⟨z,⟨a,cap,rfl,hs,hr⟩,hdeep⟩ := g2
 refine Fn.of_vks h4.c185 (by simp [cf185]) ?_
 simp only [cf185,cf185_0,cf185_1,cf185_2,cf185_3,cf185_4,cf185_6,cf185_7,cf185_8,cf185_9,cf185_10,cf185_12,cf185_14,cf185_11,cf185_5,cf185_15]
 obtain ⟨q0,hq0⟩ : ∃ y,y = rHist w := ⟨_,rfl⟩
 rw [← hq0]
 unfold rHist at hq0
 obtain ⟨q1,hq1⟩ : ∃ y,y = rHeadH w := ⟨_,rfl⟩
 have hq1' := hq1
 unfold rHeadH at hq1'
 simp only [go_sem,Nat.reduceLeDiff,Nat.reduceEqDiff,Nat.reduceBEq,Nat.reduceAdd,reduceCtorEq]
 refine vks_callp _ (by simp only [go_sem]) (fun _ => ⟨by simp only [go_sem,Nat.reduceEqDiff],f1⟩) ?_
 simp only [go_sem,Nat.reduceLeDiff,Nat.reduceEqDiff,Nat.reduceBEq,Nat.reduceAdd]
 refine vks_callp _ (by simp only [go_sem,Nat.reduceEqDiff]) (fun hg => ⟨by simp only [go_sem,Nat.reduceEqDiff] at hg ⊢; exact ⟨hg,hg⟩,f2⟩) ?_
 simp only [← hq1',go_sem,Nat.reduceLeDiff,Nat.reduceEqDiff,Nat.reduceBEq,Nat.reduceAdd,binO]
 refine ⟨fun h => by rw [hq0,← hq1,h]; rfl,fun h => ?_⟩
 rw [← hq1,h,Bool.not_false,Bool.true_and] at hq0
 have hm : w.copies.length ≤ 4000 := by
  rw [h] at hq1'
  have := hq1'.symm
  simp only [Bool.or_eq_false_iff,decide_eq_false_iff_not] at this
  omega
 refine vks_loopN w.copies.length 0 (fun k => [(1,⟨true,.box [.slice ah w.hosts.length ch,.slice a w.copies.length cap,S w.aname,.int .i64 w.atype,.int .i64 w.alife,.slice ad w.adata.length cd,.slice ai w.hints.length ci,.int .i64 w.drift,.int .i64 w.end_]⟩),(3,⟨true,.val (.int .i64 k)⟩)]) (fun k => allN (rcAt w) k = true) (Nat.zero_le _) rfl rfl ?_
 intro k hk hP
 by_cases hlt : k < w.copies.length
 ·have hdl : decide ((k : Int) < (w.copies.length : Int)) = true := by simpa using hlt
  obtain ⟨b,o,vs,c,wr,ha,hb,hi⟩ := hr (by omega)
  subst ha
  have hi1 := (hi k hlt).1
  have hi2 := (hi k hlt).2
  have hzk := hdeep k hlt
  have hz1 : one1 (z k) = true := by obtain ⟨d,g,h,_⟩ := hzk; exact SlAt.one h
  have hat : rcAt w k = (!rcBad w (cD w k) && allN (rcNew w k) k) := rfl
  obtain ⟨x,hx⟩ : ∃ x,x = cD w k := ⟨_,rfl⟩
  have hx' : w.copies.getD k default = x := hx.symm
  rw [← hx] at hat
  rw [hx'] at hzk
  simp only [rCopy,hx'] at hi2
  obtain ⟨q2,hq2⟩ : ∃ y,y = rcBad w x := ⟨_,rfl⟩
  have hq2' := hq2
  unfold rcBad at hq2'
  rw [← hq2] at hat
  simp only [hdl,hb,hi2,hz1,go_sem,Nat.reduceLeDiff,Nat.reduceEqDiff,Nat.reduceBEq,Nat.reduceAdd,binO]
  refine ⟨⟨by omega,by omega⟩,hi1,fun h => ⟨h,h⟩,fun h => ⟨h,h⟩,fun h => ⟨h,h⟩,?_⟩
  refine vks_callp _ (by simp only [go_sem,Nat.reduceEqDiff]) (fun hg => ⟨by simp only [go_sem,Nat.reduceEqDiff] at hg ⊢; exact hg,fn194 h4 x.apex hzk⟩) ?_
  simp only [← hq2',go_sem,Nat.reduceEqDiff,Nat.reduceBEq]
  refine ⟨fun h1 => by rw [hq0]; have : allN (rcAt w) w.copies.length = false := allN_false hlt (by rw [hat,h1]; rfl); rw [this]; rfl,fun h1 => ?_⟩
  rw [h1,Bool.not_false,Bool.true_and] at hat
  refine vks_loopN k 0 (fun j => [(1,⟨true,.box [.slice ah w.hosts.length ch,.slice (some ⟨b,o,none⟩) w.copies.length cap,S w.aname,.int .i64 w.atype,.int .i64 w.alife,.slice ad w.adata.length cd,.slice ai w.hints.length ci,.int .i64 w.drift,.int .i64 w.end_]⟩),(3,⟨true,.val (.int .i64 k)⟩),(4,⟨true,.box [.int .i64 x.host,.int .i64 x.from_,.int .i64 x.till,S x.apex,z k]⟩),(5,⟨true,.val (.int .i64 j)⟩)]) (fun j => allN (rcNew w k) j = true) (Nat.zero_le _) rfl rfl ?_
  intro j hj hPj
  by_cases hlj : j < k
  ·have hdj : decide ((j : Int) < (k : Int)) = true := by simpa using hlj
   have hj1 := (hi j (by omega)).1
   have hj2 := (hi j (by omega)).2
   have hz2 : one1 (z j) = true := by obtain ⟨d,g,h,_⟩ := hdeep j (by omega); exact SlAt.one h
   have hnw : rcNew w k j = !rClash x (cD w j) := by rw [hx]; rfl
   obtain ⟨d,hd⟩ : ∃ d,d = cD w j := ⟨_,rfl⟩
   have hd' : w.copies.getD j default = d := hd.symm
   rw [← hd] at hnw
   simp only [rCopy,hd'] at hj2
   have hc1 : rClash x d = (d.host == x.host && d.apex == x.apex && decide (d.from_ < x.till) && decide (x.from_ < d.till)) := rfl
   have hjs : IntKind.i64.wrap ((j : Int) + 1) = ((j + 1 : Nat) : Int) := wrapS (by omega)
   simp only [hdj,hb,hj2,hz2,go_sem,Nat.reduceLeDiff,Nat.reduceEqDiff,Nat.reduceBEq,Nat.reduceAdd,reduceCtorEq,binO]
   refine ⟨⟨by omega,by omega⟩,hj1,?_⟩
   simp only [cf185_13,← hc1,go_sem,Nat.reduceLeDiff,Nat.reduceEqDiff,Nat.reduceBEq,Nat.reduceAdd,binO]
   refine ⟨fun h => ⟨h,h⟩,fun h => ⟨h,h⟩,fun h => ⟨h,h⟩,fun h => ?_,fun h => ⟨hlj,hjs,allN_succ hPj (by rw [hnw,h]; rfl)⟩⟩
   have : allN (rcAt w) w.copies.length = false := allN_false hlt (by rw [hat]; exact allN_false hlj (by rw [hnw,h]; rfl))
   rw [hq0,this]; rfl
  ·have hdj : decide ((j : Int) < (k : Int)) = false := by simpa using hlj
   have : j = k := by omega
   subst this
   have ht : allN (rcAt w) (j + 1) = true := allN_succ hP (by rw [hat]; exact hPj)
   simp only [hdj,ht,go_sem,Nat.reduceLeDiff,Nat.reduceEqDiff,Nat.reduceBEq,Nat.reduceAdd,reduceCtorEq,binO]
   exact ⟨hlt,wrapS (by omega)⟩
 ·have hdl : decide ((k : Int) < (w.copies.length : Int)) = false := by simpa using hlt
  have : k = w.copies.length := by omega
  subst this
  rw [hP,Bool.true_and] at hq0
  simp only [hdl,go_sem,Nat.reduceLeDiff,Nat.reduceEqDiff,Nat.reduceBEq,Nat.reduceAdd,binO]
  refine vks_call ?_ (f3 (by omega) ?_) ?_
  ·simp only [go_sem,Nat.reduceEqDiff]
  ·intro c hc
   obtain ⟨i,hi,he⟩ := List.mem_iff_getElem.1 hc
   have := rcAt_apex (Nat.le_refl _) hP i hi
   unfold cD at this
   rw [List.getD_eq_getElem?_getD,List.getElem?_eq_getElem hi,he] at this
   exact this
  rintro u H' ⟨ob,hO,hle,_⟩
  obtain ⟨au,cu,rfl⟩ := hO.sl
  simp only [hq0,go_sem,Nat.reduceEqDiff,Nat.reduceBEq,binO]
  exact hle
end Go.SL
