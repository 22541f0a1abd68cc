/- Contracts: the reference's valid zones. -/
import Derived.Test.YtloknibdaldffaaGreatDoorNplX19
namespace Go.SL
open Go
variable {E : Env} {H : Hp}
def aliasN (ss : List SignedD) : Nat → Bs
 | 0 => []
 | k + 1 => if (sD ss k).type == 3 then (sD ss k).name else aliasN ss k
def lastAt (ss : List SignedD) (k : Nat) : Bs := if !(k == 0) && (sD ss (k - 1)).name == (sD ss k).name then (sD ss k).name else []
def threeBad (al last : Bs) (t : Int) : Bool := last != [] && t == 3 || last != [] && last == al && t != 3 && t != 8
def threeAt (ss : List SignedD) (k : Nat) : Bool := !threeBad (aliasN ss (k + 1)) (lastAt ss k) (sD ss k).type
def rThree (ss : List SignedD) : Bool := allN (threeAt ss) ss.length
theorem nilB : (([] : Bs) == []) = true := rfl
set_option maxRecDepth 4000 in
set_option maxHeartbeats 2000000 in
theorem fn203 (h4 : Codes4 E) (apex : Bs) {v : Value} {ss : List SignedD} (hss : SetsAt H v ss) (hn : ss.length ≤ 1000000000) :
  FnP E 203 [.agg #[S apex,v]] H (.bool (rThree ss)) := by
 obtain ⟨d,g,⟨a,cap,rfl,hsp,hr⟩,hdeep⟩ := hss
 refine Fn.of_vks h4.c203 (by simp [cf203]) ?_
 simp only [cf203,cf203_0,cf203_1,cf203_2,cf203_3,cf203_5,cf203_6,cf203_7,cf203_8,cf203_10,cf203_12,cf203_4,cf203_13]
 obtain ⟨q0,hq0⟩ : ∃ y,y = rThree ss := ⟨_,rfl⟩
 rw [← hq0]
 unfold rThree at hq0
 simp only [go_sem,Nat.reduceEqDiff,Nat.reduceBEq,reduceCtorEq]
 refine vks_loopN ss.length 0 (fun k => [(1,⟨true,.box [S apex,.slice a ss.length cap]⟩),(3,⟨true,.val (S (aliasN ss k))⟩),(4,⟨true,.val (.int .i64 k)⟩)]) (fun k => allN (threeAt ss) k = true) (Nat.zero_le _) rfl rfl ?_
 intro k hk hP
 by_cases hlt : k < ss.length
 ·have hdl : decide ((k : Int) < (ss.length : Int)) = true := by simpa using hlt
  obtain ⟨b,o,vs,c,wr,rfl,hb,hi⟩ := hr (by omega)
  have hi1 := (hi k hlt).1
  have v0 := getD_of_take (hi k hlt).2 (j := 0) (by omega)
  have v1 := getD_of_take (hi k hlt).2 (j := 1) (by omega)
  have hat : threeAt ss k = !threeBad (aliasN ss (k + 1)) (lastAt ss k) (sD ss k).type := rfl
  have hals : aliasN ss (k + 1) = if (sD ss k).type == 3 then (sD ss k).name else aliasN ss k := rfl
  have hlast : lastAt ss k = if !(k == 0) && (sD ss (k - 1)).name == (sD ss k).name then (sD ss k).name else [] := rfl
  obtain ⟨s,hs⟩ : ∃ s,s = sD ss k := ⟨_,rfl⟩
  have hs' : ss.getD k default = s := hs.symm
  rw [← hs] at hat hals hlast
  simp only [rSigned,hs',List.getD_cons_zero,List.getD_cons_succ,Nat.add_zero] at v0 v1
  obtain ⟨al,hal⟩ : ∃ al,al = aliasN ss (k + 1) := ⟨_,rfl⟩
  obtain ⟨la,hla⟩ : ∃ la,la = lastAt ss k := ⟨_,rfl⟩
  rw [← hal] at hals
  rw [← hla] at hlast
  rw [← hal,← hla] at hat
  have hbad : threeBad al la s.type = true → q0 = false := fun h => by rw [hq0]; exact allN_false hlt (by rw [hat,h]; rfl)
  have hgood : threeBad al la s.type = false → allN (threeAt ss) (k + 1) = true := fun h => allN_succ hP (by rw [hat,h]; rfl)
  unfold threeBad at hbad hgood
  have hsucc : IntKind.i64.wrap ((k : Int) + 1) = ((k + 1 : Nat) : Int) := wrapS (by omega)
  cases h3 : (s.type == 3)
  ·rw [h3,if_neg (by simp)] at hals
   rw [← hals]
   by_cases hk0 : k = 0
   ·have e0 : decide ((k : Int) > 0) = false := by rw [decide_eq_false_iff_not]; omega
    have e0' : (k == 0) = true := by simpa using hk0
    rw [e0',Bool.not_true,Bool.false_and,if_neg (by simp)] at hlast
    have ht := hgood (by rw [hlast]; rfl)
    simp only [hdl,hb,v0,v1,h3,go_sem,Nat.reduceEqDiff,Nat.reduceBEq,Nat.reduceAdd,binO]
    simp only [cf203_9,hb,v0,e0,↓simT_pick_f,go_sem,Nat.reduceEqDiff,Nat.reduceBEq,Nat.reduceAdd,reduceCtorEq,binO]
    refine ⟨⟨by omega,by omega⟩,by omega,⟨by omega,by omega⟩,by omega,?_⟩
    simp only [cf203_11,bne,nilB,↓simT_pick_f,go_sem,Nat.reduceEqDiff,Nat.reduceBEq,binO]
    exact ⟨hlt,⟨by rw [← hal],hsucc⟩,ht⟩
   ·have e0 : decide ((k : Int) > 0) = true := by rw [decide_eq_true_eq]; omega
    have e0' : (k == 0) = false := by simpa using hk0
    have e1 : IntKind.i64.wrap ((k : Int) - 1) = ((k - 1 : Nat) : Int) := by rw [wrapI] <;> omega
    have j1 := (hi (k - 1) (by omega)).1
    have j0 := getD_of_take (hi (k - 1) (by omega)).2 (j := 0) (by omega)
    obtain ⟨p,hp⟩ : ∃ p,p = sD ss (k - 1) := ⟨_,rfl⟩
    have hp' : ss.getD (k - 1) default = p := hp.symm
    rw [e0',Bool.not_false,Bool.true_and,← hp] at hlast
    simp only [rSigned,hp',List.getD_cons_zero,Nat.add_zero] at j0
    simp only [hdl,hb,v0,v1,h3,go_sem,Nat.reduceEqDiff,Nat.reduceBEq,Nat.reduceAdd,binO]
    cases hn : (p.name == s.name)
    ·rw [hn,if_neg (by simp)] at hlast
     have ht := hgood (by rw [hlast]; rfl)
     simp only [cf203_9,hb,v0,j0,hn,e0,e1,toNat_ofNat',go_sem,Nat.reduceEqDiff,Nat.reduceBEq,Nat.reduceAdd,binO]
     refine ⟨⟨by omega,by omega⟩,by omega,⟨by omega,by omega⟩,by omega,⟨by omega,by omega⟩,by omega,⟨by omega,by omega⟩,by omega,?_⟩
     simp only [cf203_11,bne,nilB,↓simT_pick_f,go_sem,Nat.reduceEqDiff,Nat.reduceBEq,binO]
     exact ⟨hlt,⟨by rw [← hal],hsucc⟩,ht⟩
    ·rw [hn,if_pos rfl] at hlast
     rw [hlast] at hbad hgood
     simp only [cf203_9,hb,v0,j0,hn,e0,e1,toNat_ofNat',go_sem,Nat.reduceEqDiff,Nat.reduceBEq,Nat.reduceAdd,binO]
     refine ⟨⟨by omega,by omega⟩,by omega,⟨by omega,by omega⟩,by omega,⟨by omega,by omega⟩,by omega,⟨by omega,by omega⟩,by omega,⟨by omega,by omega⟩,by omega,?_⟩
     simp only [cf203_11,go_sem,Nat.reduceEqDiff,Nat.reduceBEq,binO]
     exact ⟨fun h => ⟨h,h⟩,fun h => ⟨h,fun h2 => by rw [h,h2]; rfl⟩,fun h => ⟨h,fun h2 => by rw [h,h2]; rfl⟩,fun h => ⟨h,fun h2 => by rw [h,h2]; rfl⟩,fun h => (hbad h).symm,fun h => ⟨hlt,⟨by rw [← hal],hsucc⟩,hgood h⟩⟩
  ·rw [h3,if_pos rfl] at hals
   rw [hals] at hal hbad hgood
   by_cases hk0 : k = 0
   ·have e0 : decide ((k : Int) > 0) = false := by rw [decide_eq_false_iff_not]; omega
    have e0' : (k == 0) = true := by simpa using hk0
    rw [e0',Bool.not_true,Bool.false_and,if_neg (by simp)] at hlast
    have ht := hgood (by rw [hlast]; rfl)
    simp only [hdl,hb,v0,v1,h3,go_sem,Nat.reduceEqDiff,Nat.reduceBEq,Nat.reduceAdd,binO]
    simp only [cf203_9,hb,v0,e0,↓simT_pick_f,go_sem,Nat.reduceEqDiff,Nat.reduceBEq,Nat.reduceAdd,reduceCtorEq,binO]
    refine ⟨⟨by omega,by omega⟩,by omega,⟨by omega,by omega⟩,by omega,⟨by omega,by omega⟩,by omega,?_⟩
    simp only [cf203_11,bne,nilB,↓simT_pick_f,go_sem,Nat.reduceEqDiff,Nat.reduceBEq,binO]
    exact ⟨hlt,⟨by rw [← hal],hsucc⟩,ht⟩
   ·have e0 : decide ((k : Int) > 0) = true := by rw [decide_eq_true_eq]; omega
    have e0' : (k == 0) = false := by simpa using hk0
    have e1 : IntKind.i64.wrap ((k : Int) - 1) = ((k - 1 : Nat) : Int) := by rw [wrapI] <;> omega
    have j1 := (hi (k - 1) (by omega)).1
    have j0 := getD_of_take (hi (k - 1) (by omega)).2 (j := 0) (by omega)
    obtain ⟨p,hp⟩ : ∃ p,p = sD ss (k - 1) := ⟨_,rfl⟩
    have hp' : ss.getD (k - 1) default = p := hp.symm
    rw [e0',Bool.not_false,Bool.true_and,← hp] at hlast
    simp only [rSigned,hp',List.getD_cons_zero,Nat.add_zero] at j0
    simp only [hdl,hb,v0,v1,h3,go_sem,Nat.reduceEqDiff,Nat.reduceBEq,Nat.reduceAdd,binO]
    cases hn : (p.name == s.name)
    ·rw [hn,if_neg (by simp)] at hlast
     have ht := hgood (by rw [hlast]; rfl)
     simp only [cf203_9,hb,v0,j0,hn,e0,e1,toNat_ofNat',go_sem,Nat.reduceEqDiff,Nat.reduceBEq,Nat.reduceAdd,binO]
     refine ⟨⟨by omega,by omega⟩,by omega,⟨by omega,by omega⟩,by omega,⟨by omega,by omega⟩,by omega,⟨by omega,by omega⟩,by omega,⟨by omega,by omega⟩,by omega,?_⟩
     simp only [cf203_11,bne,nilB,↓simT_pick_f,go_sem,Nat.reduceEqDiff,Nat.reduceBEq,binO]
     exact ⟨hlt,⟨by rw [← hal],hsucc⟩,ht⟩
    ·rw [hn,if_pos rfl] at hlast
     rw [hlast,beq_self_eq_true,Bool.and_true] at hbad hgood
     simp only [cf203_9,hb,v0,j0,hn,e0,e1,toNat_ofNat',go_sem,Nat.reduceEqDiff,Nat.reduceBEq,Nat.reduceAdd,binO]
     refine ⟨⟨by omega,by omega⟩,by omega,⟨by omega,by omega⟩,by omega,⟨by omega,by omega⟩,by omega,⟨by omega,by omega⟩,by omega,⟨by omega,by omega⟩,by omega,⟨by omega,by omega⟩,by omega,?_⟩
     simp only [cf203_11,go_sem,Nat.reduceEqDiff,Nat.reduceBEq,binO]
     exact ⟨fun h => ⟨h,h⟩,fun h => ⟨h,fun h2 => by rw [h,h2]; rfl⟩,fun h => ⟨h,fun h2 => by rw [h,h2]; rfl⟩,fun h => ⟨h,fun h2 => by rw [h,h2]; rfl⟩,fun h => (hbad h).symm,fun h => ⟨hlt,⟨by rw [← hal],hsucc⟩,hgood h⟩⟩
 ·have hdl : decide ((k : Int) < (ss.length : Int)) = false := by simpa using hlt
  have : k = ss.length := by omega
  subst this
  rw [hP] at hq0
  simp only [hdl,hq0,go_sem,Nat.reduceEqDiff,Nat.reduceBEq,Nat.reduceAdd,binO]
end Go.SL
/- Contracts: the reference's zones: what lies behind cuts. -/
namespace Go.SL
open Go
variable {E : Env} {H : Hp}
def fourAt (B : List Bs) (ss : List SignedD) (k : Nat) : Bool :=
 !(!(B.getD k [] == []) && (sD ss k).type != 1 && !(!(B.getD k [] == []) && (sD ss k).name == B.getD k [])) &&
 !((!(B.getD k [] == []) && (sD ss k).name == B.getD k []) && (sD ss k).type != 1 && (sD ss k).type != 2 && (sD ss k).type != 6 && (sD ss k).type != 8) &&
 !((sD ss k).type == 6 && !(!(B.getD k [] == []) && (sD ss k).name == B.getD k []))
def rFour (apex : Bs) (ss : List SignedD) : Bool := allN (fourAt (rBehind apex ss) ss) ss.length
set_option maxRecDepth 4000 in
set_option maxHeartbeats 2000000 in
theorem fn204 (h4 : Codes4 E) (apex : Bs) {v : Value} {ss : List SignedD} (hss : SetsAt H v ss) (hn : ss.length ≤ 1000000000) (hz : SzS ss) :
  FnP E 204 [.agg #[S apex,v]] H (.bool (rFour apex ss)) := by
 have hbeh := fn210 h4 apex hss hn hz
 obtain ⟨d,g,⟨a,cap,rfl,hsp,hr⟩,hdeep⟩ := hss
 refine Fn.of_vks h4.c204 (by simp [cf204]) ?_
 simp only [cf204,cf204_0,cf204_1,cf204_2,cf204_3,cf204_5,cf204_6,cf204_7,cf204_8,cf204_9,cf204_10,cf204_11,cf204_12,cf204_4,cf204_13]
 obtain ⟨q0,hq0⟩ : ∃ y,y = rFour apex ss := ⟨_,rfl⟩
 rw [← hq0]
 unfold rFour at hq0
 simp only [go_sem,Nat.reduceBEq,Nat.reduceAdd,reduceCtorEq]
 refine vks_call ?_ hbeh ?_
 ·simp only [go_sem,Nat.reduceEqDiff]
 rintro w H1 ⟨hC,hle1⟩
 have hBl := rBehind_len apex ss
 obtain ⟨C,hCC⟩ : ∃ C,C = rBehind apex ss := ⟨_,rfl⟩
 rw [← hCC] at hC hBl hq0
 obtain ⟨a1,c1,rfl⟩ := hC.sl
 simp only [go_sem,Nat.reduceEqDiff,Nat.reduceBEq]
 refine vks_loopN ss.length 0 (fun k => [(1,⟨true,.box [S apex,.slice a ss.length cap]⟩),(3,⟨true,.val (.slice a1 C.length c1)⟩),(4,⟨true,.val (.int .i64 k)⟩)]) (fun k => allN (fourAt C ss) k = true) (Nat.zero_le _) rfl rfl ?_
 intro k hk hP
 by_cases hlt : k < ss.length
 ·have hdl : decide ((k : Int) < (ss.length : Int)) = true := by simpa using hlt
  obtain ⟨b,o,vs,c,wr,ha,hb,hi⟩ := hr (by omega)
  subst ha
  have hb1 := hle1 _ _ hb
  have hi1 := (hi k hlt).1
  have hi2 := take_of_take (hi k hlt).2 0 4 (by omega)
  have hd1 := SlAt.one (hdeep k hlt).1
  obtain ⟨s,hs⟩ : ∃ s,s = sD ss k := ⟨_,rfl⟩
  have hs' : ss.getD k default = s := hs.symm
  simp only [rSigned,hs',List.drop_zero,List.take_succ_cons,List.take_zero,Nat.add_zero] at hi2
  obtain ⟨b2,o2,c2,cap2,vs2,wr2,hsl,hb2,hv,hvl⟩ := hC.str (k := k) (by omega)
  cases hsl
  have hg := getD_of_take (j := 0) hv (by omega)
  rw [Nat.mul_one,Nat.add_zero,List.getD_cons_zero] at hg
  rw [Nat.mul_one] at hvl
  obtain ⟨x,hx⟩ : ∃ x,x = C.getD k [] := ⟨_,rfl⟩
  have hat : fourAt C ss k = (!(!(x == []) && s.type != 1 && !(!(x == []) && s.name == x)) && !((!(x == []) && s.name == x) && s.type != 1 && s.type != 2 && s.type != 6 && s.type != 8) && !(s.type == 6 && !(!(x == []) && s.name == x))) := by rw [hs,hx]; rfl
  rw [← hx] at hg
  have hbad : fourAt C ss k = false → q0 = false := fun h => by rw [hq0]; exact allN_false hlt h
  have hgood : fourAt C ss k = true → allN (fourAt C ss) (k + 1) = true := fun h => allN_succ hP h
  rw [hat] at hbad hgood
  simp only [hdl,hb1,hi2,hd1,hb2,hg,Nat.mul_one,go_sem,Nat.reduceLeDiff,Nat.reduceEqDiff,Nat.reduceBEq,Nat.reduceAdd,binO]
  refine ⟨⟨by omega,by omega⟩,by omega,⟨by omega,by omega⟩,by omega,fun h => ⟨h,h,by omega,by omega⟩,fun h => ⟨h,by omega⟩,fun h => ⟨h,h⟩,⟨by omega,by omega⟩,by omega,fun h => ?_,fun h => ⟨fun h2 => ?_,fun h2 => ⟨fun h3 => ?_,fun h3 => ?_⟩⟩⟩
  ·exact ⟨(hbad (by rw [h]; rfl)).symm,hle1⟩
  ·exact ⟨(hbad (by rw [h,h2]; rfl)).symm,hle1⟩
  ·exact ⟨(hbad (by rw [h,h2,h3]; rfl)).symm,hle1⟩
  ·exact ⟨hlt,wrapS (by omega),hgood (by rw [h,h2,h3]; rfl)⟩
 ·have hdl : decide ((k : Int) < (ss.length : Int)) = false := by simpa using hlt
  have : k = ss.length := by omega
  subst this
  rw [hP] at hq0
  simp only [hdl,hq0,go_sem,Nat.reduceEqDiff,Nat.reduceBEq,Nat.reduceAdd,reduceCtorEq,binO]
  exact hle1
end Go.SL
/- Contracts: the reference's valid zones. -/
namespace Go.SL
open Go
variable {E : Env} {H : Hp}
def fiveAt (O : List Bool) (apex : Bs) (ss : List SignedD) (k : Nat) : Bool := !(!rSigs (sD ss k).sigs apex || (!O.getD k false && decide ((sD ss k).sigs.length > 0)))
def rFive (apex : Bs) (ss : List SignedD) : Bool := allN (fiveAt (rOwn apex ss) apex ss) ss.length
theorem SlAt.boolAt {v : Value} {l : List Bool} (h : SlAt H 1 v l.length (rB l)) {k : Nat} (hk : k < l.length) : ∃ b o c cap vs wr, v = .slice (some ⟨b, o, none⟩) l.length cap ∧ H b = some (.row vs c wr) ∧ (vs.drop (o + k * 1)).take 1 = [.bool (l.getD k false)] ∧ o + k * 1 + 1 ≤ vs.length := by
 obtain ⟨a,cap,rfl,hsp,hr⟩ := h
 obtain ⟨b,o,vs,c,wr,rfl,hb,hi⟩ := hr (by omega)
 exact ⟨b,o,c,cap,vs,wr,rfl,hb,(hi k hk).2,(hi k hk).1⟩
set_option maxRecDepth 4000 in
set_option maxHeartbeats 2000000 in
theorem fn205 (h4 : Codes4 E) (apex : Bs) {v : Value} {ss : List SignedD} (hss : SetsAt H v ss) (hn : ss.length ≤ 1000000000) (hz : SzS ss) :
  FnP E 205 [.agg #[S apex,v]] H (.bool (rFive apex ss)) := by
 have hown := fn211 h4 apex hss hn hz
 obtain ⟨d,g,⟨a,cap,rfl,hsp,hr⟩,hdeep⟩ := hss
 refine Fn.of_vks h4.c205 (by simp [cf205]) ?_
 simp only [cf205,cf205_0,cf205_1,cf205_2,cf205_3,cf205_5,cf205_6,cf205_4,cf205_7]
 obtain ⟨q0,hq0⟩ : ∃ y,y = rFive apex ss := ⟨_,rfl⟩
 rw [← hq0]
 unfold rFive at hq0
 simp only [go_sem,Nat.reduceBEq,Nat.reduceAdd,reduceCtorEq]
 refine vks_call ?_ hown ?_
 ·simp only [go_sem,Nat.reduceEqDiff]
 rintro w H1 ⟨hC,hle1⟩
 have hBl := rOwn_len apex ss
 obtain ⟨C,hCC⟩ : ∃ C,C = rOwn apex ss := ⟨_,rfl⟩
 rw [← hCC] at hC hBl hq0
 obtain ⟨a1,c1,rfl⟩ := hC.sl
 simp only [go_sem,Nat.reduceEqDiff,Nat.reduceBEq]
 refine vks_loopN ss.length 0 (fun k => [(1,⟨true,.box [S apex,.slice a ss.length cap]⟩),(3,⟨true,.val (.slice a1 C.length c1)⟩),(4,⟨true,.val (.int .i64 k)⟩)]) (fun k => allN (fiveAt C apex ss) k = true) (Nat.zero_le _) rfl rfl ?_
 intro k hk hP
 by_cases hlt : k < ss.length
 ·have hdl : decide ((k : Int) < (ss.length : Int)) = true := by simpa using hlt
  obtain ⟨b,o,vs,c,wr,ha,hb,hi⟩ := hr (by omega)
  subst ha
  have hb1 := hle1 _ _ hb
  have hi1 := (hi k hlt).1
  have hg1 := (hdeep k hlt).2.mono hle1
  obtain ⟨ga,gc,hgv⟩ := SlAt.sl hg1
  have v4 := getD_of_take (hi k hlt).2 (j := 4) (by omega)
  simp only [rSigned,hgv,List.getD_cons_zero,List.getD_cons_succ] at v4
  rw [hgv] at hg1
  obtain ⟨gs,hgs⟩ : ∃ gs,gs = (sD ss k).sigs := ⟨_,rfl⟩
  have hgs' : (ss.getD k default).sigs = gs := hgs.symm
  rw [hgs'] at hg1 v4
  obtain ⟨b2,o2,c2,cap2,vs2,wr2,hsl,hb2,hv,hvl⟩ := hC.boolAt (k := k) (by omega)
  cases hsl
  have hg := getD_of_take (j := 0) hv (by omega)
  rw [Nat.mul_one,Nat.add_zero,List.getD_cons_zero] at hg
  rw [Nat.mul_one] at hvl
  obtain ⟨x,hx⟩ : ∃ x,x = C.getD k false := ⟨_,rfl⟩
  rw [← hx] at hg
  have hat : fiveAt C apex ss k = !(!rSigs gs apex || (!x && decide (gs.length > 0))) := by rw [hgs,hx]; rfl
  have hbad : fiveAt C apex ss k = false → q0 = false := fun h => by rw [hq0]; exact allN_false hlt h
  have hgood : fiveAt C apex ss k = true → allN (fiveAt C apex ss) (k + 1) = true := fun h => allN_succ hP h
  have e0 : decide ((gs.length : Int) > 0) = decide (gs.length > 0) := by rw [Bool.eq_iff_iff,decide_eq_true_eq,decide_eq_true_eq]; omega
  simp only [hdl,hb1,v4,toNat_ofNat',go_sem,Nat.reduceLeDiff,Nat.reduceEqDiff,Nat.reduceBEq,Nat.reduceAdd,binO]
  refine ⟨⟨by omega,by omega⟩,by omega,?_⟩
  refine vks_dcallp _ (by simp only [go_sem]) (fun _ => ⟨by simp only [go_sem,Nat.reduceEqDiff],fn212 h4 apex hg1⟩) ?_ ?_
  ·simp only [hb1,v4,go_sem,Nat.reduceLeDiff,Nat.reduceEqDiff,Nat.reduceBEq,Nat.reduceAdd]
  cases hq : rSigs gs apex
  ·have hf := hbad (by rw [hat,hq]; rfl)
   simp only [hb1,v4,hb2,hg,hf,Nat.mul_one,toNat_ofNat',↓simT_pick_t,go_sem,Nat.reduceEqDiff,Nat.reduceBEq,Nat.reduceAdd,binO]
   try exact hle1
  ·cases hxx : x
   ·cases hl : decide (gs.length > 0)
    ·have ht := hgood (by rw [hat,hq,hxx,hl]; rfl)
     simp only [hxx,e0,hl,hb1,v4,hb2,hg,ht,Nat.mul_one,toNat_ofNat',go_sem,Nat.reduceEqDiff,Nat.reduceBEq,Nat.reduceAdd,binO]
     exact ⟨⟨by omega,by omega⟩,by omega,⟨by omega,by omega⟩,by omega,hlt,wrapS (by omega)⟩
    ·have hf := hbad (by rw [hat,hq,hxx,hl]; rfl)
     simp only [hxx,e0,hl,hb1,v4,hb2,hg,hf,Nat.mul_one,toNat_ofNat',go_sem,Nat.reduceEqDiff,Nat.reduceBEq,Nat.reduceAdd,binO]
     exact ⟨⟨by omega,by omega⟩,by omega,⟨by omega,by omega⟩,by omega,hle1⟩
   ·have ht := hgood (by rw [hat,hq,hxx]; rfl)
    simp only [hxx,hb1,v4,hb2,hg,ht,Nat.mul_one,toNat_ofNat',↓simT_pick_f,go_sem,Nat.reduceEqDiff,Nat.reduceBEq,Nat.reduceAdd,binO]
    exact ⟨⟨by omega,by omega⟩,by omega,hlt,wrapS (by omega)⟩
 ·have hdl : decide ((k : Int) < (ss.length : Int)) = false := by simpa using hlt
  have : k = ss.length := by omega
  subst this
  rw [hP] at hq0
  simp only [hdl,hq0,go_sem,Nat.reduceEqDiff,Nat.reduceBEq,Nat.reduceAdd,binO]
  exact hle1
def rZone (apex : Bs) (ss : List SignedD) : Bool := rOne apex ss && rTwo apex ss && rThree ss && rFour apex ss && rFive apex ss
theorem rOne_sz {apex : Bs} {ss : List SignedD} (h : rOne apex ss = true) : SzS ss ∧ ss.length ≤ 1000000000 := by
 rw [rOne_def] at h
 simp only [Bool.and_eq_true,decide_eq_true_eq] at h
 refine ⟨fun s hs => ?_,by omega⟩
 obtain ⟨i,hi,he⟩ := List.mem_iff_getElem.1 hs
 have h1 := allN_iff.1 h.2 i hi
 have h2 : sD ss i = s := by unfold sD; rw [List.getD_eq_getElem?_getD,List.getElem?_eq_getElem hi]; exact he
 unfold oneAt at h1
 rw [h2,Bool.and_eq_true,Bool.and_eq_true] at h1
 exact rSet_len h1.1.1
set_option maxHeartbeats 1000000 in
theorem fn194 (h4 : Codes4 E) (apex : Bs) {v : Value} {ss : List SignedD} (hss : SetsAt H v ss) :
  FnP E 194 [.agg #[S apex,v]] H (.bool (rZone apex ss)) := by
 have f1 := fn201 h4 apex hss
 have f2 := fun h : rOne apex ss = true => fn202 h4 apex hss (rOne_sz h).2
 have f3 := fun h : rOne apex ss = true => fn203 h4 apex hss (rOne_sz h).2
 have f4 := fun h : rOne apex ss = true => fn204 h4 apex hss (rOne_sz h).2 (rOne_sz h).1
 have f5 := fun h : rOne apex ss = true => fn205 h4 apex hss (rOne_sz h).2 (rOne_sz h).1
 have o1 : one1 v = true := by obtain ⟨d,g,h,_⟩ := hss; exact SlAt.one h
 obtain ⟨a,c,rfl⟩ : ∃ a c,v = .slice a ss.length c := by obtain ⟨d,g,h,_⟩ := hss; exact h.sl
 refine Fn.of_vks h4.c194 (by simp [cf194]) ?_
 simp only [cf194,cf194_0,cf194_1]
 unfold rZone
 simp only [go_sem,Nat.reduceBEq,Nat.reduceAdd,reduceCtorEq]
 refine vks_callp _ (by simp only [go_sem]) (fun _ => ⟨by simp only [go_sem,Nat.reduceEqDiff],f1⟩) ?_
 simp only [go_sem,Nat.reduceEqDiff,Nat.reduceBEq,Nat.reduceAdd]
 refine vks_callp _ (by simp only [go_sem,Nat.reduceEqDiff]) (fun hg => ⟨by simp only [go_sem,Nat.reduceEqDiff] at hg ⊢; exact hg,f2 (by simpa only [go_sem,Nat.reduceLT,Nat.reduceLeDiff,Nat.reduceEqDiff,Nat.reduceBEq,Nat.reduceAdd,Nat.reduceMul,Nat.reduceSub,reduceIte,reduceCtorEq,Int.reduceToNat,Int.reduceLE,Int.reduceEq,Int.reduceNe,Int.reduceLT,Int.reduceAdd,Int.reduceSub] using hg)⟩) ?_
 simp only [go_sem,Nat.reduceEqDiff,Nat.reduceBEq,Nat.reduceAdd]
 refine vks_callp _ (by simp only [go_sem,Nat.reduceEqDiff]) (fun hg => ⟨by simp only [go_sem,Nat.reduceEqDiff] at hg ⊢; exact hg,f3 (by simp only [go_sem,Nat.reduceEqDiff,Bool.and_eq_true] at hg; exact hg.1)⟩) ?_
 simp only [go_sem,Nat.reduceEqDiff,Nat.reduceBEq,Nat.reduceAdd]
 refine vks_callp _ (by simp only [go_sem,Nat.reduceEqDiff]) (fun hg => ⟨by simp only [go_sem,Nat.reduceEqDiff] at hg ⊢; exact hg,f4 (by simp only [go_sem,Nat.reduceEqDiff,Bool.and_eq_true] at hg; exact hg.1.1)⟩) ?_
 simp only [go_sem,Nat.reduceEqDiff,Nat.reduceBEq,Nat.reduceAdd]
 refine vks_callp _ (by simp only [go_sem,Nat.reduceEqDiff]) (fun hg => ⟨by simp only [go_sem,Nat.reduceEqDiff] at hg ⊢; exact hg,f5 (by simp only [go_sem,Nat.reduceEqDiff,Bool.and_eq_true] at hg; exact hg.1.1.1)⟩) ?_
 simp only [go_sem,Nat.reduceEqDiff,Nat.reduceBEq]
theorem rZone_apex {apex : Bs} {ss : List SignedD} (h : rZone apex ss = true) : apex.length ≤ 1000000 := by
 unfold rZone at h
 simp only [Bool.and_eq_true] at h
 have h1 := h.1.1.1.1
 rw [rOne_def] at h1
 simp only [Bool.and_eq_true] at h1
 exact Nat.le_trans (rName_len h1.1.1.1) (by omega)
end Go.SL
