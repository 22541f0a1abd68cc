/- Contracts: the reference's order of names. -/
import Derived.Test.YtloknibdaldffaaGreatDoorNplW1
namespace Go.SL
open Go
variable {E : Env} {H : Hp}
def inAt (l m : List Bs) (i : Nat) : Bool := l.getD (l.length - m.length + i) [] == m.getD i []
def rIn (s z : Bs) : Bool := decide ((rParts z).length ≤ (rParts s).length) && allN (inAt (rParts s) (rParts z)) (rParts z).length
theorem rIn_def (s z : Bs) : rIn s z = (decide ((rParts z).length ≤ (rParts s).length) && allN (inAt (rParts s) (rParts z)) (rParts z).length) := rfl
theorem rParts_len (s : Bs) : (rParts s).length ≤ s.length + 1 := by
 unfold rParts; split
 ·simp
 ·exact splitN_len s s.length
set_option maxHeartbeats 1000000 in
theorem fn206 (h4 : Codes4 E) (s z : Bs) (hn : s.length ≤ 1000000) (hz : z.length ≤ 1000000) : FnP E 206 [S s, S z] H (.bool (rIn s z)) := by
 refine Fn.of_vks h4.c206 (by simp [cf206]) ?_
 simp only [cf206,cf206_0,cf206_1,cf206_2,cf206_3,cf206_4,cf206_5,cf206_6,cf206_8,cf206_9,cf206_7,cf206_10]
 rw [rIn_def]
 simp only [go_sem,Nat.reduceEqDiff,Nat.reduceBEq,reduceCtorEq]
 refine vks_call ?_ (fn217 h4 s hn) ?_
 ·simp only [go_sem,Nat.reduceEqDiff,reduceCtorEq]
 rintro u H1 ⟨hS,hle⟩
 obtain ⟨a1,c1,rfl⟩ := hS.sl
 simp only [go_sem,Nat.reduceEqDiff,Nat.reduceBEq,reduceCtorEq]
 refine vks_call ?_ (fn217 h4 z hz) ?_
 ·simp only [go_sem,Nat.reduceEqDiff]
 rintro u H2 ⟨hZ,hle2⟩
 obtain ⟨a2,c2,rfl⟩ := hZ.sl
 have hS2 := hS.mono hle2
 have hlS := rParts_len s
 have hlZ := rParts_len z
 obtain ⟨L,hL⟩ : ∃ y,y = rParts s := ⟨_,rfl⟩
 obtain ⟨M,hM⟩ : ∃ y,y = rParts z := ⟨_,rfl⟩
 rw [← hL] at hS2 hlS ⊢
 rw [← hM] at hZ hlZ ⊢
 have hle3 := hle.trans hle2
 by_cases hc : M.length ≤ L.length
 ·have hd : decide ((M.length : Int) > (L.length : Int)) = false := by rw [decide_eq_false_iff_not]; omega
  have hd' : decide (M.length ≤ L.length) = true := by rw [decide_eq_true_eq]; omega
  simp only [hd,hd',go_sem,Nat.reduceEqDiff,Nat.reduceBEq,binO]
  refine vks_loopN M.length 0 (fun k => [(5,⟨true,.val (.slice a1 L.length c1)⟩),(6,⟨true,.val (.slice a2 M.length c2)⟩),(7,⟨true,.val (.int .i64 k)⟩)]) (fun k => allN (inAt L M) k = true) (Nat.zero_le _) rfl rfl ?_
  intro k hk hP
  by_cases hlt : k < M.length
  ·have hdl : decide ((k : Int) < (M.length : Int)) = true := by simpa using hlt
   have hi : L.length - M.length + k < L.length := by omega
   obtain ⟨b,o,c,cap,vs,wr,hsl,hb,hv,hvl⟩ := hS2.str hi
   obtain ⟨b',o',c',cap',vs',wr',hsl',hb',hv',hvl'⟩ := hZ.str hlt
   cases hsl
   cases hsl'
   have hg := getD_of_take (j := 0) hv (by omega)
   have hg' := getD_of_take (j := 0) hv' (by omega)
   rw [Nat.mul_one,Nat.add_zero,List.getD_cons_zero] at hg hg'
   rw [Nat.mul_one] at hvl hvl'
   have e1 : IntKind.i64.wrap ((L.length : Int) - (M.length : Int)) = ((L.length - M.length : Nat) : Int) := by rw [wrapI] <;> omega
   have e2 : IntKind.i64.wrap (((L.length - M.length : Nat) : Int) + (k : Int)) = ((L.length - M.length + k : Nat) : Int) := by rw [wrapI] <;> omega
   have e3 : IntKind.i64.wrap ((k : Int) + 1) = ((k + 1 : Nat) : Int) := wrapS (by omega)
   have hin : inAt L M k = (L.getD (L.length - M.length + k) [] == M.getD k []) := rfl
   simp only [hdl,e1,e2,Nat.mul_one,hb,hb',hg,hg',go_sem,Nat.reduceEqDiff,Nat.reduceBEq,binO]
   refine ⟨⟨by omega,by omega⟩,by omega,⟨by omega,by omega⟩,by omega,fun h => ⟨(allN_false hlt (by rw [hin,h])).symm,hle3⟩,fun h => ⟨hlt,e3,allN_succ hP (by rw [hin,h])⟩⟩
  ·have hdl : decide ((k : Int) < (M.length : Int)) = false := by simpa using hlt
   have : k = M.length := by omega
   subst this
   simp only [hdl,hP,go_sem,Nat.reduceEqDiff,Nat.reduceBEq,binO]
   exact hle3
 ·have hd : decide ((M.length : Int) > (L.length : Int)) = true := by rw [decide_eq_true_eq]; omega
  have hd' : decide (M.length ≤ L.length) = false := by rw [decide_eq_false_iff_not]; omega
  simp only [hd,hd',go_sem,Nat.reduceEqDiff,Nat.reduceBEq,binO]
  exact hle3
def ordL : List Bs → List Bs → Int
 | [],[] => 0
 | [],_ :: _ => -1
 | _ :: _,[] => 1
 | x :: r,y :: r' => if Op.bytesLess x y then -1 else if !(Op.bytesLess x y || x == y) then 1 else ordL r r'
def rOrder (a b : Bs) : Int := ordL (rParts a).reverse (rParts b).reverse
theorem rev_drop (l : List Bs) {k : Nat} (h : k < l.length) : l.reverse.drop k = l.getD (l.length - (k + 1)) [] :: l.reverse.drop (k + 1) := by
 rw [List.drop_eq_getElem_cons (by simpa using h),List.getElem_reverse,List.getD_eq_getElem?_getD,List.getElem?_eq_getElem (by omega)]
 simp only [Option.getD_some]
 congr 2
 omega
set_option maxHeartbeats 1000000 in
theorem fn196 (h4 : Codes4 E) (s z : Bs) (hn : s.length ≤ 1000000) (hz : z.length ≤ 1000000) : FnP E 196 [S s, S z] H (.int .i64 (rOrder s z)) := by
 refine Fn.of_vks h4.c196 (by simp [cf196]) ?_
 simp only [cf196,cf196_0,cf196_1,cf196_2,cf196_3,cf196_4,cf196_6,cf196_7,cf196_8,cf196_9,cf196_10,cf196_11,cf196_5,cf196_12,cf196_13,cf196_14,cf196_15,cf196_16]
 unfold rOrder
 simp only [go_sem,Nat.reduceEqDiff,Nat.reduceBEq,reduceCtorEq]
 refine vks_call ?_ (fn217 h4 s hn) ?_
 ·simp only [go_sem,Nat.reduceEqDiff,reduceCtorEq]
 rintro u H1 ⟨hS,hle⟩
 obtain ⟨a1,c1,rfl⟩ := hS.sl
 simp only [go_sem,Nat.reduceEqDiff,Nat.reduceBEq,reduceCtorEq]
 refine vks_call ?_ (fn217 h4 z hz) ?_
 ·simp only [go_sem,Nat.reduceEqDiff]
 rintro u H2 ⟨hZ,hle2⟩
 obtain ⟨a2,c2,rfl⟩ := hZ.sl
 have hS2 := hS.mono hle2
 have hlS := rParts_len s
 have hlZ := rParts_len z
 obtain ⟨L,hL⟩ : ∃ y,y = rParts s := ⟨_,rfl⟩
 obtain ⟨M,hM⟩ : ∃ y,y = rParts z := ⟨_,rfl⟩
 rw [← hL] at hS2 hlS ⊢
 rw [← hM] at hZ hlZ ⊢
 have hle3 := hle.trans hle2
 simp only [go_sem,Nat.reduceEqDiff,Nat.reduceBEq]
 refine vks_loopN (min L.length M.length) 0 (fun k => [(5,⟨true,.val (.slice a1 L.length c1)⟩),(6,⟨true,.val (.slice a2 M.length c2)⟩),(7,⟨true,.val (.int .i64 ((k + 1 : Nat) : Int))⟩)]) (fun k => ordL L.reverse M.reverse = ordL (L.reverse.drop k) (M.reverse.drop k)) (Nat.zero_le _) rfl rfl ?_
 intro k hk hP
 rw [hP]
 by_cases hlt : k < min L.length M.length
 ·have hi : L.length - (k + 1) < L.length := by omega
  have hj : M.length - (k + 1) < M.length := by omega
  have hd1 : decide (((k + 1 : Nat) : Int) ≤ (L.length : Int)) = true := by rw [decide_eq_true_eq]; omega
  have hd2 : decide (((k + 1 : Nat) : Int) ≤ (M.length : Int)) = true := by rw [decide_eq_true_eq]; omega
  obtain ⟨b,o,c,cap,vs,wr,hsl,hb,hv,hvl⟩ := hS2.str hi
  obtain ⟨b',o',c',cap',vs',wr',hsl',hb',hv',hvl'⟩ := hZ.str hj
  cases hsl
  cases hsl'
  have hg := getD_of_take (j := 0) hv (by omega)
  have hg' := getD_of_take (j := 0) hv' (by omega)
  rw [Nat.mul_one,Nat.add_zero,List.getD_cons_zero] at hg hg'
  rw [Nat.mul_one] at hvl hvl'
  have e1 : IntKind.i64.wrap ((L.length : Int) - ((k + 1 : Nat) : Int)) = ((L.length - (k + 1) : Nat) : Int) := by rw [wrapI] <;> omega
  have e2 : IntKind.i64.wrap ((M.length : Int) - ((k + 1 : Nat) : Int)) = ((M.length - (k + 1) : Nat) : Int) := by rw [wrapI] <;> omega
  have e3 : IntKind.i64.wrap (((k + 1 : Nat) : Int) + 1) = ((k + 1 + 1 : Nat) : Int) := wrapS (by omega)
  have hr : ordL (L.reverse.drop k) (M.reverse.drop k) = if Op.bytesLess (L.getD (L.length - (k + 1)) []) (M.getD (M.length - (k + 1)) []) then -1 else if !(Op.bytesLess (L.getD (L.length - (k + 1)) []) (M.getD (M.length - (k + 1)) []) || L.getD (L.length - (k + 1)) [] == M.getD (M.length - (k + 1)) []) then 1 else ordL (L.reverse.drop (k + 1)) (M.reverse.drop (k + 1)) := by
   rw [rev_drop L (by omega),rev_drop M (by omega)]; rfl
  rw [hr]
  cases hq : Op.bytesLess (L.getD (L.length - (k + 1)) []) (M.getD (M.length - (k + 1)) [])
  ·cases hq2 : (L.getD (L.length - (k + 1)) [] == M.getD (M.length - (k + 1)) [])
   ·simp only [hd1,hd2,hq,hq2,e1,e2,Nat.mul_one,hb,hb',hg,hg',go_sem,Nat.reduceEqDiff,Nat.reduceBEq,reduceCtorEq,Int.reduceEq,binO]
    refine ⟨⟨by omega,by omega⟩,by omega,⟨by omega,by omega⟩,by omega,?_⟩
    exact hle3
   ·rw [hq,hq2] at hr
    simp only [hd1,hd2,hq,hq2,e1,e2,e3,Nat.mul_one,hb,hb',hg,hg',go_sem,Nat.reduceEqDiff,Nat.reduceBEq,binO]
    refine ⟨⟨by omega,by omega⟩,by omega,⟨by omega,by omega⟩,by omega,?_⟩
    exact hlt
  ·simp only [hd1,hd2,hq,e1,e2,Nat.mul_one,hb,hb',hg,hg',go_sem,Nat.reduceEqDiff,Nat.reduceBEq,reduceCtorEq,binO]
   refine ⟨⟨by omega,by omega⟩,by omega,⟨by omega,by omega⟩,by omega,?_⟩
   exact hle3
 ·by_cases hL' : k < L.length
  ·have hM' : k = M.length := by omega
   have hd1 : decide (((k + 1 : Nat) : Int) ≤ (L.length : Int)) = true := by rw [decide_eq_true_eq]; omega
   have hd2 : decide (((k + 1 : Nat) : Int) ≤ (M.length : Int)) = false := by rw [decide_eq_false_iff_not]; omega
   have hd3 : decide ((L.length : Int) < (M.length : Int)) = false := by rw [decide_eq_false_iff_not]; omega
   have hd4 : decide ((L.length : Int) > (M.length : Int)) = true := by rw [decide_eq_true_eq]; omega
   have hr : ordL (L.reverse.drop k) (M.reverse.drop k) = 1 := by
    rw [rev_drop L (by omega),List.drop_of_length_le (l := M.reverse) (by simp; omega)]; rfl
   rw [hr]
   simp only [hd1,hd2,hd3,hd4,go_sem,Nat.reduceEqDiff,Nat.reduceBEq,reduceCtorEq,Int.reduceEq,binO]
   exact hle3
  ·have hd1 : decide (((k + 1 : Nat) : Int) ≤ (L.length : Int)) = false := by rw [decide_eq_false_iff_not]; omega
   have hd4 : decide ((L.length : Int) > (M.length : Int)) = false := by rw [decide_eq_false_iff_not]; omega
   by_cases hM' : k < M.length
   ·have hd3 : decide ((L.length : Int) < (M.length : Int)) = true := by rw [decide_eq_true_eq]; omega
    have hr : ordL (L.reverse.drop k) (M.reverse.drop k) = -1 := by
     rw [rev_drop M (by omega),List.drop_of_length_le (l := L.reverse) (by simp; omega)]; rfl
    rw [hr]
    simp only [hd1,hd3,go_sem,Nat.reduceEqDiff,Nat.reduceBEq,reduceCtorEq,binO]
    exact hle3
   ·have hd3 : decide ((L.length : Int) < (M.length : Int)) = false := by rw [decide_eq_false_iff_not]; omega
    have hr : ordL (L.reverse.drop k) (M.reverse.drop k) = 0 := by
     rw [List.drop_of_length_le (l := M.reverse) (by simp; omega),List.drop_of_length_le (l := L.reverse) (by simp; omega)]; rfl
    rw [hr]
    simp only [hd1,hd3,hd4,go_sem,Nat.reduceEqDiff,Nat.reduceBEq,reduceCtorEq,Int.reduceEq,binO]
    exact hle3
set_option maxHeartbeats 1000000 in
theorem fn218 (h4 : Codes4 E) (s z : Bs) : FnP E 218 [S s, S z] H (.tuple #[.int .i64 (if rName s && rName z then rOrder s z else 0), .int .i64 (if rName s && rName z then 0 else 11)]) := by
 refine Fn.of_vks h4.c218 (by simp [cf218]) ?_
 simp only [cf218,cf218_0,cf218_1,cf218_2,cf218_3,cf218_4,cf218_5]
 simp only [go_sem,Nat.reduceEqDiff,Nat.reduceBEq,reduceCtorEq]
 refine vks_callp _ (by simp only [go_sem]) (fun _ => ⟨by simp only [go_sem,Nat.reduceEqDiff,reduceCtorEq],fn198 h4 s⟩) ?_
 simp only [go_sem,Nat.reduceEqDiff,Nat.reduceBEq,reduceCtorEq]
 refine vks_callp _ (by simp only [go_sem]) (fun _ => ⟨by simp only [go_sem,Nat.reduceEqDiff,reduceCtorEq],fn198 h4 z⟩) ?_
 cases hs1 : rName s <;> cases hz1 : rName z <;> simp only [go_sem,Nat.reduceEqDiff,Nat.reduceBEq,reduceCtorEq]
 refine vks_callp _ (by simp only [go_sem]) (fun _ => ⟨by simp only [go_sem,Nat.reduceEqDiff,reduceCtorEq],fn196 h4 s z (Nat.le_trans (rName_len hs1) (by omega)) (Nat.le_trans (rName_len hz1) (by omega))⟩) ?_
 simp only [go_sem,Nat.reduceEqDiff,Nat.reduceBEq,reduceCtorEq]
end Go.SL
/- Contracts: the reference's data and sets. -/
namespace Go.SL
open Go
variable {E : Env} {H : Hp}
theorem fn219 (h4 : Codes4 E) (n a b : Int) : FnP E 219 [.int .i64 n, .int .i64 a, .int .i64 b] H (.bool (decide (n ≥ a) && decide (n ≤ b))) := by
 refine Fn.of_vks h4.c219 (by simp [cf219]) ?_
 simp only [cf219,cf219_0,cf219_1]
 cases h : decide (n ≥ a) <;> simp only [h,go_sem,Nat.reduceEqDiff,Nat.reduceBEq,Nat.reduceAdd,reduceCtorEq,binO]
theorem fn220 (h4 : Codes4 E) (n : Int) : FnP E 220 [.int .i64 n] H (.bool (n == 3 || n == 4)) := by
 refine Fn.of_vks h4.c220 (by simp [cf220]) ?_
 simp only [cf220,cf220_0,cf220_1]
 cases h : (n == 3) <;> simp only [h,go_sem,Nat.reduceEqDiff,Nat.reduceBEq,reduceCtorEq,binO]
def rWild2 (s : Bs) : Bool := decide (0 < s.length) && bI s 0 == 42
theorem fn221 (h4 : Codes4 E) (s : Bs) : FnP E 221 [S s] H (.bool (rWild2 s)) := by
 refine Fn.of_vks h4.c221 (by simp [cf221]) ?_
 simp only [cf221,cf221_0,cf221_1]
 unfold rWild2
 by_cases h : 0 < s.length
 ·have hd : decide ((s.length : Int) > 0) = true := by rw [decide_eq_true_eq]; omega
  have hd' : decide (0 < s.length) = true := by rw [decide_eq_true_eq]; omega
  have hr : (0 : Int) < (s.length : Int) := by omega
  simp only [hd',hr,go_sem,Nat.reduceEqDiff,Nat.reduceBEq,reduceCtorEq,Int.reduceToNat,Int.reduceLE,binO,decT]
 ·have hd : decide ((s.length : Int) > 0) = false := by rw [decide_eq_false_iff_not]; omega
  have hd' : decide (0 < s.length) = false := by rw [decide_eq_false_iff_not]; omega
  simp only [hd,hd',↓simT_pick_f,go_sem,Nat.reduceEqDiff,Nat.reduceBEq,reduceCtorEq,Int.reduceToNat,Int.reduceLE,binO]
def rLess (a b : DatumD) : Bool := if a.text = b.text then (if a.n = b.n then decide (a.m < b.m) else decide (a.n < b.n)) else Op.bytesLess a.text b.text
set_option maxHeartbeats 1000000 in
theorem fn223 (h4 : Codes4 E) (a b : DatumD) : FnP E 223 [.agg #[S a.text, .int .i64 a.n, .int .i64 a.m], .agg #[S b.text, .int .i64 b.n, .int .i64 b.m]] H (.bool (rLess a b)) := by
 refine Fn.of_vks h4.c223 (by simp [cf223]) ?_
 simp only [cf223,cf223_0,cf223_1,cf223_2,cf223_3,cf223_4,cf223_5]
 unfold rLess
 by_cases ht : a.text = b.text
 ·have e : (a.text == b.text) = true := by simpa using ht
  by_cases hn : a.n = b.n
  ·have e2 : (a.n != b.n) = false := by simpa using hn
   simp only [e,e2,if_pos ht,if_pos hn,go_sem,Nat.reduceLeDiff,Nat.reduceEqDiff,Nat.reduceBEq,Nat.reduceAdd,reduceCtorEq,binO]
  ·have e2 : (a.n != b.n) = true := by simpa using hn
   simp only [e,e2,if_pos ht,if_neg hn,go_sem,Nat.reduceLeDiff,Nat.reduceEqDiff,Nat.reduceBEq,Nat.reduceAdd,reduceCtorEq,binO]
 ·have e : (a.text == b.text) = false := by simpa using ht
  simp only [e,if_neg ht,go_sem,Nat.reduceLeDiff,Nat.reduceEqDiff,Nat.reduceBEq,Nat.reduceAdd,reduceCtorEq,binO]
def rTextC (s : Bs) (i : Nat) : Bool := !((decide (bI s i < 97) || decide (bI s i > 122)) && (decide (bI s i < 48) || decide (bI s i > 57)) && bI s i != 32)
def rText (s : Bs) : Bool := decide (1 ≤ s.length) && decide (s.length ≤ 40) && bI s 0 != 32 && bI s (s.length - 1) != 32 && allN (rTextC s) s.length
set_option maxHeartbeats 1000000 in
theorem fn224 (h4 : Codes4 E) (s : Bs) : FnP E 224 [S s] H (.bool (rText s)) := by
 refine Fn.of_vks h4.c224 (by simp [cf224]) ?_
 simp only [cf224,cf224_0,cf224_1,cf224_2,cf224_3,cf224_4,cf224_5,cf224_7,cf224_8,cf224_9,cf224_6,cf224_10]
 unfold rText
 by_cases h1 : s.length < 1
 ·have hd : decide ((s.length : Int) < 1) = true := by rw [decide_eq_true_eq]; omega
  have hd' : decide (1 ≤ s.length) = false := by rw [decide_eq_false_iff_not]; omega
  simp only [hd,hd',↓simT_pick_t,go_sem,Nat.reduceEqDiff,Nat.reduceBEq,reduceCtorEq,Int.reduceToNat,Int.reduceLE,binO]
 ·have hd : decide ((s.length : Int) < 1) = false := by rw [decide_eq_false_iff_not]; omega
  have hd' : decide (1 ≤ s.length) = true := by rw [decide_eq_true_eq]; omega
  by_cases h40 : s.length ≤ 40
  ·have e40 : decide ((s.length : Int) > 40) = false := by rw [decide_eq_false_iff_not]; omega
   have e40' : decide (s.length ≤ 40) = true := by rw [decide_eq_true_eq]; omega
   have w1 : IntKind.i64.wrap ((s.length : Int) - 1) = ((s.length - 1 : Nat) : Int) := by rw [wrapI] <;> omega
   have hr : (0 : Int) < (s.length : Int) := by omega
   cases q0 : (bI s 0 == 32)
   ·have q0' : (bI s 0 != 32) = true := by rw [bne,q0]; rfl
    cases q1 : (bI s (s.length - 1) == 32)
    ·have q1' : (bI s (s.length - 1) != 32) = true := by rw [bne,q1]; rfl
     simp only [hd,hd',e40,e40',w1,hr,q0,q0',q1,q1',go_sem,Nat.reduceEqDiff,Nat.reduceBEq,reduceCtorEq,Int.reduceToNat,Int.reduceLE,binO]
     refine ⟨⟨by omega,by omega⟩,?_⟩
     refine vks_loopN s.length 0 (fun k => [(0,⟨true,.val (S s)⟩),(3,⟨true,.val (.int .i64 s.length)⟩),(4,⟨true,.val (.int .i64 k)⟩)]) (fun k => allN (rTextC s) k = true) (Nat.zero_le _) rfl rfl ?_
     intro k hk hP
     by_cases hlt : k < s.length
     ·have hdl : decide ((k : Int) < (s.length : Int)) = true := by simpa using hlt
      have hlp : rTextC s k = !((decide (bI s k < 97) || decide (bI s k > 122)) && (decide (bI s k < 48) || decide (bI s k > 57)) && bI s k != 32) := rfl
      simp only [hdl,go_sem,Nat.reduceEqDiff,Nat.reduceBEq,reduceCtorEq,binO]
      generalize decide (bI s k < 97) = q3 at *
      generalize decide (bI s k > 122) = q4 at *
      generalize decide (bI s k < 48) = q5 at *
      generalize decide (bI s k > 57) = q6 at *
      generalize (bI s k != 32) = q7 at *
      refine ⟨⟨by omega,by omega⟩,fun h => ⟨h,fun h' => by rw [h,h']; rfl⟩,fun hc => ?_,fun hc => ⟨hlt,wrapS (by omega),allN_succ hP (by rw [hlp,hc]; rfl)⟩⟩
      rw [allN_false hlt (by rw [hlp,hc]; rfl)]
     ·have hdl : decide ((k : Int) < (s.length : Int)) = false := by simpa using hlt
      have : k = s.length := by omega
      subst this
      simp only [hdl,hP,go_sem,Nat.reduceEqDiff,Nat.reduceBEq,reduceCtorEq,binO]
    ·have q1' : (bI s (s.length - 1) != 32) = false := by rw [bne,q1]; rfl
     simp only [hd,hd',e40,e40',w1,hr,q0,q0',q1,q1',go_sem,Nat.reduceEqDiff,Nat.reduceBEq,reduceCtorEq,Int.reduceToNat,Int.reduceLE,binO]
     exact ⟨by omega,by omega⟩
   ·have q0' : (bI s 0 != 32) = false := by rw [bne,q0]; rfl
    simp only [hd,hd',e40,e40',hr,q0,q0',↓simT_pick_t,go_sem,Nat.reduceEqDiff,Nat.reduceBEq,reduceCtorEq,Int.reduceToNat,Int.reduceLE,binO]
  ·have e40 : decide ((s.length : Int) > 40) = true := by rw [decide_eq_true_eq]; omega
   have e40' : decide (s.length ≤ 40) = false := by rw [decide_eq_false_iff_not]; omega
   simp only [hd,hd',e40,e40',↓simT_pick_t,go_sem,Nat.reduceEqDiff,Nat.reduceBEq,reduceCtorEq,Int.reduceToNat,Int.reduceLE,binO]
def rSetOrder (a b : Bs) (s t : Int) : Int := let n := if rName a && rName b then rOrder a b else 0; if n = 0 then (if s < t then -1 else if s > t then 1 else 0) else n
set_option maxHeartbeats 1000000 in
theorem fn207 (h4 : Codes4 E) (a b : Bs) (s t l m : Int) (z y : Value) (_hz : one1 z = true) (_hy : one1 y = true) :
  FnP E 207 [.agg #[S a,.int .i64 s,.int .i64 l,z],.agg #[S b,.int .i64 t,.int .i64 m,y]] H (.int .i64 (rSetOrder a b s t)) := by
 refine Fn.of_vks h4.c207 (by simp [cf207]) ?_
 simp only [cf207,cf207_0,cf207_1,cf207_2,cf207_3,cf207_4,cf207_5,cf207_6,cf207_7,cf207_8]
 simp only [go_sem,Nat.reduceLeDiff,Nat.reduceEqDiff,Nat.reduceBEq,Nat.reduceAdd,reduceCtorEq]
 refine vks_callp _ (by simp only [go_sem]) (fun _ => ⟨by simp only [go_sem,Nat.reduceEqDiff],fn218 h4 a b⟩) ?_
 unfold rSetOrder
 obtain ⟨n,hn⟩ : ∃ n,n = (if (rName a && rName b) = true then rOrder a b else 0) := ⟨_,rfl⟩
 obtain ⟨e,he⟩ : ∃ e : Int,e = (if (rName a && rName b) = true then 0 else 11) := ⟨_,rfl⟩
 rw [← hn,← he]
 by_cases h0 : n = 0
 ·have h0' : (n != 0) = false := by simpa using h0
  by_cases h1 : s < t
  ·have h1' : decide (s < t) = true := by rw [decide_eq_true_eq]; exact h1
   simp only [h0',if_pos h0,if_pos h1,h1',go_sem,Nat.reduceLT,Nat.reduceLeDiff,Nat.reduceEqDiff,Nat.reduceBEq,Nat.reduceAdd,reduceCtorEq,binO]
  ·have h1' : decide (s < t) = false := by rw [decide_eq_false_iff_not]; exact h1
   by_cases h2 : s > t
   ·have h2' : decide (s > t) = true := by rw [decide_eq_true_eq]; exact h2
    simp only [h0',if_pos h0,if_neg h1,if_pos h2,h1',h2',go_sem,Nat.reduceLT,Nat.reduceLeDiff,Nat.reduceEqDiff,Nat.reduceBEq,Nat.reduceAdd,reduceCtorEq,Int.reduceEq,binO]
   ·have h2' : decide (s > t) = false := by rw [decide_eq_false_iff_not]; exact h2
    simp only [h0',if_pos h0,if_neg h1,if_neg h2,h1',h2',go_sem,Nat.reduceLT,Nat.reduceLeDiff,Nat.reduceEqDiff,Nat.reduceBEq,Nat.reduceAdd,reduceCtorEq,Int.reduceEq,binO]
 ·have h0' : (n != 0) = true := by simpa using h0
  simp only [h0',if_neg h0,go_sem,Nat.reduceLT,Nat.reduceLeDiff,Nat.reduceEqDiff,Nat.reduceBEq,Nat.reduceAdd,binO]
end Go.SL
/- Contracts: the reference's data, when they are valid for a type. -/
namespace Go.SL
open Go
variable {E : Env} {H : Hp}
def wIn (n a b : Int) : Bool := decide (n ≥ a) && decide (n ≤ b)
def rDat (k : Int) (d : DatumD) : Bool :=
 if k = 1 then d.text == [] && wIn d.n 1 1000000 && d.m == 0
 else if k = 2 ∨ k = 3 then rName d.text && !rWild2 d.text && d.n == 0 && d.m == 0
 else if k = 4 then d.text == [] && wIn d.n 0 65535 && wIn d.m 0 100000
 else if k = 5 then rText d.text && d.n == 0 && d.m == 0
 else if k = 6 ∨ k = 7 then d.text == [] && wIn d.n 1 1000000 && wIn d.m 1 3
 else if k = 8 then rName d.text && wIn d.n 2 510 && d.n.tmod 2 == 0 && d.m == 0
 else false
theorem fn219' (h4 : Codes4 E) (n a b : Int) : FnP E 219 [.int .i64 n,.int .i64 a,.int .i64 b] H (.bool (wIn n a b)) := fn219 h4 n a b
set_option maxHeartbeats 1000000 in
theorem fn222 (h4 : Codes4 E) (k : Int) (d : DatumD) : FnP E 222 [.int .i64 k, .agg #[S d.text, .int .i64 d.n, .int .i64 d.m]] H (.bool (rDat k d)) := by
 refine Fn.of_vks h4.c222 (by simp [cf222]) ?_
 simp only [cf222,cf222_0,cf222_1,cf222_2,cf222_3,cf222_4,cf222_5,cf222_6,cf222_7,cf222_8,cf222_9,cf222_10,cf222_11,cf222_12,cf222_13,cf222_14,cf222_15,cf222_16]
 unfold rDat
 by_cases k1 : k = 1
 ·have e1 : (k == 1) = true := by simpa using k1
  rw [if_pos k1]
  cases ht : (d.text == [])
  ·simp only [e1,ht,go_sem,Nat.reduceLeDiff,Nat.reduceEqDiff,Nat.reduceBEq,Nat.reduceAdd,reduceCtorEq,binO]
   refine vks_callp undef (by simp only [go_sem,Nat.reduceEqDiff]) (fun hg => by simp only [go_sem,Nat.reduceEqDiff] at hg) ?_
   simp only [↓simT_pick_f,go_sem,Nat.reduceEqDiff,Nat.reduceBEq,Nat.reduceAdd,binO]
  ·simp only [e1,ht,go_sem,Nat.reduceLeDiff,Nat.reduceEqDiff,Nat.reduceBEq,Nat.reduceAdd,reduceCtorEq,binO]
   refine vks_callp _ (by simp only [go_sem,Nat.reduceEqDiff]) (fun hg => ⟨by simp only [go_sem,Nat.reduceEqDiff],fn219' h4 d.n 1 1000000⟩) ?_
   simp only [go_sem,Nat.reduceEqDiff,Nat.reduceBEq,Nat.reduceAdd,binO]
 ·have e1 : (k == 1) = false := by simpa using k1
  by_cases k2 : k = 2
  ·have e2 : (k == 2) = true := by simpa using k2
   rw [if_neg k1,if_pos (.inl k2)]
   simp only [e1,e2,go_sem,Nat.reduceLeDiff,Nat.reduceEqDiff,Nat.reduceBEq,Nat.reduceAdd,reduceCtorEq,binO]
   refine vks_callp _ (by simp only [go_sem]) (fun hg => ⟨by simp only [go_sem,Nat.reduceEqDiff],fn198 h4 d.text⟩) ?_
   simp only [go_sem,Nat.reduceLeDiff,Nat.reduceEqDiff,Nat.reduceBEq,Nat.reduceAdd]
   refine vks_callp _ (by simp only [go_sem,Nat.reduceEqDiff]) (fun hg => ⟨by simp only [go_sem,Nat.reduceEqDiff] at hg ⊢; exact hg,fn221 h4 d.text⟩) ?_
   simp only [go_sem,Nat.reduceLeDiff,Nat.reduceEqDiff,Nat.reduceBEq,Nat.reduceAdd,binO]
  ·have e2 : (k == 2) = false := by simpa using k2
   by_cases k3 : k = 3
   ·have e3 : (k == 3) = true := by simpa using k3
    rw [if_neg k1,if_pos (.inr k3)]
    simp only [e1,e2,e3,go_sem,Nat.reduceLeDiff,Nat.reduceEqDiff,Nat.reduceBEq,Nat.reduceAdd,reduceCtorEq,binO]
    refine vks_callp _ (by simp only [go_sem]) (fun hg => ⟨by simp only [go_sem,Nat.reduceEqDiff],fn198 h4 d.text⟩) ?_
    simp only [go_sem,Nat.reduceLeDiff,Nat.reduceEqDiff,Nat.reduceBEq,Nat.reduceAdd]
    refine vks_callp _ (by simp only [go_sem,Nat.reduceEqDiff]) (fun hg => ⟨by simp only [go_sem,Nat.reduceEqDiff] at hg ⊢; exact hg,fn221 h4 d.text⟩) ?_
    simp only [go_sem,Nat.reduceLeDiff,Nat.reduceEqDiff,Nat.reduceBEq,Nat.reduceAdd,binO]
   ·have e3 : (k == 3) = false := by simpa using k3
    have n23 : ¬ (k = 2 ∨ k = 3) := by omega
    by_cases k4 : k = 4
    ·have e4 : (k == 4) = true := by simpa using k4
     rw [if_neg k1,if_neg n23,if_pos k4]
     cases ht : (d.text == [])
     ·simp only [e1,e2,e3,e4,ht,go_sem,Nat.reduceLeDiff,Nat.reduceEqDiff,Nat.reduceBEq,Nat.reduceAdd,reduceCtorEq,binO]
      refine vks_callp undef (by simp only [go_sem,Nat.reduceEqDiff]) (fun hg => by simp only [go_sem,Nat.reduceEqDiff] at hg) ?_
      simp only [↓simT_pick_f,go_sem,Nat.reduceEqDiff,Nat.reduceBEq,Nat.reduceAdd]
      refine vks_callp undef (by simp only [go_sem,Nat.reduceEqDiff]) (fun hg => by simp only [go_sem,Nat.reduceEqDiff] at hg) ?_
      simp only [↓simT_pick_f,go_sem,Nat.reduceEqDiff,Nat.reduceBEq]
     ·simp only [e1,e2,e3,e4,ht,go_sem,Nat.reduceLeDiff,Nat.reduceEqDiff,Nat.reduceBEq,Nat.reduceAdd,reduceCtorEq,binO]
      refine vks_callp _ (by simp only [go_sem,Nat.reduceEqDiff]) (fun hg => ⟨by simp only [go_sem,Nat.reduceEqDiff],fn219' h4 d.n 0 65535⟩) ?_
      simp only [go_sem,Nat.reduceEqDiff,Nat.reduceBEq,Nat.reduceAdd]
      refine vks_callp _ (by simp only [go_sem,Nat.reduceEqDiff]) (fun hg => ⟨by simp only [go_sem,Nat.reduceEqDiff] at hg ⊢; exact hg,fn219' h4 d.m 0 100000⟩) ?_
      simp only [go_sem,Nat.reduceEqDiff,Nat.reduceBEq]
    ·have e4 : (k == 4) = false := by simpa using k4
     by_cases k5 : k = 5
     ·have e5 : (k == 5) = true := by simpa using k5
      rw [if_neg k1,if_neg n23,if_neg k4,if_pos k5]
      simp only [e1,e2,e3,e4,e5,go_sem,Nat.reduceLeDiff,Nat.reduceEqDiff,Nat.reduceBEq,Nat.reduceAdd,reduceCtorEq,binO]
      refine vks_callp _ (by simp only [go_sem]) (fun hg => ⟨by simp only [go_sem,Nat.reduceEqDiff],fn224 h4 d.text⟩) ?_
      simp only [go_sem,Nat.reduceLeDiff,Nat.reduceEqDiff,Nat.reduceBEq,Nat.reduceAdd,binO]
     ·have e5 : (k == 5) = false := by simpa using k5
      by_cases k6 : k = 6
      ·have e6 : (k == 6) = true := by simpa using k6
       rw [if_neg k1,if_neg n23,if_neg k4,if_neg k5,if_pos (.inl k6)]
       cases ht : (d.text == [])
       ·simp only [e1,e2,e3,e4,e5,e6,ht,go_sem,Nat.reduceLeDiff,Nat.reduceEqDiff,Nat.reduceBEq,Nat.reduceAdd,reduceCtorEq,binO]
        refine vks_callp undef (by simp only [go_sem,Nat.reduceEqDiff]) (fun hg => by simp only [go_sem,Nat.reduceEqDiff] at hg) ?_
        simp only [↓simT_pick_f,go_sem,Nat.reduceEqDiff,Nat.reduceBEq,Nat.reduceAdd]
        refine vks_callp undef (by simp only [go_sem,Nat.reduceEqDiff]) (fun hg => by simp only [go_sem,Nat.reduceEqDiff] at hg) ?_
        simp only [↓simT_pick_f,go_sem,Nat.reduceEqDiff,Nat.reduceBEq]
       ·simp only [e1,e2,e3,e4,e5,e6,ht,go_sem,Nat.reduceLeDiff,Nat.reduceEqDiff,Nat.reduceBEq,Nat.reduceAdd,reduceCtorEq,binO]
        refine vks_callp _ (by simp only [go_sem,Nat.reduceEqDiff]) (fun hg => ⟨by simp only [go_sem,Nat.reduceEqDiff],fn219' h4 d.n 1 1000000⟩) ?_
        simp only [go_sem,Nat.reduceEqDiff,Nat.reduceBEq,Nat.reduceAdd]
        refine vks_callp _ (by simp only [go_sem,Nat.reduceEqDiff]) (fun hg => ⟨by simp only [go_sem,Nat.reduceEqDiff] at hg ⊢; exact hg,fn219' h4 d.m 1 3⟩) ?_
        simp only [go_sem,Nat.reduceEqDiff,Nat.reduceBEq]
      ·have e6 : (k == 6) = false := by simpa using k6
       by_cases k7 : k = 7
       ·have e7 : (k == 7) = true := by simpa using k7
        rw [if_neg k1,if_neg n23,if_neg k4,if_neg k5,if_pos (.inr k7)]
        cases ht : (d.text == [])
        ·simp only [e1,e2,e3,e4,e5,e6,e7,ht,go_sem,Nat.reduceLeDiff,Nat.reduceEqDiff,Nat.reduceBEq,Nat.reduceAdd,reduceCtorEq,binO]
         refine vks_callp undef (by simp only [go_sem,Nat.reduceEqDiff]) (fun hg => by simp only [go_sem,Nat.reduceEqDiff] at hg) ?_
         simp only [↓simT_pick_f,go_sem,Nat.reduceEqDiff,Nat.reduceBEq,Nat.reduceAdd]
         refine vks_callp undef (by simp only [go_sem,Nat.reduceEqDiff]) (fun hg => by simp only [go_sem,Nat.reduceEqDiff] at hg) ?_
         simp only [↓simT_pick_f,go_sem,Nat.reduceEqDiff,Nat.reduceBEq]
        ·simp only [e1,e2,e3,e4,e5,e6,e7,ht,go_sem,Nat.reduceLeDiff,Nat.reduceEqDiff,Nat.reduceBEq,Nat.reduceAdd,reduceCtorEq,binO]
         refine vks_callp _ (by simp only [go_sem,Nat.reduceEqDiff]) (fun hg => ⟨by simp only [go_sem,Nat.reduceEqDiff],fn219' h4 d.n 1 1000000⟩) ?_
         simp only [go_sem,Nat.reduceEqDiff,Nat.reduceBEq,Nat.reduceAdd]
         refine vks_callp _ (by simp only [go_sem,Nat.reduceEqDiff]) (fun hg => ⟨by simp only [go_sem,Nat.reduceEqDiff] at hg ⊢; exact hg,fn219' h4 d.m 1 3⟩) ?_
         simp only [go_sem,Nat.reduceEqDiff,Nat.reduceBEq]
       ·have e7 : (k == 7) = false := by simpa using k7
        have n67 : ¬ (k = 6 ∨ k = 7) := by omega
        by_cases k8 : k = 8
        ·have e8 : (k == 8) = true := by simpa using k8
         rw [if_neg k1,if_neg n23,if_neg k4,if_neg k5,if_neg n67,if_pos k8]
         simp only [e1,e2,e3,e4,e5,e6,e7,e8,go_sem,Nat.reduceLeDiff,Nat.reduceEqDiff,Nat.reduceBEq,Nat.reduceAdd,reduceCtorEq,binO]
         refine vks_callp _ (by simp only [go_sem]) (fun hg => ⟨by simp only [go_sem,Nat.reduceEqDiff],fn198 h4 d.text⟩) ?_
         simp only [go_sem,Nat.reduceLeDiff,Nat.reduceEqDiff,Nat.reduceBEq,Nat.reduceAdd]
         refine vks_callp _ (by simp only [go_sem,Nat.reduceEqDiff]) (fun hg => ⟨by simp only [go_sem,Nat.reduceEqDiff] at hg ⊢; exact hg,fn219' h4 d.n 2 510⟩) ?_
         simp only [go_sem,Nat.reduceLeDiff,Nat.reduceEqDiff,Nat.reduceBEq,Nat.reduceAdd,Int.reduceEq,binO]
        ·have e8 : (k == 8) = false := by simpa using k8
         rw [if_neg k1,if_neg n23,if_neg k4,if_neg k5,if_neg n67,if_neg k8]
         simp only [e1,e2,e3,e4,e5,e6,e7,e8,go_sem,Nat.reduceLeDiff,Nat.reduceEqDiff,Nat.reduceBEq,Nat.reduceAdd,reduceCtorEq,binO]
end Go.SL
