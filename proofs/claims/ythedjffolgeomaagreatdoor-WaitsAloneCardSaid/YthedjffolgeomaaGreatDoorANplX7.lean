/- Contracts: the reference's data and sets. -/
import Derived.Test.YthedjffolgeomaaGreatDoorANplX3
namespace Go.SL
open Go
variable {E:Env} {H:Hp}
theorem yXW (h4 : xH E) (n a b : Int) : yB E 219 [.int .i64 n, .int .i64 a, .int .i64 b] H (.bool (decide (n ≥ a) && decide (n ≤ b))) := by
 refine Fn.of_vks h4.c219 (by simp [zMp]) ?_
 simp only [zMp,zYj,zXK]
 cases h:decide (n≥a)<;>simp only [h,go_sem,Nat.reduceEqDiff,Nat.reduceBEq,Nat.reduceAdd,reduceCtorEq,zC]
theorem yZS (h4 : xH E) (n : Int) : yB E 220 [.int .i64 n] H (.bool (n == 3 || n == 4)) := by
 refine Fn.of_vks h4.c220 (by simp [zLu]) ?_
 simp only [zLu,zYK,zZf]
 cases h:(n == 3)<;>simp only [h,go_sem,Nat.reduceEqDiff,Nat.reduceBEq,reduceCtorEq,zC]
def zFl (s:Bs):Bool:=decide (0 < s.length) && bI s 0 == 42
theorem yHf (h4 : xH E) (s : Bs) : yB E 221 [S s] H (.bool (zFl s)) := by
 refine Fn.of_vks h4.c221 (by simp [zMf]) ?_
 simp only [zMf,zSZ,yDP]
 unfold zFl
 by_cases h:0 < s.length
 ·have hd:decide ((s.length:Int) > 0)=true:=by rw [decide_eq_true_eq]; omega
  have hd':decide (0 < s.length)=true:=by rw [decide_eq_true_eq]; omega
  have hr:(0:Int) < (s.length:Int):=by omega
  simp only [hd',hr,go_sem,Nat.reduceEqDiff,Nat.reduceBEq,reduceCtorEq,Int.reduceToNat,Int.reduceLE,zC,zIk]
 ·have hd:decide ((s.length:Int) > 0)=false:=by rw [decide_eq_false_iff_not]; omega
  have hd':decide (0 < s.length)=false:=by rw [decide_eq_false_iff_not]; omega
  simp only [hd,hd',↓yA,go_sem,Nat.reduceEqDiff,Nat.reduceBEq,reduceCtorEq,Int.reduceToNat,Int.reduceLE,zC]
def zFY (a b:xO):Bool:=if a.text=b.text then (if a.n=b.n then decide (a.m < b.m) else decide (a.n < b.n)) else Op.bytesLess a.text b.text
set_option maxHeartbeats 1000000 in
theorem yZI (h4 : xH E) (a b : xO) : yB E 223 [.agg #[S a.text, .int .i64 a.n, .int .i64 a.m], .agg #[S b.text, .int .i64 b.n, .int .i64 b.m]] H (.bool (zFY a b)) := by
 refine Fn.of_vks h4.c223 (by simp [zMK]) ?_
 simp only [zMK,yCV,zUW,yFj,yEd,yBJ,zWY]
 unfold zFY
 by_cases ht:a.text=b.text
 ·have e:(a.text == b.text)=true:=by simpa using ht
  by_cases hn:a.n=b.n
  ·have e2:(a.n != b.n)=false:=by simpa using hn
   simp only [e,e2,if_pos ht,if_pos hn,go_sem,Nat.reduceLeDiff,Nat.reduceEqDiff,Nat.reduceBEq,Nat.reduceAdd,reduceCtorEq,zC]
  ·have e2:(a.n != b.n)=true:=by simpa using hn
   simp only [e,e2,if_pos ht,if_neg hn,go_sem,Nat.reduceLeDiff,Nat.reduceEqDiff,Nat.reduceBEq,Nat.reduceAdd,reduceCtorEq,zC]
 ·have e:(a.text == b.text)=false:=by simpa using ht
  simp only [e,if_neg ht,go_sem,Nat.reduceLeDiff,Nat.reduceEqDiff,Nat.reduceBEq,Nat.reduceAdd,reduceCtorEq,zC]
def zFb (s:Bs) (i:Nat):Bool:=!((decide (bI s i < 97) || decide (bI s i > 122)) && (decide (bI s i < 48) || decide (bI s i > 57)) && bI s i != 32)
def zIA (s:Bs):Bool:=decide (1≤s.length) && decide (s.length≤40) && bI s 0 != 32 && bI s (s.length - 1) != 32 && zP (zFb s) s.length
set_option maxHeartbeats 1000000 in
theorem xAf (h4 : xH E) (s : Bs) : yB E 224 [S s] H (.bool (zIA s)) := by
 refine Fn.of_vks h4.c224 (by simp [zLV]) ?_
 simp only [zLV,zTm,zXQ,yDv,zYq,zVR,yCR,yDH,yEa,yFS,yAp,zQG]
 unfold zIA
 by_cases h1:s.length < 1
 ·have hd:decide ((s.length:Int) < 1)=true:=by rw [decide_eq_true_eq]; omega
  have hd':decide (1≤s.length)=false:=by rw [decide_eq_false_iff_not]; omega
  simp only [hd,hd',↓yQ,go_sem,Nat.reduceEqDiff,Nat.reduceBEq,reduceCtorEq,Int.reduceToNat,Int.reduceLE,zC]
 ·have hd:decide ((s.length:Int) < 1)=false:=by rw [decide_eq_false_iff_not]; omega
  have hd':decide (1≤s.length)=true:=by rw [decide_eq_true_eq]; omega
  by_cases h40:s.length≤40
  ·have e40:decide ((s.length:Int) > 40)=false:=by rw [decide_eq_false_iff_not]; omega
   have e40':decide (s.length≤40)=true:=by rw [decide_eq_true_eq]; omega
   have w1:IntKind.i64.wrap ((s.length:Int) - 1)=((s.length - 1:Nat):Int):=by rw [yZ]<;>omega
   have hr:(0:Int) < (s.length:Int):=by omega
   cases q0:(bI s 0 == 32)
   ·have q0':(bI s 0 != 32)=true:=by rw [bne,q0]; rfl
    cases q1:(bI s (s.length - 1) == 32)
    ·have q1':(bI s (s.length - 1) != 32)=true:=by rw [bne,q1]; rfl
     simp only [hd,hd',e40,e40',w1,hr,q0,q0',q1,q1',go_sem,Nat.reduceEqDiff,Nat.reduceBEq,reduceCtorEq,Int.reduceToNat,Int.reduceLE,zC]
     refine⟨⟨by omega,by omega⟩,?_⟩
     refine zT s.length 0 (fun k=>[(0,⟨true,.val (S s)⟩),(3,⟨true,.val (.int .i64 s.length)⟩),(4,⟨true,.val (.int .i64 k)⟩)]) (fun k=>zP (zFb s) k=true) (Nat.zero_le _) rfl rfl ?_
     intro k hk hP
     by_cases hlt:k < s.length
     ·have hdl:decide ((k:Int) < (s.length:Int))=true:=by simpa using hlt
      have hlp:zFb s k = !((decide (bI s k < 97) || decide (bI s k > 122)) && (decide (bI s k < 48) || decide (bI s k > 57)) && bI s k != 32):=rfl
      simp only [hdl,go_sem,Nat.reduceEqDiff,Nat.reduceBEq,reduceCtorEq,zC]
      generalize decide (bI s k < 97)=q3 at *
      generalize decide (bI s k > 122)=q4 at *
      generalize decide (bI s k < 48)=q5 at *
      generalize decide (bI s k > 57)=q6 at *
      generalize (bI s k != 32)=q7 at *
      refine⟨⟨by omega,by omega⟩,fun h=>⟨h,fun h'=>by rw [h,h']; rfl⟩,fun hc=>?_,fun hc=>⟨hlt,zR (by omega),yJ hP (by rw [hlp,hc]; rfl)⟩⟩
      rw [zY hlt (by rw [hlp,hc]; rfl)]
     ·have hdl:decide ((k:Int) < (s.length:Int))=false:=by simpa using hlt
      have:k=s.length:=by omega
      subst this
      simp only [hdl,hP,go_sem,Nat.reduceEqDiff,Nat.reduceBEq,reduceCtorEq,zC]
    ·have q1':(bI s (s.length - 1) != 32)=false:=by rw [bne,q1]; rfl
     simp only [hd,hd',e40,e40',w1,hr,q0,q0',q1,q1',go_sem,Nat.reduceEqDiff,Nat.reduceBEq,reduceCtorEq,Int.reduceToNat,Int.reduceLE,zC]
     exact⟨by omega,by omega⟩
   ·have q0':(bI s 0 != 32)=false:=by rw [bne,q0]; rfl
    simp only [hd,hd',e40,e40',hr,q0,q0',↓yQ,go_sem,Nat.reduceEqDiff,Nat.reduceBEq,reduceCtorEq,Int.reduceToNat,Int.reduceLE,zC]
  ·have e40:decide ((s.length:Int) > 40)=true:=by rw [decide_eq_true_eq]; omega
   have e40':decide (s.length≤40)=false:=by rw [decide_eq_false_iff_not]; omega
   simp only [hd,hd',e40,e40',↓yQ,go_sem,Nat.reduceEqDiff,Nat.reduceBEq,reduceCtorEq,Int.reduceToNat,Int.reduceLE,zC]
def zAi (a b:Bs) (s t:Int):Int:=let n:=if vK a && vK b then uL a b else 0; if n=0 then (if s < t then -1 else if s > t then 1 else 0) else n
set_option maxHeartbeats 1000000 in
theorem yYm (h4 : xH E) (a b : Bs) (s t l m : Int) (z y : Value) (_hz : yV z = true) (_hy : yV y = true) :
  yB E 207 [.agg #[S a,.int .i64 s,.int .i64 l,z],.agg #[S b,.int .i64 t,.int .i64 m,y]] H (.int .i64 (zAi a b s t)):=by
 refine Fn.of_vks h4.c207 (by simp [zNj]) ?_
 simp only [zNj,yFz,zUI,yAJ,zYt,zXY,yAF,yBm,zUr,yGv]
 simp only [go_sem,Nat.reduceLeDiff,Nat.reduceEqDiff,Nat.reduceBEq,Nat.reduceAdd,reduceCtorEq]
 refine zE _ (by simp only [go_sem]) (fun _=>⟨by simp only [go_sem,Nat.reduceEqDiff],yYn h4 a b⟩) ?_
 unfold zAi
 obtain⟨n,hn⟩:∃ n,n=(if (vK a && vK b)=true then uL a b else 0):=⟨_,rfl⟩
 obtain⟨e,he⟩:∃ e:Int,e=(if (vK a && vK b)=true then 0 else 11):=⟨_,rfl⟩
 rw [← hn,← he]
 by_cases h0:n=0
 ·have h0':(n != 0)=false:=by simpa using h0
  by_cases h1:s < t
  ·have h1':decide (s < t)=true:=by rw [decide_eq_true_eq]; exact h1
   simp only [h0',if_pos h0,if_pos h1,h1',go_sem,Nat.reduceLT,Nat.reduceLeDiff,Nat.reduceEqDiff,Nat.reduceBEq,Nat.reduceAdd,reduceCtorEq,zC]
  ·have h1':decide (s < t)=false:=by rw [decide_eq_false_iff_not]; exact h1
   by_cases h2:s > t
   ·have h2':decide (s > t)=true:=by rw [decide_eq_true_eq]; exact h2
    simp only [h0',if_pos h0,if_neg h1,if_pos h2,h1',h2',go_sem,Nat.reduceLT,Nat.reduceLeDiff,Nat.reduceEqDiff,Nat.reduceBEq,Nat.reduceAdd,reduceCtorEq,Int.reduceEq,zC]
   ·have h2':decide (s > t)=false:=by rw [decide_eq_false_iff_not]; exact h2
    simp only [h0',if_pos h0,if_neg h1,if_neg h2,h1',h2',go_sem,Nat.reduceLT,Nat.reduceLeDiff,Nat.reduceEqDiff,Nat.reduceBEq,Nat.reduceAdd,reduceCtorEq,Int.reduceEq,zC]
 ·have h0':(n != 0)=true:=by simpa using h0
  simp only [h0',if_neg h0,go_sem,Nat.reduceLT,Nat.reduceLeDiff,Nat.reduceEqDiff,Nat.reduceBEq,Nat.reduceAdd,zC]
end Go.SL
/- Contracts: the reference's data, when they are valid for a type. -/
namespace Go.SL
open Go
variable {E:Env} {H:Hp}
def wIn (n a b:Int):Bool:=decide (n≥a) && decide (n≤b)
def zHZ (k : Int) (d : xO) : Bool :=
 if k=1 then d.text == [] && wIn d.n 1 1000000 && d.m == 0
 else if k=2∨k=3 then vK d.text && !zFl d.text && d.n == 0 && d.m == 0
 else if k=4 then d.text == [] && wIn d.n 0 65535 && wIn d.m 0 100000
 else if k=5 then zIA d.text && d.n == 0 && d.m == 0
 else if k=6∨k=7 then d.text == [] && wIn d.n 1 1000000 && wIn d.m 1 3
 else if k=8 then vK d.text && wIn d.n 2 510 && d.n.tmod 2 == 0 && d.m == 0
 else false
theorem zAm (h4:xH E) (n a b:Int):yB E 219 [.int .i64 n,.int .i64 a,.int .i64 b] H (.bool (wIn n a b)):=yXW h4 n a b
set_option maxHeartbeats 1000000 in
theorem yTl (h4 : xH E) (k : Int) (d : xO) : yB E 222 [.int .i64 k, .agg #[S d.text, .int .i64 d.n, .int .i64 d.m]] H (.bool (zHZ k d)) := by
 refine Fn.of_vks h4.c222 (by simp [zMa]) ?_
 simp only [zMa,yAA,yAW,yAw,zVu,yDs,zZS,yER,zWO,yDw,zZL,zOB,zPY,zNV,zQH,zPc,zQx,zQu]
 unfold zHZ
 by_cases k1:k=1
 ·have e1:(k == 1)=true:=by simpa using k1
  rw [if_pos k1]
  cases ht:(d.text == [])
  ·simp only [e1,ht,go_sem,Nat.reduceLeDiff,Nat.reduceEqDiff,Nat.reduceBEq,Nat.reduceAdd,reduceCtorEq,zC]
   refine zE undef (by simp only [go_sem,Nat.reduceEqDiff]) (fun hg=>by simp only [go_sem,Nat.reduceEqDiff] at hg) ?_
   simp only [↓yA,go_sem,Nat.reduceEqDiff,Nat.reduceBEq,Nat.reduceAdd,zC]
  ·simp only [e1,ht,go_sem,Nat.reduceLeDiff,Nat.reduceEqDiff,Nat.reduceBEq,Nat.reduceAdd,reduceCtorEq,zC]
   refine zE _ (by simp only [go_sem,Nat.reduceEqDiff]) (fun hg=>⟨by simp only [go_sem,Nat.reduceEqDiff],zAm h4 d.n 1 1000000⟩) ?_
   simp only [go_sem,Nat.reduceEqDiff,Nat.reduceBEq,Nat.reduceAdd,zC]
 ·have e1:(k == 1)=false:=by simpa using k1
  by_cases k2:k=2
  ·have e2:(k == 2)=true:=by simpa using k2
   rw [if_neg k1,if_pos (.inl k2)]
   simp only [e1,e2,go_sem,Nat.reduceLeDiff,Nat.reduceEqDiff,Nat.reduceBEq,Nat.reduceAdd,reduceCtorEq,zC]
   refine zE _ (by simp only [go_sem]) (fun hg=>⟨by simp only [go_sem,Nat.reduceEqDiff],zEe h4 d.text⟩) ?_
   simp only [go_sem,Nat.reduceLeDiff,Nat.reduceEqDiff,Nat.reduceBEq,Nat.reduceAdd]
   refine zE _ (by simp only [go_sem,Nat.reduceEqDiff]) (fun hg=>⟨by simp only [go_sem,Nat.reduceEqDiff] at hg ⊢; exact hg,yHf h4 d.text⟩) ?_
   simp only [go_sem,Nat.reduceLeDiff,Nat.reduceEqDiff,Nat.reduceBEq,Nat.reduceAdd,zC]
  ·have e2:(k == 2)=false:=by simpa using k2
   by_cases k3:k=3
   ·have e3:(k == 3)=true:=by simpa using k3
    rw [if_neg k1,if_pos (.inr k3)]
    simp only [e1,e2,e3,go_sem,Nat.reduceLeDiff,Nat.reduceEqDiff,Nat.reduceBEq,Nat.reduceAdd,reduceCtorEq,zC]
    refine zE _ (by simp only [go_sem]) (fun hg=>⟨by simp only [go_sem,Nat.reduceEqDiff],zEe h4 d.text⟩) ?_
    simp only [go_sem,Nat.reduceLeDiff,Nat.reduceEqDiff,Nat.reduceBEq,Nat.reduceAdd]
    refine zE _ (by simp only [go_sem,Nat.reduceEqDiff]) (fun hg=>⟨by simp only [go_sem,Nat.reduceEqDiff] at hg ⊢; exact hg,yHf h4 d.text⟩) ?_
    simp only [go_sem,Nat.reduceLeDiff,Nat.reduceEqDiff,Nat.reduceBEq,Nat.reduceAdd,zC]
   ·have e3:(k == 3)=false:=by simpa using k3
    have n23:¬ (k=2∨k=3):=by omega
    by_cases k4:k=4
    ·have e4:(k == 4)=true:=by simpa using k4
     rw [if_neg k1,if_neg n23,if_pos k4]
     cases ht:(d.text == [])
     ·simp only [e1,e2,e3,e4,ht,go_sem,Nat.reduceLeDiff,Nat.reduceEqDiff,Nat.reduceBEq,Nat.reduceAdd,reduceCtorEq,zC]
      refine zE undef (by simp only [go_sem,Nat.reduceEqDiff]) (fun hg=>by simp only [go_sem,Nat.reduceEqDiff] at hg) ?_
      simp only [↓yA,go_sem,Nat.reduceEqDiff,Nat.reduceBEq,Nat.reduceAdd]
      refine zE undef (by simp only [go_sem,Nat.reduceEqDiff]) (fun hg=>by simp only [go_sem,Nat.reduceEqDiff] at hg) ?_
      simp only [↓yA,go_sem,Nat.reduceEqDiff,Nat.reduceBEq]
     ·simp only [e1,e2,e3,e4,ht,go_sem,Nat.reduceLeDiff,Nat.reduceEqDiff,Nat.reduceBEq,Nat.reduceAdd,reduceCtorEq,zC]
      refine zE _ (by simp only [go_sem,Nat.reduceEqDiff]) (fun hg=>⟨by simp only [go_sem,Nat.reduceEqDiff],zAm h4 d.n 0 65535⟩) ?_
      simp only [go_sem,Nat.reduceEqDiff,Nat.reduceBEq,Nat.reduceAdd]
      refine zE _ (by simp only [go_sem,Nat.reduceEqDiff]) (fun hg=>⟨by simp only [go_sem,Nat.reduceEqDiff] at hg ⊢; exact hg,zAm h4 d.m 0 100000⟩) ?_
      simp only [go_sem,Nat.reduceEqDiff,Nat.reduceBEq]
    ·have e4:(k == 4)=false:=by simpa using k4
     by_cases k5:k=5
     ·have e5:(k == 5)=true:=by simpa using k5
      rw [if_neg k1,if_neg n23,if_neg k4,if_pos k5]
      simp only [e1,e2,e3,e4,e5,go_sem,Nat.reduceLeDiff,Nat.reduceEqDiff,Nat.reduceBEq,Nat.reduceAdd,reduceCtorEq,zC]
      refine zE _ (by simp only [go_sem]) (fun hg=>⟨by simp only [go_sem,Nat.reduceEqDiff],xAf h4 d.text⟩) ?_
      simp only [go_sem,Nat.reduceLeDiff,Nat.reduceEqDiff,Nat.reduceBEq,Nat.reduceAdd,zC]
     ·have e5:(k == 5)=false:=by simpa using k5
      by_cases k6:k=6
      ·have e6:(k == 6)=true:=by simpa using k6
       rw [if_neg k1,if_neg n23,if_neg k4,if_neg k5,if_pos (.inl k6)]
       cases ht:(d.text == [])
       ·simp only [e1,e2,e3,e4,e5,e6,ht,go_sem,Nat.reduceLeDiff,Nat.reduceEqDiff,Nat.reduceBEq,Nat.reduceAdd,reduceCtorEq,zC]
        refine zE undef (by simp only [go_sem,Nat.reduceEqDiff]) (fun hg=>by simp only [go_sem,Nat.reduceEqDiff] at hg) ?_
        simp only [↓yA,go_sem,Nat.reduceEqDiff,Nat.reduceBEq,Nat.reduceAdd]
        refine zE undef (by simp only [go_sem,Nat.reduceEqDiff]) (fun hg=>by simp only [go_sem,Nat.reduceEqDiff] at hg) ?_
        simp only [↓yA,go_sem,Nat.reduceEqDiff,Nat.reduceBEq]
       ·simp only [e1,e2,e3,e4,e5,e6,ht,go_sem,Nat.reduceLeDiff,Nat.reduceEqDiff,Nat.reduceBEq,Nat.reduceAdd,reduceCtorEq,zC]
        refine zE _ (by simp only [go_sem,Nat.reduceEqDiff]) (fun hg=>⟨by simp only [go_sem,Nat.reduceEqDiff],zAm h4 d.n 1 1000000⟩) ?_
        simp only [go_sem,Nat.reduceEqDiff,Nat.reduceBEq,Nat.reduceAdd]
        refine zE _ (by simp only [go_sem,Nat.reduceEqDiff]) (fun hg=>⟨by simp only [go_sem,Nat.reduceEqDiff] at hg ⊢; exact hg,zAm h4 d.m 1 3⟩) ?_
        simp only [go_sem,Nat.reduceEqDiff,Nat.reduceBEq]
      ·have e6:(k == 6)=false:=by simpa using k6
       by_cases k7:k=7
       ·have e7:(k == 7)=true:=by simpa using k7
        rw [if_neg k1,if_neg n23,if_neg k4,if_neg k5,if_pos (.inr k7)]
        cases ht:(d.text == [])
        ·simp only [e1,e2,e3,e4,e5,e6,e7,ht,go_sem,Nat.reduceLeDiff,Nat.reduceEqDiff,Nat.reduceBEq,Nat.reduceAdd,reduceCtorEq,zC]
         refine zE undef (by simp only [go_sem,Nat.reduceEqDiff]) (fun hg=>by simp only [go_sem,Nat.reduceEqDiff] at hg) ?_
         simp only [↓yA,go_sem,Nat.reduceEqDiff,Nat.reduceBEq,Nat.reduceAdd]
         refine zE undef (by simp only [go_sem,Nat.reduceEqDiff]) (fun hg=>by simp only [go_sem,Nat.reduceEqDiff] at hg) ?_
         simp only [↓yA,go_sem,Nat.reduceEqDiff,Nat.reduceBEq]
        ·simp only [e1,e2,e3,e4,e5,e6,e7,ht,go_sem,Nat.reduceLeDiff,Nat.reduceEqDiff,Nat.reduceBEq,Nat.reduceAdd,reduceCtorEq,zC]
         refine zE _ (by simp only [go_sem,Nat.reduceEqDiff]) (fun hg=>⟨by simp only [go_sem,Nat.reduceEqDiff],zAm h4 d.n 1 1000000⟩) ?_
         simp only [go_sem,Nat.reduceEqDiff,Nat.reduceBEq,Nat.reduceAdd]
         refine zE _ (by simp only [go_sem,Nat.reduceEqDiff]) (fun hg=>⟨by simp only [go_sem,Nat.reduceEqDiff] at hg ⊢; exact hg,zAm h4 d.m 1 3⟩) ?_
         simp only [go_sem,Nat.reduceEqDiff,Nat.reduceBEq]
       ·have e7:(k == 7)=false:=by simpa using k7
        have n67:¬ (k=6∨k=7):=by omega
        by_cases k8:k=8
        ·have e8:(k == 8)=true:=by simpa using k8
         rw [if_neg k1,if_neg n23,if_neg k4,if_neg k5,if_neg n67,if_pos k8]
         simp only [e1,e2,e3,e4,e5,e6,e7,e8,go_sem,Nat.reduceLeDiff,Nat.reduceEqDiff,Nat.reduceBEq,Nat.reduceAdd,reduceCtorEq,zC]
         refine zE _ (by simp only [go_sem]) (fun hg=>⟨by simp only [go_sem,Nat.reduceEqDiff],zEe h4 d.text⟩) ?_
         simp only [go_sem,Nat.reduceLeDiff,Nat.reduceEqDiff,Nat.reduceBEq,Nat.reduceAdd]
         refine zE _ (by simp only [go_sem,Nat.reduceEqDiff]) (fun hg=>⟨by simp only [go_sem,Nat.reduceEqDiff] at hg ⊢; exact hg,zAm h4 d.n 2 510⟩) ?_
         simp only [go_sem,Nat.reduceLeDiff,Nat.reduceEqDiff,Nat.reduceBEq,Nat.reduceAdd,Int.reduceEq,zC]
        ·have e8:(k == 8)=false:=by simpa using k8
         rw [if_neg k1,if_neg n23,if_neg k4,if_neg k5,if_neg n67,if_neg k8]
         simp only [e1,e2,e3,e4,e5,e6,e7,e8,go_sem,Nat.reduceLeDiff,Nat.reduceEqDiff,Nat.reduceBEq,Nat.reduceAdd,reduceCtorEq,zC]
end Go.SL
/- Contracts: the reference's sets. -/
namespace Go.SL
open Go
variable {E:Env} {H:Hp}
def zHe (k:Int) (ds:List xO) (i:Nat):Bool:=zHZ k (ds.getD i default) && (i == 0 || zFY (ds.getD (i - 1) default) (ds.getD i default))
def zBk (name:Bs) (t l:Int) (n:Nat):Bool:=!vK name || !wIn t 1 8 || !wIn l 0 100000 || !wIn (n:Int) 1 8 || ((t == 3 || t == 4) && decide ((n:Int) > 1))
def zFU (name:Bs) (t:Int):Bool:=zFl name && t != 1 && t != 5 && t != 8
def zCN (name:Bs) (t l:Int) (ds:List xO):Bool:=!zBk name t l ds.length && (!zFU name t && zP (zHe t ds) ds.length)
theorem zOb {name : Bs} {t l : Int} {n : Nat} (h : zBk name t l n = false) : n ≤ 8 := by
 unfold zBk wIn at h
 simp only [Bool.or_eq_false_iff,Bool.not_eq_false',Bool.and_eq_true,decide_eq_true_eq] at h
 omega
set_option maxHeartbeats 1000000 in
theorem yTC (h4 : xH E) (name : Bs) (t l : Int) (ds : List xO) {z : Value} (hz : xF H z ds) :
  yB E 200 [.agg #[S name,.int .i64 t,.int .i64 l,z]] H (.bool (zCN name t l ds)):=by
 obtain⟨a,cap,rfl,hsp,hr⟩:=hz
 refine Fn.of_vks h4.c200 (by simp [zMG]) ?_
 simp only [zMG,yCk,zTD,yFF,zWd,yFG,yAD,yFm,zUC,yBA,zNx,zWl,zQl]
 obtain⟨q0,hq0⟩:∃ y,y=zCN name t l ds:=⟨_,rfl⟩
 rw [← hq0]
 unfold zCN at hq0
 obtain⟨q1,hq1⟩:∃ y,y=zBk name t l ds.length:=⟨_,rfl⟩
 have hq1':=hq1
 unfold zBk at hq1'
 simp only [go_sem,Nat.reduceLeDiff,Nat.reduceEqDiff,Nat.reduceBEq,Nat.reduceAdd,reduceCtorEq]
 refine zE _ (by simp only [go_sem]) (fun _=>⟨by simp only [go_sem,Nat.reduceEqDiff],zEe h4 name⟩) ?_
 simp only [go_sem,Nat.reduceLeDiff,Nat.reduceEqDiff,Nat.reduceBEq,Nat.reduceAdd]
 refine zE _ (by simp only [go_sem,Nat.reduceEqDiff]) (fun hg=>⟨by simp only [go_sem,Nat.reduceEqDiff] at hg ⊢; exact hg,zAm h4 t 1 8⟩) ?_
 simp only [go_sem,Nat.reduceLeDiff,Nat.reduceEqDiff,Nat.reduceBEq,Nat.reduceAdd]
 refine zE _ (by simp only [go_sem,Nat.reduceEqDiff]) (fun hg=>⟨by simp only [go_sem,Nat.reduceEqDiff] at hg ⊢; exact hg,zAm h4 l 0 100000⟩) ?_
 simp only [go_sem,Nat.reduceEqDiff,Nat.reduceBEq]
 refine zE _ (by simp only [go_sem,Nat.reduceEqDiff]) (fun hg=>⟨by simp only [go_sem,Nat.reduceEqDiff] at hg ⊢; exact hg,zAm h4 ds.length 1 8⟩) ?_
 simp only [go_sem,Nat.reduceLeDiff,Nat.reduceEqDiff,Nat.reduceBEq,Nat.reduceAdd]
 refine zE _ (by simp only [go_sem,Nat.reduceEqDiff]) (fun hg=>⟨by simp only [go_sem,Nat.reduceEqDiff] at hg ⊢; exact hg,yZS h4 t⟩) ?_
 simp only [← hq1',go_sem,Nat.reduceLeDiff,Nat.reduceEqDiff,Nat.reduceBEq,Nat.reduceAdd,zC]
 refine⟨fun h=>⟨h,fun h2=>by rw [h,h2]; rfl⟩,fun h=>by rw [hq0,← hq1,h]; rfl,fun h=>?_⟩
 have hm:ds.length≤8:=zOb (hq1.symm.trans h)
 rw [← hq1,h,Bool.not_false,Bool.true_and] at hq0
 refine zE _ (by simp only [go_sem]) (fun _=>⟨by simp only [go_sem,Nat.reduceEqDiff],yHf h4 name⟩) ?_
 obtain⟨q2,hq2⟩:∃ y,y=zFU name t:=⟨_,rfl⟩
 have hq2':=hq2
 unfold zFU at hq2'
 rw [← hq2] at hq0
 simp only [← hq2',go_sem,Nat.reduceLeDiff,Nat.reduceEqDiff,Nat.reduceBEq,Nat.reduceAdd,zC]
 refine⟨fun h=>by rw [hq0,h]; rfl,fun h=>?_⟩
 rw [h,Bool.not_false,Bool.true_and] at hq0
 refine zT ds.length 0 (fun k=>[(1,⟨true,.box [S name,.int .i64 t,.int .i64 l,.slice a ds.length cap]⟩),(3,⟨true,.val (.int .i64 ds.length)⟩),(4,⟨true,.val (.int .i64 k)⟩)]) (fun k=>zP (zHe t ds) k=true) (Nat.zero_le _) rfl rfl ?_
 intro k hk hP
 by_cases hlt:k < ds.length
 ·have hdl:decide ((k:Int) < (ds.length:Int))=true:=by simpa using hlt
  obtain⟨b,o,vs,c,wr,rfl,hb,hi⟩:=hr (by omega)
  have hi1:=(hi k hlt).1
  have hi2:=(hi k hlt).2
  have hdk:zHe t ds k=(zHZ t (ds.getD k default) && (k == 0 || zFY (ds.getD (k - 1) default) (ds.getD k default))):=rfl
  simp only [hdl,hb,hi2,pR,go_sem,Nat.reduceLeDiff,Nat.reduceEqDiff,Nat.reduceBEq,Nat.reduceAdd,zC]
  refine⟨⟨by omega,by omega⟩,hi1,?_⟩
  cases hA:zHZ t (ds.getD k default)
  ·refine xM _ (by simp only [go_sem]) (fun _=>⟨by simp only [go_sem,Nat.reduceEqDiff],yTl h4 t (ds.getD k default)⟩) ?_ ?_
   ·simp only [hb,go_sem,Nat.reduceLeDiff,Nat.reduceEqDiff,Nat.reduceBEq,Nat.reduceAdd]
   ·have hf:q0=false:=by rw [hq0]; exact zY hlt (by rw [hdk,hA]; rfl)
    simp only [hA,hb,hf,go_sem,Nat.reduceEqDiff,Nat.reduceBEq,Nat.reduceAdd,zC]
    refine xM (.bool false) (by simp only [go_sem,Nat.reduceEqDiff]) (fun hg=>by simp only [go_sem,Nat.reduceEqDiff] at hg) ?_ ?_
    ·simp only [hb,go_sem,Nat.reduceLeDiff,Nat.reduceEqDiff,Nat.reduceBEq,Nat.reduceAdd,zC]
    ·simp only [↓yQ,go_sem,Nat.reduceEqDiff,Nat.reduceBEq,zC]
  ·refine xM _ (by simp only [go_sem]) (fun _=>⟨by simp only [go_sem,Nat.reduceEqDiff],yTl h4 t (ds.getD k default)⟩) ?_ ?_
   ·simp only [hb,go_sem,Nat.reduceLeDiff,Nat.reduceEqDiff,Nat.reduceBEq,Nat.reduceAdd]
   ·by_cases hk0:k=0
    ·have e0:decide ((k:Int) > 0)=false:=by rw [decide_eq_false_iff_not]; omega
     have e0':(k == 0)=true:=by simpa using hk0
     have ht:zP (zHe t ds) (k + 1)=true:=yJ hP (by rw [hdk,hA,e0']; rfl)
     simp only [hA,e0,hb,go_sem,Nat.reduceEqDiff,Nat.reduceBEq,Nat.reduceAdd,zC]
     refine xM (.bool false) (by simp only [go_sem,Nat.reduceEqDiff]) (fun hg=>by simp only [go_sem,Nat.reduceEqDiff] at hg) ?_ ?_
     ·simp only [e0,hb,go_sem,Nat.reduceLeDiff,Nat.reduceEqDiff,Nat.reduceBEq,Nat.reduceAdd,zC]
     ·simp only [ht,↓yA,go_sem,Nat.reduceEqDiff,Nat.reduceBEq,zC]
      exact⟨hlt,zR (by omega)⟩
    ·have e0:decide ((k:Int) > 0)=true:=by rw [decide_eq_true_eq]; omega
     have e0':(k == 0)=false:=by simpa using hk0
     have e1:IntKind.i64.wrap ((k:Int) - 1)=((k - 1:Nat):Int):=by rw [yZ]<;>omega
     have hj1:=(hi (k - 1) (by omega)).1
     have hj2:=(hi (k - 1) (by omega)).2
     rw [hA,e0',Bool.true_and,Bool.false_or] at hdk
     simp only [hA,e0,e1,toNat_ofNat',hb,hi2,hj2,pR,go_sem,Nat.reduceEqDiff,Nat.reduceBEq,Nat.reduceAdd,zC]
     refine⟨⟨by omega,by omega⟩,hj1,⟨by omega,by omega⟩,hi1,?_⟩
     refine xM _ (by simp only [go_sem,Nat.reduceEqDiff]) (fun _=>⟨by simp only [go_sem,Nat.reduceEqDiff],yZI h4 (ds.getD (k - 1) default) (ds.getD k default)⟩) ?_ ?_
     ·simp only [e0,e1,toNat_ofNat',hb,hi2,hj2,pR,go_sem,Nat.reduceLeDiff,Nat.reduceEqDiff,Nat.reduceBEq,Nat.reduceAdd,zC]
     ·cases hB:zFY (ds.getD (k - 1) default) (ds.getD k default)
      ·have hf:q0=false:=by rw [hq0]; exact zY hlt (by rw [hdk,hB])
       simp only [hf,go_sem,Nat.reduceEqDiff,Nat.reduceBEq,zC]
      ·have ht:zP (zHe t ds) (k + 1)=true:=yJ hP (by rw [hdk,hB])
       simp only [ht,go_sem,Nat.reduceEqDiff,Nat.reduceBEq,zC]
       exact⟨hlt,zR (by omega)⟩
 ·have hdl:decide ((k:Int) < (ds.length:Int))=false:=by simpa using hlt
  have:k=ds.length:=by omega
  subst this
  rw [hP] at hq0
  simp only [hdl,hq0,go_sem,Nat.reduceLeDiff,Nat.reduceEqDiff,Nat.reduceBEq,Nat.reduceAdd,zC]
theorem yPV {name : Bs} {t l : Int} {ds : List xO} (h : zCN name t l ds = true) : vK name = true := by
 unfold zCN zBk at h
 cases hn:vK name
 ·rw [hn] at h; simp at h
 ·rfl
theorem zRz {name:Bs} {t l:Int} {ds:List xO} (h:zCN name t l ds=true):name.length≤1000000:=Nat.le_trans (zBt (yPV h)) (by omega)
end Go.SL
/- Contracts: the reference's zones, first parts. -/
namespace Go.SL
open Go
variable {E:Env} {H:Hp}
def zBm (t:Int) (a:Bool):Bool:=if a then t != 3 && t != 6 else t != 4 && t != 7
theorem yYY (h4 : xH E) (t : Int) (a : Bool) : yB E 209 [.int .i64 t, .bool a] H (.bool (zBm t a)) := by
 refine Fn.of_vks h4.c209 (by simp [zLy]) ?_
 simp only [zLy,yAS,yFq,yFB,zUf]
 unfold zBm
 cases a<;>simp only [go_sem,Nat.reduceEqDiff,Nat.reduceBEq,reduceCtorEq,zC]
def zNI (ss:List zF) (nm:Bs) (t:Int) (k:Nat):Bool:=(ss.getD k default).name == nm && (ss.getD k default).type == t
def kC (ss : List zF) (nm : Bs) (t : Int) : Nat → Nat → Int
 | 0,_=>-1
 | r + 1,k=>if zNI ss nm t k then (k:Int) else kC ss nm t r (k + 1)
set_option maxHeartbeats 1000000 in
theorem yTn (h4 : xH E) (apex nm : Bs) (t : Int) {v : Value} {ss : List zF} (hss : xT H v ss) (hn : ss.length ≤ 1000000000) :
  yB E 208 [.agg #[S apex,v],.agg #[S nm,.int .i64 t]] H (.int .i64 (kC ss nm t ss.length 0)):=by
 obtain⟨d,g,⟨a,cap,rfl,hsp,hr⟩,hdeep⟩:=hss
 refine Fn.of_vks h4.c208 (by simp [zMY]) ?_
 simp only [zMY,yCG,yFf,zXg,zXw,yAX,yCW,zXC]
 simp only [go_sem,Nat.reduceEqDiff,Nat.reduceBEq,reduceCtorEq]
 refine zT ss.length 0 (fun k=>[(2,⟨true,.box [S apex,.slice a ss.length cap]⟩),(3,⟨true,.box [S nm,.int .i64 t]⟩),(5,⟨true,.val (.int .i64 k)⟩)]) (fun k=>kC ss nm t ss.length 0=kC ss nm t (ss.length - k) k) (Nat.zero_le _) rfl rfl ?_
 intro k hk hP
 rw [hP]
 by_cases hlt:k < ss.length
 ·have hdl:decide ((k:Int) < (ss.length:Int))=true:=by simpa using hlt
  obtain⟨b,o,vs,c,wr,rfl,hb,hi⟩:=hr (by omega)
  have hi1:=(hi k hlt).1
  have hi2:=(hi k hlt).2
  have v0:=zK hi2 (j:=0) (by omega)
  have v1:=zK hi2 (j:=1) (by omega)
  simp only [xD,List.getD_cons_zero,List.getD_cons_succ,Nat.add_zero] at v0 v1
  obtain⟨r,hr'⟩:∃ r,ss.length - k=r + 1:=⟨ss.length - k - 1,by omega⟩
  have hr2:ss.length - (k + 1)=r:=by omega
  have hgo:kC ss nm t (r + 1) k=if zNI ss nm t k then (k:Int) else kC ss nm t r (k + 1):=rfl
  have hia:zNI ss nm t k=((ss.getD k default).name == nm && (ss.getD k default).type == t):=rfl
  rw [hr',hgo]
  cases h1:((ss.getD k default).name == nm)
  ·rw [h1,Bool.false_and] at hia
   simp only [hdl,hb,v0,v1,h1,hia,hr2,↓yA,go_sem,Nat.reduceLeDiff,Nat.reduceEqDiff,Nat.reduceBEq,Nat.reduceAdd,zC]
   exact⟨⟨by omega,by omega⟩,by omega,hlt,zR (by omega)⟩
  ·cases h2:((ss.getD k default).type == t)
   ·rw [h1,h2,Bool.and_false] at hia
    simp only [hdl,hb,v0,v1,h1,h2,hia,hr2,go_sem,Nat.reduceLeDiff,Nat.reduceEqDiff,Nat.reduceBEq,Nat.reduceAdd,zC]
    exact⟨⟨by omega,by omega⟩,by omega,⟨by omega,by omega⟩,by omega,hlt,zR (by omega)⟩
   ·rw [h1,h2,Bool.and_true] at hia
    simp only [hdl,hb,v0,v1,h1,h2,hia,hr2,go_sem,Nat.reduceLeDiff,Nat.reduceEqDiff,Nat.reduceBEq,Nat.reduceAdd,reduceCtorEq,zC]
    exact⟨⟨by omega,by omega⟩,by omega,⟨by omega,by omega⟩,by omega⟩
 ·have hdl:decide ((k:Int) < (ss.length:Int))=false:=by simpa using hlt
  have:k=ss.length:=by omega
  subst this
  rw [Nat.sub_self]
  simp only [kC,hdl,go_sem,Nat.reduceEqDiff,Nat.reduceBEq,Nat.reduceAdd,zC]
end Go.SL
/- Contracts: the reference's zones: the apex has what it needs. -/
namespace Go.SL
open Go
variable {E:Env} {H:Hp}
def zHX (apex:Bs) (ss:List zF) (k:Nat):Bool:=zBm (ss.getD k default).type ((ss.getD k default).name == apex)
def zKf (apex:Bs) (ss:List zF):Bool:=!(decide (kC ss apex 4 ss.length 0 < 0) || decide (kC ss apex 2 ss.length 0 < 0)) && zP (zHX apex ss) ss.length
theorem yRw (apex:Bs) (ss:List zF):zKf apex ss=(!(decide (kC ss apex 4 ss.length 0 < 0) || decide (kC ss apex 2 ss.length 0 < 0)) && zP (zHX apex ss) ss.length):=rfl
set_option maxHeartbeats 1000000 in
theorem xAt (h4 : xH E) (apex : Bs) {v : Value} {ss : List zF} (hss : xT H v ss) (hn : ss.length ≤ 1000000000) :
  yB E 202 [.agg #[S apex,v]] H (.bool (zKf apex ss)):=by
 have hss':=hss
 obtain⟨d,g,⟨a,cap,rfl,hsp,hr⟩,hdeep⟩:=hss
 refine Fn.of_vks h4.c202 (by simp [zMx]) ?_
 simp only [zMx,zTN,zTb,zYN,yDG,zVs,zXr,yAc,yCY,yBn]
 obtain⟨q0,hq0⟩:∃ y,y=zKf apex ss:=⟨_,rfl⟩
 rw [← hq0]
 rw [yRw] at hq0
 simp only [go_sem,Nat.reduceLeDiff,Nat.reduceEqDiff,Nat.reduceBEq,Nat.reduceAdd,reduceCtorEq]
 refine zE _ (by simp only [go_sem]) (fun _=>⟨by simp only [go_sem,Nat.reduceEqDiff],yTn h4 apex apex 4 hss' hn⟩) ?_
 cases h1:decide (kC ss apex 4 ss.length 0 < 0)
 ·rw [h1,Bool.false_or] at hq0
  simp only [h1,go_sem,Nat.reduceLeDiff,Nat.reduceEqDiff,Nat.reduceBEq,Nat.reduceAdd,zC]
  refine zE _ (by simp only [go_sem,Nat.reduceEqDiff]) (fun _=>⟨by simp only [go_sem,Nat.reduceEqDiff],yTn h4 apex apex 2 hss' hn⟩) ?_
  cases h2:decide (kC ss apex 2 ss.length 0 < 0)
  ·rw [h2,Bool.not_false,Bool.true_and] at hq0
   simp only [h2,go_sem,Nat.reduceEqDiff,Nat.reduceBEq,zC]
   refine zT ss.length 0 (fun k=>[(1,⟨true,.box [S apex,.slice a ss.length cap]⟩),(3,⟨true,.val (.int .i64 k)⟩)]) (fun k=>zP (zHX apex ss) k=true) (Nat.zero_le _) rfl rfl ?_
   intro k hk hP
   by_cases hlt:k < ss.length
   ·have hdl:decide ((k:Int) < (ss.length:Int))=true:=by simpa using hlt
    obtain⟨b,o,vs,c,wr,rfl,hb,hi⟩:=hr (by omega)
    have hi1:=(hi k hlt).1
    have hi2:=(hi k hlt).2
    have v0:=zK hi2 (j:=0) (by omega)
    have v1:=zK hi2 (j:=1) (by omega)
    simp only [xD,List.getD_cons_zero,List.getD_cons_succ,Nat.add_zero] at v0 v1
    have hpl:zHX apex ss k=zBm (ss.getD k default).type ((ss.getD k default).name == apex):=rfl
    simp only [hdl,hb,v0,v1,go_sem,Nat.reduceLeDiff,Nat.reduceEqDiff,Nat.reduceBEq,Nat.reduceAdd,zC]
    refine⟨⟨by omega,by omega⟩,by omega,⟨by omega,by omega⟩,by omega,?_⟩
    refine xM _ (by simp only [go_sem]) (fun _=>⟨by simp only [go_sem,Nat.reduceEqDiff],yYY h4 (ss.getD k default).type ((ss.getD k default).name == apex)⟩) ?_ ?_
    ·simp only [hb,v0,v1,go_sem,Nat.reduceLeDiff,Nat.reduceEqDiff,Nat.reduceBEq,Nat.reduceAdd,zC]
    ·rw [← hpl]
     cases h3:zHX apex ss k
     ·have hf:q0=false:=by rw [hq0]; exact zY hlt h3
      simp only [hf,go_sem,Nat.reduceEqDiff,Nat.reduceBEq,zC]
     ·have ht:zP (zHX apex ss) (k + 1)=true:=yJ hP h3
      simp only [ht,go_sem,Nat.reduceEqDiff,Nat.reduceBEq,zC]
      exact⟨hlt,zR (by omega)⟩
   ·have hdl:decide ((k:Int) < (ss.length:Int))=false:=by simpa using hlt
    have:k=ss.length:=by omega
    subst this
    rw [hP] at hq0
    simp only [hdl,hq0,go_sem,Nat.reduceEqDiff,Nat.reduceBEq,Nat.reduceAdd,zC]
  ·rw [h2,Bool.not_true,Bool.false_and] at hq0
   simp only [h2,hq0,go_sem,Nat.reduceEqDiff,Nat.reduceBEq,zC]
 ·rw [h1,Bool.true_or,Bool.not_true,Bool.false_and] at hq0
  simp only [h1,hq0,go_sem,Nat.reduceLeDiff,Nat.reduceEqDiff,Nat.reduceBEq,Nat.reduceAdd,zC]
  refine zE (.int .i64 0) (by simp only [go_sem,Nat.reduceEqDiff]) (fun hg=>by simp only [go_sem,Nat.reduceEqDiff] at hg) ?_
  simp only [↓yQ,go_sem,Nat.reduceEqDiff,Nat.reduceBEq,Int.reduceLT,zC,zGU]
end Go.SL
/- Contracts: the reference's zones: sets valid, in order, under the apex. -/
namespace Go.SL
open Go
variable {E:Env} {H:Hp}
def SzS (ss:List zF):Prop:=∀ s∈ss,s.name.length≤1000000
def sD (ss:List zF) (k:Nat):zF:=ss.getD k default
def zCx (apex:Bs) (ss:List zF) (k:Nat):Bool:=zCN (sD ss k).name (sD ss k).type (sD ss k).life (sD ss k).data && rIn (sD ss k).name apex && (k == 0 || !decide (zAi (sD ss (k - 1)).name (sD ss k).name (sD ss (k - 1)).type (sD ss k).type≥0))
def zDx (apex:Bs) (ss:List zF):Bool:=vK apex && !zCp apex && decide (ss.length≤20000) && zP (zCx apex ss) ss.length
theorem zIq (apex:Bs) (ss:List zF):zDx apex ss=(vK apex && !zCp apex && decide (ss.length≤20000) && zP (zCx apex ss) ss.length):=rfl
theorem SzS.at {ss : List zF} (h : SzS ss) {k : Nat} (hk : k < ss.length) : (sD ss k).name.length ≤ 1000000 := by
 apply h
 unfold sD
 rw [List.getD_eq_getElem?_getD,List.getElem?_eq_getElem hk]; exact List.getElem_mem _
set_option maxHeartbeats 1000000 in
theorem xAc (h4 : xH E) (apex : Bs) {v : Value} {ss : List zF} (hss : xT H v ss) :
  yB E 201 [.agg #[S apex,v]] H (.bool (zDx apex ss)):=by
 obtain⟨d,g,⟨a,cap,rfl,hsp,hr⟩,hdeep⟩:=hss
 refine Fn.of_vks h4.c201 (by simp [zNg]) ?_
 simp only [zNg,zVV,yDe,zXL,zXX,yCP,zXt,yDR,yAR,yBw,yEK]
 obtain⟨q0,hq0⟩:∃ y,y=zDx apex ss:=⟨_,rfl⟩
 rw [← hq0]
 rw [zIq] at hq0
 simp only [go_sem,Nat.reduceLeDiff,Nat.reduceEqDiff,Nat.reduceBEq,Nat.reduceAdd,reduceCtorEq]
 refine zE _ (by simp only [go_sem]) (fun _=>⟨by simp only [go_sem,Nat.reduceEqDiff],zEe h4 apex⟩) ?_
 cases h1:vK apex
 ·rw [h1,Bool.false_and,Bool.false_and,Bool.false_and] at hq0
  simp only [hq0,go_sem,Nat.reduceLeDiff,Nat.reduceEqDiff,Nat.reduceBEq,Nat.reduceAdd]
  refine zE (.bool false) (by simp only [go_sem,Nat.reduceEqDiff]) (fun hg=>by simp only [go_sem,Nat.reduceEqDiff] at hg) ?_
  simp only [↓yQ,go_sem,Nat.reduceEqDiff,Nat.reduceBEq,Nat.reduceAdd,zC]
 ·rw [h1,Bool.true_and] at hq0
  have ha:apex.length≤1000000:=Nat.le_trans (zBt h1) (by omega)
  simp only [go_sem,Nat.reduceLeDiff,Nat.reduceEqDiff,Nat.reduceBEq,Nat.reduceAdd]
  refine zE _ (by simp only [go_sem,Nat.reduceEqDiff]) (fun _=>⟨by simp only [go_sem,Nat.reduceEqDiff],yTm h4 apex ha⟩) ?_
  cases h2:zCp apex
  ·rw [h2,Bool.not_false,Bool.true_and] at hq0
   by_cases h3:ss.length≤20000
   ·have e3:decide ((ss.length:Int) > 20000)=false:=by rw [decide_eq_false_iff_not]; omega
    have e3':decide (ss.length≤20000)=true:=by rw [decide_eq_true_eq]; exact h3
    rw [e3',Bool.true_and] at hq0
    simp only [e3,go_sem,Nat.reduceEqDiff,Nat.reduceBEq,Nat.reduceAdd,zC]
    refine zT ss.length 0 (fun k=>[(1,⟨true,.box [S apex,.slice a ss.length cap]⟩),(3,⟨true,.val (.int .i64 k)⟩)]) (fun k=>zP (zCx apex ss) k=true) (Nat.zero_le _) rfl rfl ?_
    intro k hk hP
    by_cases hlt:k < ss.length
    ·have hdl:decide ((k:Int) < (ss.length:Int))=true:=by simpa using hlt
     obtain⟨b,o,vs,c,wr,rfl,hb,hi⟩:=hr (by omega)
     have hi1:=(hi k hlt).1
     have hi2:=jC (hi k hlt).2 0 4 (by omega)
     have hdz:=(hdeep k hlt).1
     have hd1:=zG.one hdz
     obtain⟨s,hs⟩:∃ s,s=sD ss k:=⟨_,rfl⟩
     have hs':ss.getD k default=s:=hs.symm
     rw [hs'] at hdz
     simp only [xD,hs',List.drop_zero,List.take_succ_cons,List.take_zero,Nat.add_zero] at hi2
     have hone:zCx apex ss k=(zCN s.name s.type s.life s.data && rIn s.name apex && (k == 0 || !decide (zAi (sD ss (k - 1)).name s.name (sD ss (k - 1)).type s.type≥0))):=by rw [hs]; rfl
     simp only [hdl,hb,hi2,hd1,go_sem,Nat.reduceEqDiff,Nat.reduceBEq,Nat.reduceAdd,zC]
     refine⟨⟨by omega,by omega⟩,by omega,?_⟩
     refine xM _ (by simp only [go_sem]) (fun _=>⟨by simp only [go_sem,Nat.reduceEqDiff],yTC h4 s.name s.type s.life s.data hdz⟩) ?_ ?_
     ·simp only [go_sem,Nat.reduceEqDiff,Nat.reduceBEq,Nat.reduceAdd]
     cases hA:zCN s.name s.type s.life s.data
     ·have hf:q0=false:=by rw [hq0]; exact zY hlt (by rw [hone,hA]; rfl)
      simp only [hf,go_sem,Nat.reduceLeDiff,Nat.reduceEqDiff,Nat.reduceBEq,Nat.reduceAdd]
      refine xM (.bool false) (by simp only [go_sem,Nat.reduceEqDiff]) (fun hg=>by simp only [go_sem,Nat.reduceEqDiff] at hg) ?_ ?_
      ·simp only [go_sem,Nat.reduceLeDiff,Nat.reduceEqDiff,Nat.reduceBEq,Nat.reduceAdd]
      simp only [hb,↓yQ,go_sem,Nat.reduceEqDiff,Nat.reduceBEq,Nat.reduceAdd,zC]
      refine xM (.int .i64 0) (by simp only [go_sem,Nat.reduceEqDiff]) (fun hg=>by simp only [go_sem,Nat.reduceEqDiff] at hg) ?_ ?_
      ·simp only [hb,↓yQ,go_sem,Nat.reduceLeDiff,Nat.reduceEqDiff,Nat.reduceBEq,Nat.reduceAdd,zC]
      simp only [↓yQ,go_sem,Nat.reduceEqDiff,Nat.reduceBEq,zC]
     ·simp only [go_sem,Nat.reduceLeDiff,Nat.reduceEqDiff,Nat.reduceBEq,Nat.reduceAdd]
      refine xM _ (by simp only [go_sem,Nat.reduceEqDiff]) (fun _=>⟨by simp only [go_sem,Nat.reduceEqDiff],yHA h4 s.name apex (zRz hA) ha⟩) ?_ ?_
      ·simp only [go_sem,Nat.reduceLeDiff,Nat.reduceEqDiff,Nat.reduceBEq,Nat.reduceAdd]
      cases hB:rIn s.name apex
      ·have hf:q0=false:=by rw [hq0]; exact zY hlt (by rw [hone,hA,hB]; rfl)
       simp only [hb,hf,↓yA,go_sem,Nat.reduceEqDiff,Nat.reduceBEq,Nat.reduceAdd,zC]
       refine xM (.int .i64 0) (by simp only [go_sem,Nat.reduceEqDiff]) (fun hg=>by simp only [go_sem,Nat.reduceEqDiff] at hg) ?_ ?_
       ·simp only [hb,↓yA,go_sem,Nat.reduceLeDiff,Nat.reduceEqDiff,Nat.reduceBEq,Nat.reduceAdd,zC]
       simp only [↓yQ,go_sem,Nat.reduceEqDiff,Nat.reduceBEq,zC]
      ·by_cases hk0:k=0
       ·have e0:decide ((k:Int) > 0)=false:=by rw [decide_eq_false_iff_not]; omega
        have e0':(k == 0)=true:=by simpa using hk0
        have ht:zP (zCx apex ss) (k + 1)=true:=yJ hP (by rw [hone,hA,hB,e0']; rfl)
        simp only [e0,hb,↓yA,go_sem,Nat.reduceEqDiff,Nat.reduceBEq,Nat.reduceAdd,zC]
        refine xM (.int .i64 0) (by simp only [go_sem,Nat.reduceEqDiff]) (fun hg=>by simp only [go_sem,Nat.reduceEqDiff] at hg) ?_ ?_
        ·simp only [e0,hb,↓yA,go_sem,Nat.reduceLeDiff,Nat.reduceEqDiff,Nat.reduceBEq,Nat.reduceAdd,zC]
        simp only [ht,↓yA,go_sem,Nat.reduceEqDiff,Nat.reduceBEq,zC]
        exact⟨hlt,zR (by omega)⟩
       ·have e0:decide ((k:Int) > 0)=true:=by rw [decide_eq_true_eq]; omega
        have e0':(k == 0)=false:=by simpa using hk0
        have e1:IntKind.i64.wrap ((k:Int) - 1)=((k - 1:Nat):Int):=by rw [yZ]<;>omega
        have hj1:=(hi (k - 1) (by omega)).1
        have hj2:=jC (hi (k - 1) (by omega)).2 0 4 (by omega)
        have hdj:=zG.one (hdeep (k - 1) (by omega)).1
        obtain⟨p,hp⟩:∃ p,p=sD ss (k - 1):=⟨_,rfl⟩
        have hp':ss.getD (k - 1) default=p:=hp.symm
        rw [← hp,hA,hB,e0',Bool.true_and,Bool.true_and,Bool.false_or] at hone
        simp only [xD,hp',List.drop_zero,List.take_succ_cons,List.take_zero,Nat.add_zero] at hj2
        simp only [e0,e1,toNat_ofNat',hb,hj2,go_sem,Nat.reduceEqDiff,Nat.reduceBEq,Nat.reduceAdd,zC]
        refine⟨⟨by omega,by omega⟩,by omega,?_⟩
        refine xM _ (by simp only [go_sem,Nat.reduceEqDiff]) (fun _=>⟨by simp only [go_sem,Nat.reduceEqDiff],yYm h4 p.name s.name p.type s.type p.life s.life (d (k - 1)) (d k) hdj hd1⟩) ?_ ?_
        ·simp only [e0,e1,toNat_ofNat',hb,hj2,go_sem,Nat.reduceLeDiff,Nat.reduceEqDiff,Nat.reduceBEq,Nat.reduceAdd,zC]
        cases hC:decide (zAi p.name s.name p.type s.type≥0)
        ·have ht:zP (zCx apex ss) (k + 1)=true:=yJ hP (by rw [hone,hC]; rfl)
         simp only [hC,ht,go_sem,Nat.reduceEqDiff,Nat.reduceBEq,zC]
         exact⟨hlt,zR (by omega)⟩
        ·have hf:q0=false:=by rw [hq0]; exact zY hlt (by rw [hone,hC]; rfl)
         simp only [hC,hf,go_sem,Nat.reduceEqDiff,Nat.reduceBEq,zC]
    ·have hdl:decide ((k:Int) < (ss.length:Int))=false:=by simpa using hlt
     have:k=ss.length:=by omega
     subst this
     rw [hP] at hq0
     simp only [hdl,hq0,go_sem,Nat.reduceEqDiff,Nat.reduceBEq,Nat.reduceAdd,zC]
   ·have e3:decide ((ss.length:Int) > 20000)=true:=by rw [decide_eq_true_eq]; omega
    have e3':decide (ss.length≤20000)=false:=by rw [decide_eq_false_iff_not]; exact h3
    rw [e3',Bool.false_and] at hq0
    simp only [e3,hq0,go_sem,Nat.reduceEqDiff,Nat.reduceBEq,Nat.reduceAdd,zC]
  ·rw [h2,Bool.not_true,Bool.false_and,Bool.false_and] at hq0
   simp only [hq0,↓yQ,go_sem,Nat.reduceEqDiff,Nat.reduceBEq,Nat.reduceAdd,zC]
end Go.SL
/- Contracts: the reference's numbers, and hints. -/
namespace Go.SL
open Go
variable {E:Env} {H:Hp}
theorem zG.int {v : Value} {l : List Int} (h : wH H v l) {k : Nat} (hk : k < l.length) : ∃ b o c cap vs wr, v = .slice (some ⟨b, o, none⟩) l.length cap ∧ H b = some (.row vs c wr) ∧ vs.getD (o + k) undef = .int .i64 (l.getD k 0) ∧ o + k + 1 ≤ vs.length := by
 obtain⟨a,cap,rfl,hsp,hr⟩:=h
 obtain⟨b,o,vs,c,wr,rfl,hb,hi⟩:=hr (by omega)
 have h1:=(hi k hk).1
 have h2:=zK (hi k hk).2 (j:=0) (by omega)
 rw [Nat.mul_one] at h1 h2
 exact⟨b,o,c,cap,vs,wr,rfl,hb,h2,h1⟩
def zLH (a b:List Int) (k:Nat):Bool:=a.getD k 0 == b.getD k 0
def zFK (a b:List Int):Bool:=(a.length == b.length) && zP (zLH a b) a.length
set_option maxHeartbeats 1000000 in
theorem xAg (h4 : xH E) {v w : Value} {a b : List Int} (hv : wH H v a) (hw : wH H w b) (hn : a.length ≤ 1000000000) (_hm : b.length ≤ 1000000000) : yB E 190 [v, w] H (.bool (zFK a b)) := by
 refine Fn.of_vks h4.c190 (by simp [zML]) ?_
 simp only [zML,yFL,zTL,zVw,zYZ,zXe,yCJ,yBb,zZn,zYB]
 obtain⟨q0,hq0⟩:∃ y,y=zFK a b:=⟨_,rfl⟩
 rw [← hq0]
 unfold zFK at hq0
 obtain⟨a1,c1,rfl⟩:=zG.sl hv
 obtain⟨a2,c2,rfl⟩:=zG.sl hw
 by_cases hl:a.length=b.length
 ·have e:((a.length:Int) != (b.length:Int))=false:=by simp [hl]
  have e':(a.length == b.length)=true:=by simpa using hl
  rw [e',Bool.true_and] at hq0
  simp only [e,go_sem,Nat.reduceEqDiff,Nat.reduceBEq,reduceCtorEq,zC]
  refine zT a.length 0 (fun k=>[(0,⟨true,.val (.slice a1 a.length c1)⟩),(1,⟨true,.val (.slice a2 b.length c2)⟩),(5,⟨true,.val (.int .i64 k)⟩)]) (fun k=>zP (zLH a b) k=true) (Nat.zero_le _) rfl rfl ?_
  intro k hk hP
  by_cases hlt:k < a.length
  ·have hdl:decide ((k:Int) < (a.length:Int))=true:=by simpa using hlt
   obtain⟨x,o,c,cap,vs,wr,hs,hb,hg,hl1⟩:=zG.int hv hlt
   obtain⟨x',o',c',cap',vs',wr',hs',hb',hg',hl1'⟩:=zG.int hw (k:=k) (by omega)
   cases hs
   cases hs'
   have hna:zLH a b k=(a.getD k 0 == b.getD k 0):=rfl
   cases h3:(a.getD k 0 == b.getD k 0)
   ·have e3:(a.getD k 0 != b.getD k 0)=true:=by rw [bne,h3]; rfl
    have hf:q0=false:=by rw [hq0]; exact zY hlt (by rw [hna,h3])
    simp only [hdl,Nat.mul_one,hb,hb',hg,hg',e3,hf,go_sem,Nat.reduceEqDiff,Nat.reduceBEq,reduceCtorEq,zC]
    exact⟨⟨by omega,by omega⟩,by omega,⟨by omega,by omega⟩,by omega⟩
   ·have e3:(a.getD k 0 != b.getD k 0)=false:=by rw [bne,h3]; rfl
    have ht:zP (zLH a b) (k + 1)=true:=yJ hP (by rw [hna,h3])
    simp only [hdl,Nat.mul_one,hb,hb',hg,hg',e3,ht,go_sem,Nat.reduceEqDiff,Nat.reduceBEq,reduceCtorEq,zC]
    exact⟨⟨by omega,by omega⟩,by omega,⟨by omega,by omega⟩,by omega,hlt,zR (by omega)⟩
  ·have hdl:decide ((k:Int) < (a.length:Int))=false:=by simpa using hlt
   have:k=a.length:=by omega
   rw [this] at hP
   rw [hP] at hq0
   simp only [this,hq0,Int.lt_irrefl,go_sem,Nat.reduceEqDiff,Nat.reduceBEq,reduceCtorEq,zC,zGU]
 ·have e:((a.length:Int) != (b.length:Int))=true:=by simp; omega
  have e':(a.length == b.length)=false:=by simpa using hl
  rw [e',Bool.false_and] at hq0
  simp only [e,hq0,go_sem,Nat.reduceEqDiff,Nat.reduceBEq,reduceCtorEq,zC]
end Go.SL
/- Contracts: the reference's hints. -/
namespace Go.SL
open Go
variable {E:Env} {H:Hp}
def zGF (l:List Int) (k:Nat):Bool:=!(decide (l.getD k 0 < 1) || decide (l.getD k 0 > 1000000))
def zEZ (name:Bs) (t l:Int) (ds:List xO) (hints:List Int):Bool:=zP (zGF hints) hints.length && (zCN name t l ds && t == 6 && name == [46] && decide ((hints.length:Int)≥1) && decide ((hints.length:Int)≤8))
set_option maxHeartbeats 1000000 in
theorem yZF (h4 : xH E) (name : Bs) (t l : Int) (ds : List xO) {z w : Value} {hints : List Int} (hz : xF H z ds) (hw : wH H w hints) (hh : hints.length ≤ 1000000000) :
  yB E 193 [.agg #[S name,.int .i64 t,.int .i64 l,z],w] H (.bool (zEZ name t l ds hints)):=by
 refine Fn.of_vks h4.c193 (by simp [zLS]) ?_
 simp only [zLS,yBE,zVA,yDf,yAv,zZo,zVi,zZy,yCS]
 obtain⟨q0,hq0⟩:∃ y,y=zEZ name t l ds hints:=⟨_,rfl⟩
 rw [← hq0]
 unfold zEZ at hq0
 have hz1:=zG.one hz
 obtain⟨a1,c1,rfl⟩:=zG.sl hw
 simp only [go_sem,Nat.reduceEqDiff,Nat.reduceBEq,reduceCtorEq]
 refine zT hints.length 0 (fun k=>[(1,⟨true,.val (.slice a1 hints.length c1)⟩),(2,⟨true,.box [S name,.int .i64 t,.int .i64 l,z]⟩),(5,⟨true,.val (.int .i64 k)⟩)]) (fun k=>zP (zGF hints) k=true) (Nat.zero_le _) rfl rfl ?_
 intro k hk hP
 by_cases hlt:k < hints.length
 ·have hdl:decide ((k:Int) < (hints.length:Int))=true:=by simpa using hlt
  obtain⟨x,o,c,cap,vs,wr,hs,hb,hg,hl1⟩:=zG.int hw hlt
  cases hs
  have hna:zGF hints k = !(decide (hints.getD k 0 < 1) || decide (hints.getD k 0 > 1000000)):=rfl
  cases h1:decide (hints.getD k 0 < 1)
  ·cases h2:decide (hints.getD k 0 > 1000000)
   ·have ht:zP (zGF hints) (k + 1)=true:=yJ hP (by rw [hna,h1,h2]; rfl)
    simp only [hdl,Nat.mul_one,hb,hg,h1,h2,ht,go_sem,Nat.reduceEqDiff,Nat.reduceBEq,Nat.reduceAdd,zC]
    exact⟨⟨by omega,by omega⟩,by omega,⟨by omega,by omega⟩,by omega,hlt,zR (by omega)⟩
   ·have hf:q0=false:=by rw [hq0,zY hlt (by rw [hna,h1,h2]; rfl)]; rfl
    simp only [hdl,Nat.mul_one,hb,hg,h1,h2,hf,go_sem,Nat.reduceEqDiff,Nat.reduceBEq,Nat.reduceAdd,zC]
    exact⟨⟨by omega,by omega⟩,by omega,⟨by omega,by omega⟩,by omega⟩
  ·have hf:q0=false:=by rw [hq0,zY hlt (by rw [hna,h1]; rfl)]; rfl
   simp only [hdl,Nat.mul_one,hb,hg,h1,hf,↓yQ,go_sem,Nat.reduceEqDiff,Nat.reduceBEq,Nat.reduceAdd,zC]
   exact⟨⟨by omega,by omega⟩,by omega⟩
 ·have hdl:decide ((k:Int) < (hints.length:Int))=false:=by simpa using hlt
  have:k=hints.length:=by omega
  subst this
  rw [hP,Bool.true_and] at hq0
  simp only [hdl,go_sem,Nat.reduceEqDiff,Nat.reduceBEq,Nat.reduceAdd,zC]
  refine zE _ (by simp only [go_sem]) (fun _=>⟨by simp only [go_sem,Nat.reduceEqDiff],yTC h4 name t l ds hz⟩) ?_
  simp only [← hq0,go_sem,Nat.reduceLeDiff,Nat.reduceEqDiff,Nat.reduceBEq,Nat.reduceAdd,zC]
end Go.SL
/- Contracts: the reference's hosts. -/
namespace Go.SL
open Go
variable {E:Env} {H:Hp}
def hD (hs:List qT) (k:Nat):qT:=hs.getD k default
def zFf (h:qT):Bool:=!vK h.name || zCp h.name || decide (h.addr < 1) || decide (h.addr > 1000000) || decide (h.owner < 0) || decide (h.owner > 31)
def zDs (hs:List qT) (k j:Nat):Bool:=!((hD hs j).addr == (hD hs k).addr)
def zGP (hs:List qT) (k:Nat):Bool:=!zFf (hD hs k) && zP (zDs hs k) k
def zEW (hs:List qT):Bool:=decide (hs.length≤64) && zP (zGP hs) hs.length
set_option maxHeartbeats 1000000 in
theorem yXx (h4 : xH E) {v : Value} (hs : List qT) (hv : qN H v hs) : yB E 192 [v] H (.bool (zEW hs)) := by
 obtain⟨a,cap,rfl,hsp,hr⟩:=hv
 refine Fn.of_vks h4.c192 (by simp [zMu]) ?_
 simp only [zMu,zUL,yAb,zWw,zWK,yFg,zVK,yAo,zWm,zUX,zRg,zQr,zSh,zRD,zOx,zSS,zSd]
 obtain⟨q0,hq0⟩:∃ y,y=zEW hs:=⟨_,rfl⟩
 rw [← hq0]
 unfold zEW at hq0
 by_cases h64:hs.length≤64
 ·have e1:decide ((hs.length:Int) > 64)=false:=by rw [decide_eq_false_iff_not]; omega
  have e1':decide (hs.length≤64)=true:=by rw [decide_eq_true_eq]; exact h64
  rw [e1',Bool.true_and] at hq0
  simp only [e1,go_sem,Nat.reduceEqDiff,Nat.reduceBEq,reduceCtorEq,zC]
  refine zT hs.length 0 (fun k=>[(0,⟨true,.val (.slice a hs.length cap)⟩),(3,⟨true,.val (.int .i64 k)⟩)]) (fun k=>zP (zGP hs) k=true) (Nat.zero_le _) rfl rfl ?_
  intro k hk hP
  by_cases hlt:k < hs.length
  ·have hdl:decide ((k:Int) < (hs.length:Int))=true:=by simpa using hlt
   obtain⟨b,o,vs,c,wr,rfl,hb,hi⟩:=hr (by omega)
   have hi1:=(hi k hlt).1
   have hi2:=(hi k hlt).2
   obtain⟨h,hh⟩:∃ h,h=hD hs k:=⟨_,rfl⟩
   have hh':hs.getD k default=h:=hh.symm
   simp only [zHb,hh'] at hi2
   have hat:zGP hs k=(!zFf h && zP (zDs hs k) k):=by rw [hh]; rfl
   obtain⟨q1,hq1⟩:∃ y,y=zFf h:=⟨_,rfl⟩
   have hq1':=hq1
   unfold zFf at hq1'
   rw [← hq1] at hat
   simp only [hdl,hb,hi2,go_sem,Nat.reduceLeDiff,Nat.reduceEqDiff,Nat.reduceBEq,Nat.reduceAdd,reduceCtorEq,zC]
   refine⟨⟨by omega,by omega⟩,hi1,?_⟩
   refine zE _ (by simp only [go_sem]) (fun _=>⟨by simp only [go_sem,Nat.reduceEqDiff,reduceCtorEq],zEe h4 h.name⟩) ?_
   simp only [go_sem,Nat.reduceLeDiff,Nat.reduceEqDiff,Nat.reduceBEq,Nat.reduceAdd,reduceCtorEq]
   refine zE _ (by simp only [go_sem,Nat.reduceEqDiff,reduceCtorEq]) (fun hg=>⟨by simp only [go_sem,Nat.reduceEqDiff,reduceCtorEq] at hg ⊢; exact hg,yTm h4 h.name (Nat.le_trans (zBt (by simpa only [go_sem,Nat.reduceLT,Nat.reduceLeDiff,Nat.reduceEqDiff,Nat.reduceBEq,Nat.reduceAdd,Nat.reduceMul,Nat.reduceSub,reduceIte,reduceCtorEq,Int.reduceToNat,Int.reduceLE,Int.reduceEq,Int.reduceNe,Int.reduceLT,Int.reduceAdd,Int.reduceSub] using hg)) (by omega))⟩) ?_
   simp only [← hq1',go_sem,Nat.reduceLeDiff,Nat.reduceEqDiff,Nat.reduceBEq,Nat.reduceAdd,reduceCtorEq,zC]
   refine⟨fun h1=>by rw [hq0]; exact(zY hlt (by rw [hat,h1]; rfl)).symm,fun h1=>?_⟩
   rw [h1,Bool.not_false,Bool.true_and] at hat
   refine zT k 0 (fun j=>[(0,⟨true,.val (.slice (some ⟨b,o,none⟩) hs.length cap)⟩),(3,⟨true,.val (.int .i64 k)⟩),(4,⟨true,.box [S h.name,.int .i64 h.addr,.int .i64 h.owner]⟩),(6,⟨true,.val (.int .i64 j)⟩)]) (fun j=>zP (zDs hs k) j=true) (Nat.zero_le _) rfl rfl ?_
   intro j hj hPj
   by_cases hlj:j < k
   ·have hdj:decide ((j:Int) < (k:Int))=true:=by simpa using hlj
    have hj1:=(hi j (by omega)).1
    have w1:=zK (hi j (by omega)).2 (j:=1) (by omega)
    simp only [zHb,List.getD_cons_zero,List.getD_cons_succ] at w1
    have hnw:zDs hs k j = !((hs.getD j default).addr == h.addr):=by rw [hh]; rfl
    cases h3:((hs.getD j default).addr == h.addr)
    ·have ht:zP (zDs hs k) (j + 1)=true:=yJ hPj (by rw [hnw,h3]; rfl)
     simp only [hdj,hb,w1,h3,ht,go_sem,Nat.reduceLeDiff,Nat.reduceEqDiff,Nat.reduceBEq,Nat.reduceAdd,reduceCtorEq,zC]
     exact⟨⟨by omega,by omega⟩,by omega,hlj,zR (by omega)⟩
    ·have hf:q0=false:=by rw [hq0]; exact zY hlt (by rw [hat]; exact zY hlj (by rw [hnw,h3]; rfl))
     simp only [hdj,hb,w1,h3,hf,go_sem,Nat.reduceLeDiff,Nat.reduceEqDiff,Nat.reduceBEq,Nat.reduceAdd,reduceCtorEq,zC]
     exact⟨⟨by omega,by omega⟩,by omega⟩
   ·have hdj:decide ((j:Int) < (k:Int))=false:=by simpa using hlj
    have:j=k:=by omega
    subst this
    have ht:zP (zGP hs) (j + 1)=true:=yJ hP (by rw [hat]; exact hPj)
    simp only [hdj,ht,go_sem,Nat.reduceEqDiff,Nat.reduceBEq,Nat.reduceAdd,reduceCtorEq,zC]
    exact⟨hlt,zR (by omega)⟩
  ·have hdl:decide ((k:Int) < (hs.length:Int))=false:=by simpa using hlt
   have:k=hs.length:=by omega
   subst this
   rw [hP] at hq0
   simp only [hdl,hq0,go_sem,Nat.reduceEqDiff,Nat.reduceBEq,Nat.reduceAdd,reduceCtorEq,zC]
 ·have e1:decide ((hs.length:Int) > 64)=true:=by rw [decide_eq_true_eq]; omega
  have e1':decide (hs.length≤64)=false:=by rw [decide_eq_false_iff_not]; exact h64
  rw [e1',Bool.false_and] at hq0
  simp only [e1,hq0,go_sem,Nat.reduceEqDiff,Nat.reduceBEq,reduceCtorEq,zC]
end Go.SL
