/- Contracts: the reference's data and sets. -/
import Derived.Test.YthedjffolgeomaaGreatDoorMNplX3
namespace Go.SL
open Go
variable {E:Env} {H:Hp}
theorem yXe (h4 : xH E) (n a b : Int) : yD E 219 [.int .i64 n, .int .i64 a, .int .i64 b] H (.bool (decide (n ≥ a) && decide (n ≤ b))) := by
 refine Fn.of_vks h4.c219 (by simp [zLV]) ?_
 simp only [zLV,zSG,zWA]
 cases h:decide (n≥a)<;>simp only [h,go_sem,Nat.reduceEqDiff,Nat.reduceBEq,Nat.reduceAdd,reduceCtorEq,zC]
theorem yZr (h4 : xH E) (n : Int) : yD E 220 [.int .i64 n] H (.bool (n == 3 || n == 4)) := by
 refine Fn.of_vks h4.c220 (by simp [zNg]) ?_
 simp only [zNg,yDS,yDI]
 cases h:(n == 3)<;>simp only [h,go_sem,Nat.reduceEqDiff,Nat.reduceBEq,reduceCtorEq,zC]
def zEW (s:Bs):Bool:=decide (0 < s.length) && bI s 0 == 42
theorem yGk (h4 : xH E) (s : Bs) : yD E 221 [S s] H (.bool (zEW s)) := by
 refine Fn.of_vks h4.c221 (by simp [zNs]) ?_
 simp only [zNs,zUF,zUX]
 unfold zEW
 by_cases h:0 < s.length
 ·have hd:decide ((s.length:Int) > 0)=true:=by rw [decide_eq_true_eq]; omega
  have hd':decide (0 < s.length)=true:=by rw [decide_eq_true_eq]; omega
  have hr:(0:Int) < (s.length:Int):=by omega
  simp only [hd',hr,go_sem,Nat.reduceEqDiff,Nat.reduceBEq,reduceCtorEq,Int.reduceToNat,Int.reduceLE,zC,zKp]
 ·have hd:decide ((s.length:Int) > 0)=false:=by rw [decide_eq_false_iff_not]; omega
  have hd':decide (0 < s.length)=false:=by rw [decide_eq_false_iff_not]; omega
  simp only [hd,hd',↓yB,go_sem,Nat.reduceEqDiff,Nat.reduceBEq,reduceCtorEq,Int.reduceToNat,Int.reduceLE,zC]
def zFY (a b:xN):Bool:=if a.text=b.text then (if a.n=b.n then decide (a.m < b.m) else decide (a.n < b.n)) else Op.bytesLess a.text b.text
set_option maxHeartbeats 1000000 in
theorem yXT (h4 : xH E) (a b : xN) : yD E 223 [.agg #[S a.text, .int .i64 a.n, .int .i64 a.m], .agg #[S b.text, .int .i64 b.n, .int .i64 b.m]] H (.bool (zFY a b)) := by
 refine Fn.of_vks h4.c223 (by simp [zMT]) ?_
 simp only [zMT,yDO,yBk,zSL,zUM,zZA,zVc]
 unfold zFY
 by_cases ht:a.text=b.text
 ·have e:(a.text == b.text)=true:=by simpa using ht
  by_cases hn:a.n=b.n
  ·have e2:(a.n != b.n)=false:=by simpa using hn
   simp only [e,e2,if_pos ht,if_pos hn,go_sem,Nat.reduceLeDiff,Nat.reduceEqDiff,Nat.reduceBEq,Nat.reduceAdd,reduceCtorEq,zC]
  ·have e2:(a.n != b.n)=true:=by simpa using hn
   simp only [e,e2,if_pos ht,if_neg hn,go_sem,Nat.reduceLeDiff,Nat.reduceEqDiff,Nat.reduceBEq,Nat.reduceAdd,reduceCtorEq,zC]
 ·have e:(a.text == b.text)=false:=by simpa using ht
  simp only [e,if_neg ht,go_sem,Nat.reduceLeDiff,Nat.reduceEqDiff,Nat.reduceBEq,Nat.reduceAdd,reduceCtorEq,zC]
def zFe (s:Bs) (i:Nat):Bool:=!((decide (bI s i < 97) || decide (bI s i > 122)) && (decide (bI s i < 48) || decide (bI s i > 57)) && bI s i != 32)
def zJy (s:Bs):Bool:=decide (1≤s.length) && decide (s.length≤40) && bI s 0 != 32 && bI s (s.length - 1) != 32 && zO (zFe s) s.length
set_option maxHeartbeats 1000000 in
theorem yWH (h4 : xH E) (s : Bs) : yD E 224 [S s] H (.bool (zJy s)) := by
 refine Fn.of_vks h4.c224 (by simp [zMF]) ?_
 simp only [zMF,zZN,yBB,yBt,zWv,zWe,zSz,zZv,zXj,zVY,yEN,zPH]
 unfold zJy
 by_cases h1:s.length < 1
 ·have hd:decide ((s.length:Int) < 1)=true:=by rw [decide_eq_true_eq]; omega
  have hd':decide (1≤s.length)=false:=by rw [decide_eq_false_iff_not]; omega
  simp only [hd,hd',↓yQ,go_sem,Nat.reduceEqDiff,Nat.reduceBEq,reduceCtorEq,Int.reduceToNat,Int.reduceLE,zC]
 ·have hd:decide ((s.length:Int) < 1)=false:=by rw [decide_eq_false_iff_not]; omega
  have hd':decide (1≤s.length)=true:=by rw [decide_eq_true_eq]; omega
  by_cases h40:s.length≤40
  ·have e40:decide ((s.length:Int) > 40)=false:=by rw [decide_eq_false_iff_not]; omega
   have e40':decide (s.length≤40)=true:=by rw [decide_eq_true_eq]; omega
   have w1:IntKind.i64.wrap ((s.length:Int) - 1)=((s.length - 1:Nat):Int):=by rw [yX]<;>omega
   have hr:(0:Int) < (s.length:Int):=by omega
   cases q0:(bI s 0 == 32)
   ·have q0':(bI s 0 != 32)=true:=by rw [bne,q0]; rfl
    cases q1:(bI s (s.length - 1) == 32)
    ·have q1':(bI s (s.length - 1) != 32)=true:=by rw [bne,q1]; rfl
     simp only [hd,hd',e40,e40',w1,hr,q0,q0',q1,q1',go_sem,Nat.reduceEqDiff,Nat.reduceBEq,reduceCtorEq,Int.reduceToNat,Int.reduceLE,zC]
     refine⟨⟨by omega,by omega⟩,?_⟩
     refine zS s.length 0 (fun k=>[(0,⟨true,.val (S s)⟩),(3,⟨true,.val (.int .i64 s.length)⟩),(4,⟨true,.val (.int .i64 k)⟩)]) (fun k=>zO (zFe s) k=true) (Nat.zero_le _) rfl rfl ?_
     intro k hk hP
     by_cases hlt:k < s.length
     ·have hdl:decide ((k:Int) < (s.length:Int))=true:=by simpa using hlt
      have hlp:zFe s k = !((decide (bI s k < 97) || decide (bI s k > 122)) && (decide (bI s k < 48) || decide (bI s k > 57)) && bI s k != 32):=rfl
      simp only [hdl,go_sem,Nat.reduceEqDiff,Nat.reduceBEq,reduceCtorEq,zC]
      generalize decide (bI s k < 97)=q3 at *
      generalize decide (bI s k > 122)=q4 at *
      generalize decide (bI s k < 48)=q5 at *
      generalize decide (bI s k > 57)=q6 at *
      generalize (bI s k != 32)=q7 at *
      refine⟨⟨by omega,by omega⟩,fun h=>⟨h,fun h'=>by rw [h,h']; rfl⟩,fun hc=>?_,fun hc=>⟨hlt,zQ (by omega),yJ hP (by rw [hlp,hc]; rfl)⟩⟩
      rw [zY hlt (by rw [hlp,hc]; rfl)]
     ·have hdl:decide ((k:Int) < (s.length:Int))=false:=by simpa using hlt
      have:k=s.length:=by omega
      subst this
      simp only [hdl,hP,go_sem,Nat.reduceEqDiff,Nat.reduceBEq,reduceCtorEq,zC]
    ·have q1':(bI s (s.length - 1) != 32)=false:=by rw [bne,q1]; rfl
     simp only [hd,hd',e40,e40',w1,hr,q0,q0',q1,q1',go_sem,Nat.reduceEqDiff,Nat.reduceBEq,reduceCtorEq,Int.reduceToNat,Int.reduceLE,zC]
     exact⟨by omega,by omega⟩
   ·have q0':(bI s 0 != 32)=false:=by rw [bne,q0]; rfl
    simp only [hd,hd',e40,e40',hr,q0,q0',↓yQ,go_sem,Nat.reduceEqDiff,Nat.reduceBEq,reduceCtorEq,Int.reduceToNat,Int.reduceLE,zC]
  ·have e40:decide ((s.length:Int) > 40)=true:=by rw [decide_eq_true_eq]; omega
   have e40':decide (s.length≤40)=false:=by rw [decide_eq_false_iff_not]; omega
   simp only [hd,hd',e40,e40',↓yQ,go_sem,Nat.reduceEqDiff,Nat.reduceBEq,reduceCtorEq,Int.reduceToNat,Int.reduceLE,zC]
def zAo (a b:Bs) (s t:Int):Int:=let n:=if vK a && vK b then uE a b else 0; if n=0 then (if s < t then -1 else if s > t then 1 else 0) else n
set_option maxHeartbeats 1000000 in
theorem yXz (h4 : xH E) (a b : Bs) (s t l m : Int) (z y : Value) (_hz : yW z = true) (_hy : yW y = true) :
  yD E 207 [.agg #[S a,.int .i64 s,.int .i64 l,z],.agg #[S b,.int .i64 t,.int .i64 m,y]] H (.int .i64 (zAo a b s t)):=by
 refine Fn.of_vks h4.c207 (by simp [zMq]) ?_
 simp only [zMq,yDq,zUm,yEg,zVx,zXx,zSW,yDH,zZO,yDK]
 simp only [go_sem,Nat.reduceLeDiff,Nat.reduceEqDiff,Nat.reduceBEq,Nat.reduceAdd,reduceCtorEq]
 refine zE _ (by simp only [go_sem]) (fun _=>⟨by simp only [go_sem,Nat.reduceEqDiff],yYZ h4 a b⟩) ?_
 unfold zAo
 obtain⟨n,hn⟩:∃ n,n=(if (vK a && vK b)=true then uE a b else 0):=⟨_,rfl⟩
 obtain⟨e,he⟩:∃ e:Int,e=(if (vK a && vK b)=true then 0 else 11):=⟨_,rfl⟩
 rw [← hn,← he]
 by_cases h0:n=0
 ·have h0':(n != 0)=false:=by simpa using h0
  by_cases h1:s < t
  ·have h1':decide (s < t)=true:=by rw [decide_eq_true_eq]; exact h1
   simp only [h0',if_pos h0,if_pos h1,h1',go_sem,Nat.reduceLT,Nat.reduceLeDiff,Nat.reduceEqDiff,Nat.reduceBEq,Nat.reduceAdd,reduceCtorEq,zC]
  ·have h1':decide (s < t)=false:=by rw [decide_eq_false_iff_not]; exact h1
   by_cases h2:s > t
   ·have h2':decide (s > t)=true:=by rw [decide_eq_true_eq]; exact h2
    simp only [h0',if_pos h0,if_neg h1,if_pos h2,h1',h2',go_sem,Nat.reduceLT,Nat.reduceLeDiff,Nat.reduceEqDiff,Nat.reduceBEq,Nat.reduceAdd,reduceCtorEq,Int.reduceEq,zC]
   ·have h2':decide (s > t)=false:=by rw [decide_eq_false_iff_not]; exact h2
    simp only [h0',if_pos h0,if_neg h1,if_neg h2,h1',h2',go_sem,Nat.reduceLT,Nat.reduceLeDiff,Nat.reduceEqDiff,Nat.reduceBEq,Nat.reduceAdd,reduceCtorEq,Int.reduceEq,zC]
 ·have h0':(n != 0)=true:=by simpa using h0
  simp only [h0',if_neg h0,go_sem,Nat.reduceLT,Nat.reduceLeDiff,Nat.reduceEqDiff,Nat.reduceBEq,Nat.reduceAdd,zC]
end Go.SL
/- Contracts: the reference's data, when they are valid for a type. -/
namespace Go.SL
open Go
variable {E:Env} {H:Hp}
def wIn (n a b:Int):Bool:=decide (n≥a) && decide (n≤b)
def zIl (k : Int) (d : xN) : Bool :=
 if k=1 then d.text == [] && wIn d.n 1 1000000 && d.m == 0
 else if k=2∨k=3 then vK d.text && !zEW d.text && d.n == 0 && d.m == 0
 else if k=4 then d.text == [] && wIn d.n 0 65535 && wIn d.m 0 100000
 else if k=5 then zJy d.text && d.n == 0 && d.m == 0
 else if k=6∨k=7 then d.text == [] && wIn d.n 1 1000000 && wIn d.m 1 3
 else if k=8 then vK d.text && wIn d.n 2 510 && d.n.tmod 2 == 0 && d.m == 0
 else false
theorem zAm (h4:xH E) (n a b:Int):yD E 219 [.int .i64 n,.int .i64 a,.int .i64 b] H (.bool (wIn n a b)):=yXe h4 n a b
set_option maxHeartbeats 1000000 in
theorem yTu (h4 : xH E) (k : Int) (d : xN) : yD E 222 [.int .i64 k, .agg #[S d.text, .int .i64 d.n, .int .i64 d.m]] H (.bool (zIl k d)) := by
 refine Fn.of_vks h4.c222 (by simp [zMd]) ?_
 simp only [zMd,zZe,yCs,yET,zXM,zSH,zTc,zWG,yDM,yAD,zVq,zNP,zPI,zOv,zQH,zOj,zOz,zPm]
 unfold zIl
 by_cases k1:k=1
 ·have e1:(k == 1)=true:=by simpa using k1
  rw [if_pos k1]
  cases ht:(d.text == [])
  ·simp only [e1,ht,go_sem,Nat.reduceLeDiff,Nat.reduceEqDiff,Nat.reduceBEq,Nat.reduceAdd,reduceCtorEq,zC]
   refine zE undef (by simp only [go_sem,Nat.reduceEqDiff]) (fun hg=>by simp only [go_sem,Nat.reduceEqDiff] at hg) ?_
   simp only [↓yB,go_sem,Nat.reduceEqDiff,Nat.reduceBEq,Nat.reduceAdd,zC]
  ·simp only [e1,ht,go_sem,Nat.reduceLeDiff,Nat.reduceEqDiff,Nat.reduceBEq,Nat.reduceAdd,reduceCtorEq,zC]
   refine zE _ (by simp only [go_sem,Nat.reduceEqDiff]) (fun hg=>⟨by simp only [go_sem,Nat.reduceEqDiff],zAm h4 d.n 1 1000000⟩) ?_
   simp only [go_sem,Nat.reduceEqDiff,Nat.reduceBEq,Nat.reduceAdd,zC]
 ·have e1:(k == 1)=false:=by simpa using k1
  by_cases k2:k=2
  ·have e2:(k == 2)=true:=by simpa using k2
   rw [if_neg k1,if_pos (.inl k2)]
   simp only [e1,e2,go_sem,Nat.reduceLeDiff,Nat.reduceEqDiff,Nat.reduceBEq,Nat.reduceAdd,reduceCtorEq,zC]
   refine zE _ (by simp only [go_sem]) (fun hg=>⟨by simp only [go_sem,Nat.reduceEqDiff],zEp h4 d.text⟩) ?_
   simp only [go_sem,Nat.reduceLeDiff,Nat.reduceEqDiff,Nat.reduceBEq,Nat.reduceAdd]
   refine zE _ (by simp only [go_sem,Nat.reduceEqDiff]) (fun hg=>⟨by simp only [go_sem,Nat.reduceEqDiff] at hg ⊢; exact hg,yGk h4 d.text⟩) ?_
   simp only [go_sem,Nat.reduceLeDiff,Nat.reduceEqDiff,Nat.reduceBEq,Nat.reduceAdd,zC]
  ·have e2:(k == 2)=false:=by simpa using k2
   by_cases k3:k=3
   ·have e3:(k == 3)=true:=by simpa using k3
    rw [if_neg k1,if_pos (.inr k3)]
    simp only [e1,e2,e3,go_sem,Nat.reduceLeDiff,Nat.reduceEqDiff,Nat.reduceBEq,Nat.reduceAdd,reduceCtorEq,zC]
    refine zE _ (by simp only [go_sem]) (fun hg=>⟨by simp only [go_sem,Nat.reduceEqDiff],zEp h4 d.text⟩) ?_
    simp only [go_sem,Nat.reduceLeDiff,Nat.reduceEqDiff,Nat.reduceBEq,Nat.reduceAdd]
    refine zE _ (by simp only [go_sem,Nat.reduceEqDiff]) (fun hg=>⟨by simp only [go_sem,Nat.reduceEqDiff] at hg ⊢; exact hg,yGk h4 d.text⟩) ?_
    simp only [go_sem,Nat.reduceLeDiff,Nat.reduceEqDiff,Nat.reduceBEq,Nat.reduceAdd,zC]
   ·have e3:(k == 3)=false:=by simpa using k3
    have n23:¬ (k=2∨k=3):=by omega
    by_cases k4:k=4
    ·have e4:(k == 4)=true:=by simpa using k4
     rw [if_neg k1,if_neg n23,if_pos k4]
     cases ht:(d.text == [])
     ·simp only [e1,e2,e3,e4,ht,go_sem,Nat.reduceLeDiff,Nat.reduceEqDiff,Nat.reduceBEq,Nat.reduceAdd,reduceCtorEq,zC]
      refine zE undef (by simp only [go_sem,Nat.reduceEqDiff]) (fun hg=>by simp only [go_sem,Nat.reduceEqDiff] at hg) ?_
      simp only [↓yB,go_sem,Nat.reduceEqDiff,Nat.reduceBEq,Nat.reduceAdd]
      refine zE undef (by simp only [go_sem,Nat.reduceEqDiff]) (fun hg=>by simp only [go_sem,Nat.reduceEqDiff] at hg) ?_
      simp only [↓yB,go_sem,Nat.reduceEqDiff,Nat.reduceBEq]
     ·simp only [e1,e2,e3,e4,ht,go_sem,Nat.reduceLeDiff,Nat.reduceEqDiff,Nat.reduceBEq,Nat.reduceAdd,reduceCtorEq,zC]
      refine zE _ (by simp only [go_sem,Nat.reduceEqDiff]) (fun hg=>⟨by simp only [go_sem,Nat.reduceEqDiff],zAm h4 d.n 0 65535⟩) ?_
      simp only [go_sem,Nat.reduceEqDiff,Nat.reduceBEq,Nat.reduceAdd]
      refine zE _ (by simp only [go_sem,Nat.reduceEqDiff]) (fun hg=>⟨by simp only [go_sem,Nat.reduceEqDiff] at hg ⊢; exact hg,zAm h4 d.m 0 100000⟩) ?_
      simp only [go_sem,Nat.reduceEqDiff,Nat.reduceBEq]
    ·have e4:(k == 4)=false:=by simpa using k4
     by_cases k5:k=5
     ·have e5:(k == 5)=true:=by simpa using k5
      rw [if_neg k1,if_neg n23,if_neg k4,if_pos k5]
      simp only [e1,e2,e3,e4,e5,go_sem,Nat.reduceLeDiff,Nat.reduceEqDiff,Nat.reduceBEq,Nat.reduceAdd,reduceCtorEq,zC]
      refine zE _ (by simp only [go_sem]) (fun hg=>⟨by simp only [go_sem,Nat.reduceEqDiff],yWH h4 d.text⟩) ?_
      simp only [go_sem,Nat.reduceLeDiff,Nat.reduceEqDiff,Nat.reduceBEq,Nat.reduceAdd,zC]
     ·have e5:(k == 5)=false:=by simpa using k5
      by_cases k6:k=6
      ·have e6:(k == 6)=true:=by simpa using k6
       rw [if_neg k1,if_neg n23,if_neg k4,if_neg k5,if_pos (.inl k6)]
       cases ht:(d.text == [])
       ·simp only [e1,e2,e3,e4,e5,e6,ht,go_sem,Nat.reduceLeDiff,Nat.reduceEqDiff,Nat.reduceBEq,Nat.reduceAdd,reduceCtorEq,zC]
        refine zE undef (by simp only [go_sem,Nat.reduceEqDiff]) (fun hg=>by simp only [go_sem,Nat.reduceEqDiff] at hg) ?_
        simp only [↓yB,go_sem,Nat.reduceEqDiff,Nat.reduceBEq,Nat.reduceAdd]
        refine zE undef (by simp only [go_sem,Nat.reduceEqDiff]) (fun hg=>by simp only [go_sem,Nat.reduceEqDiff] at hg) ?_
        simp only [↓yB,go_sem,Nat.reduceEqDiff,Nat.reduceBEq]
       ·simp only [e1,e2,e3,e4,e5,e6,ht,go_sem,Nat.reduceLeDiff,Nat.reduceEqDiff,Nat.reduceBEq,Nat.reduceAdd,reduceCtorEq,zC]
        refine zE _ (by simp only [go_sem,Nat.reduceEqDiff]) (fun hg=>⟨by simp only [go_sem,Nat.reduceEqDiff],zAm h4 d.n 1 1000000⟩) ?_
        simp only [go_sem,Nat.reduceEqDiff,Nat.reduceBEq,Nat.reduceAdd]
        refine zE _ (by simp only [go_sem,Nat.reduceEqDiff]) (fun hg=>⟨by simp only [go_sem,Nat.reduceEqDiff] at hg ⊢; exact hg,zAm h4 d.m 1 3⟩) ?_
        simp only [go_sem,Nat.reduceEqDiff,Nat.reduceBEq]
      ·have e6:(k == 6)=false:=by simpa using k6
       by_cases k7:k=7
       ·have e7:(k == 7)=true:=by simpa using k7
        rw [if_neg k1,if_neg n23,if_neg k4,if_neg k5,if_pos (.inr k7)]
        cases ht:(d.text == [])
        ·simp only [e1,e2,e3,e4,e5,e6,e7,ht,go_sem,Nat.reduceLeDiff,Nat.reduceEqDiff,Nat.reduceBEq,Nat.reduceAdd,reduceCtorEq,zC]
         refine zE undef (by simp only [go_sem,Nat.reduceEqDiff]) (fun hg=>by simp only [go_sem,Nat.reduceEqDiff] at hg) ?_
         simp only [↓yB,go_sem,Nat.reduceEqDiff,Nat.reduceBEq,Nat.reduceAdd]
         refine zE undef (by simp only [go_sem,Nat.reduceEqDiff]) (fun hg=>by simp only [go_sem,Nat.reduceEqDiff] at hg) ?_
         simp only [↓yB,go_sem,Nat.reduceEqDiff,Nat.reduceBEq]
        ·simp only [e1,e2,e3,e4,e5,e6,e7,ht,go_sem,Nat.reduceLeDiff,Nat.reduceEqDiff,Nat.reduceBEq,Nat.reduceAdd,reduceCtorEq,zC]
         refine zE _ (by simp only [go_sem,Nat.reduceEqDiff]) (fun hg=>⟨by simp only [go_sem,Nat.reduceEqDiff],zAm h4 d.n 1 1000000⟩) ?_
         simp only [go_sem,Nat.reduceEqDiff,Nat.reduceBEq,Nat.reduceAdd]
         refine zE _ (by simp only [go_sem,Nat.reduceEqDiff]) (fun hg=>⟨by simp only [go_sem,Nat.reduceEqDiff] at hg ⊢; exact hg,zAm h4 d.m 1 3⟩) ?_
         simp only [go_sem,Nat.reduceEqDiff,Nat.reduceBEq]
       ·have e7:(k == 7)=false:=by simpa using k7
        have n67:¬ (k=6∨k=7):=by omega
        by_cases k8:k=8
        ·have e8:(k == 8)=true:=by simpa using k8
         rw [if_neg k1,if_neg n23,if_neg k4,if_neg k5,if_neg n67,if_pos k8]
         simp only [e1,e2,e3,e4,e5,e6,e7,e8,go_sem,Nat.reduceLeDiff,Nat.reduceEqDiff,Nat.reduceBEq,Nat.reduceAdd,reduceCtorEq,zC]
         refine zE _ (by simp only [go_sem]) (fun hg=>⟨by simp only [go_sem,Nat.reduceEqDiff],zEp h4 d.text⟩) ?_
         simp only [go_sem,Nat.reduceLeDiff,Nat.reduceEqDiff,Nat.reduceBEq,Nat.reduceAdd]
         refine zE _ (by simp only [go_sem,Nat.reduceEqDiff]) (fun hg=>⟨by simp only [go_sem,Nat.reduceEqDiff] at hg ⊢; exact hg,zAm h4 d.n 2 510⟩) ?_
         simp only [go_sem,Nat.reduceLeDiff,Nat.reduceEqDiff,Nat.reduceBEq,Nat.reduceAdd,Int.reduceEq,zC]
        ·have e8:(k == 8)=false:=by simpa using k8
         rw [if_neg k1,if_neg n23,if_neg k4,if_neg k5,if_neg n67,if_neg k8]
         simp only [e1,e2,e3,e4,e5,e6,e7,e8,go_sem,Nat.reduceLeDiff,Nat.reduceEqDiff,Nat.reduceBEq,Nat.reduceAdd,reduceCtorEq,zC]
end Go.SL
/- Contracts: the reference's sets. -/
namespace Go.SL
open Go
variable {E:Env} {H:Hp}
def zHs (k:Int) (ds:List xN) (i:Nat):Bool:=zIl k (ds.getD i default) && (i == 0 || zFY (ds.getD (i - 1) default) (ds.getD i default))
def zBo (name:Bs) (t l:Int) (n:Nat):Bool:=!vK name || !wIn t 1 8 || !wIn l 0 100000 || !wIn (n:Int) 1 8 || ((t == 3 || t == 4) && decide ((n:Int) > 1))
def zFN (name:Bs) (t:Int):Bool:=zEW name && t != 1 && t != 5 && t != 8
def zCW (name:Bs) (t l:Int) (ds:List xN):Bool:=!zBo name t l ds.length && (!zFN name t && zO (zHs t ds) ds.length)
theorem zNZ {name : Bs} {t l : Int} {n : Nat} (h : zBo name t l n = false) : n ≤ 8 := by
 unfold zBo wIn at h
 simp only [Bool.or_eq_false_iff,Bool.not_eq_false',Bool.and_eq_true,decide_eq_true_eq] at h
 omega
set_option maxHeartbeats 1000000 in
theorem yTx (h4 : xH E) (name : Bs) (t l : Int) (ds : List xN) {z : Value} (hz : xC H z ds) :
  yD E 200 [.agg #[S name,.int .i64 t,.int .i64 l,z]] H (.bool (zCW name t l ds)):=by
 obtain⟨a,cap,rfl,hsp,hr⟩:=hz
 refine Fn.of_vks h4.c200 (by simp [zMD]) ?_
 simp only [zMD,yDz,yBc,yDY,yDx,yAl,zTA,zZJ,zTx,zXy,zQW,zYi,zOZ]
 obtain⟨q0,hq0⟩:∃ y,y=zCW name t l ds:=⟨_,rfl⟩
 rw [← hq0]
 unfold zCW at hq0
 obtain⟨q1,hq1⟩:∃ y,y=zBo name t l ds.length:=⟨_,rfl⟩
 have hq1':=hq1
 unfold zBo at hq1'
 simp only [go_sem,Nat.reduceLeDiff,Nat.reduceEqDiff,Nat.reduceBEq,Nat.reduceAdd,reduceCtorEq]
 refine zE _ (by simp only [go_sem]) (fun _=>⟨by simp only [go_sem,Nat.reduceEqDiff],zEp h4 name⟩) ?_
 simp only [go_sem,Nat.reduceLeDiff,Nat.reduceEqDiff,Nat.reduceBEq,Nat.reduceAdd]
 refine zE _ (by simp only [go_sem,Nat.reduceEqDiff]) (fun hg=>⟨by simp only [go_sem,Nat.reduceEqDiff] at hg ⊢; exact hg,zAm h4 t 1 8⟩) ?_
 simp only [go_sem,Nat.reduceLeDiff,Nat.reduceEqDiff,Nat.reduceBEq,Nat.reduceAdd]
 refine zE _ (by simp only [go_sem,Nat.reduceEqDiff]) (fun hg=>⟨by simp only [go_sem,Nat.reduceEqDiff] at hg ⊢; exact hg,zAm h4 l 0 100000⟩) ?_
 simp only [go_sem,Nat.reduceEqDiff,Nat.reduceBEq]
 refine zE _ (by simp only [go_sem,Nat.reduceEqDiff]) (fun hg=>⟨by simp only [go_sem,Nat.reduceEqDiff] at hg ⊢; exact hg,zAm h4 ds.length 1 8⟩) ?_
 simp only [go_sem,Nat.reduceLeDiff,Nat.reduceEqDiff,Nat.reduceBEq,Nat.reduceAdd]
 refine zE _ (by simp only [go_sem,Nat.reduceEqDiff]) (fun hg=>⟨by simp only [go_sem,Nat.reduceEqDiff] at hg ⊢; exact hg,yZr h4 t⟩) ?_
 simp only [← hq1',go_sem,Nat.reduceLeDiff,Nat.reduceEqDiff,Nat.reduceBEq,Nat.reduceAdd,zC]
 refine⟨fun h=>⟨h,fun h2=>by rw [h,h2]; rfl⟩,fun h=>by rw [hq0,← hq1,h]; rfl,fun h=>?_⟩
 have hm:ds.length≤8:=zNZ (hq1.symm.trans h)
 rw [← hq1,h,Bool.not_false,Bool.true_and] at hq0
 refine zE _ (by simp only [go_sem]) (fun _=>⟨by simp only [go_sem,Nat.reduceEqDiff],yGk h4 name⟩) ?_
 obtain⟨q2,hq2⟩:∃ y,y=zFN name t:=⟨_,rfl⟩
 have hq2':=hq2
 unfold zFN at hq2'
 rw [← hq2] at hq0
 simp only [← hq2',go_sem,Nat.reduceLeDiff,Nat.reduceEqDiff,Nat.reduceBEq,Nat.reduceAdd,zC]
 refine⟨fun h=>by rw [hq0,h]; rfl,fun h=>?_⟩
 rw [h,Bool.not_false,Bool.true_and] at hq0
 refine zS ds.length 0 (fun k=>[(1,⟨true,.box [S name,.int .i64 t,.int .i64 l,.slice a ds.length cap]⟩),(3,⟨true,.val (.int .i64 ds.length)⟩),(4,⟨true,.val (.int .i64 k)⟩)]) (fun k=>zO (zHs t ds) k=true) (Nat.zero_le _) rfl rfl ?_
 intro k hk hP
 by_cases hlt:k < ds.length
 ·have hdl:decide ((k:Int) < (ds.length:Int))=true:=by simpa using hlt
  obtain⟨b,o,vs,c,wr,rfl,hb,hi⟩:=hr (by omega)
  have hi1:=(hi k hlt).1
  have hi2:=(hi k hlt).2
  have hdk:zHs t ds k=(zIl t (ds.getD k default) && (k == 0 || zFY (ds.getD (k - 1) default) (ds.getD k default))):=rfl
  simp only [hdl,hb,hi2,jD,go_sem,Nat.reduceLeDiff,Nat.reduceEqDiff,Nat.reduceBEq,Nat.reduceAdd,zC]
  refine⟨⟨by omega,by omega⟩,hi1,?_⟩
  cases hA:zIl t (ds.getD k default)
  ·refine yV _ (by simp only [go_sem]) (fun _=>⟨by simp only [go_sem,Nat.reduceEqDiff],yTu h4 t (ds.getD k default)⟩) ?_ ?_
   ·simp only [hb,go_sem,Nat.reduceLeDiff,Nat.reduceEqDiff,Nat.reduceBEq,Nat.reduceAdd]
   ·have hf:q0=false:=by rw [hq0]; exact zY hlt (by rw [hdk,hA]; rfl)
    simp only [hA,hb,hf,go_sem,Nat.reduceEqDiff,Nat.reduceBEq,Nat.reduceAdd,zC]
    refine yV (.bool false) (by simp only [go_sem,Nat.reduceEqDiff]) (fun hg=>by simp only [go_sem,Nat.reduceEqDiff] at hg) ?_ ?_
    ·simp only [hb,go_sem,Nat.reduceLeDiff,Nat.reduceEqDiff,Nat.reduceBEq,Nat.reduceAdd,zC]
    ·simp only [↓yQ,go_sem,Nat.reduceEqDiff,Nat.reduceBEq,zC]
  ·refine yV _ (by simp only [go_sem]) (fun _=>⟨by simp only [go_sem,Nat.reduceEqDiff],yTu h4 t (ds.getD k default)⟩) ?_ ?_
   ·simp only [hb,go_sem,Nat.reduceLeDiff,Nat.reduceEqDiff,Nat.reduceBEq,Nat.reduceAdd]
   ·by_cases hk0:k=0
    ·have e0:decide ((k:Int) > 0)=false:=by rw [decide_eq_false_iff_not]; omega
     have e0':(k == 0)=true:=by simpa using hk0
     have ht:zO (zHs t ds) (k + 1)=true:=yJ hP (by rw [hdk,hA,e0']; rfl)
     simp only [hA,e0,hb,go_sem,Nat.reduceEqDiff,Nat.reduceBEq,Nat.reduceAdd,zC]
     refine yV (.bool false) (by simp only [go_sem,Nat.reduceEqDiff]) (fun hg=>by simp only [go_sem,Nat.reduceEqDiff] at hg) ?_ ?_
     ·simp only [e0,hb,go_sem,Nat.reduceLeDiff,Nat.reduceEqDiff,Nat.reduceBEq,Nat.reduceAdd,zC]
     ·simp only [ht,↓yB,go_sem,Nat.reduceEqDiff,Nat.reduceBEq,zC]
      exact⟨hlt,zQ (by omega)⟩
    ·have e0:decide ((k:Int) > 0)=true:=by rw [decide_eq_true_eq]; omega
     have e0':(k == 0)=false:=by simpa using hk0
     have e1:IntKind.i64.wrap ((k:Int) - 1)=((k - 1:Nat):Int):=by rw [yX]<;>omega
     have hj1:=(hi (k - 1) (by omega)).1
     have hj2:=(hi (k - 1) (by omega)).2
     rw [hA,e0',Bool.true_and,Bool.false_or] at hdk
     simp only [hA,e0,e1,toNat_ofNat',hb,hi2,hj2,jD,go_sem,Nat.reduceEqDiff,Nat.reduceBEq,Nat.reduceAdd,zC]
     refine⟨⟨by omega,by omega⟩,hj1,⟨by omega,by omega⟩,hi1,?_⟩
     refine yV _ (by simp only [go_sem,Nat.reduceEqDiff]) (fun _=>⟨by simp only [go_sem,Nat.reduceEqDiff],yXT h4 (ds.getD (k - 1) default) (ds.getD k default)⟩) ?_ ?_
     ·simp only [e0,e1,toNat_ofNat',hb,hi2,hj2,jD,go_sem,Nat.reduceLeDiff,Nat.reduceEqDiff,Nat.reduceBEq,Nat.reduceAdd,zC]
     ·cases hB:zFY (ds.getD (k - 1) default) (ds.getD k default)
      ·have hf:q0=false:=by rw [hq0]; exact zY hlt (by rw [hdk,hB])
       simp only [hf,go_sem,Nat.reduceEqDiff,Nat.reduceBEq,zC]
      ·have ht:zO (zHs t ds) (k + 1)=true:=yJ hP (by rw [hdk,hB])
       simp only [ht,go_sem,Nat.reduceEqDiff,Nat.reduceBEq,zC]
       exact⟨hlt,zQ (by omega)⟩
 ·have hdl:decide ((k:Int) < (ds.length:Int))=false:=by simpa using hlt
  have:k=ds.length:=by omega
  subst this
  rw [hP] at hq0
  simp only [hdl,hq0,go_sem,Nat.reduceLeDiff,Nat.reduceEqDiff,Nat.reduceBEq,Nat.reduceAdd,zC]
theorem yMa {name : Bs} {t l : Int} {ds : List xN} (h : zCW name t l ds = true) : vK name = true := by
 unfold zCW zBo at h
 cases hn:vK name
 ·rw [hn] at h; simp at h
 ·rfl
theorem zQh {name:Bs} {t l:Int} {ds:List xN} (h:zCW name t l ds=true):name.length≤1000000:=Nat.le_trans (zBA (yMa h)) (by omega)
end Go.SL
/- Contracts: the reference's zones, first parts. -/
namespace Go.SL
open Go
variable {E:Env} {H:Hp}
def zBw (t:Int) (a:Bool):Bool:=if a then t != 3 && t != 6 else t != 4 && t != 7
theorem yWM (h4 : xH E) (t : Int) (a : Bool) : yD E 209 [.int .i64 t, .bool a] H (.bool (zBw t a)) := by
 refine Fn.of_vks h4.c209 (by simp [zNe]) ?_
 simp only [zNe,zZW,zXd,yEZ,zSC]
 unfold zBw
 cases a<;>simp only [go_sem,Nat.reduceEqDiff,Nat.reduceBEq,reduceCtorEq,zC]
def zQx (ss:List zF) (nm:Bs) (t:Int) (k:Nat):Bool:=(ss.getD k default).name == nm && (ss.getD k default).type == t
def kF (ss : List zF) (nm : Bs) (t : Int) : Nat → Nat → Int
 | 0,_=>-1
 | r + 1,k=>if zQx ss nm t k then (k:Int) else kF ss nm t r (k + 1)
set_option maxHeartbeats 1000000 in
theorem yTp (h4 : xH E) (apex nm : Bs) (t : Int) {v : Value} {ss : List zF} (hss : xL H v ss) (hn : ss.length ≤ 1000000000) :
  yD E 208 [.agg #[S apex,v],.agg #[S nm,.int .i64 t]] H (.int .i64 (kF ss nm t ss.length 0)):=by
 obtain⟨d,g,⟨a,cap,rfl,hsp,hr⟩,hdeep⟩:=hss
 refine Fn.of_vks h4.c208 (by simp [zMa]) ?_
 simp only [zMa,zZS,zTW,zTa,yEW,yAk,zZF,yAw]
 simp only [go_sem,Nat.reduceEqDiff,Nat.reduceBEq,reduceCtorEq]
 refine zS ss.length 0 (fun k=>[(2,⟨true,.box [S apex,.slice a ss.length cap]⟩),(3,⟨true,.box [S nm,.int .i64 t]⟩),(5,⟨true,.val (.int .i64 k)⟩)]) (fun k=>kF ss nm t ss.length 0=kF ss nm t (ss.length - k) k) (Nat.zero_le _) rfl rfl ?_
 intro k hk hP
 rw [hP]
 by_cases hlt:k < ss.length
 ·have hdl:decide ((k:Int) < (ss.length:Int))=true:=by simpa using hlt
  obtain⟨b,o,vs,c,wr,rfl,hb,hi⟩:=hr (by omega)
  have hi1:=(hi k hlt).1
  have hi2:=(hi k hlt).2
  have v0:=zH hi2 (j:=0) (by omega)
  have v1:=zH hi2 (j:=1) (by omega)
  simp only [xA,List.getD_cons_zero,List.getD_cons_succ,Nat.add_zero] at v0 v1
  obtain⟨r,hr'⟩:∃ r,ss.length - k=r + 1:=⟨ss.length - k - 1,by omega⟩
  have hr2:ss.length - (k + 1)=r:=by omega
  have hgo:kF ss nm t (r + 1) k=if zQx ss nm t k then (k:Int) else kF ss nm t r (k + 1):=rfl
  have hia:zQx ss nm t k=((ss.getD k default).name == nm && (ss.getD k default).type == t):=rfl
  rw [hr',hgo]
  cases h1:((ss.getD k default).name == nm)
  ·rw [h1,Bool.false_and] at hia
   simp only [hdl,hb,v0,v1,h1,hia,hr2,↓yB,go_sem,Nat.reduceLeDiff,Nat.reduceEqDiff,Nat.reduceBEq,Nat.reduceAdd,zC]
   exact⟨⟨by omega,by omega⟩,by omega,hlt,zQ (by omega)⟩
  ·cases h2:((ss.getD k default).type == t)
   ·rw [h1,h2,Bool.and_false] at hia
    simp only [hdl,hb,v0,v1,h1,h2,hia,hr2,go_sem,Nat.reduceLeDiff,Nat.reduceEqDiff,Nat.reduceBEq,Nat.reduceAdd,zC]
    exact⟨⟨by omega,by omega⟩,by omega,⟨by omega,by omega⟩,by omega,hlt,zQ (by omega)⟩
   ·rw [h1,h2,Bool.and_true] at hia
    simp only [hdl,hb,v0,v1,h1,h2,hia,hr2,go_sem,Nat.reduceLeDiff,Nat.reduceEqDiff,Nat.reduceBEq,Nat.reduceAdd,reduceCtorEq,zC]
    exact⟨⟨by omega,by omega⟩,by omega,⟨by omega,by omega⟩,by omega⟩
 ·have hdl:decide ((k:Int) < (ss.length:Int))=false:=by simpa using hlt
  have:k=ss.length:=by omega
  subst this
  rw [Nat.sub_self]
  simp only [kF,hdl,go_sem,Nat.reduceEqDiff,Nat.reduceBEq,Nat.reduceAdd,zC]
end Go.SL
/- Contracts: the reference's zones: the apex has what it needs. -/
namespace Go.SL
open Go
variable {E:Env} {H:Hp}
def zIu (apex:Bs) (ss:List zF) (k:Nat):Bool:=zBw (ss.getD k default).type ((ss.getD k default).name == apex)
def zKe (apex:Bs) (ss:List zF):Bool:=!(decide (kF ss apex 4 ss.length 0 < 0) || decide (kF ss apex 2 ss.length 0 < 0)) && zO (zIu apex ss) ss.length
theorem yRk (apex:Bs) (ss:List zF):zKe apex ss=(!(decide (kF ss apex 4 ss.length 0 < 0) || decide (kF ss apex 2 ss.length 0 < 0)) && zO (zIu apex ss) ss.length):=rfl
set_option maxHeartbeats 1000000 in
theorem yXv (h4 : xH E) (apex : Bs) {v : Value} {ss : List zF} (hss : xL H v ss) (hn : ss.length ≤ 1000000000) :
  yD E 202 [.agg #[S apex,v]] H (.bool (zKe apex ss)):=by
 have hss':=hss
 obtain⟨d,g,⟨a,cap,rfl,hsp,hr⟩,hdeep⟩:=hss
 refine Fn.of_vks h4.c202 (by simp [zNr]) ?_
 simp only [zNr,zTh,zZc,yDQ,yEF,zVb,yCc,yBW,zVz,zZu]
 obtain⟨q0,hq0⟩:∃ y,y=zKe apex ss:=⟨_,rfl⟩
 rw [← hq0]
 rw [yRk] at hq0
 simp only [go_sem,Nat.reduceLeDiff,Nat.reduceEqDiff,Nat.reduceBEq,Nat.reduceAdd,reduceCtorEq]
 refine zE _ (by simp only [go_sem]) (fun _=>⟨by simp only [go_sem,Nat.reduceEqDiff],yTp h4 apex apex 4 hss' hn⟩) ?_
 cases h1:decide (kF ss apex 4 ss.length 0 < 0)
 ·rw [h1,Bool.false_or] at hq0
  simp only [h1,go_sem,Nat.reduceLeDiff,Nat.reduceEqDiff,Nat.reduceBEq,Nat.reduceAdd,zC]
  refine zE _ (by simp only [go_sem,Nat.reduceEqDiff]) (fun _=>⟨by simp only [go_sem,Nat.reduceEqDiff],yTp h4 apex apex 2 hss' hn⟩) ?_
  cases h2:decide (kF ss apex 2 ss.length 0 < 0)
  ·rw [h2,Bool.not_false,Bool.true_and] at hq0
   simp only [h2,go_sem,Nat.reduceEqDiff,Nat.reduceBEq,zC]
   refine zS ss.length 0 (fun k=>[(1,⟨true,.box [S apex,.slice a ss.length cap]⟩),(3,⟨true,.val (.int .i64 k)⟩)]) (fun k=>zO (zIu apex ss) k=true) (Nat.zero_le _) rfl rfl ?_
   intro k hk hP
   by_cases hlt:k < ss.length
   ·have hdl:decide ((k:Int) < (ss.length:Int))=true:=by simpa using hlt
    obtain⟨b,o,vs,c,wr,rfl,hb,hi⟩:=hr (by omega)
    have hi1:=(hi k hlt).1
    have hi2:=(hi k hlt).2
    have v0:=zH hi2 (j:=0) (by omega)
    have v1:=zH hi2 (j:=1) (by omega)
    simp only [xA,List.getD_cons_zero,List.getD_cons_succ,Nat.add_zero] at v0 v1
    have hpl:zIu apex ss k=zBw (ss.getD k default).type ((ss.getD k default).name == apex):=rfl
    simp only [hdl,hb,v0,v1,go_sem,Nat.reduceLeDiff,Nat.reduceEqDiff,Nat.reduceBEq,Nat.reduceAdd,zC]
    refine⟨⟨by omega,by omega⟩,by omega,⟨by omega,by omega⟩,by omega,?_⟩
    refine yV _ (by simp only [go_sem]) (fun _=>⟨by simp only [go_sem,Nat.reduceEqDiff],yWM h4 (ss.getD k default).type ((ss.getD k default).name == apex)⟩) ?_ ?_
    ·simp only [hb,v0,v1,go_sem,Nat.reduceLeDiff,Nat.reduceEqDiff,Nat.reduceBEq,Nat.reduceAdd,zC]
    ·rw [← hpl]
     cases h3:zIu apex ss k
     ·have hf:q0=false:=by rw [hq0]; exact zY hlt h3
      simp only [hf,go_sem,Nat.reduceEqDiff,Nat.reduceBEq,zC]
     ·have ht:zO (zIu apex ss) (k + 1)=true:=yJ hP h3
      simp only [ht,go_sem,Nat.reduceEqDiff,Nat.reduceBEq,zC]
      exact⟨hlt,zQ (by omega)⟩
   ·have hdl:decide ((k:Int) < (ss.length:Int))=false:=by simpa using hlt
    have:k=ss.length:=by omega
    subst this
    rw [hP] at hq0
    simp only [hdl,hq0,go_sem,Nat.reduceEqDiff,Nat.reduceBEq,Nat.reduceAdd,zC]
  ·rw [h2,Bool.not_true,Bool.false_and] at hq0
   simp only [h2,hq0,go_sem,Nat.reduceEqDiff,Nat.reduceBEq,zC]
 ·rw [h1,Bool.true_or,Bool.not_true,Bool.false_and] at hq0
  simp only [h1,hq0,go_sem,Nat.reduceLeDiff,Nat.reduceEqDiff,Nat.reduceBEq,Nat.reduceAdd,zC]
  refine zE (.int .i64 0) (by simp only [go_sem,Nat.reduceEqDiff]) (fun hg=>by simp only [go_sem,Nat.reduceEqDiff] at hg) ?_
  simp only [↓yQ,go_sem,Nat.reduceEqDiff,Nat.reduceBEq,Int.reduceLT,zC,zJV]
end Go.SL
/- Contracts: the reference's zones: sets valid, in order, under the apex. -/
namespace Go.SL
open Go
variable {E:Env} {H:Hp}
def SzS (ss:List zF):Prop:=∀ s∈ss,s.name.length≤1000000
def sD (ss:List zF) (k:Nat):zF:=ss.getD k default
def zCA (apex:Bs) (ss:List zF) (k:Nat):Bool:=zCW (sD ss k).name (sD ss k).type (sD ss k).life (sD ss k).data && rIn (sD ss k).name apex && (k == 0 || !decide (zAo (sD ss (k - 1)).name (sD ss k).name (sD ss (k - 1)).type (sD ss k).type≥0))
def zDM (apex:Bs) (ss:List zF):Bool:=vK apex && !zCy apex && decide (ss.length≤20000) && zO (zCA apex ss) ss.length
theorem zIB (apex:Bs) (ss:List zF):zDM apex ss=(vK apex && !zCy apex && decide (ss.length≤20000) && zO (zCA apex ss) ss.length):=rfl
theorem SzS.at {ss : List zF} (h : SzS ss) {k : Nat} (hk : k < ss.length) : (sD ss k).name.length ≤ 1000000 := by
 apply h
 unfold sD
 rw [List.getD_eq_getElem?_getD,List.getElem?_eq_getElem hk]; exact List.getElem_mem _
set_option maxHeartbeats 1000000 in
theorem yYV (h4 : xH E) (apex : Bs) {v : Value} {ss : List zF} (hss : xL H v ss) :
  yD E 201 [.agg #[S apex,v]] H (.bool (zDM apex ss)):=by
 obtain⟨d,g,⟨a,cap,rfl,hsp,hr⟩,hdeep⟩:=hss
 refine Fn.of_vks h4.c201 (by simp [zNq]) ?_
 simp only [zNq,yBC,yEd,zZj,yAg,yAV,zVF,yAo,yBM,zWY,yDf]
 obtain⟨q0,hq0⟩:∃ y,y=zDM apex ss:=⟨_,rfl⟩
 rw [← hq0]
 rw [zIB] at hq0
 simp only [go_sem,Nat.reduceLeDiff,Nat.reduceEqDiff,Nat.reduceBEq,Nat.reduceAdd,reduceCtorEq]
 refine zE _ (by simp only [go_sem]) (fun _=>⟨by simp only [go_sem,Nat.reduceEqDiff],zEp h4 apex⟩) ?_
 cases h1:vK apex
 ·rw [h1,Bool.false_and,Bool.false_and,Bool.false_and] at hq0
  simp only [hq0,go_sem,Nat.reduceLeDiff,Nat.reduceEqDiff,Nat.reduceBEq,Nat.reduceAdd]
  refine zE (.bool false) (by simp only [go_sem,Nat.reduceEqDiff]) (fun hg=>by simp only [go_sem,Nat.reduceEqDiff] at hg) ?_
  simp only [↓yQ,go_sem,Nat.reduceEqDiff,Nat.reduceBEq,Nat.reduceAdd,zC]
 ·rw [h1,Bool.true_and] at hq0
  have ha:apex.length≤1000000:=Nat.le_trans (zBA h1) (by omega)
  simp only [go_sem,Nat.reduceLeDiff,Nat.reduceEqDiff,Nat.reduceBEq,Nat.reduceAdd]
  refine zE _ (by simp only [go_sem,Nat.reduceEqDiff]) (fun _=>⟨by simp only [go_sem,Nat.reduceEqDiff],yTh h4 apex ha⟩) ?_
  cases h2:zCy apex
  ·rw [h2,Bool.not_false,Bool.true_and] at hq0
   by_cases h3:ss.length≤20000
   ·have e3:decide ((ss.length:Int) > 20000)=false:=by rw [decide_eq_false_iff_not]; omega
    have e3':decide (ss.length≤20000)=true:=by rw [decide_eq_true_eq]; exact h3
    rw [e3',Bool.true_and] at hq0
    simp only [e3,go_sem,Nat.reduceEqDiff,Nat.reduceBEq,Nat.reduceAdd,zC]
    refine zS ss.length 0 (fun k=>[(1,⟨true,.box [S apex,.slice a ss.length cap]⟩),(3,⟨true,.val (.int .i64 k)⟩)]) (fun k=>zO (zCA apex ss) k=true) (Nat.zero_le _) rfl rfl ?_
    intro k hk hP
    by_cases hlt:k < ss.length
    ·have hdl:decide ((k:Int) < (ss.length:Int))=true:=by simpa using hlt
     obtain⟨b,o,vs,c,wr,rfl,hb,hi⟩:=hr (by omega)
     have hi1:=(hi k hlt).1
     have hi2:=qF (hi k hlt).2 0 4 (by omega)
     have hdz:=(hdeep k hlt).1
     have hd1:=zG.one hdz
     obtain⟨s,hs⟩:∃ s,s=sD ss k:=⟨_,rfl⟩
     have hs':ss.getD k default=s:=hs.symm
     rw [hs'] at hdz
     simp only [xA,hs',List.drop_zero,List.take_succ_cons,List.take_zero,Nat.add_zero] at hi2
     have hone:zCA apex ss k=(zCW s.name s.type s.life s.data && rIn s.name apex && (k == 0 || !decide (zAo (sD ss (k - 1)).name s.name (sD ss (k - 1)).type s.type≥0))):=by rw [hs]; rfl
     simp only [hdl,hb,hi2,hd1,go_sem,Nat.reduceEqDiff,Nat.reduceBEq,Nat.reduceAdd,zC]
     refine⟨⟨by omega,by omega⟩,by omega,?_⟩
     refine yV _ (by simp only [go_sem]) (fun _=>⟨by simp only [go_sem,Nat.reduceEqDiff],yTx h4 s.name s.type s.life s.data hdz⟩) ?_ ?_
     ·simp only [go_sem,Nat.reduceEqDiff,Nat.reduceBEq,Nat.reduceAdd]
     cases hA:zCW s.name s.type s.life s.data
     ·have hf:q0=false:=by rw [hq0]; exact zY hlt (by rw [hone,hA]; rfl)
      simp only [hf,go_sem,Nat.reduceLeDiff,Nat.reduceEqDiff,Nat.reduceBEq,Nat.reduceAdd]
      refine yV (.bool false) (by simp only [go_sem,Nat.reduceEqDiff]) (fun hg=>by simp only [go_sem,Nat.reduceEqDiff] at hg) ?_ ?_
      ·simp only [go_sem,Nat.reduceLeDiff,Nat.reduceEqDiff,Nat.reduceBEq,Nat.reduceAdd]
      simp only [hb,↓yQ,go_sem,Nat.reduceEqDiff,Nat.reduceBEq,Nat.reduceAdd,zC]
      refine yV (.int .i64 0) (by simp only [go_sem,Nat.reduceEqDiff]) (fun hg=>by simp only [go_sem,Nat.reduceEqDiff] at hg) ?_ ?_
      ·simp only [hb,↓yQ,go_sem,Nat.reduceLeDiff,Nat.reduceEqDiff,Nat.reduceBEq,Nat.reduceAdd,zC]
      simp only [↓yQ,go_sem,Nat.reduceEqDiff,Nat.reduceBEq,zC]
     ·simp only [go_sem,Nat.reduceLeDiff,Nat.reduceEqDiff,Nat.reduceBEq,Nat.reduceAdd]
      refine yV _ (by simp only [go_sem,Nat.reduceEqDiff]) (fun _=>⟨by simp only [go_sem,Nat.reduceEqDiff],yHh h4 s.name apex (zQh hA) ha⟩) ?_ ?_
      ·simp only [go_sem,Nat.reduceLeDiff,Nat.reduceEqDiff,Nat.reduceBEq,Nat.reduceAdd]
      cases hB:rIn s.name apex
      ·have hf:q0=false:=by rw [hq0]; exact zY hlt (by rw [hone,hA,hB]; rfl)
       simp only [hb,hf,↓yB,go_sem,Nat.reduceEqDiff,Nat.reduceBEq,Nat.reduceAdd,zC]
       refine yV (.int .i64 0) (by simp only [go_sem,Nat.reduceEqDiff]) (fun hg=>by simp only [go_sem,Nat.reduceEqDiff] at hg) ?_ ?_
       ·simp only [hb,↓yB,go_sem,Nat.reduceLeDiff,Nat.reduceEqDiff,Nat.reduceBEq,Nat.reduceAdd,zC]
       simp only [↓yQ,go_sem,Nat.reduceEqDiff,Nat.reduceBEq,zC]
      ·by_cases hk0:k=0
       ·have e0:decide ((k:Int) > 0)=false:=by rw [decide_eq_false_iff_not]; omega
        have e0':(k == 0)=true:=by simpa using hk0
        have ht:zO (zCA apex ss) (k + 1)=true:=yJ hP (by rw [hone,hA,hB,e0']; rfl)
        simp only [e0,hb,↓yB,go_sem,Nat.reduceEqDiff,Nat.reduceBEq,Nat.reduceAdd,zC]
        refine yV (.int .i64 0) (by simp only [go_sem,Nat.reduceEqDiff]) (fun hg=>by simp only [go_sem,Nat.reduceEqDiff] at hg) ?_ ?_
        ·simp only [e0,hb,↓yB,go_sem,Nat.reduceLeDiff,Nat.reduceEqDiff,Nat.reduceBEq,Nat.reduceAdd,zC]
        simp only [ht,↓yB,go_sem,Nat.reduceEqDiff,Nat.reduceBEq,zC]
        exact⟨hlt,zQ (by omega)⟩
       ·have e0:decide ((k:Int) > 0)=true:=by rw [decide_eq_true_eq]; omega
        have e0':(k == 0)=false:=by simpa using hk0
        have e1:IntKind.i64.wrap ((k:Int) - 1)=((k - 1:Nat):Int):=by rw [yX]<;>omega
        have hj1:=(hi (k - 1) (by omega)).1
        have hj2:=qF (hi (k - 1) (by omega)).2 0 4 (by omega)
        have hdj:=zG.one (hdeep (k - 1) (by omega)).1
        obtain⟨p,hp⟩:∃ p,p=sD ss (k - 1):=⟨_,rfl⟩
        have hp':ss.getD (k - 1) default=p:=hp.symm
        rw [← hp,hA,hB,e0',Bool.true_and,Bool.true_and,Bool.false_or] at hone
        simp only [xA,hp',List.drop_zero,List.take_succ_cons,List.take_zero,Nat.add_zero] at hj2
        simp only [e0,e1,toNat_ofNat',hb,hj2,go_sem,Nat.reduceEqDiff,Nat.reduceBEq,Nat.reduceAdd,zC]
        refine⟨⟨by omega,by omega⟩,by omega,?_⟩
        refine yV _ (by simp only [go_sem,Nat.reduceEqDiff]) (fun _=>⟨by simp only [go_sem,Nat.reduceEqDiff],yXz h4 p.name s.name p.type s.type p.life s.life (d (k - 1)) (d k) hdj hd1⟩) ?_ ?_
        ·simp only [e0,e1,toNat_ofNat',hb,hj2,go_sem,Nat.reduceLeDiff,Nat.reduceEqDiff,Nat.reduceBEq,Nat.reduceAdd,zC]
        cases hC:decide (zAo p.name s.name p.type s.type≥0)
        ·have ht:zO (zCA apex ss) (k + 1)=true:=yJ hP (by rw [hone,hC]; rfl)
         simp only [hC,ht,go_sem,Nat.reduceEqDiff,Nat.reduceBEq,zC]
         exact⟨hlt,zQ (by omega)⟩
        ·have hf:q0=false:=by rw [hq0]; exact zY hlt (by rw [hone,hC]; rfl)
         simp only [hC,hf,go_sem,Nat.reduceEqDiff,Nat.reduceBEq,zC]
    ·have hdl:decide ((k:Int) < (ss.length:Int))=false:=by simpa using hlt
     have:k=ss.length:=by omega
     subst this
     rw [hP] at hq0
     simp only [hdl,hq0,go_sem,Nat.reduceEqDiff,Nat.reduceBEq,Nat.reduceAdd,zC]
   ·have e3:decide ((ss.length:Int) > 20000)=true:=by rw [decide_eq_true_eq]; omega
    have e3':decide (ss.length≤20000)=false:=by rw [decide_eq_false_iff_not]; exact h3
    rw [e3',Bool.false_and] at hq0
    simp only [e3,hq0,go_sem,Nat.reduceEqDiff,Nat.reduceBEq,Nat.reduceAdd,zC]
  ·rw [h2,Bool.not_true,Bool.false_and,Bool.false_and] at hq0
   simp only [hq0,↓yQ,go_sem,Nat.reduceEqDiff,Nat.reduceBEq,Nat.reduceAdd,zC]
end Go.SL
/- Contracts: the reference's numbers, and hints. -/
namespace Go.SL
open Go
variable {E:Env} {H:Hp}
theorem zG.int {v : Value} {l : List Int} (h : xE H v l) {k : Nat} (hk : k < l.length) : ∃ b o c cap vs wr, v = .slice (some ⟨b, o, none⟩) l.length cap ∧ H b = some (.row vs c wr) ∧ vs.getD (o + k) undef = .int .i64 (l.getD k 0) ∧ o + k + 1 ≤ vs.length := by
 obtain⟨a,cap,rfl,hsp,hr⟩:=h
 obtain⟨b,o,vs,c,wr,rfl,hb,hi⟩:=hr (by omega)
 have h1:=(hi k hk).1
 have h2:=zH (hi k hk).2 (j:=0) (by omega)
 rw [Nat.mul_one] at h1 h2
 exact⟨b,o,c,cap,vs,wr,rfl,hb,h2,h1⟩
def zNk (a b:List Int) (k:Nat):Bool:=a.getD k 0 == b.getD k 0
def zFJ (a b:List Int):Bool:=(a.length == b.length) && zO (zNk a b) a.length
set_option maxHeartbeats 1000000 in
theorem yZs (h4 : xH E) {v w : Value} {a b : List Int} (hv : xE H v a) (hw : xE H w b) (hn : a.length ≤ 1000000000) (_hm : b.length ≤ 1000000000) : yD E 190 [v, w] H (.bool (zFJ a b)) := by
 refine Fn.of_vks h4.c190 (by simp [zMt]) ?_
 simp only [zMt,zXY,zWm,yEP,zUZ,zUG,yEE,zZL,zXp,zVe]
 obtain⟨q0,hq0⟩:∃ y,y=zFJ a b:=⟨_,rfl⟩
 rw [← hq0]
 unfold zFJ at hq0
 obtain⟨a1,c1,rfl⟩:=zG.sl hv
 obtain⟨a2,c2,rfl⟩:=zG.sl hw
 by_cases hl:a.length=b.length
 ·have e:((a.length:Int) != (b.length:Int))=false:=by simp [hl]
  have e':(a.length == b.length)=true:=by simpa using hl
  rw [e',Bool.true_and] at hq0
  simp only [e,go_sem,Nat.reduceEqDiff,Nat.reduceBEq,reduceCtorEq,zC]
  refine zS a.length 0 (fun k=>[(0,⟨true,.val (.slice a1 a.length c1)⟩),(1,⟨true,.val (.slice a2 b.length c2)⟩),(5,⟨true,.val (.int .i64 k)⟩)]) (fun k=>zO (zNk a b) k=true) (Nat.zero_le _) rfl rfl ?_
  intro k hk hP
  by_cases hlt:k < a.length
  ·have hdl:decide ((k:Int) < (a.length:Int))=true:=by simpa using hlt
   obtain⟨x,o,c,cap,vs,wr,hs,hb,hg,hl1⟩:=zG.int hv hlt
   obtain⟨x',o',c',cap',vs',wr',hs',hb',hg',hl1'⟩:=zG.int hw (k:=k) (by omega)
   cases hs
   cases hs'
   have hna:zNk a b k=(a.getD k 0 == b.getD k 0):=rfl
   cases h3:(a.getD k 0 == b.getD k 0)
   ·have e3:(a.getD k 0 != b.getD k 0)=true:=by rw [bne,h3]; rfl
    have hf:q0=false:=by rw [hq0]; exact zY hlt (by rw [hna,h3])
    simp only [hdl,Nat.mul_one,hb,hb',hg,hg',e3,hf,go_sem,Nat.reduceEqDiff,Nat.reduceBEq,reduceCtorEq,zC]
    exact⟨⟨by omega,by omega⟩,by omega,⟨by omega,by omega⟩,by omega⟩
   ·have e3:(a.getD k 0 != b.getD k 0)=false:=by rw [bne,h3]; rfl
    have ht:zO (zNk a b) (k + 1)=true:=yJ hP (by rw [hna,h3])
    simp only [hdl,Nat.mul_one,hb,hb',hg,hg',e3,ht,go_sem,Nat.reduceEqDiff,Nat.reduceBEq,reduceCtorEq,zC]
    exact⟨⟨by omega,by omega⟩,by omega,⟨by omega,by omega⟩,by omega,hlt,zQ (by omega)⟩
  ·have hdl:decide ((k:Int) < (a.length:Int))=false:=by simpa using hlt
   have:k=a.length:=by omega
   rw [this] at hP
   rw [hP] at hq0
   simp only [this,hq0,Int.lt_irrefl,go_sem,Nat.reduceEqDiff,Nat.reduceBEq,reduceCtorEq,zC,zJV]
 ·have e:((a.length:Int) != (b.length:Int))=true:=by simp; omega
  have e':(a.length == b.length)=false:=by simpa using hl
  rw [e',Bool.false_and] at hq0
  simp only [e,hq0,go_sem,Nat.reduceEqDiff,Nat.reduceBEq,reduceCtorEq,zC]
end Go.SL
/- Contracts: the reference's hints. -/
namespace Go.SL
open Go
variable {E:Env} {H:Hp}
def zGZ (l:List Int) (k:Nat):Bool:=!(decide (l.getD k 0 < 1) || decide (l.getD k 0 > 1000000))
def zFi (name:Bs) (t l:Int) (ds:List xN) (hints:List Int):Bool:=zO (zGZ hints) hints.length && (zCW name t l ds && t == 6 && name == [46] && decide ((hints.length:Int)≥1) && decide ((hints.length:Int)≤8))
set_option maxHeartbeats 1000000 in
theorem yWV (h4 : xH E) (name : Bs) (t l : Int) (ds : List xN) {z w : Value} {hints : List Int} (hz : xC H z ds) (hw : xE H w hints) (hh : hints.length ≤ 1000000000) :
  yD E 193 [.agg #[S name,.int .i64 t,.int .i64 l,z],w] H (.bool (zFi name t l ds hints)):=by
 refine Fn.of_vks h4.c193 (by simp [zML]) ?_
 simp only [zML,zYz,zUa,yAE,yDC,yAI,yBL,yCq,zSB]
 obtain⟨q0,hq0⟩:∃ y,y=zFi name t l ds hints:=⟨_,rfl⟩
 rw [← hq0]
 unfold zFi at hq0
 have hz1:=zG.one hz
 obtain⟨a1,c1,rfl⟩:=zG.sl hw
 simp only [go_sem,Nat.reduceEqDiff,Nat.reduceBEq,reduceCtorEq]
 refine zS hints.length 0 (fun k=>[(1,⟨true,.val (.slice a1 hints.length c1)⟩),(2,⟨true,.box [S name,.int .i64 t,.int .i64 l,z]⟩),(5,⟨true,.val (.int .i64 k)⟩)]) (fun k=>zO (zGZ hints) k=true) (Nat.zero_le _) rfl rfl ?_
 intro k hk hP
 by_cases hlt:k < hints.length
 ·have hdl:decide ((k:Int) < (hints.length:Int))=true:=by simpa using hlt
  obtain⟨x,o,c,cap,vs,wr,hs,hb,hg,hl1⟩:=zG.int hw hlt
  cases hs
  have hna:zGZ hints k = !(decide (hints.getD k 0 < 1) || decide (hints.getD k 0 > 1000000)):=rfl
  cases h1:decide (hints.getD k 0 < 1)
  ·cases h2:decide (hints.getD k 0 > 1000000)
   ·have ht:zO (zGZ hints) (k + 1)=true:=yJ hP (by rw [hna,h1,h2]; rfl)
    simp only [hdl,Nat.mul_one,hb,hg,h1,h2,ht,go_sem,Nat.reduceEqDiff,Nat.reduceBEq,Nat.reduceAdd,zC]
    exact⟨⟨by omega,by omega⟩,by omega,⟨by omega,by omega⟩,by omega,hlt,zQ (by omega)⟩
   ·have hf:q0=false:=by rw [hq0,zY hlt (by rw [hna,h1,h2]; rfl)]; rfl
    simp only [hdl,Nat.mul_one,hb,hg,h1,h2,hf,go_sem,Nat.reduceEqDiff,Nat.reduceBEq,Nat.reduceAdd,zC]
    exact⟨⟨by omega,by omega⟩,by omega,⟨by omega,by omega⟩,by omega⟩
  ·have hf:q0=false:=by rw [hq0,zY hlt (by rw [hna,h1]; rfl)]; rfl
   simp only [hdl,Nat.mul_one,hb,hg,h1,hf,↓yQ,go_sem,Nat.reduceEqDiff,Nat.reduceBEq,Nat.reduceAdd,zC]
   exact⟨⟨by omega,by omega⟩,by omega⟩
 ·have hdl:decide ((k:Int) < (hints.length:Int))=false:=by simpa using hlt
  have:k=hints.length:=by omega
  subst this
  rw [hP,Bool.true_and] at hq0
  simp only [hdl,go_sem,Nat.reduceEqDiff,Nat.reduceBEq,Nat.reduceAdd,zC]
  refine zE _ (by simp only [go_sem]) (fun _=>⟨by simp only [go_sem,Nat.reduceEqDiff],yTx h4 name t l ds hz⟩) ?_
  simp only [← hq0,go_sem,Nat.reduceLeDiff,Nat.reduceEqDiff,Nat.reduceBEq,Nat.reduceAdd,zC]
end Go.SL
/- Contracts: the reference's hosts. -/
namespace Go.SL
open Go
variable {E:Env} {H:Hp}
def hD (hs:List uP) (k:Nat):uP:=hs.getD k default
def zEU (h:uP):Bool:=!vK h.name || zCy h.name || decide (h.addr < 1) || decide (h.addr > 1000000) || decide (h.owner < 0) || decide (h.owner > 31)
def zDw (hs:List uP) (k j:Nat):Bool:=!((hD hs j).addr == (hD hs k).addr)
def zGE (hs:List uP) (k:Nat):Bool:=!zEU (hD hs k) && zO (zDw hs k) k
def zFt (hs:List uP):Bool:=decide (hs.length≤64) && zO (zGE hs) hs.length
set_option maxHeartbeats 1000000 in
theorem yZB (h4 : xH E) {v : Value} (hs : List uP) (hv : xV H v hs) : yD E 192 [v] H (.bool (zFt hs)) := by
 obtain⟨a,cap,rfl,hsp,hr⟩:=hv
 refine Fn.of_vks h4.c192 (by simp [zMs]) ?_
 simp only [zMs,yCU,yAq,zSJ,yDd,yBi,zVW,zWp,zYS,yBG,zNW,zPX,zOF,zOB,zPK,yAh,zRA]
 obtain⟨q0,hq0⟩:∃ y,y=zFt hs:=⟨_,rfl⟩
 rw [← hq0]
 unfold zFt at hq0
 by_cases h64:hs.length≤64
 ·have e1:decide ((hs.length:Int) > 64)=false:=by rw [decide_eq_false_iff_not]; omega
  have e1':decide (hs.length≤64)=true:=by rw [decide_eq_true_eq]; exact h64
  rw [e1',Bool.true_and] at hq0
  simp only [e1,go_sem,Nat.reduceEqDiff,Nat.reduceBEq,reduceCtorEq,zC]
  refine zS hs.length 0 (fun k=>[(0,⟨true,.val (.slice a hs.length cap)⟩),(3,⟨true,.val (.int .i64 k)⟩)]) (fun k=>zO (zGE hs) k=true) (Nat.zero_le _) rfl rfl ?_
  intro k hk hP
  by_cases hlt:k < hs.length
  ·have hdl:decide ((k:Int) < (hs.length:Int))=true:=by simpa using hlt
   obtain⟨b,o,vs,c,wr,rfl,hb,hi⟩:=hr (by omega)
   have hi1:=(hi k hlt).1
   have hi2:=(hi k hlt).2
   obtain⟨h,hh⟩:∃ h,h=hD hs k:=⟨_,rfl⟩
   have hh':hs.getD k default=h:=hh.symm
   simp only [zBD,hh'] at hi2
   have hat:zGE hs k=(!zEU h && zO (zDw hs k) k):=by rw [hh]; rfl
   obtain⟨q1,hq1⟩:∃ y,y=zEU h:=⟨_,rfl⟩
   have hq1':=hq1
   unfold zEU at hq1'
   rw [← hq1] at hat
   simp only [hdl,hb,hi2,go_sem,Nat.reduceLeDiff,Nat.reduceEqDiff,Nat.reduceBEq,Nat.reduceAdd,reduceCtorEq,zC]
   refine⟨⟨by omega,by omega⟩,hi1,?_⟩
   refine zE _ (by simp only [go_sem]) (fun _=>⟨by simp only [go_sem,Nat.reduceEqDiff,reduceCtorEq],zEp h4 h.name⟩) ?_
   simp only [go_sem,Nat.reduceLeDiff,Nat.reduceEqDiff,Nat.reduceBEq,Nat.reduceAdd,reduceCtorEq]
   refine zE _ (by simp only [go_sem,Nat.reduceEqDiff,reduceCtorEq]) (fun hg=>⟨by simp only [go_sem,Nat.reduceEqDiff,reduceCtorEq] at hg ⊢; exact hg,yTh h4 h.name (Nat.le_trans (zBA (by simpa only [go_sem,Nat.reduceLT,Nat.reduceLeDiff,Nat.reduceEqDiff,Nat.reduceBEq,Nat.reduceAdd,Nat.reduceMul,Nat.reduceSub,reduceIte,reduceCtorEq,Int.reduceToNat,Int.reduceLE,Int.reduceEq,Int.reduceNe,Int.reduceLT,Int.reduceAdd,Int.reduceSub] using hg)) (by omega))⟩) ?_
   simp only [← hq1',go_sem,Nat.reduceLeDiff,Nat.reduceEqDiff,Nat.reduceBEq,Nat.reduceAdd,reduceCtorEq,zC]
   refine⟨fun h1=>by rw [hq0]; exact(zY hlt (by rw [hat,h1]; rfl)).symm,fun h1=>?_⟩
   rw [h1,Bool.not_false,Bool.true_and] at hat
   refine zS k 0 (fun j=>[(0,⟨true,.val (.slice (some ⟨b,o,none⟩) hs.length cap)⟩),(3,⟨true,.val (.int .i64 k)⟩),(4,⟨true,.box [S h.name,.int .i64 h.addr,.int .i64 h.owner]⟩),(6,⟨true,.val (.int .i64 j)⟩)]) (fun j=>zO (zDw hs k) j=true) (Nat.zero_le _) rfl rfl ?_
   intro j hj hPj
   by_cases hlj:j < k
   ·have hdj:decide ((j:Int) < (k:Int))=true:=by simpa using hlj
    have hj1:=(hi j (by omega)).1
    have w1:=zH (hi j (by omega)).2 (j:=1) (by omega)
    simp only [zBD,List.getD_cons_zero,List.getD_cons_succ] at w1
    have hnw:zDw hs k j = !((hs.getD j default).addr == h.addr):=by rw [hh]; rfl
    cases h3:((hs.getD j default).addr == h.addr)
    ·have ht:zO (zDw hs k) (j + 1)=true:=yJ hPj (by rw [hnw,h3]; rfl)
     simp only [hdj,hb,w1,h3,ht,go_sem,Nat.reduceLeDiff,Nat.reduceEqDiff,Nat.reduceBEq,Nat.reduceAdd,reduceCtorEq,zC]
     exact⟨⟨by omega,by omega⟩,by omega,hlj,zQ (by omega)⟩
    ·have hf:q0=false:=by rw [hq0]; exact zY hlt (by rw [hat]; exact zY hlj (by rw [hnw,h3]; rfl))
     simp only [hdj,hb,w1,h3,hf,go_sem,Nat.reduceLeDiff,Nat.reduceEqDiff,Nat.reduceBEq,Nat.reduceAdd,reduceCtorEq,zC]
     exact⟨⟨by omega,by omega⟩,by omega⟩
   ·have hdj:decide ((j:Int) < (k:Int))=false:=by simpa using hlj
    have:j=k:=by omega
    subst this
    have ht:zO (zGE hs) (j + 1)=true:=yJ hP (by rw [hat]; exact hPj)
    simp only [hdj,ht,go_sem,Nat.reduceEqDiff,Nat.reduceBEq,Nat.reduceAdd,reduceCtorEq,zC]
    exact⟨hlt,zQ (by omega)⟩
  ·have hdl:decide ((k:Int) < (hs.length:Int))=false:=by simpa using hlt
   have:k=hs.length:=by omega
   subst this
   rw [hP] at hq0
   simp only [hdl,hq0,go_sem,Nat.reduceEqDiff,Nat.reduceBEq,Nat.reduceAdd,reduceCtorEq,zC]
 ·have e1:decide ((hs.length:Int) > 64)=true:=by rw [decide_eq_true_eq]; omega
  have e1':decide (hs.length≤64)=false:=by rw [decide_eq_false_iff_not]; exact h64
  rw [e1',Bool.false_and] at hq0
  simp only [e1,hq0,go_sem,Nat.reduceEqDiff,Nat.reduceBEq,reduceCtorEq,zC]
end Go.SL
