/- Contract of aliasesHold. -/
import Derived.Test.YthedjffolgeomaaGreatDoorANplQ
import Derived.Test.YthedjffolgeomaaGreatDoorANplT5
namespace Go.SL
open Go
variable {E:Env} {H:Hp}
set_option maxHeartbeats 1000000 in
set_option maxRecDepth 100000 in
theorem xCg (hE : zX E) (apex : Bs) {v w : Value} {ss : List zF} (hss : xT H v ss) (hw : zIB H w ss.length (behind apex ss)) (hn : ss.length ≤ 1099511627775) : yB E 60 [.agg #[S apex, v, w]] H (.bool (zCd ss)) := by
 obtain⟨d,g,⟨a,cap,rfl,hs,hr⟩,hdeep⟩:=hss
 obtain⟨aw,capw,rfl,hsw,hrw⟩:=hw
 have ho:zCd ss=zP (jX ss) ss.length:=rfl
 refine Fn.of_vks hE.c60 (by simp [yHo]) ?_
 simp only [yHo,yJd,yJY,yIJ,yOz,yJa,yPw,yNQ,yNb,yMj,yPl,zXZ]
 rw [ho]
 simp only [go_sem,Nat.reduceLeDiff,Nat.reduceEqDiff,Nat.reduceBEq,Nat.reduceAdd,reduceCtorEq]
 refine zT ss.length 0 (fun k=>[(1,⟨true,.box [S apex,.slice a ss.length cap,.slice aw ss.length capw]⟩),(8,⟨true,.val (.slice a ss.length cap)⟩),(9,⟨true,.val (.int .i64 ss.length)⟩),(10,⟨true,.val (.int .i64 k)⟩)]) (fun k=>zP (jX ss) k=true) (Nat.zero_le _) rfl rfl ?_
 intro k hk hP
 by_cases hlt:k < ss.length
 ·have hd:decide ((k:Int) < (ss.length:Int))=true:=by simpa using hlt
  have hF:(jX ss) k=false→false=zP (jX ss) ss.length:=fun h=>(zY hlt h).symm
  have hS:(jX ss) k=true→k < ss.length∧IntKind.i64.wrap ((k:Int) + 1)=((k + 1:Nat):Int)∧zP (jX ss) (k + 1)=true:=fun h=>⟨hlt,zR (by omega),yJ hP h⟩
  have hr':=hr (by omega)
  obtain⟨b,o,vs,c,wr,ha,hb,hi⟩:=hr'
  subst ha
  have hrw':=hrw (by omega)
  obtain⟨bw,ow,vw,cw,ww,haw,hbw,hiw⟩:=hrw'
  subst haw
  have hi1:=(hi k hlt).1
  have hi2:=(hi k hlt).2
  have hw1:=(hiw k hlt).1
  have hw2:=zK (hiw k hlt).2 (j:=0) (by omega)
  simp only [Nat.mul_one,Nat.add_zero] at hw1 hw2
  have hd1:=zG.one (hdeep k hlt).1
  have hg1:=zG.one (hdeep k hlt).2
  obtain⟨sk,hsk⟩:∃ x,ss.getD k default=x:=⟨_,rfl⟩
  have hsk':yF ss k=sk:=hsk
  obtain⟨bk,hbk⟩:∃ x,behind apex ss k=x:=⟨_,rfl⟩
  have hz0:=(hi 0 (by omega)).1
  have hz1:=zK (hi 0 (by omega)).2 (j:=0) (by omega)
  simp only [Nat.zero_mul,Nat.add_zero] at hz0 hz1
  obtain⟨kp,hkp⟩:∃ x,x=k - 1:=⟨_,rfl⟩
  have e1:(IntKind.i64.wrap ((k:Int) - 1)).toNat=kp:=by rw [yZ (by omega)]; omega
  have e1':0 < k→IntKind.i64.wrap ((k:Int) - 1)=(kp:Int):=fun h=>by rw [yZ]<;>omega
  have e2:IntKind.i64.wrap ((k:Int) + 1)=((k + 1:Nat):Int):=zR (by omega)
  have hp1:=(hi kp (by omega)).1
  have hp2:=zK (hi kp (by omega)).2 (j:=0) (by omega)
  simp only [Nat.add_zero] at hp2
  have a1:decide (0 < k)=decide ((k:Int) > 0):=by rw [Bool.eq_iff_iff]; simp
  have hS':jX ss k=true→k < ss.length∧zP (jX ss) (k + 1)=true:=fun h=>⟨hlt,(hS h).2.2⟩
  have hp : jX ss k = (sk.type != 3 || (!(decide ((k : Int) > 0) && (ss.getD kp default).name == sk.name) && !(decide (k + 1 < ss.length) && (ss.getD (k + 1) default).name == sk.name && (ss.getD (k + 1) default).type != 8))) := by
   rw [jX,hsk',a1,hkp]; rfl
  have g1 : decide ((k : Int) > 0) = true → decide ((k : Int) > 0) = true ∧ decide ((k : Int) > 0) = true ∧ 0 ≤ IntKind.i64.wrap ((k : Int) - 1) ∧ IntKind.i64.wrap ((k : Int) - 1) < (ss.length : Int) := fun h => by
   have:0 < k:=by simpa using h
   rw [e1' this]; exact⟨h,h,by omega,by omega⟩
  by_cases hk1:k + 1 < ss.length
  ·have e3:decide (((k + 1:Nat):Int) < (ss.length:Int))=true:=by rw [decide_eq_true_eq]; omega
   have hq1:=(hi (k + 1) hk1).1
   have hq2:=zK (hi (k + 1) hk1).2 (j:=0) (by omega)
   have hq3:=zK (hi (k + 1) hk1).2 (j:=1) (by omega)
   simp only [Nat.add_zero] at hq2
   simp only [hd,hb,hi2,e1,e2,e3,hp2,hq2,hq3,xD,hsk,hd1,hg1,go_sem,Nat.reduceLeDiff,Nat.reduceEqDiff,Nat.reduceBEq,Nat.reduceAdd,zC]
   have f1:decide (k + 1 < ss.length)=true:=by rw [decide_eq_true_eq]; omega
   rw [f1,Bool.true_and] at hp
   refine⟨⟨by omega,by omega⟩,hi1,fun h1=>hS' ?_,fun h1=>⟨g1,fun h=>⟨h,by omega⟩,fun h=>⟨h,h⟩,fun h2=>hF ?_,fun h2=>⟨⟨by omega,by omega⟩,by omega,fun h=>⟨h,h,by omega,by omega⟩,fun h=>⟨h,by omega⟩,fun h3=>hF ?_,fun h3=>hS' ?_⟩⟩⟩
   ·rw [hp,h1]; rfl
   ·rw [hp,h1,h2]; rfl
   ·rw [hp,h1,h2,h3]; rfl
   ·rw [hp,h1,h2,h3]; rfl
  ·have e3:decide (((k + 1:Nat):Int) < (ss.length:Int))=false:=by rw [decide_eq_false_iff_not]; omega
   simp only [hd,hb,hi2,e1,e2,e3,hp2,xD,hsk,hd1,hg1,go_sem,Nat.reduceLeDiff,Nat.reduceEqDiff,Nat.reduceBEq,Nat.reduceAdd,reduceCtorEq,zC,↓yA]
   have f1:decide (k + 1 < ss.length)=false:=by rw [decide_eq_false_iff_not]; omega
   rw [f1,Bool.false_and,Bool.false_and] at hp
   refine⟨⟨by omega,by omega⟩,hi1,fun h1=>hS' ?_,fun h1=>⟨g1,fun h=>⟨h,by omega⟩,fun h=>⟨h,h⟩,fun h2=>hF ?_,fun h2=>hS' ?_⟩⟩
   ·rw [hp,h1]; rfl
   ·rw [hp,h1,h2]; rfl
   ·rw [hp,h1,h2]; rfl
 ·have hd:decide ((k:Int) < (ss.length:Int))=false:=by simpa using hlt
  have:k=ss.length:=by omega
  simp only [hd,go_sem,Nat.reduceEqDiff,Nat.reduceBEq,Nat.reduceAdd,zC]
  rw [← this]; exact hP.symm
end Go.SL
