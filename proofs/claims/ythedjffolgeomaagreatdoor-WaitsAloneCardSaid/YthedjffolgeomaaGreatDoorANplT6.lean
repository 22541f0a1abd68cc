/- Contract of zone.inForm. -/
import Derived.Test.YthedjffolgeomaaGreatDoorANplQ
import Derived.Test.YthedjffolgeomaaGreatDoorANplT2
namespace Go.SL
open Go
variable {E:Env} {H:Hp}
set_option maxHeartbeats 1000000 in
set_option maxRecDepth 100000 in
theorem xBc (hE : zX E) (apex : Bs) {v : Value} {gs : List kI} (hg : xL H v gs) : yB E 84 [v, S apex] H (.bool (qC apex gs)) := by
 obtain⟨a,cap,rfl,hs,hr⟩:=hg
 refine Fn.of_vks hE.c84 (by simp [yHq]) ?_
 simp only [yHq,yLs,yMV,yJX,yLd,yJE,yNg,yOq,yMe,yKz,yKv,zVl,yCQ,yBk,yBX]
 simp only [go_sem,Nat.reduceEqDiff,Nat.reduceBEq,reduceCtorEq,zC]
 have hc:decide ((gs.length:Int) > 6) = !decide (gs.length≤6):=by rw [Bool.eq_iff_iff]; simp; omega
 rw [hc]
 refine⟨fun h=>?_,fun h=>?_⟩
 ·simp only [qC]; rw [Bool.not_eq_true'] at h; rw [h]; rfl
 have hn:gs.length≤6:=by simpa using h
 have ho:qC apex gs=zP (zAb apex gs) gs.length:=by simp only [qC,hn,decide_true,Bool.true_and]
 rw [ho]
 refine zT gs.length 0 (fun k=>[(0,⟨true,.val (.slice a gs.length cap)⟩),(1,⟨true,.val (S apex)⟩),(10,⟨true,.val (.slice a gs.length cap)⟩),(11,⟨true,.val (.int .i64 gs.length)⟩),(12,⟨true,.val (.int .i64 k)⟩)]) (fun k=>zP (zAb apex gs) k=true) (Nat.zero_le _) rfl rfl ?_
 intro k hk hP
 by_cases hlt:k < gs.length
 ·have hd:decide ((k:Int) < (gs.length:Int))=true:=by simpa using hlt
  have hF:zAb apex gs k=false→false=zP (zAb apex gs) gs.length:=fun h=>(zY hlt h).symm
  have hS:zAb apex gs k=true→k < gs.length∧IntKind.i64.wrap ((k:Int) + 1)=((k + 1:Nat):Int)∧zP (zAb apex gs) (k + 1)=true:=fun h=>⟨hlt,zR (by omega),yJ hP h⟩
  have hr':=hr (by omega)
  obtain⟨b,o,vs,c,wr,ha,hb,hi⟩:=hr'
  subst ha
  have hi1:=(hi k hlt).1
  have hi2:=(hi k hlt).2
  have hz:=(hi 0 (by omega)).2
  have hz0:=(hi 0 (by omega)).1
  have hz1:=zK hz (j:=1) (by omega)
  have hz3:=zK hz (j:=3) (by omega)
  have hz4:=zK hz (j:=4) (by omega)
  simp only [Nat.zero_mul,Nat.add_zero] at hz0 hz1 hz3 hz4
  obtain⟨gk,hgk⟩:∃ x,gs.getD k default=x:=⟨_,rfl⟩
  obtain⟨g0,hg0⟩:∃ x,gs.getD 0 default=x:=⟨_,rfl⟩
  by_cases hk0:k=0
  ·have e0:decide ((k:Int) > 0)=false:=by simp; omega
   have e0':decide (0 < k)=false:=by simp; omega
   have hok : zAb apex gs k = (!((!(gk.zone == apex)) || decide (gk.key < 1) || decide (gk.key > 1000000) || decide (gk.alg < 1) || decide (gk.alg > 3)) && !(decide (gk.from_ < 0) || decide (gk.from_ > gk.till) || decide (gk.till > 20000000))) := by
    simp only [zAb,hgk,e0',Bool.false_and,Bool.not_false,Bool.and_true]; rfl
   have e1:(IntKind.i64.wrap ((k:Int) - 1)).toNat=0:=by rw [yZ (by omega)]; omega
   simp only [hd,e0,e1,hb,hi2,hz1,hz3,hz4,zAf,hgk,hg0,go_sem,Nat.reduceLeDiff,Nat.reduceEqDiff,Nat.reduceBEq,Nat.reduceAdd,reduceCtorEq,Int.reduceToNat,Int.reduceLE,zC]
   refine⟨⟨by omega,by omega⟩,hi1,fun h1=>hF ?_,fun h1=>⟨fun hx=>⟨hx,hx⟩,fun h2=>hF ?_,fun h2=>?_⟩⟩
   ·rw [hok,h1]; rfl
   ·rw [hok,h2,Bool.not_true,Bool.and_false]
   ·refine hS ?_
    rw [hok,h1,h2]; rfl
  ·have e0:decide ((k:Int) > 0)=true:=by simp; omega
   have e0':decide (0 < k)=true:=by simp; omega
   obtain⟨gp,hgp⟩:∃ x,gs.getD (k - 1) default=x:=⟨_,rfl⟩
   have hok : zAb apex gs k = (!((!(gk.zone == apex)) || decide (gk.key < 1) || decide (gk.key > 1000000) || decide (gk.alg < 1) || decide (gk.alg > 3)) && !(decide (gk.from_ < 0) || decide (gk.from_ > gk.till) || decide (gk.till > 20000000)) &&
     !(gk.from_ != g0.from_ || gk.till != g0.till || decide (gk.key≤gp.key))):=by
    simp only [zAb,hgk,hg0,hgp,e0',Bool.true_and]; rfl
   have e1:IntKind.i64.wrap ((k:Int) - 1)=((k - 1:Nat):Int):=by rw [yZ]<;>omega
   have hj:=(hi (k - 1) (by omega)).2
   have hj0:=(hi (k - 1) (by omega)).1
   have hj1:=zK hj (j:=1) (by omega)
   simp only [hd,e0,e1,hj1,hb,hi2,hz3,hz4,zAf,hgk,hg0,hgp,go_sem,Nat.reduceLeDiff,Nat.reduceEqDiff,Nat.reduceBEq,Nat.reduceAdd,reduceCtorEq,Int.reduceToNat,Int.reduceLE,zC]
   refine⟨⟨by omega,by omega⟩,hi1,fun h1=>hF ?_,fun h1=>⟨fun hx=>⟨hx,hx⟩,fun h2=>hF ?_,fun h2=>?_⟩⟩
   ·rw [hok,h1]; rfl
   ·rw [hok,h2,Bool.not_true,Bool.and_false,Bool.false_and]
   ·refine⟨by omega,by omega,fun hx=>⟨hx,by omega⟩,fun hx=>⟨hx,by omega⟩,fun hx=>⟨hx,hx⟩,fun hx=>⟨hx,hx,by omega,by omega⟩,fun hx=>⟨hx,by omega⟩,fun hx=>⟨hx,hx⟩,fun h3=>hF ?_,fun h3=>hS ?_⟩
    ·rw [hok,h3,Bool.not_true,Bool.and_false]
    ·rw [hok,h1,h2,h3]; rfl
 ·have hd:decide ((k:Int) < (gs.length:Int))=false:=by simpa using hlt
  have:k=gs.length:=by omega
  simp only [hd,go_sem,Nat.reduceEqDiff,Nat.reduceBEq,Nat.reduceAdd,reduceCtorEq,zC]
  rw [← this]; exact hP.symm
end Go.SL
