/- Contracts of package zone, first part. -/
import Derived.Test.YthedjffolgeomaaGreatDoorANplQ
import Derived.Test.YthedjffolgeomaaGreatDoorANplT2
import Derived.Test.YthedjffolgeomaaGreatDoorANplT6
namespace Go.SL
open Go
variable {E:Env} {H:Hp}
def zCq (apex : Bs) (ss : List zF) (i : Nat) : Bool := wK (yF ss i).name (yF ss i).type (yF ss i).life (yF ss i).data && pY (yF ss i).name apex &&
 (i == 0 || !decide (vS (yF ss (i - 1)).name (yF ss (i - 1)).type (yF ss i).name (yF ss i).type≥0))
set_option maxHeartbeats 1000000 in
theorem xBm (hE : zX E) (hB : qU E H) (apex : Bs) {v : Value} {ss : List zF} (hss : xT H v ss) : yB E 57 [.agg #[S apex, v]] H (.bool (vQ apex ss)) := by
 obtain⟨d,g,⟨a,cap,rfl,hs,hr⟩,hdeep⟩:=hss
 refine Fn.of_vks hE.c57 (by simp [yGB]) ?_
 simp only [yGB,yLM,yKb,yLv,yQd,yLr,yQD,yNa,yQa,yLL,yNW,yGr,zUK,zWI,zYA,zVY,zSX,zWv]
 simp only [go_sem,Nat.reduceLeDiff,Nat.reduceEqDiff,Nat.reduceBEq,Nat.reduceAdd,reduceCtorEq]
 refine zE _ ?_ (fun _=>⟨?_,zFy hE apex⟩) ?_<;>simp only [go_sem,Nat.reduceLeDiff,Nat.reduceEqDiff,Nat.reduceBEq,Nat.reduceAdd]
 refine zE _ ?_ (fun hg=>⟨?_,yRf hE apex [42]⟩) ?_<;>simp only [go_sem,Nat.reduceEqDiff,Nat.reduceBEq,Nat.reduceAdd,zC]
 ·simp only [go_sem,Nat.reduceEqDiff] at hg ⊢; exact hg
 have ho:vQ apex ss=(!(!zL apex || zBU apex [42] || decide (ss.length > 20000)) && zP (zCq apex ss) ss.length):=rfl
 have hc:decide ((ss.length:Int) > 20000)=decide (ss.length > 20000):=by rw [Bool.eq_iff_iff]; simp; omega
 rw [hc]
 refine⟨fun h=>?_,fun h=>?_⟩
 ·rw [ho,h]; rfl
 have hn : ss.length ≤ 20000 := by
  simp only [Bool.or_eq_false_iff,decide_eq_false_iff_not] at h; omega
 rw [ho,h,Bool.not_false,Bool.true_and]
 refine zT ss.length 0 (fun k=>[(1,⟨true,.box [S apex,.slice a ss.length cap]⟩),(28,⟨true,.val (.slice a ss.length cap)⟩),(29,⟨true,.val (.int .i64 ss.length)⟩),(30,⟨true,.val (.int .i64 k)⟩)]) (fun k=>zP (zCq apex ss) k=true) (Nat.zero_le _) rfl rfl ?_
 intro k hk hP
 by_cases hlt:k < ss.length
 ·have hd:decide ((k:Int) < (ss.length:Int))=true:=by simpa using hlt
  have hF:zCq apex ss k=false→false=zP (zCq apex ss) ss.length:=fun h=>(zY hlt h).symm
  have hS:zCq apex ss k=true→k < ss.length∧IntKind.i64.wrap ((k:Int) + 1)=((k + 1:Nat):Int)∧zP (zCq apex ss) (k + 1)=true:=fun h=>⟨hlt,zR (by omega),yJ hP h⟩
  have hr':=hr (by omega)
  obtain⟨b,o,vs,c,wr,ha,hb,hi⟩:=hr'
  subst ha
  have hi1:=(hi k hlt).1
  have hi2:=(hi k hlt).2
  have hdk:=(hdeep k hlt).1
  have hd1:=zG.one hdk
  have hg1:=zG.one (hdeep k hlt).2
  simp only [hd,hb,hi2,xD,hd1,hg1,go_sem,Nat.reduceLeDiff,Nat.reduceEqDiff,Nat.reduceBEq,Nat.reduceAdd,zC]
  refine⟨⟨by omega,by omega⟩,hi1,?_⟩
  refine zE _ ?_ (fun _=>⟨?_,yVY hE hB (ss.getD k default).name (ss.getD k default).type (ss.getD k default).life hdk⟩) ?_<;>simp only [go_sem,Nat.reduceLeDiff,Nat.reduceEqDiff,Nat.reduceBEq,Nat.reduceAdd]
  refine⟨fun h1=>hF ?_,fun h1=>?_⟩
  ·have h1':wK (yF ss k).name (yF ss k).type (yF ss k).life (yF ss k).data=false:=h1
   simp only [zCq,h1',Bool.false_and]
  have h1':wK (yF ss k).name (yF ss k).type (yF ss k).life (yF ss k).data=true:=h1
  refine zE _ ?_ (fun _=>⟨?_,yVx hE (ss.getD k default).name apex⟩) ?_<;>simp only [go_sem,Nat.reduceLT,Nat.reduceEqDiff,Nat.reduceBEq,Nat.reduceAdd,zC]
  refine⟨fun h2=>hF ?_,fun h2=>?_⟩
  ·have h2':pY (yF ss k).name apex=false:=h2
   simp only [zCq,h2',Bool.and_false,Bool.false_and]
  have h2':pY (yF ss k).name apex=true:=h2
  have ho1:zCq apex ss k=(k == 0 || !decide (vS (yF ss (k - 1)).name (yF ss (k - 1)).type (yF ss k).name (yF ss k).type≥0)):=by simp only [zCq,h1',h2',Bool.true_and]
  by_cases hk0:k=0
  ·have e0:((k:Int) == 0)=true:=by simp; omega
   simp only [e0,go_sem]
   refine hS ?_
   rw [ho1,hk0]; rfl
  ·have e0:((k:Int) == 0)=false:=by simp; omega
   have e1:IntKind.i64.wrap ((k:Int) - 1)=((k - 1:Nat):Int):=by rw [yZ]<;>omega
   have hj1:=(hi (k - 1) (by omega)).1
   have hjd:=zG.one (hdeep (k - 1) (by omega)).1
   have hj2:=jC (hi (k - 1) (by omega)).2 0 4 (by omega)
   simp only [Nat.add_zero] at hj2
   simp only [e0,e1,hb,hj2,xD,hjd,go_sem,Nat.reduceLeDiff,Nat.reduceEqDiff,Nat.reduceBEq,Nat.reduceAdd]
   refine⟨⟨by omega,by omega⟩,by omega,?_⟩
   refine zE _ ?_ (fun _=>⟨?_,yWz hE (ss.getD (k - 1) default).name (ss.getD (k - 1) default).type (ss.getD k default).name (ss.getD k default).type⟩) ?_<;>simp only [go_sem,Nat.reduceEqDiff,Nat.reduceBEq,zC]
   have hkb:(k == 0)=false:=by simpa using hk0
   rw [hkb,Bool.false_or] at ho1
   refine⟨fun h3=>hF ?_,fun h3=>hS ?_⟩
   ·rw [ho1]; exact congrArg not h3
   ·rw [ho1]; exact congrArg not h3
 ·have hd:decide ((k:Int) < (ss.length:Int))=false:=by simpa using hlt
  have:k=ss.length:=by omega
  simp only [hd,go_sem,Nat.reduceEqDiff,Nat.reduceBEq,Nat.reduceAdd,zC]
  rw [← this]; exact hP.symm
end Go.SL
/- Contracts of package zone, second part. -/
namespace Go.SL
open Go
variable {E:Env} {H:Hp}
def apexOk (apex:Bs) (ss:List zF) (i:Nat):Bool:=zBn (yF ss i).type ((yF ss i).name == apex)
set_option maxHeartbeats 1000000 in
theorem xCo (hE : zX E) (apex : Bs) {v : Value} {ss : List zF} (hss : xT H v ss) (hn : ss.length ≤ 1099511627776) : yB E 58 [.agg #[S apex, v]] H (.bool (qF apex ss)) := by
 have hss0:=hss
 obtain⟨d,g,⟨a,cap,rfl,hs,hr⟩,hdeep⟩:=hss
 refine Fn.of_vks hE.c58 (by simp [yIs]) ?_
 simp only [yIs,yLC,yNd,yLV,yNE,yNp,yLO,yQz,yKY,yNP,yPD,yDl,zTc,zYC,zXI,zUe]
 simp only [go_sem,Nat.reduceLeDiff,Nat.reduceEqDiff,Nat.reduceBEq,Nat.reduceAdd,reduceCtorEq]
 intro b9 hb9
 have hle:H.le (H.put b9 (.row [.int .i64 4,.int .i64 2] 2 true)):=zJ hb9 _
 have hss1:=xT.mono hss0 hle
 have hk9:(H.put b9 (.row [.int .i64 4,.int .i64 2] 2 true)) b9=some (.row [.int .i64 4,.int .i64 2] 2 true):=Hp.put_same ..
 have hdeep1:∀ i,i < ss.length→yV (d i)=true∧yV (g i)=true:=fun i hi=>⟨zG.one (hdeep i hi).1,zG.one (hdeep i hi).2⟩
 have ho:qF apex ss=(zAa ss apex 4 && zAa ss apex 2 && zP (apexOk apex ss) ss.length):=rfl
 refine zT 2 0 (fun k=>[(1,⟨true,.box [S apex,.slice a ss.length cap]⟩),(9,⟨true,.val (.slice (some ⟨b9,0,none⟩) 2 2)⟩),(10,⟨true,.val (.int .i64 2)⟩),(11,⟨true,.val (.int .i64 k)⟩)]) (fun k=>(0 < k→zAa ss apex 4=true)∧(1 < k→zAa ss apex 2=true)) (Nat.zero_le _) rfl ⟨fun h=>absurd h (by omega),fun h=>absurd h (by omega)⟩ ?_
 intro k hk hP
 have hk':k=0∨k=1∨k=2:=by omega
 rcases hk' with rfl | rfl | rfl
 ·have e0:decide (((0:Nat):Int) < 2)=true:=by decide
  have e2:(((0:Nat):Int)).toNat=0:=rfl
  have e3:IntKind.i64.wrap (((0:Nat):Int) + 1)=((0 + 1:Nat):Int):=zR (by omega)
  simp only [e0,e2,hk9,go_sem,Nat.reduceLeDiff,Nat.reduceEqDiff,Nat.reduceBEq,Nat.reduceAdd,zC]
  refine⟨by omega,?_⟩
  refine zE _ ?_ (fun _=>⟨?_,yWi hE apex 4 apex hss1 hn⟩) ?_<;>simp only [e3,go_sem,Nat.reduceLT,Nat.reduceEqDiff,Nat.reduceBEq,Nat.reduceAdd,zC]
  intro h
  refine⟨?_,hle⟩
  rw [ho,h]; rfl
 ·have e0:decide (((1:Nat):Int) < 2)=true:=by decide
  have e2:(((1:Nat):Int)).toNat=1:=rfl
  have e3:IntKind.i64.wrap (((1:Nat):Int) + 1)=((1 + 1:Nat):Int):=zR (by omega)
  simp only [e0,e2,hk9,go_sem,Nat.reduceLeDiff,Nat.reduceEqDiff,Nat.reduceBEq,Nat.reduceAdd,Nat.reduceMul,zC]
  refine⟨by omega,?_⟩
  refine zE _ ?_ (fun _=>⟨?_,yWi hE apex 2 apex hss1 hn⟩) ?_<;>simp only [e3,go_sem,Nat.reduceLT,Nat.reduceEqDiff,Nat.reduceBEq,Nat.reduceAdd,zC]
  refine⟨fun h=>⟨?_,hle⟩,fun h=>?_⟩
  ·rw [ho,h,Bool.and_false,Bool.false_and]
  ·first | exact⟨hP.1 (by omega),h⟩ | exact hP.1 (by omega)
 ·have e0:decide (((2:Nat):Int) < 2)=false:=by decide
  simp only [e0,go_sem,Nat.reduceLeDiff,Nat.reduceEqDiff,Nat.reduceBEq,Nat.reduceAdd,Nat.reduceMul,zC]
  rw [ho,hP.1 (by omega),hP.2 (by omega),Bool.true_and,Bool.true_and]
  refine zT ss.length 0 (fun k=>[(1,⟨true,.box [S apex,.slice a ss.length cap]⟩),(30,⟨true,.val (.slice a ss.length cap)⟩),(31,⟨true,.val (.int .i64 ss.length)⟩),(32,⟨true,.val (.int .i64 k)⟩)]) (fun k=>zP (apexOk apex ss) k=true) (Nat.zero_le _) rfl rfl ?_
  intro k hk hP
  by_cases hlt:k < ss.length
  ·have hd:decide ((k:Int) < (ss.length:Int))=true:=by simpa using hlt
   have hF:apexOk apex ss k=false→false=zP (apexOk apex ss) ss.length:=fun h=>(zY hlt h).symm
   have hS:apexOk apex ss k=true→k < ss.length∧IntKind.i64.wrap ((k:Int) + 1)=((k + 1:Nat):Int)∧zP (apexOk apex ss) (k + 1)=true:=fun h=>⟨hlt,zR (by omega),yJ hP h⟩
   have hr':=hr (by omega)
   obtain⟨b,o,vs,c,wr,ha,hb,hi⟩:=hr'
   subst ha
   have hb1:=hle _ _ hb
   have hi1:=(hi k hlt).1
   have hi2:=(hi k hlt).2
   have hd1:=(hdeep1 k hlt).1
   have hg1:=(hdeep1 k hlt).2
   simp only [hd,hb1,hi2,xD,hd1,hg1,go_sem,Nat.reduceLeDiff,Nat.reduceEqDiff,Nat.reduceBEq,Nat.reduceAdd,zC]
   refine⟨⟨by omega,by omega⟩,hi1,?_⟩
   refine zE _ ?_ (fun _=>⟨?_,xBJ hE (ss.getD k default).type ((ss.getD k default).name == apex)⟩) ?_<;>simp only [go_sem,Nat.reduceEqDiff,Nat.reduceBEq,zC]
   exact⟨fun h=>⟨hF h,hle⟩,fun h=>hS h⟩
  ·have hd:decide ((k:Int) < (ss.length:Int))=false:=by simpa using hlt
   have:k=ss.length:=by omega
   simp only [hd,go_sem,Nat.reduceEqDiff,Nat.reduceBEq,Nat.reduceAdd,zC]
   rw [← this]; exact⟨hP.symm,hle⟩
def zIB (H:Hp) (v:Value) (n:Nat) (f:Nat→Bs):Prop:=zG H 1 v n (fun i=>[S (f i)])
def jX (ss:List zF) (i:Nat):Bool:=(yF ss i).type != 3 || (!(decide (0 < i) && (yF ss (i - 1)).name == (yF ss i).name) && !(decide (i + 1 < ss.length) && (yF ss (i + 1)).name == (yF ss i).name && (yF ss (i + 1)).type != 8))
end Go.SL
/- Contracts of package zone: what holds of a layout. -/
namespace Go.SL
open Go
variable {E:Env} {H:Hp}
set_option maxHeartbeats 1000000 in
set_option maxRecDepth 100000 in
theorem xCB (hE : zX E) (apex : Bs) {v w : Value} {ss : List zF} (hss : xT H v ss) (hw : zIB H w ss.length (behind apex ss)) (hn : ss.length ≤ 1099511627775) : yB E 63 [.agg #[S apex, v, w]] H (.bool (zEi apex ss)) := by
 obtain⟨d,g,⟨a,cap,rfl,hs,hr⟩,hdeep⟩:=hss
 obtain⟨aw,capw,rfl,hsw,hrw⟩:=hw
 have ho:zEi apex ss=zP (fun i=>qC apex (yF ss i).sigs) ss.length:=rfl
 refine Fn.of_vks hE.c63 (by simp [yGQ]) ?_
 simp only [yGQ,yJg,yKy,yMQ,yKk,yKf,yLW,yKR,yKG]
 rw [ho]
 simp only [go_sem,Nat.reduceLeDiff,Nat.reduceEqDiff,Nat.reduceBEq,Nat.reduceAdd,reduceCtorEq]
 refine zT ss.length 0 (fun k=>[(1,⟨true,.box [S apex,.slice a ss.length cap,.slice aw ss.length capw]⟩),(8,⟨true,.val (.slice a ss.length cap)⟩),(9,⟨true,.val (.int .i64 ss.length)⟩),(10,⟨true,.val (.int .i64 k)⟩)]) (fun k=>zP (fun i=>qC apex (yF ss i).sigs) k=true) (Nat.zero_le _) rfl rfl ?_
 intro k hk hP
 by_cases hlt:k < ss.length
 ·have hd:decide ((k:Int) < (ss.length:Int))=true:=by simpa using hlt
  have hF:(fun i=>qC apex (yF ss i).sigs) k=false→false=zP (fun i=>qC apex (yF ss i).sigs) ss.length:=fun h=>(zY hlt h).symm
  have hS:(fun i=>qC apex (yF ss i).sigs) k=true→k < ss.length∧IntKind.i64.wrap ((k:Int) + 1)=((k + 1:Nat):Int)∧zP (fun i=>qC apex (yF ss i).sigs) (k + 1)=true:=fun h=>⟨hlt,zR (by omega),yJ hP h⟩
  have hr':=hr (by omega)
  obtain⟨b,o,vs,c,wr,ha,hb,hi⟩:=hr'
  subst ha
  have hrw':=hrw (by omega)
  obtain⟨bw,ow,vw,cw,ww,haw,hbw,hiw⟩:=hrw'
  subst haw
  have hi1:=(hi k hlt).1
  have hi2:=(hi k hlt).2
  have hw1:=(hiw k hlt).1
  have hw2:=zK (hiw k hlt).2 (j:=0) (by omega)
  simp only [Nat.mul_one,Nat.add_zero] at hw1 hw2
  have hd1:=zG.one (hdeep k hlt).1
  have hg1:=zG.one (hdeep k hlt).2
  obtain⟨sk,hsk⟩:∃ x,ss.getD k default=x:=⟨_,rfl⟩
  have hsk':yF ss k=sk:=hsk
  obtain⟨bk,hbk⟩:∃ x,behind apex ss k=x:=⟨_,rfl⟩
  simp only [hd,hb,hi2,xD,hsk,hd1,hg1,go_sem,Nat.reduceLeDiff,Nat.reduceEqDiff,Nat.reduceBEq,Nat.reduceAdd,zC]
  refine⟨⟨by omega,by omega⟩,hi1,?_⟩
  refine zE _ ?_ (fun _=>⟨?_,xBc hE apex (hdeep k hlt).2⟩) ?_<;>simp only [go_sem,Nat.reduceEqDiff,Nat.reduceBEq,zC]
  exact⟨fun h=>hF h,fun h=>hS h⟩
 ·have hd:decide ((k:Int) < (ss.length:Int))=false:=by simpa using hlt
  have:k=ss.length:=by omega
  simp only [hd,go_sem,Nat.reduceEqDiff,Nat.reduceBEq,Nat.reduceAdd,zC]
  rw [← this]; exact hP.symm
set_option maxHeartbeats 1000000 in
set_option maxRecDepth 100000 in
theorem xCm (hE : zX E) (apex : Bs) {v w : Value} {ss : List zF} (hss : xT H v ss) (hw : zIB H w ss.length (behind apex ss)) (hn : ss.length ≤ 1099511627775) : yB E 62 [.agg #[S apex, v, w]] H (.bool (zHu apex ss)) := by
 obtain⟨d,g,⟨a,cap,rfl,hs,hr⟩,hdeep⟩:=hss
 obtain⟨aw,capw,rfl,hsw,hrw⟩:=hw
 have ho:zHu apex ss=zP (fun i=>!((behind apex ss i != [] && ((yF ss i).type == 2 || (yF ss i).type == 1)) && decide ((yF ss i).sigs.length > 0))) ss.length:=rfl
 refine Fn.of_vks hE.c62 (by simp [yHe]) ?_
 simp only [yHe,yPh,yOf,yMY,yOl,yKV,yMy,yLx,yMg,yPz]
 rw [ho]
 simp only [go_sem,Nat.reduceLeDiff,Nat.reduceEqDiff,Nat.reduceBEq,Nat.reduceAdd,reduceCtorEq]
 refine zT ss.length 0 (fun k=>[(1,⟨true,.box [S apex,.slice a ss.length cap,.slice aw ss.length capw]⟩),(9,⟨true,.val (.slice a ss.length cap)⟩),(10,⟨true,.val (.int .i64 ss.length)⟩),(11,⟨true,.val (.int .i64 k)⟩)]) (fun k=>zP (fun i=>!((behind apex ss i != [] && ((yF ss i).type == 2 || (yF ss i).type == 1)) && decide ((yF ss i).sigs.length > 0))) k=true) (Nat.zero_le _) rfl rfl ?_
 intro k hk hP
 by_cases hlt:k < ss.length
 ·have hd:decide ((k:Int) < (ss.length:Int))=true:=by simpa using hlt
  have hF:(fun i=>!((behind apex ss i != [] && ((yF ss i).type == 2 || (yF ss i).type == 1)) && decide ((yF ss i).sigs.length > 0))) k=false→false=zP (fun i=>!((behind apex ss i != [] && ((yF ss i).type == 2 || (yF ss i).type == 1)) && decide ((yF ss i).sigs.length > 0))) ss.length:=fun h=>(zY hlt h).symm
  have hS:(fun i=>!((behind apex ss i != [] && ((yF ss i).type == 2 || (yF ss i).type == 1)) && decide ((yF ss i).sigs.length > 0))) k=true→k < ss.length∧IntKind.i64.wrap ((k:Int) + 1)=((k + 1:Nat):Int)∧zP (fun i=>!((behind apex ss i != [] && ((yF ss i).type == 2 || (yF ss i).type == 1)) && decide ((yF ss i).sigs.length > 0))) (k + 1)=true:=fun h=>⟨hlt,zR (by omega),yJ hP h⟩
  have hr':=hr (by omega)
  obtain⟨b,o,vs,c,wr,ha,hb,hi⟩:=hr'
  subst ha
  have hrw':=hrw (by omega)
  obtain⟨bw,ow,vw,cw,ww,haw,hbw,hiw⟩:=hrw'
  subst haw
  have hi1:=(hi k hlt).1
  have hi2:=(hi k hlt).2
  have hw1:=(hiw k hlt).1
  have hw2:=zK (hiw k hlt).2 (j:=0) (by omega)
  simp only [Nat.mul_one,Nat.add_zero] at hw1 hw2
  have hd1:=zG.one (hdeep k hlt).1
  have hg1:=zG.one (hdeep k hlt).2
  obtain⟨sk,hsk⟩:∃ x,ss.getD k default=x:=⟨_,rfl⟩
  have hsk':yF ss k=sk:=hsk
  obtain⟨bk,hbk⟩:∃ x,behind apex ss k=x:=⟨_,rfl⟩
  have hsg:=(hdeep k hlt).2
  obtain⟨ag,cg,hgv,_⟩:=hsg
  rw [hsk] at hgv
  simp only [hd,hb,hbw,hi2,hw2,hbk,xD,hsk,hgv,hd1,go_sem,Nat.reduceLeDiff,Nat.reduceEqDiff,Nat.reduceBEq,Nat.reduceAdd,zC,Nat.mul_one]
  have hcc:decide ((sk.sigs.length:Int) > 0)=decide (sk.sigs.length > 0):=by rw [Bool.eq_iff_iff]; simp
  rw [hcc]
  have hp:(!((behind apex ss k != [] && ((yF ss k).type == 2 || (yF ss k).type == 1)) && decide ((yF ss k).sigs.length > 0))) = !((!(bk == [])) && (sk.type == 2 || sk.type == 1) && decide (sk.sigs.length > 0)):=by rw [hbk,hsk']; rfl
  exact⟨⟨by omega,by omega⟩,hi1,⟨by omega,by omega⟩,hw1,fun hx=>⟨hx,fun hy=>by rw [hx,hy]; rfl⟩,fun h=>hF (hp.trans (congrArg not h)),fun h=>hS (hp.trans (congrArg not h))⟩
 ·have hd:decide ((k:Int) < (ss.length:Int))=false:=by simpa using hlt
  have:k=ss.length:=by omega
  simp only [hd,go_sem,Nat.reduceEqDiff,Nat.reduceBEq,Nat.reduceAdd,reduceCtorEq,zC]
  rw [← this]; exact hP.symm
set_option maxHeartbeats 1000000 in
set_option maxRecDepth 100000 in
theorem xBR (hE : zX E) (apex : Bs) {v w : Value} {ss : List zF} (hss : xT H v ss) (hw : zIB H w ss.length (behind apex ss)) (hn : ss.length ≤ 1099511627775) : yB E 61 [.agg #[S apex, v, w]] H (.bool (zHr apex ss)) := by
 obtain⟨d,g,⟨a,cap,rfl,hs,hr⟩,hdeep⟩:=hss
 obtain⟨aw,capw,rfl,hsw,hrw⟩:=hw
 have ho:zHr apex ss=zP (fun i=>kD (behind apex ss i) (yF ss i).name (yF ss i).type) ss.length:=rfl
 refine Fn.of_vks hE.c61 (by simp [yGS]) ?_
 simp only [yGS,yPG,yOs,yKQ,yLI,yLa,yIQ,yPY,yQB,zWH,zZH,yDF,yDX,yOM,yKd,zWU,zZb]
 rw [ho]
 simp only [go_sem,Nat.reduceLeDiff,Nat.reduceEqDiff,Nat.reduceBEq,Nat.reduceAdd,reduceCtorEq]
 refine zT ss.length 0 (fun k=>[(1,⟨true,.box [S apex,.slice a ss.length cap,.slice aw ss.length capw]⟩),(9,⟨true,.val (.slice a ss.length cap)⟩),(10,⟨true,.val (.int .i64 ss.length)⟩),(11,⟨true,.val (.int .i64 k)⟩)]) (fun k=>zP (fun i=>kD (behind apex ss i) (yF ss i).name (yF ss i).type) k=true) (Nat.zero_le _) rfl rfl ?_
 intro k hk hP
 by_cases hlt:k < ss.length
 ·have hd:decide ((k:Int) < (ss.length:Int))=true:=by simpa using hlt
  have hF:(fun i=>kD (behind apex ss i) (yF ss i).name (yF ss i).type) k=false→false=zP (fun i=>kD (behind apex ss i) (yF ss i).name (yF ss i).type) ss.length:=fun h=>(zY hlt h).symm
  have hS:(fun i=>kD (behind apex ss i) (yF ss i).name (yF ss i).type) k=true→k < ss.length∧IntKind.i64.wrap ((k:Int) + 1)=((k + 1:Nat):Int)∧zP (fun i=>kD (behind apex ss i) (yF ss i).name (yF ss i).type) (k + 1)=true:=fun h=>⟨hlt,zR (by omega),yJ hP h⟩
  have hr':=hr (by omega)
  obtain⟨b,o,vs,c,wr,ha,hb,hi⟩:=hr'
  subst ha
  have hrw':=hrw (by omega)
  obtain⟨bw,ow,vw,cw,ww,haw,hbw,hiw⟩:=hrw'
  subst haw
  have hi1:=(hi k hlt).1
  have hi2:=(hi k hlt).2
  have hw1:=(hiw k hlt).1
  have hw2:=zK (hiw k hlt).2 (j:=0) (by omega)
  simp only [Nat.mul_one,Nat.add_zero] at hw1 hw2
  have hd1:=zG.one (hdeep k hlt).1
  have hg1:=zG.one (hdeep k hlt).2
  obtain⟨sk,hsk⟩:∃ x,ss.getD k default=x:=⟨_,rfl⟩
  have hsk':yF ss k=sk:=hsk
  obtain⟨bk,hbk⟩:∃ x,behind apex ss k=x:=⟨_,rfl⟩
  simp only [hd,hb,hbw,hi2,hw2,hbk,xD,hsk,hd1,hg1,go_sem,Nat.reduceLeDiff,Nat.reduceEqDiff,Nat.reduceBEq,Nat.reduceAdd,zC,Nat.mul_one]
  have hp:kD (behind apex ss k) (yF ss k).name (yF ss k).type=kD bk sk.name sk.type:=by rw [hbk,hsk']
  refine⟨⟨by omega,by omega⟩,hi1,⟨by omega,by omega⟩,hw1,fun h1=>?_,fun h1=>⟨fun h2=>?_,fun h2=>?_⟩⟩
  ·have e1:bk = []:=by simpa using h1
   exact⟨fun h2=>hF (hp.trans (by rw [kD,if_pos e1,bne,h2]; rfl)),fun h2=>hS (hp.trans (by rw [kD,if_pos e1,bne,h2]; rfl))⟩
  ·have e1:bk≠[]:=by simpa using h1
   have e2:bk=sk.name:=by simpa using h2
   exact⟨fun h3=>hF (hp.trans (by rw [kD,if_neg e1,if_pos e2,h3]; rfl)),fun h3=>hS (hp.trans (by rw [kD,if_neg e1,if_pos e2,h3]; rfl))⟩
  ·have e1:bk≠[]:=by simpa using h1
   have e2:bk≠sk.name:=by simpa using h2
   refine⟨fun h3=>hF (hp.trans ?_),fun h3=>hS (hp.trans ?_)⟩
   ·rw [kD,if_neg e1,if_neg e2]; simpa using h3
   ·rw [kD,if_neg e1,if_neg e2]; simpa using h3
 ·have hd:decide ((k:Int) < (ss.length:Int))=false:=by simpa using hlt
  have:k=ss.length:=by omega
  simp only [hd,go_sem,Nat.reduceEqDiff,Nat.reduceBEq,Nat.reduceAdd,reduceCtorEq,zC]
  rw [← this]; exact hP.symm
end Go.SL
