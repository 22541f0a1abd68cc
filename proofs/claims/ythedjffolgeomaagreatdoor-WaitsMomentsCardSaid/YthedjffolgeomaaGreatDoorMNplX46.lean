/- The law WaitsMoments, out of the contracts. -/
import Derived.Test.YthedjffolgeomaaGreatDoorMNplX25
import Derived.Test.YthedjffolgeomaaGreatDoorMNplX33
import Derived.Test.YthedjffolgeomaaGreatDoorMNplW7
import Derived.Test.YthedjffolgeomaaGreatDoorMNplX42
import Derived.Test.YthedjffolgeomaaGreatDoorMNplO
namespace Go.SL
open Go
variable {E:Env} {H:Hp}
theorem yNb (d : Int) (x : Bs × (zF × List zN)) : (xY d x).length ≤ (yC x.2.2).length := by
 have:=kK ((yC x.2.2).map (zAC d x.2.1))
 rw [List.length_map] at this
 exact this
set_option maxRecDepth 8000 in
set_option maxHeartbeats 8000000 in
theorem yXc (hE : zV E) (h2 : wC E) (h3 : yZ E) (h4 : xH E) (h5 : yJF E) (L : zEQ E) (hS : zFq E pZ 1000000) (hB : qT E H) (hB2 : qC E H) (h183 : yD E 183 [] H (.bool true)) {v : Value} {h : yA} (hh : vS H v h)
  (hsums:∀ c∈h.copies,zBV c.sets) (t:Int):yD E 225 [v,.int .i64 t] H (.bool true):=by
 have f1:=yWD hE h4 hh
 have f2:=fun hx=>yYm h4 hh hx
 have hh0:=hh
 obtain⟨vh,vz,vd,vi,rfl,g1,g2,g3,g5⟩:=hh
 have o1:=zG.one g1
 have o2:=g2.one
 have o3:=zG.one g3
 have o5:=zG.one g5
 refine Fn.of_vks h5.c225 (by simp [zMy]) ?_
 simp only [zMy,zUV,zTG,zZG,zYZ,zXW,zTL,zUl,zYc,yAO,zTJ,zOH,zNI,zOy,zQR,zOA,zOD,zPx,zQb,zNH,zNB,zOg,zQM,zRj,zQi]
 simp only [go_sem,Nat.reduceEqDiff,Nat.reduceBEq,reduceCtorEq]
 refine zP (by simp only [go_sem]) (Fn.same h183) ?_
 rintro u H1 ⟨rfl,rfl⟩
 simp only [go_sem,Nat.reduceEqDiff,Nat.reduceBEq,Nat.reduceAdd]
 refine zE _ (by simp only [go_sem]) (fun _=>⟨by simp only [go_sem,Nat.reduceEqDiff],f1⟩) ?_
 cases hfew:zHz h
 ·simp only [go_sem,Nat.reduceEqDiff,Nat.reduceBEq,Nat.reduceAdd]
  refine zE (.bool false) (by simp only [go_sem,Nat.reduceEqDiff]) (fun hg=>by simp only [go_sem,Nat.reduceEqDiff] at hg) ?_
  simp only [↓yQ,go_sem,Nat.reduceEqDiff,Nat.reduceBEq,Nat.reduceAdd,zC]
 have hF:=yQo hfew
 simp only [go_sem,Nat.reduceEqDiff,Nat.reduceBEq,Nat.reduceAdd]
 refine zE _ (by simp only [go_sem,Nat.reduceEqDiff]) (fun _=>⟨by simp only [go_sem,Nat.reduceEqDiff],f2 (by have:=hF.hints; omega)⟩) ?_
 cases hrh:zHk h
 ·simp only [↓yQ,go_sem,Nat.reduceEqDiff,Nat.reduceBEq,Nat.reduceAdd,zC]
 have hv:=zRV hrh
 by_cases ht1:t < 1
 ·have e1:decide (t < 1)=true:=by rw [decide_eq_true_eq]; exact ht1
  simp only [e1,↓yQ,go_sem,Nat.reduceEqDiff,Nat.reduceBEq,Nat.reduceAdd,zC]
 have e1:decide (t < 1)=false:=by rw [decide_eq_false_iff_not]; exact ht1
 by_cases ht2:t≥h.end_
 ·have e2:decide (t≥h.end_)=true:=by rw [decide_eq_true_eq]; exact ht2
  simp only [e1,e2,go_sem,Nat.reduceEqDiff,Nat.reduceBEq,Nat.reduceAdd,zC]
 have e2:decide (t≥h.end_)=false:=by rw [decide_eq_false_iff_not]; exact ht2
 simp only [e1,e2,go_sem,Nat.reduceEqDiff,Nat.reduceBEq,Nat.reduceAdd,zC]
 have hset30:∀ i,i < h.copies.length→(h.copies.getD i default).sets.length≤30:=hF.sets
 have hcn:=hF.copies
 have hsm : zJq h.copies := ⟨by omega, fun c hc => by
  obtain⟨i,hi,hie⟩:=qR hc
  have:=hset30 i hi
  rw [← hie]; omega⟩
 have hzo:=zIG hv hsm
 have hps:=zPA hv hsm hsums
 have hend:=(qQ.1 hv).end2
 refine zP (by simp only [go_sem,Nat.reduceEqDiff]) (yGN hE h2 h3 L hS (Nat.le_refl _) hB hB2 hh0 hsm.num (fun _=>hps) (fun _=>hzo) (fun _=>zHQ hzo hsm.num)) ?_
 rintro u H2 ⟨hle2,_,hpost⟩
 obtain⟨w,ns,rfl,hperm,hints⟩:=hpost hv
 obtain⟨hrng,hnd⟩:=zSw h
 have hsrt:=zSh (hperm.nodup_iff.2 hnd) (l:=pZ ns) rfl
 obtain⟨ms,hms⟩:∃ y,y=pZ ns:=⟨_,rfl⟩
 rw [← hms] at hints hsrt
 have hmem:∀ x,x∈ms↔x∈(moments h).map (·.1):=fun x=>(hsrt.1.trans hperm).mem_iff
 have hmlen : ms.length ≤ 1000000 := by
  have:=(hsrt.1.trans hperm).length_eq
  rw [List.length_map] at this
  have:=zHQ hzo hsm.num
  omega
 obtain⟨la,lc,rfl,_,hlr⟩:=hints
 simp only [bne,go_sem,Nat.reduceLT,Nat.reduceEqDiff,Nat.reduceBEq,Nat.reduceAdd,zC]
 obtain⟨P,hP⟩:∃ P:Nat→Bool,P=fun i=>ms.getD i 0 == t:=⟨_,rfl⟩
 refine zS ms.length 0 (fun k=>[(1,⟨true,.val (.int .i64 t)⟩),(2,⟨true,.box [vh,vz,S h.aname,.int .i64 h.atype,.int .i64 h.alife,vd,vi,.int .i64 h.drift,.int .i64 h.end_]⟩),(5,⟨true,.val (.bool true)⟩),(6,⟨true,.val (.slice la ms.length lc)⟩),(8,⟨true,.val (.bool (vA P k))⟩),(46,⟨true,.val (.slice la ms.length lc)⟩),(47,⟨true,.val (.int .i64 ms.length)⟩),(48,⟨true,.val (.int .i64 k)⟩)]) (fun _=>True) (Nat.zero_le _) rfl trivial ?_
 intro k hk _
 by_cases hlt:k < ms.length
 ·have hd:decide ((k:Int) < (ms.length:Int))=true:=by simpa using hlt
  obtain⟨b,o,vs,c,wr,ha,hb,hi⟩:=hlr (by omega)
  subst ha
  have hi1:=(hi k hlt).1
  have hi2:=zH (hi k hlt).2 (j:=0) (by omega)
  simp only [wH,List.getD_cons_zero,Nat.add_zero,Nat.mul_one] at hi2 hi1
  have hmk:ms.getD k 0∈ms:=yY hlt
  have hr:=hrng _ ((hmem _).1 hmk)
  have hPk:P k=(ms.getD k 0 == t):=by rw [hP]
  have hany:vA P (k + 1)=(vA P k || P k):=rfl
  have hks:IntKind.i64.wrap ((k:Int) + 1)=((k + 1:Nat):Int):=zQ (by omega)
  have hprev : 0 < k → ms.getD (k - 1) 0 < ms.getD k 0 := fun h0 => by
   have:=List.pairwise_iff_getElem.1 hsrt.2 (k - 1) k (by omega) hlt (by omega)
   rw [List.getD_eq_getElem?_getD,List.getD_eq_getElem?_getD,List.getElem?_eq_getElem hlt,List.getElem?_eq_getElem (show k - 1 < ms.length by omega)]
   exact this
  obtain⟨m,hm⟩:∃ m,m=ms.getD k 0:=⟨_,rfl⟩
  rw [← hm] at hi2 hr hPk hprev
  have d1:decide (m < 0)=false:=by rw [decide_eq_false_iff_not]; omega
  have d2:decide (m > h.end_)=false:=by rw [decide_eq_false_iff_not]; omega
  simp only [hd,hb,hi2,Nat.mul_one,go_sem,Nat.reduceEqDiff,Nat.reduceBEq,Nat.reduceAdd,zC]
  refine⟨⟨by omega,by omega⟩,by omega,?_⟩
  have hfin:∀ q:Bool,q=vA P k→(q || (m == t))=vA P (k + 1):=fun q hq=>by rw [hany,hPk,hq]
  cases hq:vA P k
  ·by_cases hk0:0 < k
   ·obtain⟨j,hj⟩:∃ j,j=k - 1:=⟨_,rfl⟩
    have hjl:j < ms.length:=by omega
    have d3:decide ((k:Int) > 0)=true:=by rw [decide_eq_true_eq]; omega
    have e4:IntKind.i64.wrap ((k:Int) - 1)=(j:Int):=by rw [yX]<;>omega
    have hj1:=(hi j hjl).1
    have hj2:=zH (hi j hjl).2 (j:=0) (by omega)
    simp only [wH,List.getD_cons_zero,Nat.add_zero,Nat.mul_one] at hj2 hj1
    have hpv:=hprev hk0
    rw [← hj] at hpv
    obtain⟨m',hm'⟩:∃ m,m=ms.getD j 0:=⟨_,rfl⟩
    rw [← hm'] at hj2 hpv
    have d4:decide (m'≥m)=false:=by rw [decide_eq_false_iff_not]; omega
    simp only [zDG,d1,d2,d3,d4,e4,hb,hj2,Nat.mul_one,↓yQ,go_sem,Nat.reduceEqDiff,Nat.reduceBEq,Nat.reduceAdd,zC]
    exact⟨⟨by omega,by omega⟩,by omega,hlt,by rw [← hfin _ hq.symm]; rw [Bool.false_or],hks⟩
   have d3:decide ((k:Int) > 0)=false:=by rw [decide_eq_false_iff_not]; omega
   simp only [zDG,d1,d2,d3,hb,Nat.mul_one,↓yB,go_sem,Nat.reduceEqDiff,Nat.reduceBEq,Nat.reduceAdd,zC]
   exact⟨hlt,by rw [← hfin _ hq.symm]; rw [Bool.false_or],hks⟩
  ·by_cases hk0:0 < k
   ·obtain⟨j,hj⟩:∃ j,j=k - 1:=⟨_,rfl⟩
    have hjl:j < ms.length:=by omega
    have d3:decide ((k:Int) > 0)=true:=by rw [decide_eq_true_eq]; omega
    have e4:IntKind.i64.wrap ((k:Int) - 1)=(j:Int):=by rw [yX]<;>omega
    have hj1:=(hi j hjl).1
    have hj2:=zH (hi j hjl).2 (j:=0) (by omega)
    simp only [wH,List.getD_cons_zero,Nat.add_zero,Nat.mul_one] at hj2 hj1
    have hpv:=hprev hk0
    rw [← hj] at hpv
    obtain⟨m',hm'⟩:∃ m,m=ms.getD j 0:=⟨_,rfl⟩
    rw [← hm'] at hj2 hpv
    have d4:decide (m'≥m)=false:=by rw [decide_eq_false_iff_not]; omega
    simp only [zDG,d1,d2,d3,d4,e4,hb,hj2,Nat.mul_one,↓yQ,go_sem,Nat.reduceEqDiff,Nat.reduceBEq,Nat.reduceAdd,zC]
    exact⟨⟨by omega,by omega⟩,by omega,hlt,by rw [← hfin _ hq.symm]; rw [Bool.true_or],hks⟩
   have d3:decide ((k:Int) > 0)=false:=by rw [decide_eq_false_iff_not]; omega
   simp only [zDG,d1,d2,d3,hb,Nat.mul_one,↓yB,↓yQ,go_sem,Nat.reduceEqDiff,Nat.reduceBEq,Nat.reduceAdd,zC]
   exact⟨hlt,by rw [← hfin _ hq.symm]; rw [Bool.true_or],hks⟩
 have hd:decide ((k:Int) < (ms.length:Int))=false:=by simpa using hlt
 have:k=ms.length:=by omega
 subst this
 cases hq:vA P ms.length
 rotate_left
 ·simp only [hd,go_sem,Nat.reduceEqDiff,Nat.reduceBEq,Nat.reduceAdd,zC]
  exact hle2
 have hnm : t ∉ (moments h).map (·.1) := fun hx => by
  obtain⟨i,hi,hie⟩:=List.getElem_of_mem ((hmem t).2 hx)
  have:vA P ms.length=true:=zHb hi (by rw [hP]; simp [hi,hie])
  rw [hq] at this; cases this
 have ht:1≤t:=by omega
 have hte:t < h.end_:=by omega
 have hsame:=yQt ht hte hnm
 have hok1 : zHa h (t - 1) = true := by
  unfold zHa
  rw [hv]; simp; omega
 have hok2 : zHa h t = true := by
  unfold zHa
  rw [hv]; simp; omega
 have et1:IntKind.i64.wrap (t - 1)=t - 1:=by rw [yX]<;>omega
 simp only [hd,et1,go_sem,Nat.reduceEqDiff,Nat.reduceBEq,Nat.reduceAdd,zC]
 refine zP (by simp only [go_sem,Nat.reduceEqDiff]) (ySW hE h2 h3 (hB.mono hle2) (hh0.mono hle2) hsm.num (t - 1) (fun _=>zKZ hF)) ?_
 rintro u H3 ⟨hle3,_,hp3⟩
 obtain⟨wa,rfl,hwa⟩:=hp3 hok1
 have hleA:=hle2.trans hle3
 have hwa0:=hwa
 obtain⟨ah,az,ad,ai,rfl,a1,a2,a3,a5⟩:=hwa
 have q1:=zG.one a1
 have q2:=a2.one
 have q3:=zG.one a3
 have q5:=zG.one a5
 simp only [q1,q2,q3,q5,go_sem,Nat.reduceLT,Nat.reduceEqDiff,Nat.reduceBEq,Nat.reduceAdd]
 refine zP (by simp only [go_sem,Nat.reduceEqDiff]) (ySW hE h2 h3 (hB.mono hleA) (hh0.mono hleA) hsm.num t (fun _=>zKZ hF)) ?_
 rintro u H4 ⟨hle4,_,hp4⟩
 obtain⟨wb,rfl,hwb⟩:=hp4 hok2
 have hleB:=hleA.trans hle4
 have hwb0:=hwb
 obtain⟨bh,bz,bd,bi,rfl,b1,b2,b3,b5⟩:=hwb
 have r1:=zG.one b1
 have r2:=b2.one
 have r3:=zG.one b3
 have r5:=zG.one b5
 simp only [r1,r2,r3,r5,go_sem,Nat.reduceLT,Nat.reduceEqDiff,Nat.reduceBEq,Nat.reduceAdd]
 refine zP (by simp only [go_sem,Nat.reduceEqDiff]) (yTk hE h2 h3 L (hB.mono hleB) (hB2.mono hleB) (hh0.mono hleB) hsm.num (fun _=>hps) (fun _=>hzo)) ?_
 rintro u H5 ⟨hle5,_,hp5⟩
 obtain⟨vo,dv,gv,fv,sv,rfl,hsl,hdat⟩:=hp5 hv
 have hwa5:=hwa0.mono (hle4.trans hle5)
 have hwb5:=hwb0.mono hle5
 rw [hsame] at hwa5
 have hsw:yD E 5 _ H5 (.bool true):=fn5 hE hwa5 hwb5 ⟨rfl,rfl,rfl,rfl,rfl,rfl⟩ rfl (yKv hF t) (yRd hv t) (fun i hi=>⟨i,hi,rfl⟩)
 have z1:(atW h (t - 1)).aname=h.aname:=rfl
 simp only [zRP,bne,go_sem,Nat.reduceLT,Nat.reduceEqDiff,Nat.reduceBEq,Nat.reduceAdd,zC]
 refine zE _ (by simp only [go_sem,Nat.reduceEqDiff]) (fun _=>⟨by simp only [go_sem,Nat.reduceEqDiff],hsw⟩) ?_
 have hel:=zDV hzo (wA h).length (Nat.le_refl _)
 have hAl:=zCQ hzo (wA h).length (Nat.le_refl _)
 change ∀ e∈uH h,_ at hel
 change (uH h).length≤_ at hAl
 have hsp:=fun i hi=>yMW ht hte hnm (i:=i) hi
 obtain⟨A,hAA⟩:∃ A,A=uH h:=⟨_,rfl⟩
 rw [← hAA] at hsl hdat hel hAl hsp
 obtain⟨oa,oc,rfl,_,hrow⟩:=hsl
 simp only [go_sem,Nat.reduceEqDiff,Nat.reduceBEq]
 refine zS A.length 0 (fun k=>[(1,⟨true,.val (.int .i64 t)⟩),(5,⟨true,.val (.bool true)⟩),(117,⟨true,.val (.slice oa A.length oc)⟩),(118,⟨true,.val (.int .i64 A.length)⟩),(119,⟨true,.val (.int .i64 k)⟩)]) (fun _=>True) (Nat.zero_le _) rfl trivial ?_
 intro k hk2 _
 by_cases hlt2:k < A.length
 ·have hdk:decide ((k:Int) < (A.length:Int))=true:=by simpa using hlt2
  obtain⟨b,o,vs,c,wr,ha,hb,hi⟩:=hrow (by omega)
  subst ha
  have hi1:=(hi k hlt2).1
  have hi2:=(hi k hlt2).2
  have hdk4:=hdat k hlt2
  have hek:=(hel _ (yY hlt2)).num
  have p1:=zG.one hdk4.1
  have p2:=zG.one hdk4.2.1
  have p3:=zG.one hdk4.2.2.1
  have p4:=zG.one hdk4.2.2.2
  have hs:=hsp k hlt2
  have hnl:=kK (A.getD k default).2.2
  have hul:=yNb h.drift (A.getD k default)
  have hks:IntKind.i64.wrap ((k:Int) + 1)=((k + 1:Nat):Int):=zQ (by have:=hzo.num; omega)
  have hd3:wP H5 (fv k) (yC (A.getD k default).2.2):=hdk4.2.2.1
  have hd4:wP H5 (sv k) (xY h.drift (A.getD k default)):=hdk4.2.2.2
  obtain⟨y1,hy1⟩:∃ y,y=hasB (xY h.drift (A.getD k default)) t:=⟨_,rfl⟩
  obtain⟨y2,hy2⟩:∃ y,y=hasB (yC (A.getD k default).2.2) t:=⟨_,rfl⟩
  have c1:yD E 187 [sv k,.int .i64 (t - 1)] H5 (.bool y1):=by rw [hy1,← hs.2]; exact zLT h4 (t - 1) hd4 (by omega)
  have c2:yD E 187 [sv k,.int .i64 t] H5 (.bool y1):=by rw [hy1]; exact zLT h4 t hd4 (by omega)
  have c3:yD E 187 [fv k,.int .i64 (t - 1)] H5 (.bool y2):=by rw [hy2,← hs.1]; exact zLT h4 (t - 1) hd3 (by omega)
  have c4:yD E 187 [fv k,.int .i64 t] H5 (.bool y2):=by rw [hy2]; exact zLT h4 t hd3 (by omega)
  simp only [uA,kA] at hi2
  clear hs hy1 hy2 hd3 hd4
  simp only [zOn,hdk,hb,hi2,p1,p2,p3,p4,go_sem,Nat.reduceEqDiff,Nat.reduceBEq,Nat.reduceAdd,zC]
  refine⟨⟨by omega,by omega⟩,hi1,?_⟩
  simp only [zRp,et1,go_sem,Nat.reduceEqDiff,Nat.reduceBEq,Nat.reduceAdd,zC]
  refine yV _ ?_ (fun _=>⟨?_,c1⟩) ?_ ?_
  ·simp only [go_sem,Nat.reduceEqDiff]
  ·simp only [go_sem,Nat.reduceEqDiff]
  ·simp only [et1,go_sem,Nat.reduceEqDiff,Nat.reduceBEq,Nat.reduceAdd,zC]
  simp only [beq_self_eq_true,go_sem,Nat.reduceEqDiff,Nat.reduceBEq]
  refine yV _ ?_ (fun _=>⟨?_,c2⟩) ?_ ?_
  ·simp only [go_sem,Nat.reduceEqDiff]
  ·simp only [go_sem,Nat.reduceEqDiff]
  ·simp only [et1,go_sem,Nat.reduceEqDiff,Nat.reduceBEq,Nat.reduceAdd,zC]
  simp only [et1,beq_self_eq_true,Bool.xor_false,go_sem,Nat.reduceLeDiff,Nat.reduceEqDiff,Nat.reduceBEq,Nat.reduceAdd,zC]
  refine yV _ ?_ (fun _=>⟨?_,c3⟩) ?_ ?_
  ·simp only [go_sem,Nat.reduceEqDiff]
  ·simp only [go_sem,Nat.reduceEqDiff]
  ·simp only [et1,Bool.xor_false,go_sem,Nat.reduceLeDiff,Nat.reduceEqDiff,Nat.reduceBEq,Nat.reduceAdd,zC]
  simp only [beq_self_eq_true,go_sem,Nat.reduceEqDiff,Nat.reduceBEq]
  refine yV _ ?_ (fun _=>⟨?_,c4⟩) ?_ ?_
  ·simp only [go_sem,Nat.reduceEqDiff]
  ·simp only [go_sem,Nat.reduceEqDiff]
  ·simp only [et1,Bool.xor_false,go_sem,Nat.reduceLeDiff,Nat.reduceEqDiff,Nat.reduceBEq,Nat.reduceAdd,zC]
  simp only [beq_self_eq_true,Bool.xor_false,go_sem,Nat.reduceEqDiff,Nat.reduceBEq,zC]
  exact⟨hlt2,hks⟩
 ·have hdk:decide ((k:Int) < (A.length:Int))=false:=by simpa using hlt2
  have:k=A.length:=by omega
  subst this
  simp only [hdk,go_sem,Nat.reduceEqDiff,Nat.reduceBEq,zC]
  exact hleB.trans hle5
end Go.SL
