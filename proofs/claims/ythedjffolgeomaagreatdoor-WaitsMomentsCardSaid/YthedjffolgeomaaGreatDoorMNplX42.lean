/- Few copies, few sets. -/
import Derived.Test.YthedjffolgeomaaGreatDoorMNplQ
import Derived.Test.YthedjffolgeomaaGreatDoorMNplT14
import Derived.Test.YthedjffolgeomaaGreatDoorMNplW7
import Derived.Test.YthedjffolgeomaaGreatDoorMNplX32
import Derived.Test.YthedjffolgeomaaGreatDoorMNplX31
import Derived.Test.YthedjffolgeomaaGreatDoorMNplX25
namespace Go.SL
open Go
def zIQ (ss:List zF):Prop:=ss.length≤1099511627∧∀ i,i < ss.length→(ss.getD i default).data.length≤1099511627∧(ss.getD i default).sigs.length≤1099511627
def yWh (ps:List xO):Prop:=ps.length≤1099511627∧∀ i,i < ps.length→zIQ (ps.getD i default).sets
def yIm (w:zCI):Prop:=yWh w.zones∧w.hosts.length≤1099511627∧w.adata.length≤1099511627∧w.hints.length≤1099511627
end Go.SL
/- Contracts: comparing equal data. -/
namespace Go.SL
open Go
variable {E:Env} {H:Hp}
theorem yVd (hE : zV E) (n : Bs) (t l : Int) {va vb : Value} {ds : List xN} (ha : xC H va ds) (hb : xC H vb ds) (hn : ds.length ≤ 1099511627775) : yD E 46 [.agg #[S n, .int .i64 t, .int .i64 l, va], .agg #[S n, .int .i64 t, .int .i64 l, vb]] H (.bool true) := by
 obtain⟨aa,ca,rfl,_,hra⟩:=ha
 obtain⟨ab,cb,rfl,_,hrb⟩:=hb
 refine Fn.of_vks hE.c46 (by simp [yGm]) ?_
 simp only [yGm,yPf,yHE,yLS,yND,yLG,yON,yLs,yPy,yHW]
 simp only [go_sem,Nat.reduceLeDiff,Nat.reduceEqDiff,Nat.reduceBEq,Nat.reduceAdd,reduceCtorEq,zC,bne_self_eq_false]
 refine zS ds.length 0 (fun k=>[(2,⟨true,.box [S n,.int .i64 t,.int .i64 l,.slice aa ds.length ca]⟩),(3,⟨true,.box [S n,.int .i64 t,.int .i64 l,.slice ab ds.length cb]⟩),(5,⟨true,.val (.int .i64 k)⟩)]) (fun _=>True) (Nat.zero_le _) rfl trivial ?_
 intro k hk _
 by_cases hlt:k < ds.length
 ·have hd:decide ((k:Int) < (ds.length:Int))=true:=by simpa using hlt
  have hrA':=hra (by omega)
  obtain⟨bA,oA,vsA,cA,wrA,haA,hbA,hiA⟩:=hrA'
  subst haA
  have hiA1:=(hiA k hlt).1
  have hiA2:=(hiA k hlt).2
  have hrB':=hrb (by omega)
  obtain⟨bB,oB,vsB,cB,wrB,haB,hbB,hiB⟩:=hrB'
  subst haB
  have hiB1:=(hiB k hlt).1
  have hiB2:=(hiB k hlt).2
  simp only [hd,hbA,hbB,hiA2,hiB2,jD,zCv,allEq,pK,Bool.xor_true,go_sem,Nat.reduceEqDiff,Nat.reduceBEq,Nat.reduceAdd,zC]
  exact⟨⟨by omega,by omega⟩,hiA1,⟨by omega,by omega⟩,hiB1,hlt,zQ (by omega)⟩
 ·have hd:decide ((k:Int) < (ds.length:Int))=false:=by simpa using hlt
  simp only [hd,go_sem,Nat.reduceEqDiff,Nat.reduceBEq,Nat.reduceAdd,zC]
theorem xBB (hE : zV E) (n : Bs) (t l : Int) {va vb wa wb : Value} {ds : List xN} {gs : List kT} (ha : xC H va ds) (hb : xC H vb ds) (ga : xT H wa gs) (gb : xT H wb gs) (hn : ds.length ≤ 1099511627775) (hm : gs.length ≤ 1099511627775) : yD E 47 [.agg #[S n, .int .i64 t, .int .i64 l, va, wa], .agg #[S n, .int .i64 t, .int .i64 l, vb, wb]] H (.bool true) := by
 obtain⟨aa,ca,rfl,_,hra⟩:=ga
 obtain⟨ab,cb,rfl,_,hrb⟩:=gb
 refine Fn.of_vks hE.c47 (by simp [yGb]) ?_
 simp only [yGb,yJT,yIQ,yNj,yPt,yPv,yOM,yHD,yIX,yIh]
 simp only [go_sem,Nat.reduceLeDiff,Nat.reduceEqDiff,Nat.reduceBEq,Nat.reduceAdd,reduceCtorEq]
 refine zE _ ?_ (fun _=>⟨?_,yVd hE n t l ha hb hn⟩) ?_<;>simp only [go_sem,Nat.reduceEqDiff,Nat.reduceBEq,Nat.reduceAdd,zC,bne_self_eq_false]
 refine zS gs.length 0 (fun k=>[(2,⟨true,.box [S n,.int .i64 t,.int .i64 l,va,.slice aa gs.length ca]⟩),(3,⟨true,.box [S n,.int .i64 t,.int .i64 l,vb,.slice ab gs.length cb]⟩),(5,⟨true,.val (.int .i64 k)⟩)]) (fun _=>True) (Nat.zero_le _) rfl trivial ?_
 intro k hk _
 by_cases hlt:k < gs.length
 ·have hd:decide ((k:Int) < (gs.length:Int))=true:=by simpa using hlt
  have hrA':=hra (by omega)
  obtain⟨bA,oA,vsA,cA,wrA,haA,hbA,hiA⟩:=hrA'
  subst haA
  have hiA1:=(hiA k hlt).1
  have hiA2:=(hiA k hlt).2
  have hrB':=hrb (by omega)
  obtain⟨bB,oB,vsB,cB,wrB,haB,hbB,hiB⟩:=hrB'
  subst haB
  have hiB1:=(hiB k hlt).1
  have hiB2:=(hiB k hlt).2
  simp only [hd,hbA,hbB,hiA2,hiB2,zBi,zCv,allEq,pK,Bool.xor_true,go_sem,Nat.reduceEqDiff,Nat.reduceBEq,Nat.reduceAdd,zC]
  exact⟨⟨by omega,by omega⟩,hiA1,⟨by omega,by omega⟩,hiB1,hlt,zQ (by omega)⟩
 ·have hd:decide ((k:Int) < (gs.length:Int))=false:=by simpa using hlt
  simp only [hd,go_sem,Nat.reduceEqDiff,Nat.reduceBEq,Nat.reduceAdd,zC]
theorem xAK (hE : zV E) {va vb : Value} {ss : List zF} (ha : xL H va ss) (hb : xL H vb ss) (hsm : zIQ ss) : yD E 27 [va, vb] H (.bool true) := by
 obtain⟨da,ga,⟨aa,ca,rfl,_,hra⟩,hda⟩:=ha
 obtain⟨db,gb,⟨ab,cb,rfl,_,hrb⟩,hdb⟩:=hb
 have hn:=hsm.1
 refine Fn.of_vks hE.c27 (by simp [yFj]) ?_
 simp only [yFj,yNX,yKf,yMi,yJj,yOF,yIw,yOl,yPr,yKU]
 simp only [go_sem,Nat.reduceEqDiff,Nat.reduceBEq,reduceCtorEq,zC,bne_self_eq_false]
 refine zS ss.length 0 (fun k=>[(0,⟨true,.val (.slice aa ss.length ca)⟩),(1,⟨true,.val (.slice ab ss.length cb)⟩),(5,⟨true,.val (.int .i64 k)⟩)]) (fun _=>True) (Nat.zero_le _) rfl trivial ?_
 intro k hk _
 by_cases hlt:k < ss.length
 ·have hd:decide ((k:Int) < (ss.length:Int))=true:=by simpa using hlt
  have hrA':=hra (by omega)
  obtain⟨bA,oA,vsA,cA,wrA,haA,hbA,hiA⟩:=hrA'
  subst haA
  have hiA1:=(hiA k hlt).1
  have hiA2:=(hiA k hlt).2
  have hrB':=hrb (by omega)
  obtain⟨bB,oB,vsB,cB,wrB,haB,hbB,hiB⟩:=hrB'
  subst haB
  have hiB1:=(hiB k hlt).1
  have hiB2:=(hiB k hlt).2
  simp only [hd,hbA,hbB,hiA2,hiB2,xA,go_sem,Nat.reduceEqDiff,Nat.reduceBEq,reduceCtorEq,zC]
  refine⟨⟨by omega,by omega⟩,hiA1,⟨by omega,by omega⟩,hiB1,?_⟩
  have hs2:=hsm.2 k hlt
  refine yV _ ?_ (fun _=>⟨?_,xBB hE (ss.getD k default).name (ss.getD k default).type (ss.getD k default).life (hda k hlt).1 (hdb k hlt).1 (hda k hlt).2 (hdb k hlt).2 (by omega) (by omega)⟩) ?_ ?_<;>simp only [go_sem,Nat.reduceEqDiff,Nat.reduceBEq,reduceCtorEq,zC]
  exact⟨hlt,zQ (by omega)⟩
 ·have hd:decide ((k:Int) < (ss.length:Int))=false:=by simpa using hlt
  simp only [hd,go_sem,Nat.reduceEqDiff,Nat.reduceBEq,reduceCtorEq,zC]
theorem fn9 (hE : zV E) (apex : Bs) {va vb : Value} {ss : List zF} (ha : xL H va ss) (hb : xL H vb ss) (hsm : zIQ ss) : yD E 9 [.agg #[S apex, va], .agg #[S apex, vb]] H (.bool true) := by
 refine Fn.of_vks hE.c9 (by simp [cf9]) ?_
 simp only [cf9,yTg,yTv]
 simp only [go_sem,Nat.reduceLeDiff,Nat.reduceEqDiff,Nat.reduceBEq,Nat.reduceAdd,reduceCtorEq,zC]
 refine zE _ ?_ (fun hg=>⟨?_,xAK hE ha hb hsm⟩) ?_<;>simp only [go_sem,Nat.reduceEqDiff,Nat.reduceBEq]
theorem xAS (hE : zV E) (p q : xO) (za zb : Value) : yD E 25 [.agg #[.int .i64 p.host, S p.apex, za], .agg #[.int .i64 q.host, S q.apex, zb]] H (.bool (p.key == q.key)) := by
 refine Fn.of_vks hE.c25 (by simp [yGT]) ?_
 simp only [yGT,yKR,yIE]
 simp only [go_sem,Nat.reduceLeDiff,Nat.reduceEqDiff,Nat.reduceBEq,Nat.reduceAdd,reduceCtorEq,zC]
 exact⟨fun h=>⟨h,h⟩,rfl⟩
end Go.SL
/- Contracts: comparing worlds. -/
namespace Go.SL
open Go
variable {E:Env} {H:Hp}
set_option maxHeartbeats 1000000 in
theorem xBQ (hE : zV E) (an : Bs) (ay al : Int) {va vb za zb da db ia ib : Value} {hs : List uP} {ds : List xN} {ns : List Int} (ha : xV H va hs) (hb : xV H vb hs) (hda : xC H da ds) (hdb : xC H db ds) (hia : xE H ia ns) (hib : xE H ib ns)
  (h1:hs.length≤1099511627775) (h2:ds.length≤1099511627775) (h3:ns.length≤1099511627775):yD E 24 [.agg #[va,za,S an,.int .i64 ay,.int .i64 al,da,ia],.agg #[vb,zb,S an,.int .i64 ay,.int .i64 al,db,ib]] H (.bool true):=by
 obtain⟨aa,ca,rfl,_,hra⟩:=ha
 obtain⟨ab,cb,rfl,_,hrb⟩:=hb
 obtain⟨pa,qa,rfl,_,hia'⟩:=hia
 obtain⟨pb,qb,rfl,_,hib'⟩:=hib
 refine Fn.of_vks hE.c24 (by simp [yFo]) ?_
 simp only [yFo,yNr,yPk,yKs,yJH,yJL,yPn,yIz,yLy,yHI,yIt,zYE,zXl,zWB,zXP]
 simp only [go_sem,Nat.reduceLeDiff,Nat.reduceEqDiff,Nat.reduceBEq,Nat.reduceAdd,reduceCtorEq,zC,bne_self_eq_false]
 refine zE _ ?_ (fun hg=>⟨?_,yVd hE an ay al hda hdb h2⟩) ?_<;>simp only [go_sem,Nat.reduceEqDiff,Nat.reduceBEq]
 refine zS hs.length 0 (fun k=>[(2,⟨true,.box [.slice aa hs.length ca,za,S an,.int .i64 ay,.int .i64 al,da,.slice pa ns.length qa]⟩),(3,⟨true,.box [.slice ab hs.length cb,zb,S an,.int .i64 ay,.int .i64 al,db,.slice pb ns.length qb]⟩),(5,⟨true,.val (.int .i64 k)⟩)]) (fun _=>True) (Nat.zero_le _) rfl trivial ?_
 intro k hk _
 by_cases hlt:k < hs.length
 ·have hd:decide ((k:Int) < (hs.length:Int))=true:=by simpa using hlt
  have hrA':=hra (by omega)
  obtain⟨bA,oA,vsA,cA,wrA,haA,hbA,hiA⟩:=hrA'
  subst haA
  have hiA1:=(hiA k hlt).1
  have hiA2:=(hiA k hlt).2
  have hrB':=hrb (by omega)
  obtain⟨bB,oB,vsB,cB,wrB,haB,hbB,hiB⟩:=hrB'
  subst haB
  have hiB1:=(hiB k hlt).1
  have hiB2:=(hiB k hlt).2
  simp only [hd,hbA,hbB,hiA2,hiB2,zBD,zCv,allEq,pK,Bool.xor_true,go_sem,Nat.reduceLeDiff,Nat.reduceEqDiff,Nat.reduceBEq,Nat.reduceAdd,zC]
  exact⟨⟨by omega,by omega⟩,hiA1,⟨by omega,by omega⟩,hiB1,hlt,zQ (by omega)⟩
 ·have hd:decide ((k:Int) < (hs.length:Int))=false:=by simpa using hlt
  simp only [hd,go_sem,Nat.reduceLeDiff,Nat.reduceEqDiff,Nat.reduceBEq,Nat.reduceAdd,zC]
  refine zS ns.length 0 (fun k=>[(2,⟨true,.box [.slice aa hs.length ca,za,S an,.int .i64 ay,.int .i64 al,da,.slice pa ns.length qa]⟩),(3,⟨true,.box [.slice ab hs.length cb,zb,S an,.int .i64 ay,.int .i64 al,db,.slice pb ns.length qb]⟩),(6,⟨true,.val (.int .i64 k)⟩)]) (fun _=>True) (Nat.zero_le _) rfl trivial ?_
  intro k hk _
  by_cases hlt:k < ns.length
  ·have hd:decide ((k:Int) < (ns.length:Int))=true:=by simpa using hlt
   have hrC':=hia' (by omega)
   obtain⟨bC,oC,vsC,cC,wrC,haC,hbC,hiC⟩:=hrC'
   subst haC
   have hiC1:=(hiC k hlt).1
   have hiC2:=(hiC k hlt).2
   have hrD':=hib' (by omega)
   obtain⟨bD,oD,vsD,cD,wrD,haD,hbD,hiD⟩:=hrD'
   subst haD
   have hiD1:=(hiD k hlt).1
   have hiD2:=(hiD k hlt).2
   have hjC:=zH hiC2 (j:=0) (by omega)
   have hjD:=zH hiD2 (j:=0) (by omega)
   simp only [Nat.mul_one,Nat.add_zero] at hjC hjD hiC1 hiD1
   simp only [hd,hbC,hbD,hjC,hjD,wH,go_sem,Nat.reduceEqDiff,Nat.reduceBEq,Nat.reduceAdd,zC,bne_self_eq_false,Nat.mul_one]
   exact⟨⟨by omega,by omega⟩,hiC1,⟨by omega,by omega⟩,hiD1,hlt,zQ (by omega)⟩
  ·have hd:decide ((k:Int) < (ns.length:Int))=false:=by simpa using hlt
   simp only [hd,go_sem,Nat.reduceEqDiff,Nat.reduceBEq,Nat.reduceAdd,zC]
set_option maxHeartbeats 2000000 in
set_option maxRecDepth 100000 in
theorem fn5 (hE : zV E) {va vb : Value} {wa wb : zCI} (ha : zBv H va wa) (hb : zBv H vb wb) (he : wa.hosts = wb.hosts ∧ wa.aname = wb.aname ∧ wa.atype = wb.atype ∧ wa.alife = wb.alife ∧ wa.adata = wb.adata ∧ wa.hints = wb.hints) (hl : wa.zones.length = wb.zones.length) (hsw : yIm wb)
  (hk:∀ i,i < wa.zones.length→∀ j,j < wb.zones.length→(wa.zones.getD i default).key=(wb.zones.getD j default).key→wa.zones.getD i default=wb.zones.getD j default)
  (hf:∀ i,i < wa.zones.length→∃ j,j < wb.zones.length∧wa.zones.getD i default=wb.zones.getD j default):yD E 5 [va,vb] H (.bool true):=by
 obtain⟨ha1,za,da,ia,rfl,a1,a2,a3,a4⟩:=ha
 obtain⟨hb1,zb,db,ib,rfl,b1,b2,b3,b4⟩:=hb
 obtain⟨e1,e2,e3,e4,e5,e6⟩:=he
 rw [e1] at a1
 rw [e5] at a3
 rw [e6] at a4
 rw [e2,e3,e4]
 obtain⟨xa,⟨aa,ca,rfl,_,hra⟩,hda⟩:=a2
 obtain⟨xb,⟨ab,cb,rfl,_,hrb⟩,hdb⟩:=b2
 rw [hl] at hra hk hf hda
 obtain⟨n,hn⟩:∃ n,wb.zones.length=n:=⟨_,rfl⟩
 have hbn:=hsw.1.1
 have hbh:=hsw.2
 rw [hl,hn]
 rw [hn] at hra hrb hk hf hda hdb hbn
 refine Fn.of_vks hE.c5 (by simp [cf5]) ?_
 simp only [cf5,ySN,yTi,yST,yTt,yTr,ySV,yTb,ySY,yIU,yTl,yLE,yJO,ySZ,yNO]
 simp only [go_sem,Nat.reduceEqDiff,Nat.reduceBEq,Nat.reduceAdd,reduceCtorEq]
 refine zE _ ?_ (fun hg=>⟨?_,xBQ hE wb.aname wb.atype wb.alife a1 b1 a3 b3 a4 b4 (by omega) (by omega) (by omega)⟩) ?_<;>simp only [go_sem,Nat.reduceLeDiff,Nat.reduceEqDiff,Nat.reduceBEq,Nat.reduceAdd,zC,bne_self_eq_false]
 have hbx:∀ k,k < n→zIQ (wb.zones.getD k default).sets:=fun k hk=>hsw.1.2 k (by omega)
 obtain⟨FA,hFA⟩:∃ x,x=PV.box [ha1,.slice aa n ca,S wb.aname,.int .i64 wb.atype,.int .i64 wb.alife,da,ia]:=⟨_,rfl⟩
 refine zS n 0 (fun k=>[(2,⟨true,.box [ha1,.slice aa n ca,S wb.aname,.int .i64 wb.atype,.int .i64 wb.alife,da,ia]⟩),(3,⟨true,.box [hb1,.slice ab n cb,S wb.aname,.int .i64 wb.atype,.int .i64 wb.alife,db,ib]⟩),(5,⟨true,.val (.int .i64 k)⟩)]) (fun _=>True) (Nat.zero_le _) rfl trivial ?_
 intro i hi _
 by_cases hlt:i < n
 ·have hd:decide ((i:Int) < (n:Int))=true:=by simpa using hlt
  have hrA':=hra (by omega)
  obtain⟨bA,oA,vsA,cA,wrA,haA,hbA,hiA⟩:=hrA'
  subst haA
  have hrB':=hrb (by omega)
  obtain⟨bB,oB,vsB,cB,wrB,haB,hbB,hiB⟩:=hrB'
  subst haB
  have hiA1:=(hiA i hlt).1
  have hiA2:=(hiA i hlt).2
  have hjA:=qF hiA2 1 2 (by omega)
  simp only [hd,go_sem,Nat.reduceLeDiff,Nat.reduceEqDiff,Nat.reduceBEq,Nat.reduceAdd,zC]
  refine zS n 0 (fun j=>[(2,⟨true,.box [ha1,.slice (some ⟨bA,oA,none⟩) n ca,S wb.aname,.int .i64 wb.atype,.int .i64 wb.alife,da,ia]⟩),(3,⟨true,.box [hb1,.slice (some ⟨bB,oB,none⟩) n cb,S wb.aname,.int .i64 wb.atype,.int .i64 wb.alife,db,ib]⟩),(5,⟨true,.val (.int .i64 i)⟩),(6,⟨true,.val (.bool (vA (fun j=>(wa.zones.getD i default).key == (wb.zones.getD j default).key) j))⟩),(7,⟨true,.val (.int .i64 j)⟩)]) (fun _=>True) (Nat.zero_le _) rfl trivial ?_
  intro j hj _
  by_cases hlj:j < n
  ·have hdj:decide ((j:Int) < (n:Int))=true:=by simpa using hlj
   have hiB1:=(hiB j hlj).1
   have hiB2:=(hiB j hlj).2
   have hjB:=qF hiB2 1 2 (by omega)
   obtain⟨fo,hfo⟩:∃ x,vA (fun j=>(wa.zones.getD i default).key == (wb.zones.getD j default).key) j=x:=⟨_,rfl⟩
   simp only [hfo,hdj,hbA,hbB,hiA2,hiB2,vW,go_sem,Nat.reduceLeDiff,Nat.reduceEqDiff,Nat.reduceBEq,Nat.reduceAdd,reduceCtorEq,zC]
   refine⟨fun h=>⟨h,h,by omega,by omega⟩,fun h=>⟨h,hiA1⟩,fun h=>⟨h,h,by omega,by omega⟩,fun h=>⟨h,hiB1⟩,?_⟩
   refine yV _ ?_ (fun hg=>⟨?_,xAS hE (wa.zones.getD i default) (wb.zones.getD j default) (xa i) (xb j)⟩) ?_ ?_<;>simp only [hbA,hbB,hjA,hjB,vW,go_sem,Nat.reduceLeDiff,Nat.reduceEqDiff,Nat.reduceBEq,Nat.reduceAdd]
   ·simp only [go_sem,Nat.reduceEqDiff] at hg ⊢; exact⟨hg,hg⟩
   have h9 : ((wa.zones.getD i default).key == (wb.zones.getD j default).key) = true → yD E 9 [.agg #[S (wa.zones.getD i default).apex, xa i], .agg #[S (wb.zones.getD j default).apex, xb j]] H (.bool true) := by
    intro hx
    have hp:=hk i hlt j hlj (by simpa using hx)
    have h0:=hda i hlt
    rw [hp] at h0 ⊢
    exact fn9 hE (wb.zones.getD j default).apex h0 (hdb j hlj) (hbx j hlj)
   refine⟨fun h=>⟨h,h,by omega,by omega⟩,fun h=>⟨h,by omega⟩,fun h=>⟨h,h,by omega,by omega⟩,fun h=>⟨h,by omega⟩,?_⟩
   refine yV (.bool true) ?_ (fun hg=>⟨?_,h9 (by simp only [go_sem,Nat.reduceEqDiff] at hg; simp only [Bool.and_eq_true] at hg; exact hg.2)⟩) ?_ ?_<;>simp only [go_sem,Nat.reduceLeDiff,Nat.reduceEqDiff,Nat.reduceBEq,Nat.reduceAdd,zC]
   ·simp only [go_sem,Nat.reduceEqDiff] at hg ⊢; exact⟨hg,hg⟩
   ·exact⟨fun h=>⟨h,fun hx=>by rw [h,hx]; rfl⟩,hlj,by rw [← hfo]; rfl,zQ (by omega)⟩
  ·have hdj:decide ((j:Int) < (n:Int))=false:=by simpa using hlj
   have hjn:j=n:=by omega
   have hany : vA (fun j => (wa.zones.getD i default).key == (wb.zones.getD j default).key) j = true := by
    obtain⟨m,hm,em⟩:=hf i hlt
    exact zHb (k:=m) (by omega) (by rw [em]; simp)
   simp only [hdj,hany,go_sem,Nat.reduceLeDiff,Nat.reduceEqDiff,Nat.reduceBEq,Nat.reduceAdd,reduceCtorEq,zC]
   exact⟨hlt,zQ (by omega)⟩
 ·have hd:decide ((i:Int) < (n:Int))=false:=by simpa using hlt
  simp only [hd,go_sem,Nat.reduceLeDiff,Nat.reduceEqDiff,Nat.reduceBEq,Nat.reduceAdd,zC]
end Go.SL
/- Plain law: how many moments there are. -/
namespace Go.SL
open Go
theorem zIr (e : Int) (ts : List Int) (M : List (Int × Bool)) : (zCg e ts M).length ≤ M.length + ts.length := by
 have h : ∀ k, (zBX e ts M k).length ≤ M.length + k := by
  intro k
  induction k with
  | zero=>exact Nat.le_refl _
  | succ k ih =>
   rw [zGj]
   unfold zFK
   split
   ·have:=zGd (ts.getD k 0) true (zBX e ts M k); omega
   ·omega
 exact h _
theorem zOp (e : Int) (cs : List yE) (M : List (Int × Bool)) : ∀ k, (zCV e cs M k).length ≤ M.length + 2 * k
 | 0=>Nat.le_refl _
 | k + 1 => by
  have h1:=zOp e cs M k
  have h2:=zIr e [(cs.getD k default).from_,(cs.getD k default).till] (zCV e cs M k)
  simp only [List.length_cons,List.length_nil] at h2
  simp only [zCV]; omega
theorem zIj (e : Int) (l : List zN) (M : List (Int × Bool)) : ∀ k, (kZ e l M k).length ≤ M.length + 2 * k
 | 0=>Nat.le_refl _
 | k + 1 => by
  have h1:=zIj e l M k
  have h2:=zIr e [(l.getD k default).from_,(l.getD k default).till] (kZ e l M k)
  simp only [List.length_cons,List.length_nil] at h2
  simp only [kZ]; omega
theorem yRs {h : yA} {x : Bs × (zF × List zN)} (hx : x.2.2.length ≤ 12) (M : List (Int × Bool)) : (zGF h x M).length ≤ M.length + 51 := by
 have hn:=kK x.2.2
 have hu : (xY h.drift x).length ≤ (yC x.2.2).length := by
  have:=kK ((yC x.2.2).map (zAC h.drift x.2.1))
  rw [List.length_map] at this
  exact this
 have h1:=zIj h.end_ (yC x.2.2) M (yC x.2.2).length
 have h2:=zIj h.end_ (xY h.drift x) (kZ h.end_ (yC x.2.2) M (yC x.2.2).length) (xY h.drift x).length
 unfold zGF zKb
 split
 ·have h3:=zIr h.end_ (zDX h.drift (x.2.1.sigs.getD 0 default)) (kZ h.end_ (xY h.drift x) (kZ h.end_ (yC x.2.2) M (yC x.2.2).length) (xY h.drift x).length)
  have:(zDX h.drift (x.2.1.sigs.getD 0 default)).length=3:=rfl
  omega
 ·omega
theorem zRK {h : yA} {A : yU} (hA : ∀ x ∈ A, x.2.2.length ≤ 12) (M : List (Int × Bool)) : ∀ k, k ≤ A.length → (zBj h A M k).length ≤ M.length + 51 * k
 | 0,_=>Nat.le_refl _
 | k + 1, hk => by
  have h1:=zRK (h:=h) hA M k (by omega)
  have h2:=yRs (h:=h) (hA _ (yY (show k < A.length by omega))) (zBj h A M k)
  simp only [zBj]; omega
theorem zHQ {h : yA} (hz : zDv h) (hn : h.copies.length ≤ 12) : (moments h).length ≤ 1000000 := by
 have hel:=zDV hz (wA h).length (Nat.le_refl _)
 have hal:=zCQ hz (wA h).length (Nat.le_refl _)
 have hnz:=hz.num
 have h1:=zOp h.end_ h.copies [] h.copies.length
 have h2:=zRK (h:=h) (A:=uH h) (fun x hx=>(hel x hx).num) (zCV h.end_ h.copies [] h.copies.length) (uH h).length (Nat.le_refl _)
 have h3:(uH h).length≤(wA h).length * 1200:=hal
 have h4:(wA h).length * 1200≤12 * 1200:=Nat.mul_le_mul_right _ hnz
 unfold moments
 simp only [List.length_nil] at h1
 omega
end Go.SL
/- Contracts: what is served at a time (history.At). -/
namespace Go.SL
open Go
variable {E:Env} {H:Hp}
def zAH (t:Int) (c:yE):Bool:=decide (c.from_≤t) && decide (t < c.till)
def zFQ (c:yE):xO:=⟨c.host,c.apex,c.sets⟩
def atIdx (h:yA) (t:Int):List Nat:=zAQ (zAH t) h.copies h.copies.length
def atZ (h:yA) (t:Int):List xO:=(atIdx h t).map fun i=>zFQ (h.copies.getD i default)
def atW (h:yA) (t:Int):zCI:=⟨h.hosts,atZ h t,h.aname,h.atype,h.alife,h.adata,h.hints⟩
def zHa (h:yA) (t:Int):Bool:=yO h && (decide (0≤t) && decide (t < h.end_))
theorem yXX (h3 : yZ E) {bt c : Nat} {wr : Bool} {t : Int} (hb : H bt = some (.row [.int .i64 t] c wr)) (cs : List yE) (z : Nat → Value) (i : Nat) (_hz : yW (z i) = true) :
  yD E 173 [kO cs z i,.pointer (some ⟨bt,0,none⟩)] H (.bool (zAH t (cs.getD i default))):=by
 unfold kO zAH
 refine Fn.of_vks h3.c173 (by simp [zLX]) ?_
 simp only [zLX,zTr,yCt]
 cases hq:decide ((cs.getD i default).from_≤t)
 ·simp only [hb,hq,↓yB,go_sem,Nat.reduceLeDiff,Nat.reduceEqDiff,Nat.reduceBEq,Nat.reduceAdd,reduceCtorEq,zC]
 ·simp only [hb,hq,go_sem,Nat.reduceLeDiff,Nat.reduceEqDiff,Nat.reduceBEq,Nat.reduceAdd,reduceCtorEq,zC]
theorem vJ {fr : Fr} {d t : Nat} {x sv : SV} (h : fr.get t = some sv) (hne : t ≠ d) (hl : sv.p.isLp d = false) : (fr.set d x).get t = some sv := by
 simp only [Fr.set,Fr.get,Ne.symm hne,if_false]
 induction fr with
 | nil=>cases h
 | cons e r ih =>
  obtain⟨k,u⟩:=e
  simp only [Fr.get] at h
  rw [List.filter_cons]
  by_cases hk:k=t
  ·subst hk
   simp only [if_true,Option.some.injEq] at h
   subst h
   simp [hne,hl,Fr.get]
  ·simp only [hk,if_false] at h
   split
   ·simp only [Fr.get,hk,if_false]; exact ih h
   ·exact ih h
def zAi:List Value:=[.slice none 0 0,.slice none 0 0,.string ⟨#[]⟩,.int .i64 0,.int .i64 0,.slice none 0 0,.slice none 0 0]
def yVU (h:yA) (vd:Value):Value:=.agg #[S h.aname,.int .i64 h.atype,.int .i64 h.alife,vd]
def zIK (h:yA) (a z d b:Value):List Value:=[a,z,S h.aname,.int .i64 h.atype,.int .i64 h.alife,d,b]
def AtP (vh vd vi : Value) (h : yA) : Nat → SV → Hp → Prop
 | 0,s,_=>s = ⟨true,.lp 2 0⟩
 | 1,s,_=>s = ⟨true,.val vh⟩
 | 2,s,K=>∃ v,s = ⟨true,.val v⟩∧xV K v h.hosts
 | 3,s,_=>s = ⟨true,.lp 2 2⟩
 | 4,s,_=>s = ⟨true,.val (yVU h vd)⟩
 | 5,s,_=>s = ⟨true,.lp 2 6⟩
 | 6,s,_=>s = ⟨true,.val vi⟩
 | 7,s,K=>∃ v,s = ⟨true,.val v⟩∧xE K v h.hints
 | _,s,K=>∃ a b,s = ⟨true,.val (.agg #[a,.slice none 0 0,S h.aname,.int .i64 h.atype,.int .i64 h.alife,vd,b])⟩∧xV K a h.hosts∧xE K b h.hints
theorem AtP.mono {vh vd vi : Value} {h : yA} {s : SV} {K K' : Hp} (hl : K.le K') : ∀ {i : Nat}, AtP vh vd vi h i s K → AtP vh vd vi h i s K'
 | 0,h=>h
 | 1,h=>h
 | 2,⟨v,h1,h2⟩=>⟨v,h1,xV.mono h2 hl⟩
 | 3,h=>h
 | 4,h=>h
 | 5,h=>h
 | 6,h=>h
 | 7,⟨v,h1,h2⟩=>⟨v,h1,xE.mono h2 hl⟩
 | _ + 8,⟨a,b,h1,h2,h3⟩=>⟨a,b,h1,xV.mono h2 hl,xE.mono h3 hl⟩
theorem AtP.lp {vh vd vi : Value} {h : yA} {s : SV} {K : Hp} {d : Nat} (hd : d ≠ 2) : ∀ {i : Nat}, AtP vh vd vi h i s K → s.p.isLp d = false
 | 0,h=>by cases h; simp [PV.isLp]; omega
 | 1,h=>by cases h; rfl
 | 2,⟨v,h1,h2⟩=>by cases h1; rfl
 | 3,h=>by cases h; simp [PV.isLp]; omega
 | 4,h=>by cases h; rfl
 | 5,h=>by cases h; simp [PV.isLp]; omega
 | 6,h=>by cases h; rfl
 | 7,⟨v,h1,h2⟩=>by cases h1; rfl
 | _ + 8,⟨a,b,h1,h2,h3⟩=>by cases h1; rfl
structure AtI (C : List Value) (b3 : Nat) (vh vd vi : Value) (h : yA) (H0 : Hp) (L : Nat → Bool) (fr : Fr) (H : Hp) : Prop where
 s2:fr.get 2=some ⟨true,.box C⟩
 s3:fr.get 3=some ⟨true,.val (.pointer (some ⟨b3,0,none⟩))⟩
 s4:fr.get 4=some ⟨true,.box zAi⟩
 s5:fr.get 5=some ⟨true,.val (.int .i64 0)⟩
 m:L 10=true→L 9=true
 K : ∃ K, H0.le K ∧ K.le H ∧ (∀ i, i ≤ 8 → L i = true → ∃ s, fr.get (25 + i) = some s ∧ AtP vh vd vi h i s K) ∧
  (L 9 = true → ∃ b6 cs, fr.get 6 = some ⟨true, .val (.pointer (some ⟨b6, 0, none⟩))⟩ ∧ K b6 = none ∧ H b6 = some (.row cs 7 true) ∧ (L 10 = false → cs = zAi) ∧
   (L 10=true→∃ a b,cs=zIK h a (.slice none 0 0) vd b∧xV K a h.hosts∧xE K b h.hints))
theorem uF {L:Nat→Bool} {i j:Nat} (h:j≠i):zEP L i j=L j:=by simp [zEP,h]
theorem zRf {L:Nat→Bool} {i:Nat}:zEP L i i=true:=by simp [zEP]
theorem AtI.set {C : List Value} {b3 : Nat} {vh vd vi : Value} {h : yA} {H0 : Hp} {L : Nat → Bool} {fr : Fr} {H : Hp} (hI : AtI C b3 vh vd vi h H0 L fr H) {i : Nat} (hi : i ≤ 8) {s : SV} (hp : ∀ K, H0.le K → AtP vh vd vi h i s K) :
  AtI C b3 vh vd vi h H0 (zEP L i) (fr.set (25 + i) s) H where
 s2:=vJ hI.s2 (by omega) rfl
 s3:=vJ hI.s3 (by omega) rfl
 s4:=vJ hI.s4 (by omega) rfl
 s5:=vJ hI.s5 (by omega) rfl
 m:=by rw [uF (by omega),uF (by omega)]; exact hI.m
 K := by
  obtain⟨K,k1,k2,k3,k4⟩:=hI.K
  refine⟨K,k1,k2,fun j hj hd=>?_,fun h9=>?_⟩
  ·by_cases e:j=i
   ·subst e; exact⟨s,Fr.get_set_same ..,hp K k1⟩
   ·rw [uF e] at hd
    obtain⟨u,h1,h2⟩:=k3 j hj hd
    exact⟨u,vJ h1 (by omega) (h2.lp (by omega)),h2⟩
  ·rw [uF (by omega)] at h9
   obtain⟨b6,cs,c1,c2,c3,c4,c5⟩:=k4 h9
   rw [uF (by omega)]
   exact⟨b6,cs,vJ c1 (by omega) rfl,c2,c3,c4,c5⟩
theorem AtI.call {C : List Value} {b3 : Nat} {vh vd vi : Value} {h : yA} {H0 : Hp} {L : Nat → Bool} {fr : Fr} {H H' K2 : Hp} (hI : AtI C b3 vh vd vi h H0 L fr H) {i : Nat} (hi : i ≤ 8) {s : SV} {K : Hp} (k1 : H0.le K)
  (k3:∀ i,i≤8→L i=true→∃ s,fr.get (25 + i)=some s∧AtP vh vd vi h i s K) (hk:K.le K2) (k2:K2.le H') (hf:∀ c o,H c=some o→K c=none→K2 c=none∧H' c=some o)
  (k4 : L 9 = true → ∃ b6 cs, fr.get 6 = some ⟨true, .val (.pointer (some ⟨b6, 0, none⟩))⟩ ∧ K b6 = none ∧ H b6 = some (.row cs 7 true) ∧ (L 10 = false → cs = zAi) ∧
   (L 10=true→∃ a b,cs=zIK h a (.slice none 0 0) vd b∧xV K a h.hosts∧xE K b h.hints)) (hp:AtP vh vd vi h i s K2) :
  AtI C b3 vh vd vi h H0 (zEP L i) (fr.set (25 + i) s) H' where
 s2:=vJ hI.s2 (by omega) rfl
 s3:=vJ hI.s3 (by omega) rfl
 s4:=vJ hI.s4 (by omega) rfl
 s5:=vJ hI.s5 (by omega) rfl
 m:=by rw [uF (by omega),uF (by omega)]; exact hI.m
 K := by
  refine⟨K2,k1.trans hk,k2,fun j hj hd=>?_,fun h9=>?_⟩
  ·by_cases e:j=i
   ·subst e; exact⟨s,Fr.get_set_same ..,hp⟩
   ·rw [uF e] at hd
    obtain⟨u,h1,h2⟩:=k3 j hj hd
    exact⟨u,vJ h1 (by omega) (h2.lp (by omega)),h2.mono hk⟩
  ·rw [uF (by omega)] at h9
   obtain⟨b6,cs,c1,c2,c3,c4,c5⟩:=k4 h9
   rw [uF (by omega)]
   exact ⟨b6, cs, vJ c1 (by omega) rfl, (hf _ _ c3 c2).1, (hf _ _ c3 c2).2, c4, fun h10 => by
    obtain⟨a,b,e1,e2,e3⟩:=c5 h10
    exact⟨a,b,e1,xV.mono e2 hk,xE.mono e3 hk⟩⟩
def zBJ (vh vc vd vi:Value) (h:yA):List Value:=[vh,vc,S h.aname,.int .i64 h.atype,.int .i64 h.alife,vd,vi,.int .i64 h.drift,.int .i64 h.end_]
set_option maxHeartbeats 1000000 in
theorem yRh (hE : zV E) {b3 : Nat} {vh vc vd vi : Value} {h : yA} (g1 : xV H vh h.hosts) (g3 : xC H vd h.adata) (g5 : xE H vi h.hints) (n1 : h.hosts.length ≤ 1000000) (n5 : h.hints.length ≤ 1000000) {Q : Fr → Hp → Prop}
  (hQ : ∀ fr H' K b6 a b, fr.get 2 = some ⟨true, .box (zBJ vh vc vd vi h)⟩ → fr.get 3 = some ⟨true, .val (.pointer (some ⟨b3, 0, none⟩))⟩ → fr.get 4 = some ⟨true, .box zAi⟩ → fr.get 5 = some ⟨true, .val (.int .i64 0)⟩ →
   fr.get 6=some ⟨true,.val (.pointer (some ⟨b6,0,none⟩))⟩→H.le K→K.le H'→K b6=none→H' b6=some (.row (zIK h a (.slice none 0 0) vd b) 7 true)→xV K a h.hosts→xE K b h.hints→Q fr H') {fr:Fr}
  (h0:AtI (zBJ vh vc vd vi h) b3 vh vd vi h H (fun _=>false) fr H):zHB E zJO fr H Q:=by
 have o1:=zG.one g1
 have o3:=zG.one g3
 have o5:=zG.one g5
 refine⟨AtI (zBJ vh vc vd vi h) b3 vh vd vi h H,h0,?_,?_⟩
 ·intro L i x fr G hx hL hpre hI
  match i,hx with
  | 0, hx =>
   cases hx
   simp only [wJ,vG,yM,pN,xI,pok,pvo,hI.s2,zAM,zEr,setD]
   exact⟨trivial,fun _=>⟨trivial,trivial⟩,hI.set (i:=0) (by omega) fun K _=>rfl⟩
  | 1, hx =>
   cases hx
   obtain⟨K,k1,k2,k3,k4⟩:=hI.K
   obtain⟨s,h1,rfl⟩:=k3 0 (by omega) (hpre 0 (by simp))
   simp only [wJ,vG,yM,pN,xI,pok,pvo,h1,hI.s2,uG,vD,zBu,zED,jQ,setD]
   exact⟨trivial,fun _=>by simp [zBJ],hI.set (i:=1) (by omega) fun K _=>rfl⟩
  | 2, hx =>
   cases hx
   obtain⟨K,k1,k2,k3,k4⟩:=hI.K
   obtain⟨s,h1,rfl⟩:=k3 1 (by omega) (hpre 1 (by simp))
   simp only [wJ,vG,yM,xQ,vok,pB,vo,h1,List.map_cons,List.map_nil,setD]
   refine⟨trivial,fun _=>⟨by simp,_,(xAy hE (xV.mono g1 k1) (by omega)).frame k2,?_⟩,fun h=>by cases h⟩
   rintro u G' ⟨K2,hcl,hl2,hf⟩
   exact hI.call (i:=2) (by omega) k1 k3 hcl.le hl2 hf k4 ⟨u,rfl,hcl.at (fun _ _=>rfl)⟩
  | 3, hx =>
   cases hx
   simp only [wJ,vG,yM,pN,xI,pok,pvo,hI.s2,zAM,zEr,setD]
   exact⟨trivial,fun _=>⟨trivial,trivial⟩,hI.set (i:=3) (by omega) fun K _=>rfl⟩
  | 4, hx =>
   cases hx
   obtain⟨K,k1,k2,k3,k4⟩:=hI.K
   obtain⟨s,h1,rfl⟩:=k3 3 (by omega) (hpre 3 (by simp))
   simp only [wJ,vG,yM,pN,xI,pok,pvo,h1,hI.s2,uG,vD,zBu,zED,jQ,setD]
   exact⟨trivial,fun _=>by simp [zBJ],hI.set (i:=4) (by omega) fun K _=>rfl⟩
  | 5, hx =>
   cases hx
   simp only [wJ,vG,yM,pN,xI,pok,pvo,hI.s2,zAM,zEr,setD]
   exact⟨trivial,fun _=>⟨trivial,trivial⟩,hI.set (i:=5) (by omega) fun K _=>rfl⟩
  | 6, hx =>
   cases hx
   obtain⟨K,k1,k2,k3,k4⟩:=hI.K
   obtain⟨s,h1,rfl⟩:=k3 5 (by omega) (hpre 5 (by simp))
   simp only [wJ,vG,yM,pN,xI,pok,pvo,h1,hI.s2,uG,vD,zBu,zED,jQ,setD]
   exact⟨trivial,fun _=>by simp [zBJ],hI.set (i:=6) (by omega) fun K _=>rfl⟩
  | 7, hx =>
   cases hx
   obtain⟨K,k1,k2,k3,k4⟩:=hI.K
   obtain⟨s,h1,rfl⟩:=k3 6 (by omega) (hpre 6 (by simp))
   simp only [wJ,vG,yM,xQ,vok,pB,vo,h1,List.map_cons,List.map_nil,setD]
   refine⟨trivial,fun _=>⟨by simp,_,(xBn hE (xE.mono g5 k1) (by omega)).frame k2,?_⟩,fun h=>by cases h⟩
   rintro u G' ⟨K2,hcl,hl2,hf⟩
   exact hI.call (i:=7) (by omega) k1 k3 hcl.le hl2 hf k4 ⟨u,rfl,hcl.at (fun _ _=>rfl)⟩
  | 8, hx =>
   cases hx
   obtain⟨K,k1,k2,k3,k4⟩:=hI.K
   obtain⟨s,h1,a,rfl,ha⟩:=k3 2 (by omega) (hpre 2 (by simp))
   obtain⟨s',h1',rfl⟩:=k3 4 (by omega) (hpre 4 (by simp))
   obtain⟨s'',h1'',b,rfl,hb⟩:=k3 7 (by omega) (hpre 7 (by simp))
   obtain⟨aa,ac,rfl⟩:=zG.sl ha
   obtain⟨ba,bc,rfl⟩:=zG.sl hb
   have e : wJ E ⟨some 33, .sim (.bld [.slice none 0 0, .slice none 0 0, .string ⟨#[]⟩, .int .i64 0, .int .i64 0, .slice none 0 0, .slice none 0 0] [(0, 1, .t 27), (2, 4, .t 29), (6, 1, .t 32)]), none⟩ fr G (AtI (zBJ vh vc vd vi h) b3 vh vd vi h H (zEP L 8)) := by
    simp only [wJ,vG,yM,pN,xI,zAc,uQ,vok,vo,h1,h1',h1'',yVU,setD,xB,Value.cells,List.toList_toArray]
    exact⟨trivial,fun _=>by simp,hI.call (i:=8) (by omega) k1 k3 (Hp.le.refl _) k2 (fun c o hc hk=>⟨hk,hc⟩) k4 ⟨_,_,rfl,ha,hb⟩⟩
   exact e
  | 9, hx =>
   cases hx
   obtain⟨K,k1,k2,k3,k4⟩:=hI.K
   simp only [wJ,vG,yM,xQ,setD]
   refine⟨trivial,fun _ b hb=>?_,fun h=>by cases h⟩
   have hKb : K b = none := by
    cases hq:K b with
    | none=>rfl
    | some o=>rw [k2 _ _ hq] at hb; cases hb
   refine⟨vJ hI.s2 (by omega) rfl,vJ hI.s3 (by omega) rfl,vJ hI.s4 (by omega) rfl,vJ hI.s5 (by omega) rfl,fun _=>zRf,K,k1,k2.trans (zM hb _),fun j hj hd=>?_,fun _=>?_⟩
   ·rw [uF (by omega)] at hd
    obtain⟨u,h1,h2⟩:=k3 j hj hd
    exact⟨u,vJ h1 (by omega) (h2.lp (by omega)),h2⟩
   ·refine⟨b,_,Fr.get_set_same ..,hKb,Hp.put_same ..,fun _=>rfl,fun h10=>?_⟩
    exfalso
    rw [uF (by omega)] at h10
    have:=hI.m h10
    rw [hL] at this; cases this
  | 10, hx =>
   cases hx
   obtain⟨K,k1,k2,k3,k4⟩:=hI.K
   obtain⟨s,h1,a,b,rfl,ha,hb⟩:=k3 8 (by omega) (hpre 8 (by simp))
   obtain⟨b6,cs,c1,c2,c3,c4,c5⟩:=k4 (hpre 9 (by simp))
   obtain rfl:=c4 hL
   obtain⟨aa,ac,rfl⟩:=zG.sl ha
   obtain⟨ba,bc,rfl⟩:=zG.sl hb
   simp only [wJ,vG,yM,xQ,pok,pvo,vok,vo,c1,c3,h1,setD,Value.cells,List.toList_toArray,List.all_cons,List.all_nil,zIN,o3]
   refine⟨trivial,fun _=>⟨by simp,by simp,by simp,by simp [yW],by simp,by simp [zAi],?_⟩,fun h=>by cases h⟩
   refine⟨hI.s2,hI.s3,hI.s4,hI.s5,fun _=>by rw [uF (by omega)]; exact hpre 9 (by simp),K,k1,zI k2 c2 _,fun j hj hd=>?_,fun _=>⟨b6,_,c1,c2,Hp.put_same ..,fun h10=>?_,fun _=>⟨_,_,rfl,ha,hb⟩⟩⟩
   ·rw [uF (by omega)] at hd
    exact k3 j hj hd
   ·rw [zRf] at h10; cases h10
  | n + 11,hx=>simp [zJO] at hx
 ·intro L fr G hL hI
  obtain⟨K,k1,k2,k3,k4⟩:=hI.K
  obtain⟨b6,cs,c1,c2,c3,c4,c5⟩:=k4 (hL 9 (by decide))
  obtain⟨a,b,rfl,ha,hb⟩:=c5 (hL 10 (by decide))
  exact hQ fr G K b6 a b hI.s2 hI.s3 hI.s4 hI.s5 c1 k1 k2 c2 c3 ha hb
end Go.SL
/- Contract: history.At. -/
namespace Go.SL
open Go
variable {E:Env} {H:Hp}
structure yVC (h : yA) : Prop where
 hosts:h.hosts.length≤1000000
 hints:h.hints.length≤1000000
 data:h.adata.length≤1000000
 sets:∀ i,i < h.copies.length→(h.copies.getD i default).sets.length≤1000
 each:∀ i,i < h.copies.length→∀ s∈(h.copies.getD i default).sets,s.data.length≤1000000∧s.sigs.length≤1000000
theorem zSq (ss : List zF) (d g : Nat → Value) (k : Nat) (x y : Value) (i : Nat) (hi : i < k) : xA ss (yR d k x) (yR g k y) i = xA ss d g i := by
 unfold xA
 simp [yR,show i≠k by omega]
theorem zOJ (ss : List zF) (d g : Nat → Value) (k : Nat) (x y : Value) : xA ss (yR d k x) (yR g k y) k = [S (ss.getD k default).name, .int .i64 (ss.getD k default).type, .int .i64 (ss.getD k default).life, x, y] := by
 unfold xA
 simp [yR]
theorem zSl (L : List xO) (zz : Nat → Value) (k : Nat) (x : Value) (i : Nat) (hi : i < k) : vW L (yR zz k x) i = vW L zz i := by
 unfold vW
 simp [yR,show i≠k by omega]
theorem zRI (L : List xO) (zz : Nat → Value) (k : Nat) (x : Value) : vW L (yR zz k x) k = [.int .i64 (L.getD k default).host, S (L.getD k default).apex, x] := by
 unfold vW
 simp [yR]
def yFS (H0 : Hp) (a d b : Value) (h : yA) (b6 : Nat) (L : List xO) (n : Nat) (H' : Hp) : Prop :=
 ∃ K v zz ob,H0.le K∧K.le H'∧K b6=none∧H' b6=some (.row [a,v,S h.aname,.int .i64 h.atype,.int .i64 h.alife,d,b] 7 true)∧xS H' 3 v n (vW L zz) ob∧(∀ c,ob=some c→K c=none∧c≠b6)∧∀ i,i < n→xL K (zz i) (L.getD i default).sets
theorem yFS.le {H0 H' : Hp} {a d b : Value} {h : yA} {b6 n : Nat} {L : List xO} (hs : yFS H0 a d b h b6 L n H') : H0.le H' := by
 obtain⟨K,v,zz,ob,h1,h2,_⟩:=hs
 exact h1.trans h2
theorem nnb {P:Hp} {a c:Nat} {o:xD} (h1:P a=some o) (h2:P c=none):a≠c:=by rintro rfl; rw [h1] at h2; cases h2
set_option maxRecDepth 4000 in
set_option maxHeartbeats 8000000 in
theorem ySW (hE : zV E) (h2 : wC E) (h3 : yZ E) (hB : qT E H) {v : Value} {h : yA} (hh : vS H v h) (hn : h.copies.length ≤ 12) (t : Int) (hsz : yO h = true → yVC h) :
  Fn E.P (E.fn 174) [v,.int .i64 t] H (fun u H'=>H.le H'∧(zHa h t=false→u = .tuple #[.agg zAi.toArray,.int .i64 1])∧(zHa h t=true→∃ w,u = .tuple #[w,.int .i64 0]∧zBv H' w (atW h t))):=by
 obtain⟨vh,vz,vd,vi,rfl,g1,g2,g3,g5⟩:=hh
 obtain⟨z,hvc,hdeep⟩:=g2
 have hz1:∀ i,i < h.copies.length→yW (z i)=true:=fun i hi=>by obtain⟨d,g,hx,_⟩:=hdeep i hi; exact zG.one hx
 obtain⟨ah,ch,rfl⟩:=zG.sl g1
 obtain⟨az,cz,rfl⟩:=zG.sl hvc
 obtain⟨ad,cd,rfl⟩:=zG.sl g3
 obtain⟨ai,ci,rfl⟩:=zG.sl g5
 obtain⟨q,hq⟩:∃ y,y=zHa h t:=⟨_,rfl⟩
 rw [← hq]
 unfold zHa at hq
 refine Fn.of_vks h3.c174 (by simp [zNn]) ?_
 simp only [zNn,yCJ,zSE,yDv,zWT,zZP,zWj,zWb,zWC,zNG,zQe]
 simp only [go_sem,Nat.reduceEqDiff,Nat.reduceBEq,Nat.reduceAdd,reduceCtorEq]
 intro b3 hb3
 obtain⟨HA,hHA⟩:∃ y,y=H.put b3 (.row [.int .i64 t] 1 true):=⟨_,rfl⟩
 have hA3:HA b3=some (.row [.int .i64 t] 1 true):=by rw [hHA,Hp.put_same]
 have hleA:H.le HA:=by rw [hHA]; exact zM hb3 _
 have fvA : yD E 48 [.agg #[.slice ah h.hosts.length ch, .slice az h.copies.length cz, S h.aname, .int .i64 h.atype, .int .i64 h.alife, .slice ad h.adata.length cd, .slice ai h.hints.length ci, .int .i64 h.drift, .int .i64 h.end_]] HA (.bool (yO h)) :=
  zHC hE h2 (hB.mono hleA) ⟨_,_,_,_,rfl,xV.mono g1 hleA,⟨z,hvc.mono hleA,fun i hi=>(hdeep i hi).mono hleA⟩,xC.mono g3 hleA,xE.mono g5 hleA⟩ hn
 rw [← hHA]
 refine zE _ (by simp only [go_sem]) (fun _=>⟨by simp only [go_sem,Nat.reduceEqDiff],fvA⟩) ?_
 cases hv:yO h
 ·rw [hv,Bool.false_and] at hq
  subst hq
  simp only [hA3,↓yQ,zAi,go_sem,Nat.reduceEqDiff,Nat.reduceBEq,Nat.reduceAdd,zC]
  exact hleA
 rw [hv,Bool.true_and] at hq
 by_cases ht0:0≤t
 rotate_left
 ·have e1:decide (t < 0)=true:=by rw [decide_eq_true_eq]; omega
  have e2:decide (0≤t)=false:=by rw [decide_eq_false_iff_not]; omega
  rw [e2,Bool.false_and] at hq
  subst hq
  simp only [hA3,e1,↓yQ,zAi,go_sem,Nat.reduceEqDiff,Nat.reduceBEq,Nat.reduceAdd,zC]
  exact hleA
 have e1:decide (t < 0)=false:=by rw [decide_eq_false_iff_not]; omega
 have e2:decide (0≤t)=true:=by rw [decide_eq_true_eq]; omega
 rw [e2,Bool.true_and] at hq
 by_cases ht1:t < h.end_
 rotate_left
 ·have e3:decide (t≥h.end_)=true:=by rw [decide_eq_true_eq]; omega
  have e4:decide (t < h.end_)=false:=by rw [decide_eq_false_iff_not]; omega
  rw [e4] at hq
  subst hq
  simp only [hA3,e1,e3,zAi,go_sem,Nat.reduceEqDiff,Nat.reduceBEq,Nat.reduceAdd,zC]
  exact hleA
 have e3:decide (t≥h.end_)=false:=by rw [decide_eq_false_iff_not]; omega
 have e4:decide (t < h.end_)=true:=by rw [decide_eq_true_eq]; omega
 rw [e4] at hq
 subst hq
 have hs:=hsz hv
 have hsh:=hs.hosts
 have hsi:=hs.hints
 have hsd:=hs.data
 simp only [hA3,e1,e3,go_sem,Nat.reduceEqDiff,Nat.reduceBEq,Nat.reduceAdd,zC]
 rw [ySG]
 refine yRh hE (b3 := b3) (vh := .slice ah h.hosts.length ch) (vc := .slice az h.copies.length cz) (vd := .slice ad h.adata.length cd) (vi := .slice ai h.hints.length ci) (xV.mono g1 hleA) (xC.mono g3 hleA) (xE.mono g5 hleA) hsh hsi ?_
  ⟨rfl,rfl,rfl,rfl,fun h=>(by cases h),HA,Hp.le.refl _,Hp.le.refl _,fun i _ h=>(by cases h),fun h=>(by cases h)⟩
 intro fr HB KB b6 va vb s2 s3 s4 s5 s6 hKB1 hKB2 hK6 hW ha hb
 have hk : fr.keep [2, 3, 4, 5, 6] = [(2, ⟨true, .box (zBJ (.slice ah h.hosts.length ch) (.slice az h.copies.length cz) (.slice ad h.adata.length cd) (.slice ai h.hints.length ci) h)⟩), (3, ⟨true, .val (.pointer (some ⟨b3, 0, none⟩))⟩), (4, ⟨true, .box zAi⟩), (5, ⟨true, .val (.int .i64 0)⟩), (6, ⟨true, .val (.pointer (some ⟨b6, 0, none⟩))⟩)] := by
  simp only [Fr.keep,s2,s3,s4,s5,s6]
 rw [hk]
 unfold zBJ zAi
 unfold zIK at hW
 obtain⟨aa,ac,rfl⟩:=zG.sl ha
 obtain⟨ba,bc,rfl⟩:=zG.sl hb
 simp only [zYv,go_sem,Nat.reduceLeDiff,Nat.reduceEqDiff,Nat.reduceBEq,Nat.reduceAdd]
 refine zP (by simp only [go_sem,Nat.reduceEqDiff]) ((yWb hE (xC.mono g3 (hleA.trans hKB1)) (by omega)).frame hKB2) ?_
 rintro u HC ⟨KC,hcl,hlC,hfC⟩
 have hC6:=hfC b6 _ hW hK6
 have w6C:=hC6.2
 have hdC:xC KC u h.adata:=hcl.at (fun _ _=>rfl)
 have hlKC:=hcl.le
 obtain⟨ua,uc,rfl⟩:=zG.sl hdC
 simp only [w6C,go_sem,Nat.reduceLeDiff,Nat.reduceEqDiff,Nat.reduceBEq,Nat.reduceAdd]
 obtain⟨HD,hHD⟩:∃ y,y=HC.put b6 (.row [.slice aa h.hosts.length ac,.slice none 0 0,S h.aname,.int .i64 h.atype,.int .i64 h.alife,.slice ua h.adata.length uc,.slice ba h.hints.length bc] 7 true):=⟨_,rfl⟩
 rw [← hHD]
 have w6D:HD b6=some (.row [.slice aa h.hosts.length ac,.slice none 0 0,S h.aname,.int .i64 h.atype,.int .i64 h.alife,.slice ua h.adata.length uc,.slice ba h.hints.length bc] 7 true):=by rw [hHD,Hp.put_same]
 refine zP ?_ (yTy h3 (cs:=[.slice ah h.hosts.length ch,.slice az h.copies.length cz,S h.aname,.int .i64 h.atype,.int .i64 h.alife,.slice ad h.adata.length cd,.slice ai h.hints.length ci,.int .i64 h.drift,.int .i64 h.end_]) rfl rfl (f:=.func (.func (E.fn 173)) #[] #[.pointer (some ⟨b3,0,none⟩)]) rfl) ?_
 ·simp only [go_sem,Nat.reduceEqDiff]
 rintro u HE0 ⟨bh,bf,hbh,hbf,hbfh,rfl,hHE⟩
 obtain⟨HE,hHE'⟩:∃ y,y=HE0:=⟨_,rfl⟩
 rw [← hHE'] at hHE ⊢
 clear hHE'
 have hbf':(HD.put bh (.row [.slice ah h.hosts.length ch,.slice az h.copies.length cz,S h.aname,.int .i64 h.atype,.int .i64 h.alife,.slice ad h.adata.length cd,.slice ai h.hints.length ci,.int .i64 h.drift,.int .i64 h.end_] 9 true)) bf=none:=by rw [Hp.put_ne _ _ hbfh]; exact hbf
 have leDE:HD.le HE:=by rw [hHE]; exact(zM hbh _).trans (zM hbf' _)
 have fCh:HE bh=some (.row [.slice ah h.hosts.length ch,.slice az h.copies.length cz,S h.aname,.int .i64 h.atype,.int .i64 h.alife,.slice ad h.adata.length cd,.slice ai h.hints.length ci,.int .i64 h.drift,.int .i64 h.end_] 9 true):=by rw [hHE,Hp.put_ne _ _ (Ne.symm hbfh),Hp.put_same]
 have fCf:HE bf=some (.row [.func (.func (E.fn 173)) #[] #[.pointer (some ⟨b3,0,none⟩)]] 1 true):=by rw [hHE,Hp.put_same]
 have w6E:=leDE _ _ w6D
 have n6h:=nnb w6D hbh
 have n6f:=nnb w6D hbf
 obtain⟨H0,hH0⟩:∃ y,y=HE.del b6:=⟨_,rfl⟩
 have le0:H0.le HE:=by rw [hH0]; exact yNU _ _
 have k06:H0 b6=none:=by rw [hH0,Hp.del_same]
 have leKC : KC.le H0 := fun c o hc => by
  have hne:c≠b6:=by rintro rfl; rw [hC6.1] at hc; cases hc
  rw [hH0,Hp.del_ne _ hne]
  refine leDE _ _ ?_
  rw [hHD,Hp.put_ne _ _ hne]
  exact hlC _ _ hc
 have leKB:KB.le H0:=hlKC.trans leKC
 have leA0:HA.le H0:=hKB1.trans leKB
 have leH0:H.le H0:=hleA.trans leA0
 have d3:=leA0 _ _ hA3
 have dh:H0 bh=some (.row [.slice ah h.hosts.length ch,.slice az h.copies.length cz,S h.aname,.int .i64 h.atype,.int .i64 h.alife,.slice ad h.adata.length cd,.slice ai h.hints.length ci,.int .i64 h.drift,.int .i64 h.end_] 9 true):=by rw [hH0,Hp.del_ne _ (Ne.symm n6h)]; exact fCh
 have df:H0 bf=some (.row [.func (.func (E.fn 173)) #[] #[.pointer (some ⟨b3,0,none⟩)]] 1 true):=by rw [hH0,Hp.del_ne _ (Ne.symm n6f)]; exact fCf
 have hvc0:=hvc.mono leH0
 have hdeep0:=fun i hi=>(hdeep i hi).mono leH0
 have hit:=yTf h3 hvc0 hz1 (by omega) dh df (zAH t) (fun H' hl i hi=>wE h3.e173 (Fn.same (yXX h3 (hl _ _ d3) h.copies z i (hz1 i hi))))
 have hidx:itC (zAH t) h.copies z=(atIdx h t).map fun i=>[kO h.copies z i]:=rfl
 have hlL:(atZ h t).length=(atIdx h t).length:=by unfold atZ; simp
 have hst0 : yFS H0 (.slice aa h.hosts.length ac) (.slice ua h.adata.length uc) (.slice ba h.hints.length bc) h b6 (atZ h t) 0 HE :=
  ⟨H0,.slice none 0 0,fun _=>undef,none,Hp.le.refl _,le0,k06,w6E,⟨rfl,rfl⟩,fun c hc=>(by cases hc),fun i hi=>(by cases hi)⟩
 simp only [go_sem,Nat.reduceEqDiff,Nat.reduceBEq]
 refine zAz H0 (fun xs=>xs=itC (zAH t) h.copies z) (fun pre H'=>yFS H0 (.slice aa h.hosts.length ac) (.slice ua h.adata.length uc) (.slice ba h.hints.length bc) h b6 (atZ h t) pre.length H') ?_ ?_ ?_ ?_ ?_ ?_ ?_ ?_
 ·simp only [go_sem,Nat.reduceEqDiff]
 ·simp only [go_sem,Nat.reduceEqDiff]; trivial
 ·simp only [go_sem,Nat.reduceEqDiff]; exact hit
 ·rintro xs rfl x hx
  rw [hidx] at hx
  obtain⟨i,_,rfl⟩:=List.mem_map.1 hx
  rfl
 ·exact hst0
 ·intro pre H' hst
  exact hst.le
 ·rintro pre x H' ⟨suf,hS⟩ hst
  have hat:=yEc hS
  rw [hidx,List.length_map] at hat
  obtain⟨m,hm⟩:∃ m,m=pre.length:=⟨_,rfl⟩
  rw [← hm] at hat hst
  have hx : x = [kO h.copies z ((atIdx h t).getD m 0)] := by
   rw [← hat.2]
   simp [hat.1]
  have hilt : (atIdx h t).getD m 0 < h.copies.length := by
   have:(atIdx h t).getD m 0∈atIdx h t:=by rw [List.getD_eq_getElem?_getD,List.getElem?_eq_getElem hat.1]; exact List.getElem_mem _
   unfold atIdx zAQ at this
   exact List.mem_range.1 (List.mem_filter.1 this).1
  have hLm : (atZ h t).getD m default = zFQ (h.copies.getD ((atIdx h t).getD m 0) default) := by
   unfold atZ
   simp [hat.1]
  obtain⟨i0,hi0⟩:∃ i,i=(atIdx h t).getD m 0:=⟨_,rfl⟩
  rw [← hi0] at hx hilt hLm
  have hzi:=hdeep0 i0 hilt
  have hz1i:=hz1 i0 hilt
  have hszi:=hs.sets i0 hilt
  have hszd:=hs.each i0 hilt
  obtain⟨c,hc⟩:∃ c,h.copies.getD i0 default=c:=⟨_,rfl⟩
  rw [hc] at hzi hszi hszd hLm
  obtain⟨sd,sg,hsl,sdeep⟩:=hzi
  obtain⟨sa,sc,hzv⟩:=hsl.sl
  have hsl':=hsl
  rw [hzv] at hsl'
  have hmlen:m < (atZ h t).length:=by rw [hlL]; exact hat.1
  have hm12 : m < 12 := by
   have h1:(atIdx h t).length≤(List.range h.copies.length).length:=List.length_filter_le _ _
   rw [List.length_range] at h1
   have:=hat.1
   omega
  subst hx
  obtain⟨K0,vo0,zz,ob,k1,k2,k6,w6,hown,hob,hzz⟩:=hst
  obtain⟨oa,oc,rfl⟩:=hown.sl
  obtain⟨L,hL⟩:∃ y,y=atZ h t:=⟨_,rfl⟩
  rw [← hL] at hown hzz hLm hmlen ⊢
  simp only [kO,hc,hzv,go_sem,Nat.reduceLeDiff,Nat.reduceEqDiff,Nat.reduceBEq,Nat.reduceAdd]
  refine yP c.sets.length 0 (fun k fr' HX => ∃ K xa xc d g oi, fr' = [(6, ⟨true, .val (.pointer (some ⟨b6, 0, none⟩))⟩), (7, ⟨true, .box [.int .i64 c.host, .int .i64 c.from_, .int .i64 c.till, S c.apex, .slice sa c.sets.length sc]⟩), (8, ⟨true, .box [S c.apex, .slice xa k xc]⟩), (50, ⟨true, .val (.slice sa c.sets.length sc)⟩), (51, ⟨true, .val (.int .i64 c.sets.length)⟩), (52, ⟨true, .val (.int .i64 k)⟩)] ∧
   K0.le K∧K.le HX∧K b6=none∧(∀ b,ob=some b→K b=none)∧HX b6=H' b6∧(∀ b,ob=some b→HX b=H' b)∧xS HX 5 (.slice xa k xc) k (xA c.sets d g) oi∧(∀ b,oi=some b→K b=none∧b≠b6∧some b≠ob) ∧
   ∀ i,i < k→xC K (d i) (c.sets.getD i default).data∧xT K (g i) (c.sets.getD i default).sigs) (Nat.zero_le _)
   ⟨K0,none,0,fun _=>undef,fun _=>undef,none,rfl,Hp.le.refl _,k2,k6,fun b hb=>(hob b hb).1,rfl,fun _ _=>rfl,⟨rfl,rfl⟩,fun b hb=>(by cases hb),fun i hi=>(by cases hi)⟩ ?_
  rintro k fr' HX hk ⟨K,xa,xc,d,g,oi,rfl,j1,j2,j6,job,jb6,jobb,jown,joi,jdat⟩
  have x6:=jb6.trans w6
  by_cases hlj:k < c.sets.length
  ·have hdj:decide ((k:Int) < (c.sets.length:Int))=true:=by simpa using hlj
   obtain⟨sa',sc',hve,_,hr⟩:=hsl'
   cases hve
   obtain⟨b,o,vs,cc,wr,hab,hbb,hi⟩:=hr (by omega)
   cases hab
   have hle6:=k1.trans j1
   have hb1:=j2 _ _ (hle6 _ _ hbb)
   have hi1:=(hi k hlj).1
   have hi2:=(hi k hlj).2
   have hdd:=(sdeep k hlj).1
   have hgg:=(sdeep k hlj).2
   have hd1:=zG.one hdd
   have hg1:=zG.one hgg
   have hrs:=hszd _ (yY hlj)
   have hjs:IntKind.i64.wrap ((k:Int) + 1)=((k + 1:Nat):Int):=zQ (by omega)
   obtain⟨s,hs'⟩:∃ s,c.sets.getD k default=s:=⟨_,rfl⟩
   have hend:=fun x y=>zOJ c.sets d g k x y
   rw [hs'] at hdd hgg hrs
   simp only [hs'] at hend
   simp only [xA,hs'] at hi2
   simp only [hdj,hb1,hi2,hd1,hg1,zQZ,go_sem,Nat.reduceEqDiff,Nat.reduceBEq,Nat.reduceAdd,reduceCtorEq,zC]
   refine⟨⟨by omega,by omega⟩,hi1,?_⟩
   simp only [zPS,go_sem,Nat.reduceEqDiff,Nat.reduceBEq,Nat.reduceAdd]
   refine zGn ?_ ((yTw hE h3 (xC.mono hdd hle6) (xT.mono hgg hle6) hrs.1 hrs.2).frame j2) ?_
   ·simp only [go_sem,Nat.reduceEqDiff]
   rintro u HY ⟨K2,⟨dv',gv',hu,hd9,hg9,kle⟩,k2le,kfr⟩
   subst hu
   have od:=zG.one hd9
   have og:=zG.one hg9
   have y6:=kfr b6 _ x6 j6
   refine⟨?_,?_⟩
   ·simp only [go_sem,Nat.reduceEqDiff,Nat.reduceBEq,Nat.reduceAdd]
   simp only [zCD,go_sem,Nat.reduceEqDiff,Nat.reduceBEq,Nat.reduceAdd]
   intro bs hbs
   have nb6:b6≠bs:=nnb y6.2 hbs
   obtain⟨HZ,hHZ⟩:∃ y,y=HY.put bs (.row [S s.name,.int .i64 s.type,.int .i64 s.life,dv',gv'] 5 true):=⟨_,rfl⟩
   have leZ:HY.le HZ:=by rw [hHZ]; exact zM hbs _
   have hbsZ:HZ bs=some (.row [S s.name,.int .i64 s.type,.int .i64 s.life,dv',gv'] 5 true):=by rw [hHZ,Hp.put_same]
   have hownZ : xS HZ 5 (.slice xa k xc) k (xA c.sets d g) oi := jown.keep fun b hb => by
    cases hq:HX b with
    | none=>exact absurd hq (by subst hb; exact jown.some_at)
    | some o=>exact leZ _ _ (kfr b _ hq (joi b hb).1).2
   rw [← hHZ]
   refine uX (by intro x h; cases h) (by intro f a h; cases h) (by simp only [go_sem]) (fun _=>zEu (n:=k) (row:=xA c.sets d g) (row':=xA c.sets (yR d k dv') (yR g k gv')) ?_ ?_ ?_ ?_ hbsZ rfl ?_ hownZ (fun _ _=>rfl) (fun i hi=>zSq _ _ _ _ _ _ i hi) (hend dv' gv') (by omega) (by omega) (by omega) ?_) (fun hg=>by simp only [go_sem] at hg)
   ·simp only [go_sem,Nat.reduceEqDiff]
   ·simp only [go_sem,Nat.reduceEqDiff]
   ·simp only [go_sem,Nat.reduceEqDiff]
   ·simp only [go_sem,Nat.reduceEqDiff]
   ·simp only [od,og,go_sem]
   intro v' HW b' hO hkeep hnew
   obtain⟨va',vc',rfl⟩:=hO.sl
   simp only [jA,go_sem,Nat.reduceEqDiff,Nat.reduceBEq,Nat.reduceAdd,zC]
   have z6:=leZ _ _ y6.2
   have hoi6 : some b6 ≠ oi := by
    intro e
    have:=(joi b6 e.symm).2.1
    exact this rfl
   have hoK2 : ∀ b, oi = some b → K2 b = none := fun b hb => by
    cases hq:HX b with
    | none=>exact absurd hq (by subst hb; exact jown.some_at)
    | some o=>exact(kfr b _ hq (joi b hb).1).1
   have hobX : ∀ b, ob = some b → ∃ o, HX b = some o ∧ H' b = some o := fun b hb => by
    cases hq:H' b with
    | none=>exact absurd hq (by subst hb; exact hown.some_at)
    | some o=>exact⟨o,(jobb b hb).trans hq,rfl⟩
   have hb'K : K2 b' = none := by
    rcases hnew with e | e
    ·cases hq:K2 b' with
     | none=>rfl
     | some o=>rw [leZ _ _ (k2le _ _ hq)] at e; cases e
    ·exact hoK2 b' e.symm
   refine⟨hlj,K2,va',vc',yR d k dv',yR g k gv',some b',⟨rfl,hjs⟩,j1.trans kle,?_,y6.1,?_,?_,?_,hO,?_,?_⟩
   ·intro c o hc
    refine hkeep c o (leZ _ _ (k2le _ _ hc)) fun e=>?_
    rw [hoK2 c e.symm] at hc; cases hc
   ·intro b hb
    obtain⟨o,h1,_⟩:=hobX b hb
    exact(kfr b _ h1 (job b hb)).1
   ·rw [hkeep b6 _ z6 hoi6,w6]
   ·intro b hb
    obtain⟨o,h1,h2⟩:=hobX b hb
    rw [h2]
    refine hkeep b o (leZ _ _ (kfr b _ h1 (job b hb)).2) fun e=>?_
    exact(joi b e.symm).2.2 hb.symm
   ·intro b hb
    cases hb
    refine⟨hb'K,?_,?_⟩
    ·rintro rfl
     rcases hnew with e | e
     ·rw [z6] at e; cases e
     ·exact hoi6 e
    ·intro e
     obtain⟨o,h1,_⟩:=hobX b' e.symm
     rcases hnew with e' | e'
     ·rw [leZ _ _ (kfr b' _ h1 (job b' e.symm)).2] at e'; cases e'
     ·exact(joi b' e'.symm).2.2 e
   ·intro i hi
    by_cases e:i=k
    ·subst e
     rw [hs']
     simp only [yR,if_true]
     exact⟨hd9,hg9⟩
    ·simp only [yR,if_neg e]
     have:=jdat i (by omega)
     exact⟨xC.mono this.1 kle,xT.mono this.2 kle⟩
  ·have hdj:decide ((k:Int) < (c.sets.length:Int))=false:=by simpa using hlj
   have hkl:k=c.sets.length:=by omega
   subst hkl
   have hcat:xL HX (.slice xa c.sets.length xc) c.sets:=⟨d,g,xS.at jown (fun _ _=>rfl),fun i hi=>⟨xC.mono (jdat i hi).1 j2,xT.mono (jdat i hi).2 j2⟩⟩
   have hownX:xS HX 3 (.slice oa m oc) m (vW L zz) ob:=hown.keep jobb
   obtain⟨K3,hK3⟩:∃ y:Hp,y=fun c=>if c=b6∨some c=ob then none else HX c:=⟨_,rfl⟩
   have k3le : K3.le HX := fun c o hc => by
    rw [hK3] at hc
    simp only at hc
    split at hc
    ·cases hc
    ·exact hc
   have k3of : ∀ c, c ≠ b6 → some c ≠ ob → K3 c = HX c := fun c h1 h2 => by
    rw [hK3]
    simp only
    rw [if_neg]
    rintro(h | h)
    ·exact h1 h
    ·exact h2 h
   have kK3 : K.le K3 := fun c o hc => by
    rw [k3of c (by rintro rfl; rw [j6] at hc; cases hc) (fun e=>by rw [job c e.symm] at hc; cases hc)]
    exact j2 _ _ hc
   have k36:K3 b6=none:=by rw [hK3]; simp
   have k3ob:∀ b,ob=some b→K3 b=none:=fun b hb=>by rw [hK3]; simp [hb]
   have hcat3 : xL K3 (.slice xa c.sets.length xc) c.sets := by
    refine⟨d,g,xS.at (jown.keep fun b hb=>k3of b (joi b hb).2.1 (joi b hb).2.2) (fun _ _=>rfl),fun i hi=>⟨xC.mono (jdat i hi).1 kK3,xT.mono (jdat i hi).2 kK3⟩⟩
   simp only [hdj,zOa,x6,go_sem,Nat.reduceLeDiff,Nat.reduceEqDiff,Nat.reduceBEq,Nat.reduceAdd,reduceCtorEq,zC]
   intro bs hbs
   have n6s:b6≠bs:=nnb x6 hbs
   have hend:=zRI L zz m (.slice xa c.sets.length xc)
   rw [hLm] at hend
   simp only [zFQ] at hend
   refine zAj (n:=m) (row:=vW L zz) (row':=vW L (yR zz m (.slice xa c.sets.length xc))) (cells:=[.int .i64 c.host,S c.apex,.slice xa c.sets.length xc]) ?_ ?_ ?_ ?_ (Hp.put_same ..) rfl rfl (hownX.put hbs) (fun _ _=>rfl) (fun i hi=>zSl _ _ _ _ i hi) hend (by omega) (by omega) ?_
   ·simp only [go_sem,Nat.reduceEqDiff]
   ·simp only [go_sem,Nat.reduceEqDiff]
   ·simp only [go_sem,Nat.reduceEqDiff]
   ·simp only [go_sem,Nat.reduceEqDiff]
   intro v' HW b' hO hkeep hnew
   obtain⟨va',vc',rfl⟩:=hO.sl
   have hob6:some b6≠ob:=fun e=>(hob b6 e.symm).2 rfl
   have w6W:=hkeep b6 _ (zM hbs _ _ _ x6) hob6
   have hb6' : b' ≠ b6 := by
    rintro rfl
    rcases hnew with e | e
    ·rw [zM hbs _ _ _ x6] at e; cases e
    ·exact hob6 e
   have hb'K : K3 b' = none := by
    rcases hnew with e | e
    ·cases hq:K3 b' with
     | none=>rfl
     | some o=>rw [zM hbs _ _ _ (k3le _ _ hq)] at e; cases e
    ·exact k3ob b' e.symm
   have hl1:∀ y:List Value,(pre ++ [y]).length=m + 1:=fun y=>by simp [hm]
   simp only [w6W,go_sem,Nat.reduceLeDiff,Nat.reduceEqDiff,Nat.reduceBEq,Nat.reduceAdd]
   rw [hl1]
   refine⟨K3,_,yR zz m (.slice xa c.sets.length xc),some b',k1.trans (j1.trans kK3),?_,k36,Hp.put_same ..,hO.keep fun b hb=>?_,?_,?_⟩
   ·refine zI (fun c o hc=>?_) k36 _
    exact hkeep c o (zM hbs _ _ _ (k3le _ _ hc)) (fun e=>by rw [k3ob c e.symm] at hc; cases hc)
   ·cases hb
    exact Hp.put_ne _ _ hb6'
   ·intro b hb
    cases hb
    exact⟨hb'K,hb6'⟩
   ·intro i hi
    by_cases e:i=m
    ·subst e
     rw [hLm]
     simp only [yR,if_true]
     exact hcat3
    ·simp only [yR,if_neg e]
     exact(hzz i (by omega)).mono (j1.trans kK3)
 ·rintro xs H' rfl hst
  have hil:(itC (zAH t) h.copies z).length=(atZ h t).length:=by rw [hidx,List.length_map,hlL]
  rw [hil] at hst
  obtain⟨K,v,zz,ob,k1,k2,k6,w6,hown,hob,hzz⟩:=hst
  obtain⟨oa,oc,rfl⟩:=hown.sl
  have kle:=k1.trans k2
  simp only [w6,go_sem,Nat.reduceEqDiff,Nat.reduceBEq,Nat.reduceAdd]
  refine⟨leH0.trans kle,_,rfl,_,_,_,_,rfl,?_,?_,?_,?_⟩
  ·exact xV.mono ha (leKB.trans kle)
  ·exact⟨zz,xS.at hown (fun _ _=>rfl),fun i hi=>(hzz i hi).mono k2⟩
  ·exact xC.mono hdC (leKC.trans kle)
  ·exact xE.mono hb (leKB.trans kle)
end Go.SL
/- Plain law: what is served at two neighbouring times is the same, if none of them is a moment; the places of a world at a time are distinct. -/
namespace Go.SL
open Go
theorem yQt {h : yA} {t : Int} (ht : 1 ≤ t) (he : t < h.end_) (hn : t ∉ (moments h).map (·.1)) : atW h (t - 1) = atW h t := by
 have hi : atIdx h (t - 1) = atIdx h t := by
  unfold atIdx zAQ
  refine List.filter_congr fun i hi=>?_
  have hm:h.copies.getD i default∈h.copies:=yY (List.mem_range.1 hi)
  exact yJz ht he hn hm
 unfold atW atZ
 rw [hi]
theorem zGw {h : yA} {t : Int} {m : Nat} (hm : m < (atIdx h t).length) : (atIdx h t).getD m 0 < h.copies.length ∧ zAH t (h.copies.getD ((atIdx h t).getD m 0) default) = true := by
 have h1:(atIdx h t).getD m 0∈atIdx h t:=by rw [List.getD_eq_getElem?_getD,List.getElem?_eq_getElem hm]; exact List.getElem_mem _
 unfold atIdx zAQ at h1 ⊢
 have h2:=List.mem_filter.1 h1
 exact⟨List.mem_range.1 h2.1,h2.2⟩
theorem zKK (h:yA) (t:Int):(atZ h t).length=(atIdx h t).length:=by unfold atZ; simp
theorem zIv {h : yA} {t : Int} {m : Nat} (hm : m < (atIdx h t).length) : (atZ h t).getD m default = zFQ (h.copies.getD ((atIdx h t).getD m 0) default) := by
 unfold atZ
 simp [hm]
theorem yNl {cs : List yE} (hd : zHi cs) {t : Int} {a b : Nat} (ha : a < cs.length) (hb : b < cs.length) (la : zAH t (cs.getD a default) = true) (lb : zAH t (cs.getD b default) = true) (hk : (cs.getD a default).key = (cs.getD b default).key) : a = b := by
 have key : ∀ {a b : Nat}, a < b → b < cs.length → zAH t (cs.getD a default) = true → zAH t (cs.getD b default) = true → (cs.getD a default).key = (cs.getD b default).key → False := by
  intro a b hab hb la lb hk
  have ea:cs.getD a default=cs[a]:=by rw [List.getD_eq_getElem?_getD,List.getElem?_eq_getElem (by omega)]; rfl
  have eb:cs.getD b default=cs[b]:=by rw [List.getD_eq_getElem?_getD,List.getElem?_eq_getElem hb]; rfl
  have:=List.pairwise_iff_getElem.1 hd a b (by omega) hb hab (by rw [← ea,← eb]; exact hk)
  rw [← ea,← eb] at this
  unfold zAH at la lb
  simp only [Bool.and_eq_true,decide_eq_true_eq] at la lb
  unfold zBR xX at this
  simp only at this
  omega
 rcases Nat.lt_trichotomy a b with h | h | h
 ·exact(key h hb la lb hk).elim
 ·exact h
 ·exact(key h ha lb la hk.symm).elim
theorem yRd {h : yA} (hv : yO h = true) (t : Int) : ∀ i, i < (atZ h t).length → ∀ j, j < (atZ h t).length → ((atZ h t).getD i default).key = ((atZ h t).getD j default).key → (atZ h t).getD i default = (atZ h t).getD j default := by
 intro i hi j hj hk
 rw [zKK] at hi hj
 rw [zIv hi,zIv hj] at hk ⊢
 have mi:=zGw hi
 have mj:=zGw hj
 have:=yNl (qQ.1 hv).disj mi.1 mj.1 mi.2 mj.2 hk
 rw [this]
theorem zKZ {h : yA} (hf : yRo h) : yVC h where
 hosts:=by have:=hf.hosts; omega
 hints:=by have:=hf.hints; omega
 data:=by have:=hf.adata; omega
 sets:=fun i hi=>by have:=hf.sets i hi; omega
 each := fun i hi s hs => by
  obtain⟨j,hj,rfl⟩:=qR hs
  have:=hf.deep i hi j hj
  omega
theorem yKv {h : yA} (hf : yRo h) (t : Int) : yIm (atW h t) := by
 refine⟨⟨?_,fun i hi=>?_⟩,?_,?_,?_⟩
 ·show(atZ h t).length≤_
  rw [zKK]
  have h1:(atIdx h t).length≤(List.range h.copies.length).length:=List.length_filter_le _ _
  rw [List.length_range] at h1
  have:=hf.copies
  omega
 ·have hi':i < (atIdx h t).length:=by rw [← zKK]; exact hi
  have e:(atW h t).zones.getD i default=(atZ h t).getD i default:=rfl
  rw [e,zIv hi']
  have hm:=(zGw hi').1
  refine⟨?_,fun j hj=>?_⟩
  ·show(h.copies.getD _ default).sets.length≤_
   have:=hf.sets _ hm; omega
  ·have:=hf.deep _ hm j hj
   exact⟨by show((h.copies.getD _ default).sets.getD j default).data.length≤_; omega,by show((h.copies.getD _ default).sets.getD j default).sigs.length≤_; omega⟩
 ·show h.hosts.length≤_; have:=hf.hosts; omega
 ·show h.adata.length≤_; have:=hf.adata; omega
 ·show h.hints.length≤_; have:=hf.hints; omega
end Go.SL
