/- Contracts: few copies (the reference's smallness). -/
import Derived.Test.YthedjffolgeomaaGreatDoorMNplQ
import Derived.Test.YthedjffolgeomaaGreatDoorMNplO
import Derived.Test.YthedjffolgeomaaGreatDoorMNplX7
import Derived.Test.YthedjffolgeomaaGreatDoorMNplT14
import Derived.Test.YthedjffolgeomaaGreatDoorMNplX24
import Derived.Test.YthedjffolgeomaaGreatDoorMNplW8
namespace Go.SL
open Go
variable {E:Env} {H:Hp}
def zEV (ss:List zF) (i:Nat):Bool:=!(decide ((ss.getD i default).data.length > 20) || decide ((ss.getD i default).sigs.length > 20))
def zET (ss:List zF):Bool:=zO (zEV ss) (min ss.length 101) && decide (ss.length≤100)
theorem dgt (n k:Nat):decide ((n:Int) > (k:Int))=decide (n > k):=by rw [Bool.eq_iff_iff,decide_eq_true_eq,decide_eq_true_eq]; omega
theorem dle (n k:Nat):decide ((n:Int)≤(k:Int))=decide (n≤k):=by rw [Bool.eq_iff_iff,decide_eq_true_eq,decide_eq_true_eq]; omega
theorem xAX (hE : zV E) (apex : Bs) {v : Value} {ss : List zF} (hss : xL H v ss) : yD E 11 [.agg #[S apex, v]] H (.bool (zET ss)) := by
 obtain⟨d,g,⟨a,cap,rfl,hs,hr⟩,hdeep⟩:=hss
 refine Fn.of_vks hE.c11 (by simp [yGo]) ?_
 simp only [yGo,yLH,yKG,yOP,yJP,yHR,yJe,yKB]
 simp only [go_sem,Nat.reduceEqDiff,Nat.reduceBEq,reduceCtorEq]
 refine zS (min ss.length 101) 0 (fun k=>[(1,⟨true,.box [S apex,.slice a ss.length cap]⟩),(3,⟨true,.val (.int .i64 k)⟩)]) (fun k=>zO (zEV ss) k=true) (Nat.zero_le _) rfl rfl ?_
 intro k hk hP
 by_cases hlt:k < min ss.length 101
 ·have hd:(decide ((k:Int) < (ss.length:Int)) && decide ((k:Int)≤100))=true:=by rw [Bool.and_eq_true,decide_eq_true_eq,decide_eq_true_eq]; omega
  have hd':decide ((k:Int) < (ss.length:Int))=true:=by rw [decide_eq_true_eq]; omega
  have hd'':decide ((k:Int)≤100)=true:=by rw [decide_eq_true_eq]; omega
  have hlt':k < ss.length:=by omega
  have hF:zEV ss k=false→false=zET ss:=fun h=>by rw [zET,zY hlt h]; rfl
  have hr':=hr (by omega)
  obtain⟨b,o,vs,c,wr,ha,hb,hi⟩:=hr'
  subst ha
  have hi1:=(hi k hlt').1
  have hx3:=zH (hi k hlt').2 (j:=3) (by omega)
  have hx4:=zH (hi k hlt').2 (j:=4) (by omega)
  have hdk:=(hdeep k hlt').1
  have hgk:=(hdeep k hlt').2
  obtain⟨ad,cd,hde,_⟩:=hdk
  obtain⟨ag,cg,hge,_⟩:=hgk
  have hsf : zEV ss k = !(decide (((ss.getD k default).data.length : Int) > 20) || decide (((ss.getD k default).sigs.length : Int) > 20)) := by
   have e1:=dgt (ss.getD k default).data.length 20
   have e2:=dgt (ss.getD k default).sigs.length 20
   unfold zEV; rw [← e1,← e2]; rfl
  simp only [hd',hd'',hb,hx3,hx4,xA,hde,hge,go_sem,Nat.reduceEqDiff,Nat.reduceBEq,Nat.reduceAdd,zC]
  refine⟨⟨by omega,by omega⟩,by omega,fun h=>⟨h,h,by omega,by omega⟩,fun h=>⟨h,by omega⟩,fun h=>hF ?_,fun h=>⟨hlt,zQ (by omega),yJ hP ?_⟩⟩
  ·rw [hsf,h]; rfl
  ·rw [hsf,h]; rfl
 ·have hd : (decide ((k : Int) < (ss.length : Int)) && decide ((k : Int) ≤ 100)) = false := by
   rw [Bool.and_eq_false_iff,decide_eq_false_iff_not,decide_eq_false_iff_not]; omega
  have hk':k=min ss.length 101:=by omega
  simp only [hd,go_sem,Nat.reduceEqDiff,Nat.reduceBEq,Nat.reduceAdd,zC]
  have e1:=dle ss.length 100
  rw [zET,← hk',hP,Bool.true_and,← e1]; rfl
theorem yHw {ss : List zF} (h : zET ss = true) : ss.length ≤ 100 ∧ ∀ i, i < ss.length → (ss.getD i default).data.length ≤ 20 ∧ (ss.getD i default).sigs.length ≤ 20 := by
 simp only [zET,Bool.and_eq_true,decide_eq_true_eq,yH] at h
 refine⟨by omega,fun i hi=>?_⟩
 have:=h.1 i (by omega)
 simp only [zEV,Bool.not_eq_true',Bool.or_eq_false_iff,decide_eq_false_iff_not] at this
 omega
def zEn (h : yA) : Bool := zO (fun i => zET (h.copies.getD i default).sets && !decide ((h.copies.getD i default).apex.length > 100)) (min h.copies.length 21) && zO (fun i => !decide ((h.hosts.getD i default).name.length > 100)) (min h.hosts.length 71) &&
 (decide (h.copies.length≤20) && decide (h.hosts.length≤70) && decide (h.hints.length≤20) && decide (h.adata.length≤20))
set_option maxHeartbeats 1000000 in
theorem yXd (hE : zV E) (h4 : xH E) {v : Value} {w : yA} (hw : vS H v w) : yD E 191 [v] H (.bool (zEn w)) := by
 obtain⟨vh,vz,vd,vi,rfl,h1,h2,h3,h5⟩:=hw
 obtain⟨ah,ch,rfl,_,hrh⟩:=h1
 obtain⟨z,⟨a,cap,rfl,hs,hr⟩,hdeep⟩:=h2
 obtain⟨ad,cd,rfl,_⟩:=h3
 obtain⟨ai,ci,rfl,_⟩:=h5
 refine Fn.of_vks h4.c191 (by simp [zMP]) ?_
 simp only [zMP,zXJ,yBE,yBb,yEY,yDT,yBe,yAb,yBR,zVX,zRQ,zVs,zPZ]
 simp only [go_sem,Nat.reduceEqDiff,Nat.reduceBEq,reduceCtorEq]
 obtain⟨F1,hF1⟩:∃ F,F=fun i=>zET (w.copies.getD i default).sets && !decide ((w.copies.getD i default).apex.length > 100):=⟨_,rfl⟩
 obtain⟨F2,hF2⟩:∃ F,F=fun i=>!decide ((w.hosts.getD i default).name.length > 100):=⟨_,rfl⟩
 have hfw:zEn w=(zO F1 (min w.copies.length 21) && zO F2 (min w.hosts.length 71) && (decide (w.copies.length≤20) && decide (w.hosts.length≤70) && decide (w.hints.length≤20) && decide (w.adata.length≤20))):=by rw [hF1,hF2]; rfl
 refine zS (min w.copies.length 21) 0 (fun k=>[(1,⟨true,.box [.slice ah w.hosts.length ch,.slice a w.copies.length cap,S w.aname,.int .i64 w.atype,.int .i64 w.alife,.slice ad w.adata.length cd,.slice ai w.hints.length ci,.int .i64 w.drift,.int .i64 w.end_]⟩),(3,⟨true,.val (.int .i64 k)⟩)]) (fun k=>zO F1 k=true) (Nat.zero_le _) rfl rfl ?_
 intro k hk hP
 by_cases hlt:k < min w.copies.length 21
 ·have hd':decide ((k:Int) < (w.copies.length:Int))=true:=by rw [decide_eq_true_eq]; omega
  have hd'':decide ((k:Int)≤20)=true:=by rw [decide_eq_true_eq]; omega
  have hlt':k < w.copies.length:=by omega
  have hF:F1 k=false→false=zEn w:=fun h=>by rw [hfw,zY hlt h]; rfl
  have hr':=hr (by omega)
  obtain⟨b,o,vs,c,wr,ha,hb,hi⟩:=hr'
  subst ha
  have hi1:=(hi k hlt').1
  have hx:=qF (hi k hlt').2 3 2 (by omega)
  have hx1:=zH (hi k hlt').2 (j:=3) (by omega)
  simp only [hd',hd'',hb,hx,zAf,go_sem,Nat.reduceLeDiff,Nat.reduceEqDiff,Nat.reduceBEq,Nat.reduceAdd,zC]
  refine⟨⟨by omega,by omega⟩,by omega,?_⟩
  refine zE _ ?_ (fun _=>⟨?_,xAX hE (w.copies.getD k default).apex (hdeep k hlt')⟩) ?_<;>simp only [hb,hx1,zAf,go_sem,Nat.reduceLeDiff,Nat.reduceEqDiff,Nat.reduceBEq,Nat.reduceAdd,zC]
  have hFk : F1 k = !(!zET (w.copies.getD k default).sets || decide (((w.copies.getD k default).apex.length : Int) > 100)) := by
   have e1:=dgt (w.copies.getD k default).apex.length 100
   rw [hF1,Bool.not_or,Bool.not_not]
   show(zET _ && !decide _)=_
   rw [← e1]; rfl
  refine⟨fun h=>⟨h,h,by omega,by omega⟩,fun h=>⟨h,by omega⟩,fun h=>hF ?_,fun h=>⟨hlt,zQ (by omega),yJ hP ?_⟩⟩
  ·rw [hFk,h]; rfl
  ·rw [hFk,h]; rfl
 ·have hd : (decide ((k : Int) < (w.copies.length : Int)) && decide ((k : Int) ≤ 20)) = false := by
   rw [Bool.and_eq_false_iff,decide_eq_false_iff_not,decide_eq_false_iff_not]; omega
  have hk':k=min w.copies.length 21:=by omega
  rw [← hk',hP,Bool.true_and] at hfw
  simp only [hd,go_sem,Nat.reduceLeDiff,Nat.reduceEqDiff,Nat.reduceBEq,Nat.reduceAdd,zC]
  refine zS (min w.hosts.length 71) 0 (fun k=>[(1,⟨true,.box [.slice ah w.hosts.length ch,.slice a w.copies.length cap,S w.aname,.int .i64 w.atype,.int .i64 w.alife,.slice ad w.adata.length cd,.slice ai w.hints.length ci,.int .i64 w.drift,.int .i64 w.end_]⟩),(4,⟨true,.val (.int .i64 k)⟩)]) (fun k=>zO F2 k=true) (Nat.zero_le _) rfl rfl ?_
  intro k hk hP2
  by_cases hlt:k < min w.hosts.length 71
  ·have hd':decide ((k:Int) < (w.hosts.length:Int))=true:=by rw [decide_eq_true_eq]; omega
   have hd'':decide ((k:Int)≤70)=true:=by rw [decide_eq_true_eq]; omega
   have hlt':k < w.hosts.length:=by omega
   have hF:F2 k=false→false=zEn w:=fun h=>by rw [hfw,zY hlt h]; rfl
   have hr':=hrh (by omega)
   obtain⟨b,o,vs,c,wr,ha,hb,hi⟩:=hr'
   subst ha
   have hi1:=(hi k hlt').1
   have hx:=zH (hi k hlt').2 (j:=0) (by omega)
   simp only [Nat.add_zero] at hx
   have hFk : F2 k = !decide (((w.hosts.getD k default).name.length : Int) > 100) := by
    have e1:=dgt (w.hosts.getD k default).name.length 100
    rw [hF2]
    show(!decide _)=_
    rw [← e1]; rfl
   simp only [hd',hd'',hb,hx,zBD,go_sem,Nat.reduceLeDiff,Nat.reduceEqDiff,Nat.reduceBEq,Nat.reduceAdd,zC]
   refine⟨⟨by omega,by omega⟩,by omega,fun h=>hF ?_,fun h=>⟨hlt,zQ (by omega),yJ hP2 ?_⟩⟩
   ·rw [hFk,h]; rfl
   ·rw [hFk,h]; rfl
  ·have hd : (decide ((k : Int) < (w.hosts.length : Int)) && decide ((k : Int) ≤ 70)) = false := by
    rw [Bool.and_eq_false_iff,decide_eq_false_iff_not,decide_eq_false_iff_not]; omega
   have hk2:k=min w.hosts.length 71:=by omega
   rw [← hk2,hP2,Bool.true_and] at hfw
   simp only [hd,go_sem,Nat.reduceLeDiff,Nat.reduceEqDiff,Nat.reduceBEq,Nat.reduceAdd,zC]
   have e1:=dle w.copies.length 20
   have e2:=dle w.hosts.length 70
   have e3:=dle w.hints.length 20
   have e4:=dle w.adata.length 20
   rw [hfw,← e1,← e2,← e3,← e4]; rfl
def zHz (h:yA):Bool:=zO (fun i=>!decide ((h.copies.getD i default).sets.length > 30)) (min h.copies.length 8) && (zEn h && decide (h.copies.length≤8))
set_option maxHeartbeats 1000000 in
theorem yWD (hE : zV E) (h4 : xH E) {v : Value} {w : yA} (hw : vS H v w) : yD E 184 [v] H (.bool (zHz w)) := by
 have hf:=yXd hE h4 hw
 obtain⟨vh,vz,vd,vi,rfl,h1,h2,h3,h5⟩:=hw
 obtain⟨ah,ch,rfl,_,hrh⟩:=h1
 obtain⟨z,⟨a,cap,rfl,hs,hr⟩,hdeep⟩:=h2
 obtain⟨ad,cd,rfl,_⟩:=h3
 obtain⟨ai,ci,rfl,_⟩:=h5
 refine Fn.of_vks h4.c184 (by simp [zMR]) ?_
 simp only [zMR,zYx,zZI,zWx,yAB,zUW,zZB,zWR]
 simp only [go_sem,Nat.reduceEqDiff,Nat.reduceBEq,reduceCtorEq]
 obtain⟨F1,hF1⟩:∃ F,F=fun i=>!decide ((w.copies.getD i default).sets.length > 30):=⟨_,rfl⟩
 have hfw:zHz w=(zO F1 (min w.copies.length 8) && (zEn w && decide (w.copies.length≤8))):=by rw [hF1]; rfl
 refine zS (min w.copies.length 8) 0 (fun k=>[(1,⟨true,.box [.slice ah w.hosts.length ch,.slice a w.copies.length cap,S w.aname,.int .i64 w.atype,.int .i64 w.alife,.slice ad w.adata.length cd,.slice ai w.hints.length ci,.int .i64 w.drift,.int .i64 w.end_]⟩),(3,⟨true,.val (.int .i64 k)⟩)]) (fun k=>zO F1 k=true) (Nat.zero_le _) rfl rfl ?_
 intro k hk hP
 by_cases hlt:k < min w.copies.length 8
 ·have hd':decide ((k:Int) < (w.copies.length:Int))=true:=by rw [decide_eq_true_eq]; omega
  have hd'':decide ((k:Int) < 8)=true:=by rw [decide_eq_true_eq]; omega
  have hlt':k < w.copies.length:=by omega
  have hF:F1 k=false→false=zHz w:=fun h=>by rw [hfw,zY hlt h]; rfl
  obtain⟨b,o,vs,c,wr,ha,hb,hi⟩:=hr (by omega)
  subst ha
  have hi1:=(hi k hlt').1
  have hx:=zH (hi k hlt').2 (j:=4) (by omega)
  obtain⟨az,cz,hze⟩:∃ a c,z k = .slice a (w.copies.getD k default).sets.length c:=by obtain⟨d,g,h,_⟩:=hdeep k hlt'; exact h.sl
  have hFk : F1 k = !decide (((w.copies.getD k default).sets.length : Int) > 30) := by
   have e1:=dgt (w.copies.getD k default).sets.length 30
   rw [hF1]
   show(!decide _)=_
   rw [← e1]; rfl
  simp only [zAf,hze,List.getD_cons_zero,List.getD_cons_succ] at hx
  simp only [hd',hd'',hb,hx,go_sem,Nat.reduceLeDiff,Nat.reduceEqDiff,Nat.reduceBEq,Nat.reduceAdd,zC]
  refine⟨⟨by omega,by omega⟩,by omega,fun h=>hF ?_,fun h=>⟨hlt,zQ (by omega),yJ hP ?_⟩⟩
  ·rw [hFk,h]; rfl
  ·rw [hFk,h]; rfl
 ·have hd : (decide ((k : Int) < (w.copies.length : Int)) && decide ((k : Int) < 8)) = false := by
   rw [Bool.and_eq_false_iff,decide_eq_false_iff_not,decide_eq_false_iff_not]; omega
  have hk':k=min w.copies.length 8:=by omega
  rw [← hk',hP,Bool.true_and] at hfw
  simp only [hd,go_sem,Nat.reduceLeDiff,Nat.reduceEqDiff,Nat.reduceBEq,Nat.reduceAdd,zC]
  refine zE _ (by simp only [go_sem]) (fun _=>⟨by simp only [go_sem,Nat.reduceEqDiff],hf⟩) ?_
  have e1:=dle w.copies.length 8
  cases hq:zEn w
  ·simp only [hq,hfw,↓yB,go_sem,Nat.reduceLeDiff,Nat.reduceEqDiff,Nat.reduceBEq,Nat.reduceAdd,zC]
  ·rw [hq,Bool.true_and] at hfw
   simp only [hfw,go_sem,Nat.reduceLeDiff,Nat.reduceEqDiff,Nat.reduceBEq,Nat.reduceAdd,zC]
   rw [← e1]; rfl
structure yRo (h : yA) : Prop where
 copies:h.copies.length≤8
 hosts:h.hosts.length≤70
 hints:h.hints.length≤20
 adata:h.adata.length≤20
 sets:∀ i,i < h.copies.length→(h.copies.getD i default).sets.length≤30
 deep:∀ i,i < h.copies.length→∀ j,j < (h.copies.getD i default).sets.length→((h.copies.getD i default).sets.getD j default).data.length≤20∧((h.copies.getD i default).sets.getD j default).sigs.length≤20
theorem yQo {h : yA} (hf : zHz h = true) : yRo h := by
 simp only [zHz,zEn,Bool.and_eq_true,decide_eq_true_eq,yH] at hf
 obtain⟨h1,h2,h3⟩:=hf
 refine⟨h3,by omega,by omega,by omega,fun i hi=>?_,fun i hi=>?_⟩
 ·have:=h1 i (by omega)
  simp only [Bool.not_eq_true',decide_eq_false_iff_not] at this
  omega
 ·exact(yHw (h2.1.1 i (by omega)).1).2
end Go.SL
/- Contracts: the reference's valid histories. -/
namespace Go.SL
open Go
variable {E:Env} {H:Hp}
def cD (h:yA) (k:Nat):yE:=h.copies.getD k default
def zGa (h:yA) (c:yE):Bool:=decide (c.host < 0) || decide (c.host≥(h.hosts.length:Int)) || decide (c.from_ < 0) || decide (c.from_≥c.till) || decide (c.till > h.end_) || !zFS c.apex c.sets
def zGN (c d:yE):Bool:=d.host == c.host && d.apex == c.apex && decide (d.from_ < c.till) && decide (c.from_ < d.till)
def zIR (h:yA) (k j:Nat):Bool:=!zGN (cD h k) (cD h j)
def zFH (h:yA) (k:Nat):Bool:=!zGa h (cD h k) && zO (zIR h k) k
def zIH (h:yA):Bool:=!zFt h.hosts || !zFi h.aname h.atype h.alife h.adata h.hints || decide (h.end_ < 1) || decide (h.end_ > 10000000) || decide (h.drift < 0) || decide (h.drift > 1000) || decide ((h.copies.length:Int) > 4000)
def zHk (h:yA):Bool:=!zIH h && (zO (zFH h) h.copies.length && decide (((zBn h.copies h.copies.length).length:Int)≤500))
theorem yPC {h : yA} {n : Nat} (_hn : n ≤ h.copies.length) (ha : zO (zFH h) n = true) : ∀ i, i < n → (cD h i).apex.length ≤ 1000000 := by
 intro i hi
 have h1:=yH.1 ha i hi
 unfold zFH at h1
 rw [Bool.and_eq_true,Bool.not_eq_true'] at h1
 have h2:=h1.1
 unfold zGa at h2
 rw [Bool.or_eq_false_iff,Bool.not_eq_false'] at h2
 exact yGK h2.2
set_option maxRecDepth 4000 in
set_option maxHeartbeats 4000000 in
theorem yYm (h4 : xH E) {v : Value} {w : yA} (hw : vS H v w) (hh : w.hints.length ≤ 1000000000) : yD E 185 [v] H (.bool (zHk w)) := by
 obtain⟨vh,vz,vd,vi,rfl,g1,g2,g3,g5⟩:=hw
 have f1:=yZB h4 w.hosts g1
 have f2:=yWV h4 w.aname w.atype w.alife w.adata g3 g5 hh
 have f3:=fun(ha:w.copies.length≤1000000) (hb:∀ c∈w.copies,c.apex.length≤1000000)=>yYY h4 g2 ha hb
 have o1:=zG.one g1
 have o3:=zG.one g3
 have o5:=zG.one g5
 obtain⟨ah,ch,rfl⟩:=zG.sl g1
 obtain⟨ad,cd,rfl⟩:=zG.sl g3
 obtain⟨ai,ci,rfl⟩:=zG.sl g5
 obtain⟨z,⟨a,cap,rfl,hs,hr⟩,hdeep⟩:=g2
 refine Fn.of_vks h4.c185 (by simp [zMU]) ?_
 simp only [zMU,zYI,zUo,zUU,zZx,zSA,yAK,yDk,yCB,zXr,zQX,zQG,zQs,zQY,zWi,zQF]
 obtain⟨q0,hq0⟩:∃ y,y=zHk w:=⟨_,rfl⟩
 rw [← hq0]
 unfold zHk at hq0
 obtain⟨q1,hq1⟩:∃ y,y=zIH w:=⟨_,rfl⟩
 have hq1':=hq1
 unfold zIH at hq1'
 simp only [go_sem,Nat.reduceLeDiff,Nat.reduceEqDiff,Nat.reduceBEq,Nat.reduceAdd,reduceCtorEq]
 refine zE _ (by simp only [go_sem]) (fun _=>⟨by simp only [go_sem,Nat.reduceEqDiff],f1⟩) ?_
 simp only [go_sem,Nat.reduceLeDiff,Nat.reduceEqDiff,Nat.reduceBEq,Nat.reduceAdd]
 refine zE _ (by simp only [go_sem,Nat.reduceEqDiff]) (fun hg=>⟨by simp only [go_sem,Nat.reduceEqDiff] at hg ⊢; exact⟨hg,hg⟩,f2⟩) ?_
 simp only [← hq1',go_sem,Nat.reduceLeDiff,Nat.reduceEqDiff,Nat.reduceBEq,Nat.reduceAdd,zC]
 refine⟨fun h=>by rw [hq0,← hq1,h]; rfl,fun h=>?_⟩
 rw [← hq1,h,Bool.not_false,Bool.true_and] at hq0
 have hm : w.copies.length ≤ 4000 := by
  rw [h] at hq1'
  have:=hq1'.symm
  simp only [Bool.or_eq_false_iff,decide_eq_false_iff_not] at this
  omega
 refine zS w.copies.length 0 (fun k=>[(1,⟨true,.box [.slice ah w.hosts.length ch,.slice a w.copies.length cap,S w.aname,.int .i64 w.atype,.int .i64 w.alife,.slice ad w.adata.length cd,.slice ai w.hints.length ci,.int .i64 w.drift,.int .i64 w.end_]⟩),(3,⟨true,.val (.int .i64 k)⟩)]) (fun k=>zO (zFH w) k=true) (Nat.zero_le _) rfl rfl ?_
 intro k hk hP
 by_cases hlt:k < w.copies.length
 ·have hdl:decide ((k:Int) < (w.copies.length:Int))=true:=by simpa using hlt
  obtain⟨b,o,vs,c,wr,ha,hb,hi⟩:=hr (by omega)
  subst ha
  have hi1:=(hi k hlt).1
  have hi2:=(hi k hlt).2
  have hzk:=hdeep k hlt
  have hz1:yW (z k)=true:=by obtain⟨d,g,h,_⟩:=hzk; exact zG.one h
  have hat:zFH w k=(!zGa w (cD w k) && zO (zIR w k) k):=rfl
  obtain⟨x,hx⟩:∃ x,x=cD w k:=⟨_,rfl⟩
  have hx':w.copies.getD k default=x:=hx.symm
  rw [← hx] at hat
  rw [hx'] at hzk
  simp only [zAf,hx'] at hi2
  obtain⟨q2,hq2⟩:∃ y,y=zGa w x:=⟨_,rfl⟩
  have hq2':=hq2
  unfold zGa at hq2'
  rw [← hq2] at hat
  simp only [hdl,hb,hi2,hz1,go_sem,Nat.reduceLeDiff,Nat.reduceEqDiff,Nat.reduceBEq,Nat.reduceAdd,zC]
  refine⟨⟨by omega,by omega⟩,hi1,fun h=>⟨h,h⟩,fun h=>⟨h,h⟩,fun h=>⟨h,h⟩,?_⟩
  refine zE _ (by simp only [go_sem,Nat.reduceEqDiff]) (fun hg=>⟨by simp only [go_sem,Nat.reduceEqDiff] at hg ⊢; exact hg,yWP h4 x.apex hzk⟩) ?_
  simp only [← hq2',go_sem,Nat.reduceEqDiff,Nat.reduceBEq]
  refine⟨fun h1=>by rw [hq0]; have:zO (zFH w) w.copies.length=false:=zY hlt (by rw [hat,h1]; rfl); rw [this]; rfl,fun h1=>?_⟩
  rw [h1,Bool.not_false,Bool.true_and] at hat
  refine zS k 0 (fun j=>[(1,⟨true,.box [.slice ah w.hosts.length ch,.slice (some ⟨b,o,none⟩) w.copies.length cap,S w.aname,.int .i64 w.atype,.int .i64 w.alife,.slice ad w.adata.length cd,.slice ai w.hints.length ci,.int .i64 w.drift,.int .i64 w.end_]⟩),(3,⟨true,.val (.int .i64 k)⟩),(4,⟨true,.box [.int .i64 x.host,.int .i64 x.from_,.int .i64 x.till,S x.apex,z k]⟩),(5,⟨true,.val (.int .i64 j)⟩)]) (fun j=>zO (zIR w k) j=true) (Nat.zero_le _) rfl rfl ?_
  intro j hj hPj
  by_cases hlj:j < k
  ·have hdj:decide ((j:Int) < (k:Int))=true:=by simpa using hlj
   have hj1:=(hi j (by omega)).1
   have hj2:=(hi j (by omega)).2
   have hz2:yW (z j)=true:=by obtain⟨d,g,h,_⟩:=hdeep j (by omega); exact zG.one h
   have hnw:zIR w k j = !zGN x (cD w j):=by rw [hx]; rfl
   obtain⟨d,hd⟩:∃ d,d=cD w j:=⟨_,rfl⟩
   have hd':w.copies.getD j default=d:=hd.symm
   rw [← hd] at hnw
   simp only [zAf,hd'] at hj2
   have hc1:zGN x d=(d.host == x.host && d.apex == x.apex && decide (d.from_ < x.till) && decide (x.from_ < d.till)):=rfl
   have hjs:IntKind.i64.wrap ((j:Int) + 1)=((j + 1:Nat):Int):=zQ (by omega)
   simp only [hdj,hb,hj2,hz2,go_sem,Nat.reduceLeDiff,Nat.reduceEqDiff,Nat.reduceBEq,Nat.reduceAdd,reduceCtorEq,zC]
   refine⟨⟨by omega,by omega⟩,hj1,?_⟩
   simp only [zRd,← hc1,go_sem,Nat.reduceLeDiff,Nat.reduceEqDiff,Nat.reduceBEq,Nat.reduceAdd,zC]
   refine⟨fun h=>⟨h,h⟩,fun h=>⟨h,h⟩,fun h=>⟨h,h⟩,fun h=>?_,fun h=>⟨hlj,hjs,yJ hPj (by rw [hnw,h]; rfl)⟩⟩
   have:zO (zFH w) w.copies.length=false:=zY hlt (by rw [hat]; exact zY hlj (by rw [hnw,h]; rfl))
   rw [hq0,this]; rfl
  ·have hdj:decide ((j:Int) < (k:Int))=false:=by simpa using hlj
   have:j=k:=by omega
   subst this
   have ht:zO (zFH w) (j + 1)=true:=yJ hP (by rw [hat]; exact hPj)
   simp only [hdj,ht,go_sem,Nat.reduceLeDiff,Nat.reduceEqDiff,Nat.reduceBEq,Nat.reduceAdd,reduceCtorEq,zC]
   exact⟨hlt,zQ (by omega)⟩
 ·have hdl:decide ((k:Int) < (w.copies.length:Int))=false:=by simpa using hlt
  have:k=w.copies.length:=by omega
  subst this
  rw [hP,Bool.true_and] at hq0
  simp only [hdl,go_sem,Nat.reduceLeDiff,Nat.reduceEqDiff,Nat.reduceBEq,Nat.reduceAdd,zC]
  refine zP ?_ (f3 (by omega) ?_) ?_
  ·simp only [go_sem,Nat.reduceEqDiff]
  ·intro c hc
   obtain⟨i,hi,he⟩:=List.mem_iff_getElem.1 hc
   have:=yPC (Nat.le_refl _) hP i hi
   unfold cD at this
   rw [List.getD_eq_getElem?_getD,List.getElem?_eq_getElem hi,he] at this
   exact this
  rintro u H' ⟨ob,hO,hle,_⟩
  obtain⟨au,cu,rfl⟩:=hO.sl
  simp only [hq0,go_sem,Nat.reduceEqDiff,Nat.reduceBEq,zC]
  exact hle
end Go.SL
/- Plain law: a history that the reference calls valid is valid. -/
namespace Go.SL
open Go
theorem zKn {s : Bs} (hv : zK s = true) : jJ s = zCy s := by
 unfold jJ zCy
 rw [hv,Bool.true_and,zAL,List.reverse_reverse]
 cases xM s with
 | nil=>rfl
 | cons x r=>simp
theorem zJa {κ : Type} [DecidableEq κ] (f : Nat → κ) (x : κ) : ∀ k, (yK x (jU f k)).getD false = true ↔ ∃ i, i < k ∧ f i = x
 | 0=>by simp [jU,yK]
 | k + 1 => by
  have ih:=zJa f x k
  simp only [jU]
  rw [zAq]
  by_cases e:x=f k
  ·rw [if_pos e]
   simp only [Option.getD_some,true_iff]
   exact⟨k,by omega,e.symm⟩
  ·rw [if_neg e,ih]
   constructor
   ·rintro⟨i,hi,h⟩; exact⟨i,by omega,h⟩
   ·rintro⟨i,hi,h⟩
    by_cases e2:i=k
    ·subst e2; exact absurd h.symm e
    ·exact⟨i,by omega,h⟩
theorem zRS {hs : List uP} (h : zFt hs = true) : jN hs = true := by
 unfold zFt at h
 rw [Bool.and_eq_true,yH] at h
 unfold jN
 rw [Bool.and_eq_true,yH]
 refine⟨h.1,fun i hi=>?_⟩
 have hi':=h.2 i hi
 unfold zGE at hi'
 rw [Bool.and_eq_true,Bool.not_eq_true',yH] at hi'
 obtain⟨hb,hn⟩:=hi'
 unfold zEU at hb
 simp only [Bool.or_eq_false_iff,Bool.not_eq_false',decide_eq_false_iff_not] at hb
 obtain⟨⟨⟨⟨⟨b1,b2⟩,b3⟩,b4⟩,b5⟩,b6⟩:=hb
 rw [zBh] at b1
 unfold zBN
 show(!(!zK (hD hs i).name || jJ (hD hs i).name || decide ((hD hs i).owner < 0) || decide ((hD hs i).owner≥32)) && !(!kW (hD hs i).addr || (yK (hD hs i).addr (jX hs i)).getD false))=true
 rw [zKn b1,b1,b2]
 have a1:kW (hD hs i).addr=true:=by unfold kW; simp; omega
 have a2 : (yK (hD hs i).addr (jX hs i)).getD false = false := by
  cases hm:(yK (hD hs i).addr (jX hs i)).getD false
  ·rfl
  ·unfold jX at hm
   obtain⟨j,hj,e⟩:=(zJa _ _ _).1 hm
   have:=hn j hj
   unfold zDw at this
   rw [Bool.not_eq_true',beq_eq_false_iff_ne] at this
   exact absurd e this
 rw [a1,a2]
 simp; omega
theorem yFv {n : Bs} {t l : Int} {ds : List xN} {hints : List Int} (h : zFi n t l ds hints = true) : zBz n t l ds hints = true := by
 unfold zFi at h
 simp only [Bool.and_eq_true,yH,decide_eq_true_eq] at h
 obtain⟨h1,⟨⟨⟨h2,h3⟩,h4⟩,h5⟩,h6⟩:=h
 unfold zBz
 simp only [Bool.and_eq_true,yH,decide_eq_true_eq]
 refine⟨⟨⟨⟨⟨zIE h2,h3⟩,h4⟩,by omega⟩,by omega⟩,fun i hi=>?_⟩
 have:=h1 i hi
 unfold zGZ at this
 unfold kW
 simp at this ⊢
 omega
theorem zKQ {α : Type} [DecidableEq α] : ∀ {l m : List α}, l.Nodup → (∀ x ∈ l, x ∈ m) → l.length ≤ m.length
 | [],_,_,_=>Nat.zero_le _
 | x :: l, m, hn, h => by
  rw [List.nodup_cons] at hn
  have hx:=h x (List.mem_cons_self ..)
  have := zKQ (l := l) (m := m.erase x) hn.2 (fun y hy => by
   have hne:y≠x:=by rintro rfl; exact hn.1 hy
   exact(List.mem_erase_of_ne hne).2 (h y (List.mem_cons_of_mem _ hy)))
  rw [List.length_erase_of_mem hx] at this
  have hpos:0 < m.length:=List.length_pos_of_mem hx
  rw [List.length_cons]; omega
theorem zNY (L : List Bs) (a : Bs) : a ∈ zDH L a ∧ ∀ x ∈ L, x ∈ zDH L a := by
 unfold zDH
 split
 ·rename_i h
  rw [Bool.and_eq_true,decide_eq_true_eq,beq_iff_eq] at h
  refine⟨?_,fun x hx=>hx⟩
  have:L.getD (qO L a L.length 0) []∈L:=zBs h.1
  rw [h.2] at this; exact this
 ·refine⟨List.mem_append_right _ (List.mem_cons_self ..),fun x hx=>?_⟩
  have:x∈L.take (qO L a L.length 0) ++ L.drop (qO L a L.length 0):=by rw [List.take_append_drop]; exact hx
  rcases List.mem_append.1 this with h | h
  ·exact List.mem_append_left _ h
  ·exact List.mem_append_right _ (List.mem_cons_of_mem _ h)
theorem zPC (cs : List yE) : ∀ k i, i < k → (cs.getD i default).apex ∈ zBn cs k
 | 0,i,h=>by omega
 | k + 1, i, h => by
  show _∈zDH (zBn cs k) (cs.getD k default).apex
  by_cases e:i=k
  ·subst e; exact(zNY _ _).1
  ·exact(zNY _ _).2 _ (zPC cs k i (by omega))
theorem zHN {κ : Type} [DecidableEq κ] (f : Nat → κ) : ∀ k, ((jU f k).map (·.1)).Nodup
 | 0=>List.nodup_nil
 | k + 1=>zDk (zHN f k)
theorem zRV {h : yA} (hr : zHk h = true) : yO h = true := by
 unfold zHk at hr
 rw [Bool.and_eq_true,Bool.and_eq_true,Bool.not_eq_true',yH,decide_eq_true_eq] at hr
 obtain⟨hh,hc,ha⟩:=hr
 unfold zIH at hh
 simp only [Bool.or_eq_false_iff,Bool.not_eq_false',decide_eq_false_iff_not] at hh
 obtain⟨⟨⟨⟨⟨⟨g1,g2⟩,g3⟩,g4⟩,g5⟩,g6⟩,g7⟩:=hh
 have hcopy : ∀ i, i < h.copies.length → zGa h (cD h i) = false ∧ ∀ j, j < i → zGN (cD h i) (cD h j) = false := by
  intro i hi
  have:=hc i hi
  unfold zFH at this
  rw [Bool.and_eq_true,Bool.not_eq_true',yH] at this
  refine⟨this.1,fun j hj=>?_⟩
  have:=this.2 j hj
  unfold zIR at this
  rw [Bool.not_eq_true'] at this; exact this
 have hok : ∀ i, i < h.copies.length → 0 ≤ (cD h i).host ∧ (cD h i).host < (h.hosts.length : Int) ∧ 0 ≤ (cD h i).from_ ∧ (cD h i).from_ < (cD h i).till ∧ (cD h i).till ≤ h.end_ ∧ xG (cD h i).apex (cD h i).sets = true := by
  intro i hi
  have:=(hcopy i hi).1
  unfold zGa at this
  simp only [Bool.or_eq_false_iff,Bool.not_eq_false',decide_eq_false_iff_not] at this
  obtain⟨⟨⟨⟨⟨b1,b2⟩,b3⟩,b4⟩,b5⟩,b6⟩:=this
  exact⟨by omega,by omega,by omega,by omega,by omega,yUw b6⟩
 rw [qQ]
 refine⟨by omega,by omega,by omega,by omega,by omega,?_,?_,?_,?_⟩
 ·unfold zAG zBr
  rw [zRS g1,yFv g2]
  rfl
 ·intro c hcm
  obtain⟨i,hi,rfl⟩:=List.getElem_of_mem hcm
  have:=hok i hi
  unfold cD at this
  rw [List.getD_eq_getElem?_getD,List.getElem?_eq_getElem hi] at this
  exact this
 ·unfold zHi
  rw [List.pairwise_iff_getElem]
  intro i j hi hj hij he
  have e1:cD h i=h.copies[i]:=by unfold cD; rw [List.getD_eq_getElem?_getD,List.getElem?_eq_getElem hi]; rfl
  have e2:cD h j=h.copies[j]:=by unfold cD; rw [List.getD_eq_getElem?_getD,List.getElem?_eq_getElem hj]; rfl
  have:=(hcopy j hj).2 i hij
  unfold zGN at this
  rw [e1,e2] at this
  have he1:h.copies[i].host=h.copies[j].host:=congrArg Prod.fst he
  have he2:h.copies[i].apex=h.copies[j].apex:=congrArg Prod.snd he
  rw [he1,he2] at this
  simp at this
  show zBR (xX h.copies[i]) (xX h.copies[j])
  unfold zBR xX
  simp only
  omega
 ·refine Nat.le_trans ?_ (Int.ofNat_le.1 ha)
  have hn:=zKQ (l:=(xK h.copies h.copies.length).map (·.1)) (m:=zBn h.copies h.copies.length) ?_ ?_
  ·rw [List.length_map] at hn; exact hn
  ·exact zHN _ h.copies.length
  ·intro x hx
   obtain⟨i,hi,rfl⟩:=(zEH h.copies x _).1 hx
   exact zPC _ _ _ hi
end Go.SL
