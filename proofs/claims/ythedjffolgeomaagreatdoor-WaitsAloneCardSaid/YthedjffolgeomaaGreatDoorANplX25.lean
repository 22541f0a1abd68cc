/- Contracts: few copies (the reference's smallness). -/
import Derived.Test.YthedjffolgeomaaGreatDoorANplQ
import Derived.Test.YthedjffolgeomaaGreatDoorANplO
import Derived.Test.YthedjffolgeomaaGreatDoorANplX7
import Derived.Test.YthedjffolgeomaaGreatDoorANplT28
import Derived.Test.YthedjffolgeomaaGreatDoorANplX24
import Derived.Test.YthedjffolgeomaaGreatDoorANplW8
namespace Go.SL
open Go
variable {E:Env} {H:Hp}
def zER (ss:List zF) (i:Nat):Bool:=!(decide ((ss.getD i default).data.length > 20) || decide ((ss.getD i default).sigs.length > 20))
def zEv (ss:List zF):Bool:=zP (zER ss) (min ss.length 101) && decide (ss.length≤100)
theorem dgt (n k:Nat):decide ((n:Int) > (k:Int))=decide (n > k):=by rw [Bool.eq_iff_iff,decide_eq_true_eq,decide_eq_true_eq]; omega
theorem dle (n k:Nat):decide ((n:Int)≤(k:Int))=decide (n≤k):=by rw [Bool.eq_iff_iff,decide_eq_true_eq,decide_eq_true_eq]; omega
theorem xCw (hE : zX E) (apex : Bs) {v : Value} {ss : List zF} (hss : xT H v ss) : yB E 11 [.agg #[S apex, v]] H (.bool (zEv ss)) := by
 obtain⟨d,g,⟨a,cap,rfl,hs,hr⟩,hdeep⟩:=hss
 refine Fn.of_vks hE.c11 (by simp [yHR]) ?_
 simp only [yHR,yQs,yMU,yNH,yJn,yNx,yNn,yNw]
 simp only [go_sem,Nat.reduceEqDiff,Nat.reduceBEq,reduceCtorEq]
 refine zT (min ss.length 101) 0 (fun k=>[(1,⟨true,.box [S apex,.slice a ss.length cap]⟩),(3,⟨true,.val (.int .i64 k)⟩)]) (fun k=>zP (zER ss) k=true) (Nat.zero_le _) rfl rfl ?_
 intro k hk hP
 by_cases hlt:k < min ss.length 101
 ·have hd:(decide ((k:Int) < (ss.length:Int)) && decide ((k:Int)≤100))=true:=by rw [Bool.and_eq_true,decide_eq_true_eq,decide_eq_true_eq]; omega
  have hd':decide ((k:Int) < (ss.length:Int))=true:=by rw [decide_eq_true_eq]; omega
  have hd'':decide ((k:Int)≤100)=true:=by rw [decide_eq_true_eq]; omega
  have hlt':k < ss.length:=by omega
  have hF:zER ss k=false→false=zEv ss:=fun h=>by rw [zEv,zY hlt h]; rfl
  have hr':=hr (by omega)
  obtain⟨b,o,vs,c,wr,ha,hb,hi⟩:=hr'
  subst ha
  have hi1:=(hi k hlt').1
  have hx3:=zK (hi k hlt').2 (j:=3) (by omega)
  have hx4:=zK (hi k hlt').2 (j:=4) (by omega)
  have hdk:=(hdeep k hlt').1
  have hgk:=(hdeep k hlt').2
  obtain⟨ad,cd,hde,_⟩:=hdk
  obtain⟨ag,cg,hge,_⟩:=hgk
  have hsf : zER ss k = !(decide (((ss.getD k default).data.length : Int) > 20) || decide (((ss.getD k default).sigs.length : Int) > 20)) := by
   have e1:=dgt (ss.getD k default).data.length 20
   have e2:=dgt (ss.getD k default).sigs.length 20
   unfold zER; rw [← e1,← e2]; rfl
  simp only [hd',hd'',hb,hx3,hx4,xD,hde,hge,go_sem,Nat.reduceEqDiff,Nat.reduceBEq,Nat.reduceAdd,zC]
  refine⟨⟨by omega,by omega⟩,by omega,fun h=>⟨h,h,by omega,by omega⟩,fun h=>⟨h,by omega⟩,fun h=>hF ?_,fun h=>⟨hlt,zR (by omega),yJ hP ?_⟩⟩
  ·rw [hsf,h]; rfl
  ·rw [hsf,h]; rfl
 ·have hd : (decide ((k : Int) < (ss.length : Int)) && decide ((k : Int) ≤ 100)) = false := by
   rw [Bool.and_eq_false_iff,decide_eq_false_iff_not,decide_eq_false_iff_not]; omega
  have hk':k=min ss.length 101:=by omega
  simp only [hd,go_sem,Nat.reduceEqDiff,Nat.reduceBEq,Nat.reduceAdd,zC]
  have e1:=dle ss.length 100
  rw [zEv,← hk',hP,Bool.true_and,← e1]; rfl
theorem yMp {ss : List zF} (h : zEv ss = true) : ss.length ≤ 100 ∧ ∀ i, i < ss.length → (ss.getD i default).data.length ≤ 20 ∧ (ss.getD i default).sigs.length ≤ 20 := by
 simp only [zEv,Bool.and_eq_true,decide_eq_true_eq,yG] at h
 refine⟨by omega,fun i hi=>?_⟩
 have:=h.1 i (by omega)
 simp only [zER,Bool.not_eq_true',Bool.or_eq_false_iff,decide_eq_false_iff_not] at this
 omega
def zEr (h : yO) : Bool := zP (fun i => zEv (h.copies.getD i default).sets && !decide ((h.copies.getD i default).apex.length > 100)) (min h.copies.length 21) && zP (fun i => !decide ((h.hosts.getD i default).name.length > 100)) (min h.hosts.length 71) &&
 (decide (h.copies.length≤20) && decide (h.hosts.length≤70) && decide (h.hints.length≤20) && decide (h.adata.length≤20))
set_option maxHeartbeats 1000000 in
theorem yZr (hE : zX E) (h4 : xH E) {v : Value} {w : yO} (hw : vV H v w) : yB E 191 [v] H (.bool (zEr w)) := by
 obtain⟨vh,vz,vd,vi,rfl,h1,h2,h3,h5⟩:=hw
 obtain⟨ah,ch,rfl,_,hrh⟩:=h1
 obtain⟨z,⟨a,cap,rfl,hs,hr⟩,hdeep⟩:=h2
 obtain⟨ad,cd,rfl,_⟩:=h3
 obtain⟨ai,ci,rfl,_⟩:=h5
 refine Fn.of_vks h4.c191 (by simp [zLF]) ?_
 simp only [zLF,zZs,yBi,zXV,zVW,zYR,zTY,zXv,zXF,zYY,zPC,zUj,zOi]
 simp only [go_sem,Nat.reduceEqDiff,Nat.reduceBEq,reduceCtorEq]
 obtain⟨F1,hF1⟩:∃ F,F=fun i=>zEv (w.copies.getD i default).sets && !decide ((w.copies.getD i default).apex.length > 100):=⟨_,rfl⟩
 obtain⟨F2,hF2⟩:∃ F,F=fun i=>!decide ((w.hosts.getD i default).name.length > 100):=⟨_,rfl⟩
 have hfw:zEr w=(zP F1 (min w.copies.length 21) && zP F2 (min w.hosts.length 71) && (decide (w.copies.length≤20) && decide (w.hosts.length≤70) && decide (w.hints.length≤20) && decide (w.adata.length≤20))):=by rw [hF1,hF2]; rfl
 refine zT (min w.copies.length 21) 0 (fun k=>[(1,⟨true,.box [.slice ah w.hosts.length ch,.slice a w.copies.length cap,S w.aname,.int .i64 w.atype,.int .i64 w.alife,.slice ad w.adata.length cd,.slice ai w.hints.length ci,.int .i64 w.drift,.int .i64 w.end_]⟩),(3,⟨true,.val (.int .i64 k)⟩)]) (fun k=>zP F1 k=true) (Nat.zero_le _) rfl rfl ?_
 intro k hk hP
 by_cases hlt:k < min w.copies.length 21
 ·have hd':decide ((k:Int) < (w.copies.length:Int))=true:=by rw [decide_eq_true_eq]; omega
  have hd'':decide ((k:Int)≤20)=true:=by rw [decide_eq_true_eq]; omega
  have hlt':k < w.copies.length:=by omega
  have hF:F1 k=false→false=zEr w:=fun h=>by rw [hfw,zY hlt h]; rfl
  have hr':=hr (by omega)
  obtain⟨b,o,vs,c,wr,ha,hb,hi⟩:=hr'
  subst ha
  have hi1:=(hi k hlt').1
  have hx:=jC (hi k hlt').2 3 2 (by omega)
  have hx1:=zK (hi k hlt').2 (j:=3) (by omega)
  simp only [hd',hd'',hb,hx,jY,go_sem,Nat.reduceLeDiff,Nat.reduceEqDiff,Nat.reduceBEq,Nat.reduceAdd,zC]
  refine⟨⟨by omega,by omega⟩,by omega,?_⟩
  refine zE _ ?_ (fun _=>⟨?_,xCw hE (w.copies.getD k default).apex (hdeep k hlt')⟩) ?_<;>simp only [hb,hx1,jY,go_sem,Nat.reduceLeDiff,Nat.reduceEqDiff,Nat.reduceBEq,Nat.reduceAdd,zC]
  have hFk : F1 k = !(!zEv (w.copies.getD k default).sets || decide (((w.copies.getD k default).apex.length : Int) > 100)) := by
   have e1:=dgt (w.copies.getD k default).apex.length 100
   rw [hF1,Bool.not_or,Bool.not_not]
   show(zEv _ && !decide _)=_
   rw [← e1]; rfl
  refine⟨fun h=>⟨h,h,by omega,by omega⟩,fun h=>⟨h,by omega⟩,fun h=>hF ?_,fun h=>⟨hlt,zR (by omega),yJ hP ?_⟩⟩
  ·rw [hFk,h]; rfl
  ·rw [hFk,h]; rfl
 ·have hd : (decide ((k : Int) < (w.copies.length : Int)) && decide ((k : Int) ≤ 20)) = false := by
   rw [Bool.and_eq_false_iff,decide_eq_false_iff_not,decide_eq_false_iff_not]; omega
  have hk':k=min w.copies.length 21:=by omega
  rw [← hk',hP,Bool.true_and] at hfw
  simp only [hd,go_sem,Nat.reduceLeDiff,Nat.reduceEqDiff,Nat.reduceBEq,Nat.reduceAdd,zC]
  refine zT (min w.hosts.length 71) 0 (fun k=>[(1,⟨true,.box [.slice ah w.hosts.length ch,.slice a w.copies.length cap,S w.aname,.int .i64 w.atype,.int .i64 w.alife,.slice ad w.adata.length cd,.slice ai w.hints.length ci,.int .i64 w.drift,.int .i64 w.end_]⟩),(4,⟨true,.val (.int .i64 k)⟩)]) (fun k=>zP F2 k=true) (Nat.zero_le _) rfl rfl ?_
  intro k hk hP2
  by_cases hlt:k < min w.hosts.length 71
  ·have hd':decide ((k:Int) < (w.hosts.length:Int))=true:=by rw [decide_eq_true_eq]; omega
   have hd'':decide ((k:Int)≤70)=true:=by rw [decide_eq_true_eq]; omega
   have hlt':k < w.hosts.length:=by omega
   have hF:F2 k=false→false=zEr w:=fun h=>by rw [hfw,zY hlt h]; rfl
   have hr':=hrh (by omega)
   obtain⟨b,o,vs,c,wr,ha,hb,hi⟩:=hr'
   subst ha
   have hi1:=(hi k hlt').1
   have hx:=zK (hi k hlt').2 (j:=0) (by omega)
   simp only [Nat.add_zero] at hx
   have hFk : F2 k = !decide (((w.hosts.getD k default).name.length : Int) > 100) := by
    have e1:=dgt (w.hosts.getD k default).name.length 100
    rw [hF2]
    show(!decide _)=_
    rw [← e1]; rfl
   simp only [hd',hd'',hb,hx,zHb,go_sem,Nat.reduceLeDiff,Nat.reduceEqDiff,Nat.reduceBEq,Nat.reduceAdd,zC]
   refine⟨⟨by omega,by omega⟩,by omega,fun h=>hF ?_,fun h=>⟨hlt,zR (by omega),yJ hP2 ?_⟩⟩
   ·rw [hFk,h]; rfl
   ·rw [hFk,h]; rfl
  ·have hd : (decide ((k : Int) < (w.hosts.length : Int)) && decide ((k : Int) ≤ 70)) = false := by
    rw [Bool.and_eq_false_iff,decide_eq_false_iff_not,decide_eq_false_iff_not]; omega
   have hk2:k=min w.hosts.length 71:=by omega
   rw [← hk2,hP2,Bool.true_and] at hfw
   simp only [hd,go_sem,Nat.reduceLeDiff,Nat.reduceEqDiff,Nat.reduceBEq,Nat.reduceAdd,zC]
   have e1:=dle w.copies.length 20
   have e2:=dle w.hosts.length 70
   have e3:=dle w.hints.length 20
   have e4:=dle w.adata.length 20
   rw [hfw,← e1,← e2,← e3,← e4]; rfl
def zGZ (h:yO):Bool:=zP (fun i=>!decide ((h.copies.getD i default).sets.length > 30)) (min h.copies.length 8) && (zEr h && decide (h.copies.length≤8))
set_option maxHeartbeats 1000000 in
theorem yYZ (hE : zX E) (h4 : xH E) {v : Value} {w : yO} (hw : vV H v w) : yB E 184 [v] H (.bool (zGZ w)) := by
 have hf:=yZr hE h4 hw
 obtain⟨vh,vz,vd,vi,rfl,h1,h2,h3,h5⟩:=hw
 obtain⟨ah,ch,rfl,_,hrh⟩:=h1
 obtain⟨z,⟨a,cap,rfl,hs,hr⟩,hdeep⟩:=h2
 obtain⟨ad,cd,rfl,_⟩:=h3
 obtain⟨ai,ci,rfl,_⟩:=h5
 refine Fn.of_vks h4.c184 (by simp [zNi]) ?_
 simp only [zNi,zWj,yFC,yDr,zTw,yBF,zTU,yFr]
 simp only [go_sem,Nat.reduceEqDiff,Nat.reduceBEq,reduceCtorEq]
 obtain⟨F1,hF1⟩:∃ F,F=fun i=>!decide ((w.copies.getD i default).sets.length > 30):=⟨_,rfl⟩
 have hfw:zGZ w=(zP F1 (min w.copies.length 8) && (zEr w && decide (w.copies.length≤8))):=by rw [hF1]; rfl
 refine zT (min w.copies.length 8) 0 (fun k=>[(1,⟨true,.box [.slice ah w.hosts.length ch,.slice a w.copies.length cap,S w.aname,.int .i64 w.atype,.int .i64 w.alife,.slice ad w.adata.length cd,.slice ai w.hints.length ci,.int .i64 w.drift,.int .i64 w.end_]⟩),(3,⟨true,.val (.int .i64 k)⟩)]) (fun k=>zP F1 k=true) (Nat.zero_le _) rfl rfl ?_
 intro k hk hP
 by_cases hlt:k < min w.copies.length 8
 ·have hd':decide ((k:Int) < (w.copies.length:Int))=true:=by rw [decide_eq_true_eq]; omega
  have hd'':decide ((k:Int) < 8)=true:=by rw [decide_eq_true_eq]; omega
  have hlt':k < w.copies.length:=by omega
  have hF:F1 k=false→false=zGZ w:=fun h=>by rw [hfw,zY hlt h]; rfl
  obtain⟨b,o,vs,c,wr,ha,hb,hi⟩:=hr (by omega)
  subst ha
  have hi1:=(hi k hlt').1
  have hx:=zK (hi k hlt').2 (j:=4) (by omega)
  obtain⟨az,cz,hze⟩:∃ a c,z k = .slice a (w.copies.getD k default).sets.length c:=by obtain⟨d,g,h,_⟩:=hdeep k hlt'; exact h.sl
  have hFk : F1 k = !decide (((w.copies.getD k default).sets.length : Int) > 30) := by
   have e1:=dgt (w.copies.getD k default).sets.length 30
   rw [hF1]
   show(!decide _)=_
   rw [← e1]; rfl
  simp only [jY,hze,List.getD_cons_zero,List.getD_cons_succ] at hx
  simp only [hd',hd'',hb,hx,go_sem,Nat.reduceLeDiff,Nat.reduceEqDiff,Nat.reduceBEq,Nat.reduceAdd,zC]
  refine⟨⟨by omega,by omega⟩,by omega,fun h=>hF ?_,fun h=>⟨hlt,zR (by omega),yJ hP ?_⟩⟩
  ·rw [hFk,h]; rfl
  ·rw [hFk,h]; rfl
 ·have hd : (decide ((k : Int) < (w.copies.length : Int)) && decide ((k : Int) < 8)) = false := by
   rw [Bool.and_eq_false_iff,decide_eq_false_iff_not,decide_eq_false_iff_not]; omega
  have hk':k=min w.copies.length 8:=by omega
  rw [← hk',hP,Bool.true_and] at hfw
  simp only [hd,go_sem,Nat.reduceLeDiff,Nat.reduceEqDiff,Nat.reduceBEq,Nat.reduceAdd,zC]
  refine zE _ (by simp only [go_sem]) (fun _=>⟨by simp only [go_sem,Nat.reduceEqDiff],hf⟩) ?_
  have e1:=dle w.copies.length 8
  cases hq:zEr w
  ·simp only [hq,hfw,↓yA,go_sem,Nat.reduceLeDiff,Nat.reduceEqDiff,Nat.reduceBEq,Nat.reduceAdd,zC]
  ·rw [hq,Bool.true_and] at hfw
   simp only [hfw,go_sem,Nat.reduceLeDiff,Nat.reduceEqDiff,Nat.reduceBEq,Nat.reduceAdd,zC]
   rw [← e1]; rfl
structure xBr (h : yO) : Prop where
 copies:h.copies.length≤8
 hosts:h.hosts.length≤70
 hints:h.hints.length≤20
 adata:h.adata.length≤20
 sets:∀ i,i < h.copies.length→(h.copies.getD i default).sets.length≤30
 deep:∀ i,i < h.copies.length→∀ j,j < (h.copies.getD i default).sets.length→((h.copies.getD i default).sets.getD j default).data.length≤20∧((h.copies.getD i default).sets.getD j default).sigs.length≤20
theorem yTh {h : yO} (hf : zGZ h = true) : xBr h := by
 simp only [zGZ,zEr,Bool.and_eq_true,decide_eq_true_eq,yG] at hf
 obtain⟨h1,h2,h3⟩:=hf
 refine⟨h3,by omega,by omega,by omega,fun i hi=>?_,fun i hi=>?_⟩
 ·have:=h1 i (by omega)
  simp only [Bool.not_eq_true',decide_eq_false_iff_not] at this
  omega
 ·exact(yMp (h2.1.1 i (by omega)).1).2
end Go.SL
/- Contracts: the reference's valid histories. -/
namespace Go.SL
open Go
variable {E:Env} {H:Hp}
def cD (h:yO) (k:Nat):yE:=h.copies.getD k default
def zFq (h:yO) (c:yE):Bool:=decide (c.host < 0) || decide (c.host≥(h.hosts.length:Int)) || decide (c.from_ < 0) || decide (c.from_≥c.till) || decide (c.till > h.end_) || !zFR c.apex c.sets
def zGI (c d:yE):Bool:=d.host == c.host && d.apex == c.apex && decide (d.from_ < c.till) && decide (c.from_ < d.till)
def zIw (h:yO) (k j:Nat):Bool:=!zGI (cD h k) (cD h j)
def zFu (h:yO) (k:Nat):Bool:=!zFq h (cD h k) && zP (zIw h k) k
def zJr (h:yO):Bool:=!zEW h.hosts || !zEZ h.aname h.atype h.alife h.adata h.hints || decide (h.end_ < 1) || decide (h.end_ > 10000000) || decide (h.drift < 0) || decide (h.drift > 1000) || decide ((h.copies.length:Int) > 4000)
def zHk (h:yO):Bool:=!zJr h && (zP (zFu h) h.copies.length && decide (((zBe h.copies h.copies.length).length:Int)≤500))
theorem yPB {h : yO} {n : Nat} (_hn : n ≤ h.copies.length) (ha : zP (zFu h) n = true) : ∀ i, i < n → (cD h i).apex.length ≤ 1000000 := by
 intro i hi
 have h1:=yG.1 ha i hi
 unfold zFu at h1
 rw [Bool.and_eq_true,Bool.not_eq_true'] at h1
 have h2:=h1.1
 unfold zFq at h2
 rw [Bool.or_eq_false_iff,Bool.not_eq_false'] at h2
 exact yHF h2.2
set_option maxRecDepth 4000 in
set_option maxHeartbeats 4000000 in
theorem yZg (h4 : xH E) {v : Value} {w : yO} (hw : vV H v w) (hh : w.hints.length ≤ 1000000000) : yB E 185 [v] H (.bool (zHk w)) := by
 obtain⟨vh,vz,vd,vi,rfl,g1,g2,g3,g5⟩:=hw
 have f1:=yXx h4 w.hosts g1
 have f2:=yZF h4 w.aname w.atype w.alife w.adata g3 g5 hh
 have f3:=fun(ha:w.copies.length≤1000000) (hb:∀ c∈w.copies,c.apex.length≤1000000)=>yZs h4 g2 ha hb
 have o1:=zG.one g1
 have o3:=zG.one g3
 have o5:=zG.one g5
 obtain⟨ah,ch,rfl⟩:=zG.sl g1
 obtain⟨ad,cd,rfl⟩:=zG.sl g3
 obtain⟨ai,ci,rfl⟩:=zG.sl g5
 obtain⟨z,⟨a,cap,rfl,hs,hr⟩,hdeep⟩:=g2
 refine Fn.of_vks h4.c185 (by simp [zMX]) ?_
 simp only [zMX,zUU,zUM,zYz,yEs,yCL,zXx,yEY,zUV,zYe,zNG,zRk,zOl,zRb,zYg,zOk]
 obtain⟨q0,hq0⟩:∃ y,y=zHk w:=⟨_,rfl⟩
 rw [← hq0]
 unfold zHk at hq0
 obtain⟨q1,hq1⟩:∃ y,y=zJr w:=⟨_,rfl⟩
 have hq1':=hq1
 unfold zJr at hq1'
 simp only [go_sem,Nat.reduceLeDiff,Nat.reduceEqDiff,Nat.reduceBEq,Nat.reduceAdd,reduceCtorEq]
 refine zE _ (by simp only [go_sem]) (fun _=>⟨by simp only [go_sem,Nat.reduceEqDiff],f1⟩) ?_
 simp only [go_sem,Nat.reduceLeDiff,Nat.reduceEqDiff,Nat.reduceBEq,Nat.reduceAdd]
 refine zE _ (by simp only [go_sem,Nat.reduceEqDiff]) (fun hg=>⟨by simp only [go_sem,Nat.reduceEqDiff] at hg ⊢; exact⟨hg,hg⟩,f2⟩) ?_
 simp only [← hq1',go_sem,Nat.reduceLeDiff,Nat.reduceEqDiff,Nat.reduceBEq,Nat.reduceAdd,zC]
 refine⟨fun h=>by rw [hq0,← hq1,h]; rfl,fun h=>?_⟩
 rw [← hq1,h,Bool.not_false,Bool.true_and] at hq0
 have hm : w.copies.length ≤ 4000 := by
  rw [h] at hq1'
  have:=hq1'.symm
  simp only [Bool.or_eq_false_iff,decide_eq_false_iff_not] at this
  omega
 refine zT w.copies.length 0 (fun k=>[(1,⟨true,.box [.slice ah w.hosts.length ch,.slice a w.copies.length cap,S w.aname,.int .i64 w.atype,.int .i64 w.alife,.slice ad w.adata.length cd,.slice ai w.hints.length ci,.int .i64 w.drift,.int .i64 w.end_]⟩),(3,⟨true,.val (.int .i64 k)⟩)]) (fun k=>zP (zFu w) k=true) (Nat.zero_le _) rfl rfl ?_
 intro k hk hP
 by_cases hlt:k < w.copies.length
 ·have hdl:decide ((k:Int) < (w.copies.length:Int))=true:=by simpa using hlt
  obtain⟨b,o,vs,c,wr,ha,hb,hi⟩:=hr (by omega)
  subst ha
  have hi1:=(hi k hlt).1
  have hi2:=(hi k hlt).2
  have hzk:=hdeep k hlt
  have hz1:yV (z k)=true:=by obtain⟨d,g,h,_⟩:=hzk; exact zG.one h
  have hat:zFu w k=(!zFq w (cD w k) && zP (zIw w k) k):=rfl
  obtain⟨x,hx⟩:∃ x,x=cD w k:=⟨_,rfl⟩
  have hx':w.copies.getD k default=x:=hx.symm
  rw [← hx] at hat
  rw [hx'] at hzk
  simp only [jY,hx'] at hi2
  obtain⟨q2,hq2⟩:∃ y,y=zFq w x:=⟨_,rfl⟩
  have hq2':=hq2
  unfold zFq at hq2'
  rw [← hq2] at hat
  simp only [hdl,hb,hi2,hz1,go_sem,Nat.reduceLeDiff,Nat.reduceEqDiff,Nat.reduceBEq,Nat.reduceAdd,zC]
  refine⟨⟨by omega,by omega⟩,hi1,fun h=>⟨h,h⟩,fun h=>⟨h,h⟩,fun h=>⟨h,h⟩,?_⟩
  refine zE _ (by simp only [go_sem,Nat.reduceEqDiff]) (fun hg=>⟨by simp only [go_sem,Nat.reduceEqDiff] at hg ⊢; exact hg,xAd h4 x.apex hzk⟩) ?_
  simp only [← hq2',go_sem,Nat.reduceEqDiff,Nat.reduceBEq]
  refine⟨fun h1=>by rw [hq0]; have:zP (zFu w) w.copies.length=false:=zY hlt (by rw [hat,h1]; rfl); rw [this]; rfl,fun h1=>?_⟩
  rw [h1,Bool.not_false,Bool.true_and] at hat
  refine zT k 0 (fun j=>[(1,⟨true,.box [.slice ah w.hosts.length ch,.slice (some ⟨b,o,none⟩) w.copies.length cap,S w.aname,.int .i64 w.atype,.int .i64 w.alife,.slice ad w.adata.length cd,.slice ai w.hints.length ci,.int .i64 w.drift,.int .i64 w.end_]⟩),(3,⟨true,.val (.int .i64 k)⟩),(4,⟨true,.box [.int .i64 x.host,.int .i64 x.from_,.int .i64 x.till,S x.apex,z k]⟩),(5,⟨true,.val (.int .i64 j)⟩)]) (fun j=>zP (zIw w k) j=true) (Nat.zero_le _) rfl rfl ?_
  intro j hj hPj
  by_cases hlj:j < k
  ·have hdj:decide ((j:Int) < (k:Int))=true:=by simpa using hlj
   have hj1:=(hi j (by omega)).1
   have hj2:=(hi j (by omega)).2
   have hz2:yV (z j)=true:=by obtain⟨d,g,h,_⟩:=hdeep j (by omega); exact zG.one h
   have hnw:zIw w k j = !zGI x (cD w j):=by rw [hx]; rfl
   obtain⟨d,hd⟩:∃ d,d=cD w j:=⟨_,rfl⟩
   have hd':w.copies.getD j default=d:=hd.symm
   rw [← hd] at hnw
   simp only [jY,hd'] at hj2
   have hc1:zGI x d=(d.host == x.host && d.apex == x.apex && decide (d.from_ < x.till) && decide (x.from_ < d.till)):=rfl
   have hjs:IntKind.i64.wrap ((j:Int) + 1)=((j + 1:Nat):Int):=zR (by omega)
   simp only [hdj,hb,hj2,hz2,go_sem,Nat.reduceLeDiff,Nat.reduceEqDiff,Nat.reduceBEq,Nat.reduceAdd,reduceCtorEq,zC]
   refine⟨⟨by omega,by omega⟩,hj1,?_⟩
   simp only [zOp,← hc1,go_sem,Nat.reduceLeDiff,Nat.reduceEqDiff,Nat.reduceBEq,Nat.reduceAdd,zC]
   refine⟨fun h=>⟨h,h⟩,fun h=>⟨h,h⟩,fun h=>⟨h,h⟩,fun h=>?_,fun h=>⟨hlj,hjs,yJ hPj (by rw [hnw,h]; rfl)⟩⟩
   have:zP (zFu w) w.copies.length=false:=zY hlt (by rw [hat]; exact zY hlj (by rw [hnw,h]; rfl))
   rw [hq0,this]; rfl
  ·have hdj:decide ((j:Int) < (k:Int))=false:=by simpa using hlj
   have:j=k:=by omega
   subst this
   have ht:zP (zFu w) (j + 1)=true:=yJ hP (by rw [hat]; exact hPj)
   simp only [hdj,ht,go_sem,Nat.reduceLeDiff,Nat.reduceEqDiff,Nat.reduceBEq,Nat.reduceAdd,reduceCtorEq,zC]
   exact⟨hlt,zR (by omega)⟩
 ·have hdl:decide ((k:Int) < (w.copies.length:Int))=false:=by simpa using hlt
  have:k=w.copies.length:=by omega
  subst this
  rw [hP,Bool.true_and] at hq0
  simp only [hdl,go_sem,Nat.reduceLeDiff,Nat.reduceEqDiff,Nat.reduceBEq,Nat.reduceAdd,zC]
  refine zM ?_ (f3 (by omega) ?_) ?_
  ·simp only [go_sem,Nat.reduceEqDiff]
  ·intro c hc
   obtain⟨i,hi,he⟩:=List.mem_iff_getElem.1 hc
   have:=yPB (Nat.le_refl _) hP i hi
   unfold cD at this
   rw [List.getD_eq_getElem?_getD,List.getElem?_eq_getElem hi,he] at this
   exact this
  rintro u H' ⟨ob,hO,hle,_⟩
  obtain⟨au,cu,rfl⟩:=hO.sl
  simp only [hq0,go_sem,Nat.reduceEqDiff,Nat.reduceBEq,zC]
  exact hle
end Go.SL
/- Plain law: a history that the reference calls valid is valid. -/
namespace Go.SL
open Go
theorem zKc {s : Bs} (hv : zL s = true) : jF s = zCp s := by
 unfold jF zCp
 rw [hv,Bool.true_and,zAF,List.reverse_reverse]
 cases xP s with
 | nil=>rfl
 | cons x r=>simp
theorem zJs {κ : Type} [DecidableEq κ] (f : Nat → κ) (x : κ) : ∀ k, (yI x (jK f k)).getD false = true ↔ ∃ i, i < k ∧ f i = x
 | 0=>by simp [jK,yI]
 | k + 1 => by
  have ih:=zJs f x k
  simp only [jK]
  rw [zAg]
  by_cases e:x=f k
  ·rw [if_pos e]
   simp only [Option.getD_some,true_iff]
   exact⟨k,by omega,e.symm⟩
  ·rw [if_neg e,ih]
   constructor
   ·rintro⟨i,hi,h⟩; exact⟨i,by omega,h⟩
   ·rintro⟨i,hi,h⟩
    by_cases e2:i=k
    ·subst e2; exact absurd h.symm e
    ·exact⟨i,by omega,h⟩
theorem zSK {hs : List qT} (h : zEW hs = true) : jP hs = true := by
 unfold zEW at h
 rw [Bool.and_eq_true,yG] at h
 unfold jP
 rw [Bool.and_eq_true,yG]
 refine⟨h.1,fun i hi=>?_⟩
 have hi':=h.2 i hi
 unfold zGP at hi'
 rw [Bool.and_eq_true,Bool.not_eq_true',yG] at hi'
 obtain⟨hb,hn⟩:=hi'
 unfold zFf at hb
 simp only [Bool.or_eq_false_iff,Bool.not_eq_false',decide_eq_false_iff_not] at hb
 obtain⟨⟨⟨⟨⟨b1,b2⟩,b3⟩,b4⟩,b5⟩,b6⟩:=hb
 rw [zBf] at b1
 unfold zBQ
 show(!(!zL (hD hs i).name || jF (hD hs i).name || decide ((hD hs i).owner < 0) || decide ((hD hs i).owner≥32)) && !(!kY (hD hs i).addr || (yI (hD hs i).addr (jQ hs i)).getD false))=true
 rw [zKc b1,b1,b2]
 have a1:kY (hD hs i).addr=true:=by unfold kY; simp; omega
 have a2 : (yI (hD hs i).addr (jQ hs i)).getD false = false := by
  cases hm:(yI (hD hs i).addr (jQ hs i)).getD false
  ·rfl
  ·unfold jQ at hm
   obtain⟨j,hj,e⟩:=(zJs _ _ _).1 hm
   have:=hn j hj
   unfold zDs at this
   rw [Bool.not_eq_true',beq_eq_false_iff_ne] at this
   exact absurd e this
 rw [a1,a2]
 simp; omega
theorem yHW {n : Bs} {t l : Int} {ds : List xO} {hints : List Int} (h : zEZ n t l ds hints = true) : zBl n t l ds hints = true := by
 unfold zEZ at h
 simp only [Bool.and_eq_true,yG,decide_eq_true_eq] at h
 obtain⟨h1,⟨⟨⟨h2,h3⟩,h4⟩,h5⟩,h6⟩:=h
 unfold zBl
 simp only [Bool.and_eq_true,yG,decide_eq_true_eq]
 refine⟨⟨⟨⟨⟨zIu h2,h3⟩,h4⟩,by omega⟩,by omega⟩,fun i hi=>?_⟩
 have:=h1 i hi
 unfold zGF at this
 unfold kY
 simp at this ⊢
 omega
theorem zLj {α : Type} [DecidableEq α] : ∀ {l m : List α}, l.Nodup → (∀ x ∈ l, x ∈ m) → l.length ≤ m.length
 | [],_,_,_=>Nat.zero_le _
 | x :: l, m, hn, h => by
  rw [List.nodup_cons] at hn
  have hx:=h x (List.mem_cons_self ..)
  have := zLj (l := l) (m := m.erase x) hn.2 (fun y hy => by
   have hne:y≠x:=by rintro rfl; exact hn.1 hy
   exact(List.mem_erase_of_ne hne).2 (h y (List.mem_cons_of_mem _ hy)))
  rw [List.length_erase_of_mem hx] at this
  have hpos:0 < m.length:=List.length_pos_of_mem hx
  rw [List.length_cons]; omega
theorem zOv (L : List Bs) (a : Bs) : a ∈ zDP L a ∧ ∀ x ∈ L, x ∈ zDP L a := by
 unfold zDP
 split
 ·rename_i h
  rw [Bool.and_eq_true,decide_eq_true_eq,beq_iff_eq] at h
  refine⟨?_,fun x hx=>hx⟩
  have:L.getD (qP L a L.length 0) []∈L:=zBr h.1
  rw [h.2] at this; exact this
 ·refine⟨List.mem_append_right _ (List.mem_cons_self ..),fun x hx=>?_⟩
  have:x∈L.take (qP L a L.length 0) ++ L.drop (qP L a L.length 0):=by rw [List.take_append_drop]; exact hx
  rcases List.mem_append.1 this with h | h
  ·exact List.mem_append_left _ h
  ·exact List.mem_append_right _ (List.mem_cons_of_mem _ h)
theorem zRI (cs : List yE) : ∀ k i, i < k → (cs.getD i default).apex ∈ zBe cs k
 | 0,i,h=>by omega
 | k + 1, i, h => by
  show _∈zDP (zBe cs k) (cs.getD k default).apex
  by_cases e:i=k
  ·subst e; exact(zOv _ _).1
  ·exact(zOv _ _).2 _ (zRI cs k i (by omega))
theorem zHC {κ : Type} [DecidableEq κ] (f : Nat → κ) : ∀ k, ((jK f k).map (·.1)).Nodup
 | 0=>List.nodup_nil
 | k + 1=>zDl (zHC f k)
theorem zSG {h : yO} (hr : zHk h = true) : yS h = true := by
 unfold zHk at hr
 rw [Bool.and_eq_true,Bool.and_eq_true,Bool.not_eq_true',yG,decide_eq_true_eq] at hr
 obtain⟨hh,hc,ha⟩:=hr
 unfold zJr at hh
 simp only [Bool.or_eq_false_iff,Bool.not_eq_false',decide_eq_false_iff_not] at hh
 obtain⟨⟨⟨⟨⟨⟨g1,g2⟩,g3⟩,g4⟩,g5⟩,g6⟩,g7⟩:=hh
 have hcopy : ∀ i, i < h.copies.length → zFq h (cD h i) = false ∧ ∀ j, j < i → zGI (cD h i) (cD h j) = false := by
  intro i hi
  have:=hc i hi
  unfold zFu at this
  rw [Bool.and_eq_true,Bool.not_eq_true',yG] at this
  refine⟨this.1,fun j hj=>?_⟩
  have:=this.2 j hj
  unfold zIw at this
  rw [Bool.not_eq_true'] at this; exact this
 have hok : ∀ i, i < h.copies.length → 0 ≤ (cD h i).host ∧ (cD h i).host < (h.hosts.length : Int) ∧ 0 ≤ (cD h i).from_ ∧ (cD h i).from_ < (cD h i).till ∧ (cD h i).till ≤ h.end_ ∧ xB (cD h i).apex (cD h i).sets = true := by
  intro i hi
  have:=(hcopy i hi).1
  unfold zFq at this
  simp only [Bool.or_eq_false_iff,Bool.not_eq_false',decide_eq_false_iff_not] at this
  obtain⟨⟨⟨⟨⟨b1,b2⟩,b3⟩,b4⟩,b5⟩,b6⟩:=this
  exact⟨by omega,by omega,by omega,by omega,by omega,yUw b6⟩
 rw [qW]
 refine⟨by omega,by omega,by omega,by omega,by omega,?_,?_,?_,?_⟩
 ·unfold zAC zBu
  rw [zSK g1,yHW g2]
  rfl
 ·intro c hcm
  obtain⟨i,hi,rfl⟩:=List.getElem_of_mem hcm
  have:=hok i hi
  unfold cD at this
  rw [List.getD_eq_getElem?_getD,List.getElem?_eq_getElem hi] at this
  exact this
 ·unfold zIQ
  rw [List.pairwise_iff_getElem]
  intro i j hi hj hij he
  have e1:cD h i=h.copies[i]:=by unfold cD; rw [List.getD_eq_getElem?_getD,List.getElem?_eq_getElem hi]; rfl
  have e2:cD h j=h.copies[j]:=by unfold cD; rw [List.getD_eq_getElem?_getD,List.getElem?_eq_getElem hj]; rfl
  have:=(hcopy j hj).2 i hij
  unfold zGI at this
  rw [e1,e2] at this
  have he1:h.copies[i].host=h.copies[j].host:=congrArg Prod.fst he
  have he2:h.copies[i].apex=h.copies[j].apex:=congrArg Prod.snd he
  rw [he1,he2] at this
  simp at this
  show zCr (xR h.copies[i]) (xR h.copies[j])
  unfold zCr xR
  simp only
  omega
 ·refine Nat.le_trans ?_ (Int.ofNat_le.1 ha)
  have hn:=zLj (l:=(xJ h.copies h.copies.length).map (·.1)) (m:=zBe h.copies h.copies.length) ?_ ?_
  ·rw [List.length_map] at hn; exact hn
  ·exact zHC _ h.copies.length
  ·intro x hx
   obtain⟨i,hi,rfl⟩:=(zEu h.copies x _).1 hx
   exact zRI _ _ _ hi
end Go.SL
