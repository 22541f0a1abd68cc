/- Contracts: a time in stretches. -/
import Derived.Test.YthedjffolgeomaaGreatDoorANplX7
import Derived.Test.YthedjffolgeomaaGreatDoorANplV1
import Derived.Test.YthedjffolgeomaaGreatDoorANplX25
import Derived.Test.YthedjffolgeomaaGreatDoorANplW6
import Derived.Test.YthedjffolgeomaaGreatDoorANplX32
import Derived.Test.YthedjffolgeomaaGreatDoorANplT28
import Derived.Test.YthedjffolgeomaaGreatDoorANplT2
import Derived.Test.YthedjffolgeomaaGreatDoorANplO
namespace Go.SL
open Go
variable {E:Env} {H:Hp}
end Go.SL
/- The law WaitsLongest, out of the contracts. -/
namespace Go.SL
open Go
variable {E:Env} {H:Hp}
end Go.SL
/- Contract: the example of the law. -/
namespace Go.SL
open Go
variable {E:Env} {H:Hp}
def zGx:List zF:=[⟨[120],2,0,[⟨[97],0,0⟩],[]⟩,⟨[120],4,0,[⟨[],1,0⟩],[]⟩,⟨[119,46,120],1,10,[⟨[],7,0⟩],[]⟩]
def exH:yO:=⟨[⟨[97],1,0⟩],[⟨0,0,20,[120],zGx⟩],[46],6,0,[⟨[],1,1⟩],[1],2,50⟩
set_option maxRecDepth 8000 in
set_option maxHeartbeats 4000000 in
theorem zJo (h4 : xH E) : Fn E.P (E.fn 189) [] H (fun u H' => vV H' u exH ∧ H.le H') := by
 refine Fn.of_vks h4.c189 (by simp [zMC]) ?_
 simp only [zMC,yAO,zXP,zYO,yDK,yEI]
 simp only [go_sem,Nat.reduceLeDiff,Nat.reduceEqDiff,Nat.reduceBEq,Nat.reduceAdd,reduceCtorEq]
 intro c1 k1 c2 k2 c3 k3 c4 k4 c5 k5 c6 k6 c7 k7 c8 k8
 obtain⟨G1,e1⟩:∃ y,y=Hp.put H c1 (.row [.string ⟨#[]⟩,.int .i64 7,.int .i64 0] 3 true):=⟨_,rfl⟩
 rw [← e1] at k2 k3 k4 k5 k6 k7 k8 ⊢
 have l1:Hp.le H G1:=by rw [e1]; exact zJ k1 _
 have f1:G1 c1=some (.row [.string ⟨#[]⟩,.int .i64 7,.int .i64 0] 3 true):=by rw [e1,Hp.put_same]
 obtain⟨G2,e2⟩:∃ y,y=Hp.put G1 c2 (.row [.string ⟨#[97]⟩,.int .i64 0,.int .i64 0] 3 true):=⟨_,rfl⟩
 rw [← e2] at k3 k4 k5 k6 k7 k8 ⊢
 have l2:Hp.le G1 G2:=by rw [e2]; exact zJ k2 _
 have f2:G2 c2=some (.row [.string ⟨#[97]⟩,.int .i64 0,.int .i64 0] 3 true):=by rw [e2,Hp.put_same]
 obtain⟨G3,e3⟩:∃ y,y=Hp.put G2 c3 (.row [.string ⟨#[]⟩,.int .i64 1,.int .i64 0] 3 true):=⟨_,rfl⟩
 rw [← e3] at k4 k5 k6 k7 k8 ⊢
 have l3:Hp.le G2 G3:=by rw [e3]; exact zJ k3 _
 have f3:G3 c3=some (.row [.string ⟨#[]⟩,.int .i64 1,.int .i64 0] 3 true):=by rw [e3,Hp.put_same]
 obtain⟨G4,e4⟩:∃ y,y=Hp.put G3 c4 (.row [.string ⟨#[120]⟩,.int .i64 2,.int .i64 0,.slice (some ⟨c2,0,none⟩) 1 1,.slice none 0 0,.string ⟨#[120]⟩,.int .i64 4,.int .i64 0,.slice (some ⟨c3,0,none⟩) 1 1,.slice none 0 0,.string ⟨#[119,46,120]⟩,.int .i64 1,.int .i64 10,.slice (some ⟨c1,0,none⟩) 1 1,.slice none 0 0] 15 true):=⟨_,rfl⟩
 rw [← e4] at k5 k6 k7 k8 ⊢
 have l4:Hp.le G3 G4:=by rw [e4]; exact zJ k4 _
 have f4:G4 c4=some (.row [.string ⟨#[120]⟩,.int .i64 2,.int .i64 0,.slice (some ⟨c2,0,none⟩) 1 1,.slice none 0 0,.string ⟨#[120]⟩,.int .i64 4,.int .i64 0,.slice (some ⟨c3,0,none⟩) 1 1,.slice none 0 0,.string ⟨#[119,46,120]⟩,.int .i64 1,.int .i64 10,.slice (some ⟨c1,0,none⟩) 1 1,.slice none 0 0] 15 true):=by rw [e4,Hp.put_same]
 obtain⟨G5,e5⟩:∃ y,y=Hp.put G4 c5 (.row [.string ⟨#[]⟩,.int .i64 1,.int .i64 1] 3 true):=⟨_,rfl⟩
 rw [← e5] at k6 k7 k8 ⊢
 have l5:Hp.le G4 G5:=by rw [e5]; exact zJ k5 _
 have f5:G5 c5=some (.row [.string ⟨#[]⟩,.int .i64 1,.int .i64 1] 3 true):=by rw [e5,Hp.put_same]
 obtain⟨G6,e6⟩:∃ y,y=Hp.put G5 c6 (.row [.string ⟨#[97]⟩,.int .i64 1,.int .i64 0] 3 true):=⟨_,rfl⟩
 rw [← e6] at k7 k8 ⊢
 have l6:Hp.le G5 G6:=by rw [e6]; exact zJ k6 _
 have f6:G6 c6=some (.row [.string ⟨#[97]⟩,.int .i64 1,.int .i64 0] 3 true):=by rw [e6,Hp.put_same]
 obtain⟨G7,e7⟩:∃ y,y=Hp.put G6 c7 (.row [.int .i64 0,.int .i64 0,.int .i64 20,.string ⟨#[120]⟩,.slice (some ⟨c4,0,none⟩) 3 3] 5 true):=⟨_,rfl⟩
 rw [← e7] at k8 ⊢
 have l7:Hp.le G6 G7:=by rw [e7]; exact zJ k7 _
 have f7:G7 c7=some (.row [.int .i64 0,.int .i64 0,.int .i64 20,.string ⟨#[120]⟩,.slice (some ⟨c4,0,none⟩) 3 3] 5 true):=by rw [e7,Hp.put_same]
 obtain⟨G8,e8⟩:∃ y,y=Hp.put G7 c8 (.row [.int .i64 1] 1 true):=⟨_,rfl⟩
 rw [← e8]
 have l8:Hp.le G7 G8:=by rw [e8]; exact zJ k8 _
 have f8:G8 c8=some (.row [.int .i64 1] 1 true):=by rw [e8,Hp.put_same]
 have q1:=l8 _ _ (l7 _ _ (l6 _ _ (l5 _ _ (l4 _ _ (l3 _ _ (l2 _ _ (f1)))))))
 have q2:=l8 _ _ (l7 _ _ (l6 _ _ (l5 _ _ (l4 _ _ (l3 _ _ (f2))))))
 have q3:=l8 _ _ (l7 _ _ (l6 _ _ (l5 _ _ (l4 _ _ (f3)))))
 have q4:=l8 _ _ (l7 _ _ (l6 _ _ (l5 _ _ (f4))))
 have q5:=l8 _ _ (l7 _ _ (l6 _ _ (f5)))
 have q6:=l8 _ _ (l7 _ _ (f6))
 have q7:=l8 _ _ (f7)
 have one3 : ∀ {b c : Nat} {x y z : Value}, G8 b = some (.row [x, y, z] c true) → ∀ (row : Nat → List Value), row 0 = [x, y, z] → zG G8 3 (.slice (some ⟨b, 0, none⟩) 1 1) 1 row := fun hb row hr => zG.lit hb fun i hi => by
  obtain rfl:i=0:=by omega
  exact⟨Nat.le_refl _,hr.symm⟩
 have hsets : xT G8 (.slice (some ⟨c4, 0, none⟩) 3 3) zGx := by
  refine⟨fun i=>if i=0 then .slice (some ⟨c2,0,none⟩) 1 1 else if i=1 then .slice (some ⟨c3,0,none⟩) 1 1 else .slice (some ⟨c1,0,none⟩) 1 1,fun _=>.slice none 0 0,zG.lit q4 fun i hi=>?_,fun i hi=>?_⟩
  ·have:i=0∨i=1∨i=2:=by change i < 3 at hi; omega
   rcases this with rfl | rfl | rfl
   ·exact⟨Nat.le_of_ble_eq_true rfl,rfl⟩
   ·exact⟨Nat.le_of_ble_eq_true rfl,rfl⟩
   ·exact⟨Nat.le_of_ble_eq_true rfl,rfl⟩
  ·have:i=0∨i=1∨i=2:=by change i < 3 at hi; omega
   rcases this with rfl | rfl | rfl
   ·exact⟨one3 q2 _ rfl,zG.nil⟩
   ·exact⟨one3 q3 _ rfl,zG.nil⟩
   ·exact⟨one3 q1 _ rfl,zG.nil⟩
 refine⟨⟨_,_,_,_,rfl,one3 q6 _ rfl,⟨fun _=>.slice (some ⟨c4,0,none⟩) 3 3,zG.lit q7 fun i hi=>?_,fun i hi=>?_⟩,one3 q5 _ rfl,zG.lit f8 fun i hi=>?_⟩,?_⟩
 ·obtain rfl:i=0:=by change i < 1 at hi; omega
  exact⟨Nat.le_of_ble_eq_true rfl,rfl⟩
 ·obtain rfl:i=0:=by change i < 1 at hi; omega
  exact hsets
 ·obtain rfl:i=0:=by change i < 1 at hi; omega
  exact⟨Nat.le_of_ble_eq_true rfl,rfl⟩
 ·exact((((((l1.trans l2).trans l3).trans l4).trans l5).trans l6).trans l7).trans l8
end Go.SL
/- Contracts: Earliest refused; the law's head. -/
namespace Go.SL
open Go
variable {E:Env} {H:Hp}
set_option maxRecDepth 8000 in
set_option maxHeartbeats 4000000 in
theorem yWy (hE : zX E) (h2 : xZ E) (h3 : yW E) (hB : qU E H) {v : Value} {h : yO} (hh : vV H v h) (hn : h.copies.length ≤ 12) (from_ limit : Int) (hl : h.end_ ≤ limit) :
  yB E 177 [v,.agg #[.slice none 0 0],.slice none 0 0,.int .i64 from_,.int .i64 limit] H (.tuple #[.int .i64 0,.bool false,.int .i64 1]):=by
 have hh0:=hh
 obtain⟨vh,vc,vd,vi,rfl,g1,g2,g3,g5⟩:=hh
 have o1:=zG.one g1
 have o2:=g2.one
 have o3:=zG.one g3
 have o5:=zG.one g5
 refine Fn.of_vks h3.c177 (by simp [zLw]) ?_
 simp only [zLw,zTF]
 simp only [go_sem,Nat.reduceEqDiff,Nat.reduceBEq,Nat.reduceAdd,reduceCtorEq]
 intro b5 k5 b6 k6 b7 k7 b10 k10 b11 k11 b12 k12
 obtain⟨H1,e1⟩:∃ y,y=H.put b5 (.row [vh,vc,S h.aname,.int .i64 h.atype,.int .i64 h.alife,vd,vi,.int .i64 h.drift,.int .i64 h.end_] 9 true):=⟨_,rfl⟩
 rw [← e1] at k6 k7 k10 k11 k12 ⊢
 obtain⟨H2,e2⟩:∃ y,y=H1.put b6 (.row [.slice none 0 0] 1 true):=⟨_,rfl⟩
 rw [← e2] at k7 k10 k11 k12 ⊢
 obtain⟨H3,e3⟩:∃ y,y=H2.put b7 (.row [.slice none 0 0] 1 true):=⟨_,rfl⟩
 rw [← e3] at k10 k11 k12 ⊢
 obtain⟨H4,e4⟩:∃ y,y=H3.put b10 (.row [.int .i64 0] 1 true):=⟨_,rfl⟩
 rw [← e4] at k11 k12 ⊢
 obtain⟨H5,e5⟩:∃ y,y=H4.put b11 (.row [.bool false] 1 true):=⟨_,rfl⟩
 rw [← e5] at k12 ⊢
 obtain⟨H6,e6⟩:∃ y,y=H5.put b12 (.row [.int .i64 0] 1 true):=⟨_,rfl⟩
 rw [← e6]
 have l1:H.le H1:=by rw [e1]; exact zJ k5 _
 have l2:H1.le H2:=by rw [e2]; exact zJ k6 _
 have l3:H2.le H3:=by rw [e3]; exact zJ k7 _
 have l4:H3.le H4:=by rw [e4]; exact zJ k10 _
 have l5:H4.le H5:=by rw [e5]; exact zJ k11 _
 have l6:H5.le H6:=by rw [e6]; exact zJ k12 _
 have f5:H6 b5=_:=l6 _ _ (l5 _ _ (l4 _ _ (l3 _ _ (l2 _ _ (by rw [e1]; exact Hp.put_same ..)))))
 have f6:H6 b6=_:=l6 _ _ (l5 _ _ (l4 _ _ (l3 _ _ (by rw [e2]; exact Hp.put_same ..))))
 have f10:H6 b10=_:=l6 _ _ (l5 _ _ (by rw [e4]; exact Hp.put_same ..))
 have f11:H6 b11=_:=l6 _ _ (by rw [e5]; exact Hp.put_same ..)
 have f12:H6 b12=some (.row [.int .i64 0] 1 true):=by rw [e6]; exact Hp.put_same ..
 simp only [zWT,f6,go_sem,Nat.reduceLeDiff,Nat.reduceEqDiff,Nat.reduceBEq,Nat.reduceAdd]
 intro bs ks
 obtain⟨H7,e7⟩:∃ y,y=H6.put bs (.row [.int .i64 from_,.slice none 0 0] 2 true):=⟨_,rfl⟩
 rw [← e7]
 have l7:H6.le H7:=by rw [e7]; exact zJ ks _
 have f7:H7 bs=some (.row [.int .i64 from_,.slice none 0 0] 2 true):=by rw [e7,Hp.put_same]
 have hle:H.le H7:=(((((l1.trans l2).trans l3).trans l4).trans l5).trans l6).trans l7
 have hst : zBs H7 (.slice (some ⟨bs, 0, none⟩) 1 1) [⟨from_, []⟩] := by
  refine⟨fun _=>.slice none 0 0,zG.lit f7 fun i hi=>?_,fun i hi=>?_⟩
  ·obtain rfl:i=0:=by change i < 1 at hi; omega
   exact⟨Nat.le_of_ble_eq_true rfl,rfl⟩
  ·obtain rfl:i=0:=by change i < 1 at hi; omega
   exact pS.nil0
 have hcall:=xAI hE (hB.mono hle) (hh0.mono hle) hst (zHg hE h2 (hB.mono hle) (hh0.mono hle) hn)
 have g5:=l7 _ _ f5
 have g10:=l7 _ _ f10
 have g11:=l7 _ _ f11
 have g12:=l7 _ _ f12
 have hd:decide (limit≥h.end_)=true:=by rw [decide_eq_true_eq]; exact hl
 have nn:∀ {P:Hp} {a c:Nat} {o:xI},P a=some o→P c=none→a≠c:=fun h1 h2=>by rintro rfl; rw [h1] at h2; cases h2
 have m4:H4 b10=some (.row [.int .i64 0] 1 true):=by rw [e4]; exact Hp.put_same ..
 have m5:H5 b11=some (.row [.bool false] 1 true):=by rw [e5]; exact Hp.put_same ..
 have n1:b10≠b11:=nn m4 k11
 have n2:b10≠b12:=nn (l5 _ _ m4) k12
 have n3:b11≠b12:=nn m5 k12
 have kk10 : H b10 = none := by
  cases hq:H b10 with
  | none=>rfl
  | some o=>rw [((l1.trans l2).trans l3) _ _ hq] at k10; cases k10
 have kk11 : H b11 = none := by
  cases hq:H b11 with
  | none=>rfl
  | some o=>rw [(((l1.trans l2).trans l3).trans l4) _ _ hq] at k11; cases k11
 have kk12 : H b12 = none := by
  cases hq:H b12 with
  | none=>rfl
  | some o=>rw [((((l1.trans l2).trans l3).trans l4).trans l5) _ _ hq] at k12; cases k12
 simp only [yEg,g5,go_sem,Nat.reduceEqDiff,Nat.reduceBEq,Nat.reduceAdd]
 refine zE _ (by simp only [go_sem]) (fun _=>⟨by simp only [go_sem,Nat.reduceEqDiff],hcall⟩) ?_
 obtain⟨q,hq⟩:∃ q,q=(yS h && zCb h.end_ h.hosts.length [⟨from_,[]⟩]):=⟨_,rfl⟩
 rw [← hq]
 have fin:H.le (((H7.put b10 (.row [.int .i64 0] 1 true)).put b11 (.row [.bool false] 1 true)).put b12 (.row [.int .i64 1] 1 true)):=zH (zH (zH hle kk10 _) kk11 _) kk12 _
 cases q
 ·simp only [zHd,g5,g10,g11,g12,yL,n1,n2,n3,Ne.symm n1,Ne.symm n2,Ne.symm n3,↓yQ,go_sem,Nat.reduceEqDiff,Nat.reduceBEq,Nat.reduceAdd,zC]
  exact fin
 ·cases hlf:decide (limit < from_)
  ·simp only [zHd,hlf,hd,g5,g10,g11,g12,yL,n1,n2,n3,Ne.symm n1,Ne.symm n2,Ne.symm n3,go_sem,Nat.reduceEqDiff,Nat.reduceBEq,Nat.reduceAdd,zC]
   exact fin
  ·simp only [zHd,hlf,hd,g5,g10,g11,g12,yL,n1,n2,n3,Ne.symm n1,Ne.symm n2,Ne.symm n3,↓yQ,go_sem,Nat.reduceEqDiff,Nat.reduceBEq,Nat.reduceAdd,zC]
   exact fin
end Go.SL
/- Contract: the law's head. -/
namespace Go.SL
open Go
variable {E:Env} {H:Hp}
theorem zIg:yS exH=true:=by decide
theorem zLd:zCV exH [120] 20=13∧zCw exH [120] 20=0:=by decide
theorem zKD:zCV exH [120] 33=0∧zCw exH [120] 33=0:=by decide
theorem ySM:zCw exH [121] 20=4:=by decide
theorem zJe:zES exH = [(0,true),(20,true),(24,true),(33,true)]:=by decide +kernel
def yTs:yO:=⟨[],[],[],0,0,[],[],0,0⟩
theorem zCU:yS yTs=false:=by decide
theorem zDF : zJb exH.copies := ⟨by decide, fun c hc => by
 have:c = ⟨0,0,20,[120],zGx⟩:=by simpa [exH] using hc
 subst this
 decide⟩
theorem yUZ : ∀ c ∈ exH.copies, zBO c.sets := by
 intro c hc
 have:c = ⟨0,0,20,[120],zGx⟩:=by simpa [exH] using hc
 subst this
 intro s hs g hg
 have : s.sigs = [] := by
  simp only [zGx,List.mem_cons,List.not_mem_nil,or_false] at hs
  rcases hs with rfl | rfl | rfl<;>rfl
 rw [this] at hg; cases hg
theorem zKp {ns l : List Int} (hp : ns.Perm l) (hl : l.Pairwise (fun a b => a ≤ b)) : xG ltInt ns.length ns = l := by
 have h1:(xG ltInt ns.length ns).Perm l:=(zBP (lt:=ltInt) ns.length ns (Nat.le_refl _)).trans hp
 have h2:=zGL (key:=fun a:Int=>a) ns.length ns (Nat.le_refl _)
 have hlen:(xG ltInt ns.length ns).length=ns.length:=vB _ _ _
 have h3 : (xG ltInt ns.length ns).Pairwise (fun a b => a ≤ b) := by
  rw [List.pairwise_iff_getElem]
  intro i j hi hj hij
  have hadj:∀ i,i + 1 < ns.length→(xG ltInt ns.length ns).getD i default≤(xG ltInt ns.length ns).getD (i + 1) default:=h2
  have : ∀ d, i + d < ns.length → (xG ltInt ns.length ns).getD i default ≤ (xG ltInt ns.length ns).getD (i + d) default := by
   intro d
   induction d with
   | zero=>intro _; exact Int.le_refl _
   | succ d ih =>
    intro hd
    exact Int.le_trans (ih (by omega)) (hadj (i + d) (by omega))
  have h4:=this (j - i) (by omega)
  rw [show i + (j - i)=j by omega] at h4
  rw [List.getD_eq_getElem?_getD,List.getElem?_eq_getElem hi,List.getD_eq_getElem?_getD,List.getElem?_eq_getElem hj] at h4
  exact h4
 exact List.Perm.eq_of_pairwise (fun a b _ _ h1 h2=>Int.le_antisymm h1 h2) h3 hl h1
set_option maxRecDepth 8000 in
set_option maxHeartbeats 4000000 in
theorem yXd (hE : zX E) (h2 : xZ E) (h3 : yW E) (h4 : xH E) (L : zBz E) (L4 : zJF E) (hB : qU E H) (hB2 : uD E H) : yB E 183 [] H (.bool true) := by
 have hz:=zIS zIg zDF
 have hp:=zQp zIg zDF yUZ
 have m1:(zES exH).length≤12:=by rw [zJe]; decide
 refine Fn.of_vks h4.c183 (by simp [zMO]) ?_
 simp only [zMO,yDj,yGo,zYP,yAa,zWr,zWZ,yGb]
 simp only [go_sem]
 refine zM (by simp only [go_sem]) (zJo h4) ?_
 rintro v1 H1 ⟨hh1,l1⟩
 simp only [go_sem]
 refine zM (by simp only [go_sem]) (yTA hE h2 h3 L (zOm hE h2 h3 L4) (by omega) (hB.mono l1) (hB2.mono l1) hh1 (by decide) (fun _=>hp) (fun _=>hz) (fun _=>m1)) ?_
 rintro u H2 ⟨l2,_,hg⟩
 obtain⟨w,ns,hu,hperm,hints⟩:=hg zIg
 subst hu
 rw [zJe] at hperm
 rw [zKp hperm (by decide)] at hints
 clear hg
 have le2:=l1.trans l2
 simp only [go_sem,Nat.reduceLT,Nat.reduceEqDiff,Nat.reduceBEq,Nat.reduceAdd]
 refine zM (by simp only [go_sem]) (zJo h4) ?_
 rintro v2 H3 ⟨hh3,l3⟩
 have le3:=le2.trans l3
 simp only [go_sem,Nat.reduceBEq]
 refine zM (by simp only [go_sem,Nat.reduceEqDiff]) (Fn.same (zNo hE h2 h4 (hB.mono le3) hh3 (by decide) (fun i hi=>Nat.le_trans (zDF.sets _ (yN hi)) (by omega)) [120] 20)) ?_
 rintro u H4 ⟨rfl,rfl⟩
 rw [zLd.1,zLd.2]
 simp only [go_sem,Nat.reduceLT,Nat.reduceEqDiff,Nat.reduceBEq,Nat.reduceAdd]
 refine zM (by simp only [go_sem]) (zJo h4) ?_
 rintro v3 H5 ⟨hh5,l5⟩
 have le5:=le3.trans l5
 simp only [go_sem,Nat.reduceBEq]
 refine zM (by simp only [go_sem,Nat.reduceEqDiff]) (Fn.same (zNo hE h2 h4 (hB.mono le5) hh5 (by decide) (fun i hi=>Nat.le_trans (zDF.sets _ (yN hi)) (by omega)) [120] 33)) ?_
 rintro u H6 ⟨rfl,rfl⟩
 rw [zKD.1,zKD.2]
 simp only [go_sem,Nat.reduceLT,Nat.reduceEqDiff,Nat.reduceBEq,Nat.reduceAdd]
 refine zM (by simp only [go_sem]) (zJo h4) ?_
 rintro v4 H7 ⟨hh7,l7⟩
 have le7:=le5.trans l7
 simp only [go_sem,Nat.reduceBEq]
 refine zM (by simp only [go_sem,Nat.reduceEqDiff]) (Fn.same (zNo hE h2 h4 (hB.mono le7) hh7 (by decide) (fun i hi=>Nat.le_trans (zDF.sets _ (yN hi)) (by omega)) [121] 20)) ?_
 rintro u H8 ⟨rfl,rfl⟩
 rw [ySM]
 simp only [go_sem,Nat.reduceLT,Nat.reduceEqDiff,Nat.reduceBEq,Nat.reduceAdd]
 refine zM (by simp only [go_sem]) (zJo h4) ?_
 rintro v5 H9 ⟨hh9,l9⟩
 have le9:=le7.trans l9
 simp only [go_sem,Nat.reduceBEq]
 refine zM (by simp only [go_sem,Nat.reduceEqDiff]) (Fn.same (yWy hE h2 h3 (hB.mono le9) hh9 (by decide) 5 50 (by decide))) ?_
 rintro u H10 ⟨rfl,rfl⟩
 simp only [go_sem,Nat.reduceLT,Nat.reduceEqDiff,Nat.reduceBEq,Nat.reduceAdd]
 have hh0 : vV H10 (.agg #[.slice none 0 0, .slice none 0 0, .string ⟨#[]⟩, .int .i64 0, .int .i64 0, .slice none 0 0, .slice none 0 0, .int .i64 0, .int .i64 0]) yTs :=
  ⟨_,_,_,_,rfl,zG.nil,⟨fun _=>undef,zG.nil,fun i hi=>by cases hi⟩,zG.nil,zG.nil⟩
 refine zM (by simp only [go_sem,Nat.reduceEqDiff]) (yTA hE h2 h3 L (zOm hE h2 h3 L4) (by omega) (hB.mono le9) (hB2.mono le9) hh0 (by decide) (fun h=>by rw [zCU] at h; cases h) (fun h=>by rw [zCU] at h; cases h) (fun h=>by rw [zCU] at h; cases h)) ?_
 rintro u H11 ⟨l11,hbad,_⟩
 rw [hbad zCU]
 have le11:=le9.trans l11
 have hi11:=zG.mono hints (l3.trans (l5.trans (l7.trans (l9.trans l11))))
 obtain⟨aw,cw,rfl⟩:=zG.sl hi11
 simp only [go_sem,Nat.reduceLT,Nat.reduceEqDiff,Nat.reduceBEq,Nat.reduceAdd]
 simp only [yFQ,go_sem,Nat.reduceEqDiff,Nat.reduceBEq,zC]
 refine zAr (by intro x h; cases h) (by intro f a h; cases h) ?_ ?_ ?_
 ·simp only [go_sem,Nat.reduceEqDiff]
 ·simp only [go_sem,Nat.reduceEqDiff]
 simp only [go_sem,Nat.reduceLeDiff,Nat.reduceBEq,Nat.reduceAdd]
 intro b hb
 have leb:H11.le (H11.put b (.row [.int .i64 0,.int .i64 20,.int .i64 24,.int .i64 33] 4 true)):=zJ hb _
 have hb4 : wH (H11.put b (.row [.int .i64 0, .int .i64 20, .int .i64 24, .int .i64 33] 4 true)) (.slice (some ⟨b, 0, none⟩) 4 4) [0, 20, 24, 33] := by
  refine⟨_,4,rfl,(fun h=>by cases h),fun _=>⟨b,0,_,4,true,rfl,Hp.put_same _ _ _,fun i hi=>?_⟩⟩
  have h4:i=0∨i=1∨i=2∨i=3:=by simp only [List.length_cons,List.length_nil] at hi; omega
  rcases h4 with rfl | rfl | rfl | rfl<;>exact⟨by decide,rfl⟩
 have hnum:=xAg h4 (zG.mono hi11 leb) hb4 (by decide) (by decide)
 have hnt:zFK (List.map (fun x:Int × Bool=>x.fst) [(0,true),(20,true),(24,true),(33,true)]) [0,20,24,33]=true:=by decide
 rw [hnt] at hnum
 have leF:=le11.trans leb
 generalize H11.put b (.row [.int .i64 0,.int .i64 20,.int .i64 24,.int .i64 33] 4 true)=H12 at *
 refine zE _ (by simp only [go_sem,Nat.reduceEqDiff]) (fun hg=>⟨by simp only [go_sem,Nat.reduceEqDiff] at hg ⊢,hnum⟩) ?_
 simp only [go_sem,Nat.reduceEqDiff,Nat.reduceBEq,reduceCtorEq]
 exact leF
end Go.SL
/- Contracts: whether a time is in stretches (package span); valid questions (packages cache and holds). -/
namespace Go.SL
open Go
variable {E:Env} {H:Hp}
def ixN (P : Nat → Bool) : Nat → Int
 | 0=>-1
 | k + 1=>if ixN P k≥0 then ixN P k else if P k then (k:Int) else -1
theorem zFG {P : Nat → Bool} : ∀ {n : Nat}, wM P n = false → ixN P n = -1
 | 0,_=>rfl
 | k + 1, h => by
  simp only [wM,Bool.or_eq_false_iff] at h
  simp [ixN,zFG h.1,h.2]
theorem zGA {P : Nat → Bool} {k : Nat} (h : wM P k = false) (hp : P k = true) : ∀ {n : Nat}, k < n → ixN P n = k
 | 0,hk=>by omega
 | n + 1, hk => by
  by_cases e:k=n
  ·subst e
   simp [ixN,zFG h,hp]
  ·have ih:=zGA h hp (n:=n) (by omega)
   simp only [ixN,ih]
   rw [if_pos (by omega)]
theorem yUn (P : Nat → Bool) (n : Nat) : decide (ixN P n ≥ 0) = wM P n := by
 cases h:wM P n
 ·rw [zFG h]; rfl
 ·have : ∀ n, wM P n = true → ∃ k, k < n ∧ P k = true ∧ wM P k = false := by
   intro n
   induction n with
   | zero=>intro h; cases h
   | succ n ih =>
    intro h
    cases hq:wM P n
    ·simp only [wM,hq,Bool.false_or] at h
     exact⟨n,by omega,h,hq⟩
    ·obtain⟨k,h1,h2,h3⟩:=ih hq
     exact⟨k,by omega,h2,h3⟩
  obtain⟨k,hk,hp,ha⟩:=this n h
  rw [zGA ha hp hk,decide_eq_true_eq]; omega
theorem yXL (h5 : uJ E) {bt c : Nat} {wr : Bool} {t : Int} (hb : H bt = some (.row [.int .i64 t] c wr)) (x y : Int) :
  yB E 244 [.agg #[.int .i64 x,.int .i64 y],.pointer (some ⟨bt,0,none⟩)] H (.bool (decide (x≤t) && decide (t < y))):=by
 refine Fn.of_vks h5.c244 (by simp [zMb]) ?_
 simp only [zMb,yBK,zUG]
 cases hq:decide (x≤t)
 ·simp only [hb,hq,↓yA,go_sem,Nat.reduceLeDiff,Nat.reduceEqDiff,Nat.reduceBEq,Nat.reduceAdd,reduceCtorEq,zC]
 ·simp only [hb,hq,go_sem,Nat.reduceLeDiff,Nat.reduceEqDiff,Nat.reduceBEq,Nat.reduceAdd,reduceCtorEq,zC]
theorem yXn (h5 : uJ E) {v f : Value} {l : List zO} (P : Nat → Bool) (hv : wR H v l) (hn : l.length ≤ 1000000)
  (hf:∀ i,i < l.length→FnV E f [.agg #[.int .i64 (l.getD i default).from_,.int .i64 (l.getD i default).till]] H (fun u H'=>u = .bool (P i)∧H'=H)):yB E 246 [v,f] H (.int .i64 (ixN P l.length)):=by
 obtain⟨a,cap,rfl,hsp,hr⟩:=hv
 refine Fn.of_vks h5.c246 (by simp [zMi]) ?_
 simp only [zMi,zVk,yAQ,yDW,yAy,yBq,yAx,yCs,yFW]
 obtain⟨q0,hq0⟩:∃ y,y=ixN P l.length:=⟨_,rfl⟩
 rw [← hq0]
 simp only [go_sem,Nat.reduceEqDiff,Nat.reduceBEq,reduceCtorEq]
 refine zT l.length 0 (fun k=>[(0,⟨true,.val (.slice a l.length cap)⟩),(1,⟨true,.val f⟩),(7,⟨true,.val (.int .i64 l.length)⟩),(8,⟨true,.val (.int .i64 k)⟩)]) (fun k=>wM P k=false) (Nat.zero_le _) rfl rfl ?_
 intro k hk hP
 by_cases hlt:k < l.length
 ·have hdl:decide ((k:Int) < (l.length:Int))=true:=by simpa using hlt
  obtain⟨b,o,vs,c,wr,rfl,hb,hi⟩:=hr (by omega)
  have hi1:=(hi k hlt).1
  have hi2:=(hi k hlt).2
  simp only [yM] at hi2
  simp only [hdl,hb,hi2,go_sem,Nat.reduceEqDiff,Nat.reduceBEq,reduceCtorEq,zC]
  refine⟨⟨by omega,by omega⟩,hi1,?_⟩
  refine xA (by simp only [go_sem,Nat.reduceEqDiff,reduceCtorEq]) (by simp only [go_sem,Nat.reduceEqDiff,reduceCtorEq]) (hf k hlt) ?_
  rintro u H' ⟨rfl,rfl⟩
  cases hp:P k
  ·have ht:wM P (k + 1)=false:=by show(wM P k || P k)=false; rw [hP,hp]; rfl
   simp only [ht,go_sem,Nat.reduceEqDiff,Nat.reduceBEq,reduceCtorEq,zC]
   exact⟨hlt,zR (by omega)⟩
  ·have:=zGA hP hp hlt
   rw [this] at hq0
   simp only [hq0,go_sem,Nat.reduceEqDiff,Nat.reduceBEq,reduceCtorEq,zC]
 ·have hdl:decide ((k:Int) < (l.length:Int))=false:=by simpa using hlt
  have:k=l.length:=by omega
  subst this
  rw [zFG hP] at hq0
  simp only [hdl,hq0,go_sem,Nat.reduceEqDiff,Nat.reduceBEq,reduceCtorEq,zC]
theorem yZi (h5 : uJ E) {v f : Value} {l : List zO} (P : Nat → Bool) (hv : wR H v l) (hn : l.length ≤ 1000000)
  (hf:∀ i,i < l.length→FnV E f [.agg #[.int .i64 (l.getD i default).from_,.int .i64 (l.getD i default).till]] H (fun u H'=>u = .bool (P i)∧H'=H)):yB E 245 [v,f] H (.bool (wM P l.length)):=by
 have hc:=yXn h5 P hv hn hf
 obtain⟨a,cap,rfl⟩:=zG.sl hv
 rw [← yUn]
 refine Fn.of_vks h5.c245 (by simp [zNq]) ?_
 simp only [zNq,zSP,zWu]
 simp only [go_sem,Nat.reduceEqDiff,Nat.reduceBEq,reduceCtorEq]
 refine zM (by simp only [go_sem,Nat.reduceEqDiff,reduceCtorEq]) (Fn.same hc) ?_
 rintro u H' ⟨rfl,rfl⟩
 simp only [go_sem,Nat.reduceEqDiff,Nat.reduceBEq,reduceCtorEq,zC]
theorem yXX (h5 : uJ E) {v : Value} {l : List zO} (t : Int) (hv : wR H v l) (hn : l.length ≤ 1000000) : yB E 232 [v, .int .i64 t] H (.bool (hasB l t)) := by
 obtain⟨a,cap,rfl⟩:=zG.sl hv
 have hh:hasB l t=wM (fun i=>decide ((l.getD i default).from_≤t) && decide (t < (l.getD i default).till)) l.length:=rfl
 rw [hh]
 refine Fn.of_vks h5.c232 (by simp [zNd]) ?_
 simp only [zNd,yDn,zST]
 simp only [go_sem,Nat.reduceEqDiff,Nat.reduceBEq,reduceCtorEq]
 intro bt hbt
 have hle:H.le (H.put bt (.row [.int .i64 t] 1 true)):=zJ hbt _
 refine zM (by simp only [go_sem,Nat.reduceEqDiff,reduceCtorEq]) (Fn.same (yZi h5 (fun i=>decide ((l.getD i default).from_≤t) && decide (t < (l.getD i default).till)) (zG.mono hv hle) hn (fun i hi=>yP h5.e244 (Fn.same (yXL h5 (Hp.put_same ..) _ _))))) ?_
 rintro u H' ⟨rfl,rfl⟩
 simp only [go_sem,Nat.reduceEqDiff,Nat.reduceBEq,reduceCtorEq]
 exact hle
theorem yZA (h5 : uJ E) : yB E 238 [.int .i64 0] H (.bool true) := by
 have d0:decide ((0:Int)≥0)=true:=by decide
 refine Fn.of_vks h5.c238 (by simp [zLz]) ?_
 simp only [zLz,zUg,zTK]
 simp only [d0,go_sem,Nat.reduceEqDiff,Nat.reduceBEq,reduceCtorEq,Int.reduceLE,zC,zIk]
def okQ (n:Bs) (ty:Int):Bool:=zL n && (decide (ty≥1) && decide (ty≤8))
theorem yWX (hE : zX E) (h5 : uJ E) (n : Bs) (ty : Int) : yB E 237 [.agg #[S n, .int .i64 ty]] H (.bool (okQ n ty)) := by
 have hc:=zFy (H:=H) hE n
 unfold okQ
 refine Fn.of_vks h5.c237 (by simp [zLM]) ?_
 simp only [zLM,zSY,yBp]
 simp only [go_sem,Nat.reduceLeDiff,Nat.reduceEqDiff,Nat.reduceBEq,Nat.reduceAdd,reduceCtorEq]
 refine zE _ (by simp only [go_sem]) (fun _=>⟨by simp only [go_sem,Nat.reduceEqDiff],hc⟩) ?_
 cases h1:zL n
 ·simp only [↓yA,go_sem,Nat.reduceEqDiff,Nat.reduceBEq,Nat.reduceAdd,zC]
 ·cases h2:decide (ty≥1)
  ·simp only [h2,↓yA,go_sem,Nat.reduceEqDiff,Nat.reduceBEq,Nat.reduceAdd,zC]
  ·simp only [h2,go_sem,Nat.reduceEqDiff,Nat.reduceBEq,Nat.reduceAdd,zC]
def zDY:Value:=.agg #[.slice none 0 0]
theorem yXS (h5 : uJ E) : yB E 236 [zDY] H (.bool true) := by
 unfold zDY
 have cN:((0:Nat):Int)=0:=rfl
 have d1:decide ((0:Int) > 400)=false:=by decide
 have d2:decide ((0:Int) < 0)=false:=by decide
 refine Fn.of_vks h5.c236 (by simp [zMv]) ?_
 simp only [zMv,zTJ,yCc,zYk,yDh,yCh,yEP,zTI,yCw,yDQ,yBt,zOH,zQt]
 simp only [cN,d1,go_sem,Nat.reduceEqDiff,Nat.reduceBEq,reduceCtorEq,zC]
 intro m hm
 refine zT 0 0 (fun k=>[(3,⟨true,.val (.map (some m))⟩),(12,⟨true,.val (.slice none 0 0)⟩),(13,⟨true,.val (.int .i64 0)⟩),(14,⟨true,.val (.int .i64 k)⟩)]) (fun _=>True) (Nat.le_refl _) rfl trivial ?_
 intro k hk _
 have:k=0:=by omega
 subst this
 simp only [cN,go_sem,Nat.reduceEqDiff,Nat.reduceBEq,Nat.reduceAdd,Int.reduceLT,zC,zGU]
 exact zJ hm _
theorem xAz (h5 : uJ E) {G : Hp} {b2 b3 c2 c3 : Nat} {w2 w3 : Bool} {t : Int} (hb2 : G b2 = some (.row [.slice none 0 0] c2 w2)) (_hb3 : G b3 = some (.row [.int .i64 t] c3 w3)) :
  Iter E (.func (.func (E.fn 242)) #[] #[.pointer (some ⟨b2,0,none⟩),.pointer (some ⟨b3,0,none⟩)]) G (fun xs=>xs = []):=by
 intro y Inv Stop H hG hy h0
 refine yP h5.e242 ?_
 show Fn E.P (E.fn 242) [y,.pointer (some ⟨b2,0,none⟩),.pointer (some ⟨b3,0,none⟩)] H _
 have hle:=hG _ _ h0
 have e2:=hle _ _ hb2
 have cN:((0:Nat):Int)=0:=rfl
 have d2:decide ((0:Int) < 0)=false:=by decide
 refine Fn.of_vks h5.c242 (by simp [zMl]) ?_
 simp only [zMl,zTu,yBs,zTV,zUz,zYE]
 simp only [e2,cN,go_sem,Nat.reduceEqDiff,Nat.reduceBEq,Nat.reduceAdd,reduceCtorEq]
 refine zT 0 0 (fun k=>[(0,⟨true,.val y⟩),(2,⟨true,.val (.pointer (some ⟨b3,0,none⟩))⟩),(7,⟨true,.val (.slice none 0 0)⟩),(8,⟨true,.val (.int .i64 0)⟩),(9,⟨true,.val (.int .i64 k)⟩)]) (fun _=>True) (Nat.le_refl _) rfl trivial ?_
 intro k hk _
 have:k=0:=by omega
 subst this
 simp only [cN,go_sem,Nat.reduceEqDiff,Nat.reduceBEq,Nat.reduceAdd,reduceCtorEq,Int.reduceLT,zC,zGU]
 exact .inl ⟨[],rfl,h0⟩
theorem yYM (h5 : uJ E) (t : Int) : Fn E.P (E.fn 239) [zDY, .int .i64 t] H (fun u H' => ∃ b2 b3, u = .func (.func (E.fn 242)) #[] #[.pointer (some ⟨b2, 0, none⟩), .pointer (some ⟨b3, 0, none⟩)] ∧ H.le H' ∧ H' b2 = some (.row [.slice none 0 0] 1 true) ∧ H' b3 = some (.row [.int .i64 t] 1 true)) := by
 unfold zDY
 refine Fn.of_vks h5.c239 (by simp [zMV]) ?_
 simp only [zMV,zXE,yFk]
 simp only [go_sem,Nat.reduceEqDiff,Nat.reduceBEq,reduceCtorEq]
 intro b2 hb2 b3 hb3
 have hne:b2≠b3:=by rintro rfl; rw [Hp.put_same] at hb3; cases hb3
 exact⟨b2,b3,rfl,(zJ hb2 _).trans (zJ hb3 _),by rw [Hp.put_ne _ _ hne,Hp.put_same],Hp.put_same ..⟩
section
variable {fr:Fr} {Q:X→Fr→Hp→Prop} {k:List Item}
theorem zLr {f : Arg} {ps : List Nat} {assign body : vM} (h1 : vok fr f) (h2 : zFD (vo E fr f)) (hI : Iter E (vo E fr f) H (fun xs => xs = [])) (hend : zS E k fr H Q) :
  zS E (.code (.rangeF f ps assign body) :: k) fr H Q:=by
 simp only [zS,vc]
 refine⟨h1,h2,H,(fun xs=>xs = []),hI,(by rintro xs rfl x hx; cases hx),(fun _ H'=>H'=H),rfl,(by rintro pre H' rfl; exact Hp.le.refl _),(by rintro pre x H' ⟨suf,hs⟩; simp at hs),?_⟩
 rintro xs H' _ rfl
 exact hend
end
def yOJ:Value:=.agg #[.string ⟨#[]⟩,.int .i64 0,.int .i64 0,.slice none 0 0,.slice none 0 0,.string ⟨#[]⟩,.int .i64 0]
theorem yZf (hE : zX E) (h5 : uJ E) {n : Bs} {ty : Int} (hq : okQ n ty = true) : yB E 235 [zDY, .agg #[S n, .int .i64 ty], .int .i64 0] H (.tuple #[yOJ, .bool false, .int .i64 0]) := by
 have c236:=fun H=>yXS (H:=H) h5
 have c239:=fun H=>yYM (H:=H) h5 0
 unfold zDY at c236 c239 ⊢
 refine Fn.of_vks h5.c235 (by simp [zLX]) ?_
 simp only [zLX,zUt,yCf,zTh,zSQ,zUs,zZZ]
 simp only [go_sem,Nat.reduceEqDiff,Nat.reduceBEq,Nat.reduceAdd,reduceCtorEq]
 intro b4 hb4 b6 hb6 b7 hb7 b8 hb8
 have n46:b4≠b6:=by rintro rfl; rw [Hp.put_same] at hb6; cases hb6
 have n47:b4≠b7:=by rintro rfl; rw [Hp.put_ne _ _ n46,Hp.put_same] at hb7; cases hb7
 have n67:b6≠b7:=by rintro rfl; rw [Hp.put_same] at hb7; cases hb7
 have n78:b7≠b8:=by rintro rfl; rw [Hp.put_same] at hb8; cases hb8
 have n68:b6≠b8:=by rintro rfl; rw [Hp.put_ne _ _ n67,Hp.put_same] at hb8; cases hb8
 have n48:b4≠b8:=by rintro rfl; rw [Hp.put_ne _ _ n47,Hp.put_ne _ _ n46,Hp.put_same] at hb8; cases hb8
 obtain⟨H1,hH1⟩:∃ y,y=(((H.put b4 (.row [S n,.int .i64 ty] 2 true)).put b6 (.row [.string ⟨#[]⟩,.int .i64 0,.int .i64 0,.slice none 0 0,.slice none 0 0,.string ⟨#[]⟩,.int .i64 0] 7 true)).put b7 (.row [.bool false] 1 true)).put b8 (.row [.int .i64 0] 1 true):=⟨_,rfl⟩
 have hle1:H.le H1:=by rw [hH1]; exact(((zJ hb4 _).trans (zJ hb6 _)).trans (zJ hb7 _)).trans (zJ hb8 _)
 have e4:H1 b4=some (.row [S n,.int .i64 ty] 2 true):=by rw [hH1,Hp.put_ne _ _ n48,Hp.put_ne _ _ n47,Hp.put_ne _ _ n46,Hp.put_same]
 have e6:H1 b6=some (.row [.string ⟨#[]⟩,.int .i64 0,.int .i64 0,.slice none 0 0,.slice none 0 0,.string ⟨#[]⟩,.int .i64 0] 7 true):=by rw [hH1,Hp.put_ne _ _ n68,Hp.put_ne _ _ n67,Hp.put_same]
 have e7:H1 b7=some (.row [.bool false] 1 true):=by rw [hH1,Hp.put_ne _ _ n78,Hp.put_same]
 have e8:H1 b8=some (.row [.int .i64 0] 1 true):=by rw [hH1,Hp.put_same]
 rw [← hH1]
 simp only [yBU,go_sem,Nat.reduceEqDiff,Nat.reduceBEq]
 refine zE _ (by simp only [go_sem]) (fun _=>⟨by simp only [go_sem,Nat.reduceEqDiff],c236 H1⟩) ?_
 simp only [e4,go_sem,Nat.reduceEqDiff,Nat.reduceBEq,Nat.reduceAdd]
 refine zE _ (by simp only [go_sem,Nat.reduceEqDiff]) (fun _=>⟨by simp only [go_sem,Nat.reduceEqDiff],yWX hE h5 n ty⟩) ?_
 rw [hq]
 simp only [go_sem,Nat.reduceEqDiff,Nat.reduceBEq]
 refine zE _ (by simp only [go_sem,Nat.reduceEqDiff]) (fun _=>⟨by simp only [go_sem,Nat.reduceEqDiff],yZA h5⟩) ?_
 simp only [zZN,go_sem,Nat.reduceEqDiff,Nat.reduceBEq,Nat.reduceAdd]
 refine zM (by simp only [go_sem,Nat.reduceEqDiff]) (c239 H1) ?_
 rintro u H2 ⟨b2,b3,rfl,hle2,g2,g3⟩
 simp only [go_sem,Nat.reduceEqDiff,Nat.reduceBEq]
 have e6:=hle2 _ _ e6
 have e7:=hle2 _ _ e7
 have e8:=hle2 _ _ e8
 refine zLr (by simp only [go_sem,Nat.reduceEqDiff]) (by simp only [go_sem,Nat.reduceEqDiff]; trivial) (by simp only [go_sem,Nat.reduceEqDiff]; exact xAz h5 g2 g3) ?_
 have f6:H b6=none:=by rw [Hp.put_ne _ _ (Ne.symm n46)] at hb6; exact hb6
 have f7:H b7=none:=by rw [Hp.put_ne _ _ (Ne.symm n67),Hp.put_ne _ _ (Ne.symm n47)] at hb7; exact hb7
 have f8:H b8=none:=by rw [Hp.put_ne _ _ (Ne.symm n78),Hp.put_ne _ _ (Ne.symm n68),Hp.put_ne _ _ (Ne.symm n48)] at hb8; exact hb8
 simp only [e6,e7,e8,Hp.put_same,Hp.put_ne _ _ n67,Hp.put_ne _ _ (Ne.symm n67),Hp.put_ne _ _ n68,Hp.put_ne _ _ (Ne.symm n68),Hp.put_ne _ _ n78,Hp.put_ne _ _ (Ne.symm n78),go_sem,Nat.reduceEqDiff,Nat.reduceBEq,Nat.reduceAdd]
 exact⟨rfl,zH (zH (zH (hle1.trans hle2) f6 _) f7 _) f8 _⟩
theorem yWM (hE : zX E) (h5 : uJ E) {n : Bs} {ty : Int} (hq : okQ n ty = true) : yB E 228 [.agg #[S n, .int .i64 ty]] H (.bool true) := by
 have c:=yZf (H:=H) hE h5 hq
 unfold zDY yOJ at c
 refine Fn.of_vks h5.c228 (by simp [zNf]) ?_
 simp only [zNf,zXo,zUY,zYy]
 simp only [go_sem,Nat.reduceEqDiff,Nat.reduceBEq,Nat.reduceAdd,reduceCtorEq]
 refine zE _ (by simp only [go_sem]) (fun _=>⟨by simp only [go_sem,Nat.reduceEqDiff],c⟩) ?_
 simp only [go_sem,Nat.reduceLT,Nat.reduceEqDiff,Nat.reduceBEq,Nat.reduceAdd,zC]
end Go.SL
