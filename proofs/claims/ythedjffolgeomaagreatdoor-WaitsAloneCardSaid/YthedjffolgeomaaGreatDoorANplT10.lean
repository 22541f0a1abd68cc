/- Contract of zone.lay. -/
import Derived.Test.YthedjffolgeomaaGreatDoorANplQ
import Derived.Test.YthedjffolgeomaaGreatDoorANplT5
import Derived.Test.YthedjffolgeomaaGreatDoorANplO
import Derived.Test.YthedjffolgeomaaGreatDoorANplT9
namespace Go.SL
open Go
variable {E:Env} {H:Hp}
def qI (apex:Bs) (ss:List zF) (k:Nat):List Value:=(List.range ss.length).map fun i=>if i < k then S (behind apex ss i) else S []
theorem zSs (apex : Bs) (ss : List zF) : qI apex ss 0 = rep [S []] ss.length := by
 apply List.ext_getElem?
 intro i
 rw [zGv]
 simp only [qI,List.getElem?_map]
 by_cases h:i < ss.length<;>simp [h]
theorem zJl (apex:Bs) (ss:List zF) (k:Nat):(qI apex ss k).length=ss.length:=by simp [qI]
theorem zSp (apex : Bs) (ss : List zF) {k : Nat} (hk : k < ss.length) : (qI apex ss k).take k ++ S (behind apex ss k) :: (qI apex ss k).drop (k + 1) = qI apex ss (k + 1) := by
 apply List.ext_getElem?
 intro i
 simp only [qI]
 rcases Nat.lt_trichotomy i k with h | h | h
 ·rw [List.getElem?_append_left (by simp; omega)]
  have hl:i < ss.length:=by omega
  simp [h,show i < k + 1 by omega,hl]
 ·subst h
  rw [List.getElem?_append_right (by simp; omega)]
  simp [Nat.min_eq_left (Nat.le_of_lt hk),hk]
 ·rw [List.getElem?_append_right (by simp; omega)]
  simp only [List.length_take,List.length_map,List.length_range,Nat.min_eq_left (Nat.le_of_lt hk)]
  obtain⟨j,rfl⟩:∃ j,i=k + 1 + j:=⟨i - (k + 1),by omega⟩
  have e:k + 1 + j - k=j + 1:=by omega
  rw [e,List.getElem?_cons_succ,List.getElem?_drop]
  by_cases hl:k + 1 + j < ss.length<;>simp [hl,show ¬ (k + 1 + j < k) by omega,show ¬ (k + 1 + j < k + 1) by omega]
set_option maxHeartbeats 1000000 in
set_option maxRecDepth 100000 in
theorem xBv (hE : zX E) (apex : Bs) {v : Value} {ss : List zF} (hss : xT H v ss) (hn : ss.length ≤ 1099511627775) :
  Fn E.P (E.fn 59) [.agg #[S apex,v]] H (fun u H'=>∃ w,u = .agg #[S apex,v,w]∧H.le H'∧zIB H' w ss.length (behind apex ss)):=by
 obtain⟨d,g,⟨a,cap,rfl,hs,hr⟩,hdeep⟩:=hss
 refine Fn.of_vks hE.c59 (by simp [yHK]) ?_
 simp only [yHK,yOa,yPj,yOW,yOP,yOL,yMC,yOx,yMb,yKM,yOk,zTv,yDL,zZJ,yCo,yCB,yBx,zWJ,yBo,zXJ,zZl,yDU,yCt,yDB]
 simp only [go_sem,Nat.reduceEqDiff,Nat.reduceBEq,Nat.reduceAdd,reduceCtorEq]
 intro b3 hb3
 refine yK ss.length 0 (fun k fr' H' => fr' = [(1, ⟨true, .box [S apex, .slice a ss.length cap]⟩), (2, ⟨true, .box [S [], .slice none 0 0, .slice none 0 0]⟩), (3, ⟨true, .val (.map (some b3))⟩), (16, ⟨true, .val (.slice a ss.length cap)⟩), (17, ⟨true, .val (.int .i64 ss.length)⟩), (18, ⟨true, .val (.int .i64 k)⟩)] ∧
   ∃ o,H'=H.put b3 o∧∀ H0:Hp,uI (H0.put b3 o) b3 ((wZ apex ss k).map fun e=>(S e.1,.bool e.2))) (Nat.zero_le _) ⟨rfl,_,rfl,fun H0=>⟨#[],0,Hp.put_same ..,rfl⟩⟩ ?_
 rintro k fr' H' hk ⟨rfl,om,rfl,hM⟩
 by_cases hlt:k < ss.length
 ·have hd:decide ((k:Int) < (ss.length:Int))=true:=by simpa using hlt
  have hr':=hr (by omega)
  obtain⟨b,o,vs,c,wr,ha,hb,hi⟩:=hr'
  subst ha
  have hb1:(H.put b3 om) b=some (.row vs c wr):=zJ hb3 _ _ _ hb
  have hi1:=(hi k hlt).1
  have hi2:=(hi k hlt).2
  have hd1:=zG.one (hdeep k hlt).1
  have hg1:=zG.one (hdeep k hlt).2
  obtain⟨sk,hsk⟩:∃ x,ss.getD k default=x:=⟨_,rfl⟩
  have hsk':yF ss k=sk:=hsk
  simp only [hd,hb1,hi2,xD,hsk,hd1,hg1,go_sem,Nat.reduceLeDiff,Nat.reduceEqDiff,Nat.reduceBEq,Nat.reduceAdd,zC]
  have hcs:wZ apex ss (k + 1)=if sk.type=2∧sk.name≠apex then xV sk.name true (wZ apex ss k) else wZ apex ss k:=by simp only [wZ,hsk']
  refine⟨⟨by omega,by omega⟩,hi1,fun h=>⟨h,h⟩,fun h=>?_,fun h=>?_⟩
  ·have hc:sk.type=2∧sk.name≠apex:=by simpa using h
   refine zBv (enc:=fun x=>S x) (encv:=fun b=>.bool b) (l:=wZ apex ss k) (b:=b3) sk.name true zEH trivial ?_ ?_ ?_ ?_ ?_ ?_ (hM H) ?_
   ·simp only [go_sem,Nat.reduceEqDiff]
   ·simp only [go_sem,Nat.reduceEqDiff]
   ·simp only [go_sem]
   ·simp only [go_sem,Nat.reduceEqDiff]
   ·simp only [go_sem,Nat.reduceEqDiff]
   ·simp only [go_sem]
   ·intro o' hM'
    simp only [go_sem,Nat.reduceEqDiff,Nat.reduceBEq,zC]
    refine⟨hlt,zR (by omega),o',rfl,fun H0=>?_⟩
    rw [hcs,if_pos hc]; exact hM' H0
  ·have hc:¬ (sk.type=2∧sk.name≠apex):=by simpa using h
   exact⟨hlt,zR (by omega),om,rfl,fun H0=>by rw [hcs,if_neg hc]; exact hM H0⟩
 ·have hd:decide ((k:Int) < (ss.length:Int))=false:=by simpa using hlt
  have hkn:k=ss.length:=by omega
  subst hkn
  simp only [hd,yUh,jW,go_sem,Nat.reduceLeDiff,Nat.reduceEqDiff,Nat.reduceBEq,Nat.reduceAdd,zC]
  refine⟨by omega,by omega,by omega,by omega,fun b5 hb5=>?_⟩
  have h53:b5≠b3:=by rintro rfl; simp [yL] at hb5
  have hb50:H b5=none:=by simpa [yL,h53] using hb5
  have hHeq:((H.put b3 om).put b5 (xI.row (rep [Value.string { data:=#[] }] ss.length) (ss.length * 1) true))=((H.put b3 om).put b5 (xI.row (qI apex ss 0) (ss.length * 1) true)):=by rw [zSs]
  rw [hHeq]
  refine yK ss.length 0 (fun k fr' H' => fr' = [(2, ⟨true, .box [S [], .slice none 0 0, .slice none 0 0]⟩), (3, ⟨true, .val (.map (some b3))⟩), (6, ⟨true, .box [S apex, .slice a ss.length cap, .slice (some ⟨b5, 0, none⟩) ss.length ss.length]⟩), (7, ⟨true, .val (S (kS apex ss k))⟩), (49, ⟨true, .val (.slice a ss.length cap)⟩), (50, ⟨true, .val (.int .i64 ss.length)⟩), (51, ⟨true, .val (.int .i64 k)⟩)] ∧
   H'=(H.put b3 om).put b5 (xI.row (qI apex ss k) (ss.length * 1) true)) (Nat.zero_le _) ⟨rfl,rfl⟩ ?_
  rintro k fr' H' hk ⟨rfl,rfl⟩
  have hle3:H.le ((H.put b3 om).put b5 (xI.row (qI apex ss k) (ss.length * 1) true)):=zH (zJ hb3 _) hb50 _
  have hkb:((H.put b3 om).put b5 (xI.row (qI apex ss k) (ss.length * 1) true)) b5=some (xI.row (qI apex ss k) (ss.length * 1) true):=Hp.put_same ..
  by_cases hlt:k < ss.length
  ·have hd:decide ((k:Int) < (ss.length:Int))=true:=by simpa using hlt
   have hr':=hr (by omega)
   obtain⟨b,o,vs,c,wr,ha,hb,hi⟩:=hr'
   subst ha
   have hb1:=hle3 _ _ hb
   have hi1:=(hi k hlt).1
   have hi2:=(hi k hlt).2
   have hd1:=zG.one (hdeep k hlt).1
   have hg1:=zG.one (hdeep k hlt).2
   have hrl:=zJl apex ss k
   have hsu:=zSp apex ss hlt
   have hMk : uI ((H.put b3 om).put b5 (xI.row (qI apex ss k) (ss.length * 1) true)) b3 ((wZ apex ss ss.length).map fun e => (S e.1, .bool e.2)) := by
    obtain⟨es,cl,h1,h2⟩:=hM H
    exact⟨es,cl,by rw [yL,if_neg h53.symm]; exact h1,h2⟩
   obtain⟨sk,hsk⟩:∃ x,ss.getD k default=x:=⟨_,rfl⟩
   have hsk':yF ss k=sk:=hsk
   have hcs:kS apex ss (k + 1)=uR (wZ apex ss ss.length) (kS apex ss k) sk.name:=by simp only [kS,hsk']
   have hbe:behind apex ss k=kS apex ss (k + 1):=rfl
   rw [hbe] at hsu
   obtain⟨cu,hcu⟩:∃ x,kS apex ss k=x:=⟨_,rfl⟩
   obtain⟨cn,hcn⟩:∃ x,kS apex ss (k + 1)=x:=⟨_,rfl⟩
   rw [hcu,hcn] at hcs
   rw [hcn] at hsu
   rw [hcu]
   have hv : ((yI sk.name (wZ apex ss ss.length)).map (fun b => Value.bool b)).getD (.bool false) = .bool ((yI sk.name (wZ apex ss ss.length)).getD false) := by
    cases yI sk.name (wZ apex ss ss.length)<;>rfl
   have fin : ∀ x : Bs, x = cn → ((0 : Int) ≤ (k : Int) ∧ (k : Int) < (ss.length : Int)) ∧ (match ((H.put b3 om).put b5 (xI.row (qI apex ss k) ss.length true)) b5 with
     | some (xI.row vs cap true) => k + 1 ≤ vs.length ∧ k < ss.length ∧ (S x = S cn ∧ IntKind.i64.wrap ((k : Int) + 1) = ((k + 1 : Nat) : Int)) ∧
       (H.put b3 om).put b5 (xI.row (List.take k vs ++ [S x] ++ List.drop (k + 1) vs) cap true)=(H.put b3 om).put b5 (xI.row (qI apex ss (k + 1)) ss.length true)
     | _=>False):=by
    intro x hx
    subst hx
    refine⟨⟨by omega,by omega⟩,?_⟩
    rw [Hp.put_same]
    refine⟨by omega,hlt,⟨rfl,zR (by omega)⟩,?_⟩
    rw [← hsu,List.append_assoc]; rfl
   by_cases hc0:cu = []
   ·subst hc0
    simp only [hd,hb1,hi2,xD,hsk,hd1,hg1,go_sem,Nat.reduceLeDiff,Nat.reduceEqDiff,Nat.reduceBEq,Nat.reduceAdd,zC]
    refine⟨⟨by omega,by omega⟩,hi1,?_⟩
    refine zAr (by intro x h; cases h) (by intro f a h; cases h) ?_ ?_ ?_
    ·simp only [go_sem,Nat.reduceEqDiff]
    ·simp only [go_sem,Nat.reduceEqDiff]
    refine zAd (enc:=fun x=>S x) (encv:=fun b=>.bool b) (l:=wZ apex ss ss.length) (b:=b3) sk.name zEH trivial ?_ ?_ ?_ ?_ hMk ?_
    ·simp only [go_sem,Nat.reduceEqDiff]
    ·simp only [go_sem,Nat.reduceEqDiff]
    ·simp only [go_sem,Nat.reduceEqDiff]
    ·simp only [go_sem,Nat.reduceEqDiff]
    rw [hv]
    simp only [hcn,go_sem,Nat.reduceEqDiff,Nat.reduceBEq,Nat.reduceAdd,zC,Nat.mul_one]
    exact⟨fun hm=>fin _ (by rw [hcs]; simp [uR,hm]),fun hm=>fin _ (by rw [hcs]; simp [uR,hm])⟩
   ·have hcb:(cu == [])=false:=by simpa using hc0
    simp only [hd,hb1,hi2,xD,hsk,hd1,hg1,hcb,go_sem,Nat.reduceLeDiff,Nat.reduceEqDiff,Nat.reduceBEq,Nat.reduceAdd,zC]
    refine⟨⟨by omega,by omega⟩,hi1,?_⟩
    refine zE _ ?_ (fun _=>⟨?_,yVx hE sk.name cu⟩) ?_<;>simp only [hcb,go_sem,Nat.reduceLT,Nat.reduceEqDiff,Nat.reduceBEq,Nat.reduceAdd,zC]
    refine⟨fun hu=>?_,fun hu=>?_⟩
    ·refine zAr (by intro x h; cases h) (by intro f a h; cases h) ?_ ?_ ?_
     ·simp only [go_sem,Nat.reduceEqDiff]
     ·simp only [go_sem,Nat.reduceEqDiff]
     refine zAd (enc:=fun x=>S x) (encv:=fun b=>.bool b) (l:=wZ apex ss ss.length) (b:=b3) sk.name zEH trivial ?_ ?_ ?_ ?_ hMk ?_
     ·simp only [go_sem,Nat.reduceEqDiff]
     ·simp only [go_sem,Nat.reduceEqDiff]
     ·simp only [go_sem,Nat.reduceEqDiff]
     ·simp only [go_sem,Nat.reduceEqDiff]
     rw [hv]
     simp only [hcn,go_sem,Nat.reduceEqDiff,Nat.reduceBEq,Nat.reduceAdd,zC,Nat.mul_one]
     exact⟨fun hm=>fin _ (by rw [hcs]; simp [uR,hm,hc0,hu]),fun hm=>fin [] (by rw [hcs]; simp [uR,hm,hc0,hu])⟩
    ·refine zBw (by intro x h; cases h) (by intro f a h; cases h) ?_ ?_ ?_
     ·simp only [go_sem,Nat.reduceEqDiff]
     ·simp only [go_sem,Nat.reduceEqDiff]
     simp only [hcn,go_sem,Nat.reduceEqDiff,Nat.reduceBEq,Nat.reduceAdd,zC,Nat.mul_one,↓yA]
     exact fin _ (by rw [hcs]; simp [uR,hc0,hu])
  ·have hd:decide ((k:Int) < (ss.length:Int))=false:=by simpa using hlt
   have hkn:k=ss.length:=by omega
   simp only [hd,go_sem,Nat.reduceEqDiff,Nat.reduceBEq,Nat.reduceAdd,reduceCtorEq,zC]
   refine⟨_,rfl,hle3,?_⟩
   refine⟨_,_,rfl,(fun h=>by cases h),fun _=>⟨b5,0,_,_,_,rfl,hkb,fun i hi=>?_⟩⟩
   have hrl:=zJl apex ss k
   refine⟨by omega,?_⟩
   rw [hkn]
   apply List.ext_getElem?
   intro j
   simp only [qI,List.getElem?_take,List.getElem?_drop]
   cases j with
   | zero=>simp [hi]
   | succ j=>simp
end Go.SL
/- Contract of zone.Valid. -/
namespace Go.SL
open Go
variable {E:Env} {H:Hp}
theorem zHx {apex : Bs} {ss : List zF} (h : vQ apex ss = true) : ss.length ≤ 20000 := by
 simp only [vQ,Bool.and_eq_true,Bool.not_eq_true',Bool.or_eq_false_iff,decide_eq_false_iff_not] at h
 omega
set_option maxHeartbeats 1000000 in
theorem yRX (hE : zX E) (hB : qU E H) (apex : Bs) {v : Value} {ss : List zF} (hss : xT H v ss) : yB E 43 [.agg #[S apex, v]] H (.bool (xB apex ss)) := by
 have ho1:yV v=true:=by obtain⟨d,g,h,_⟩:=hss; exact zG.one h
 refine Fn.of_vks hE.c43 (by simp [yGG]) ?_
 simp only [yGG,yOI,yIS,yMv,yQv,yKr,yPI]
 simp only [ho1,go_sem,Nat.reduceEqDiff,Nat.reduceBEq,Nat.reduceAdd,reduceCtorEq]
 refine zE _ ?_ (fun _=>⟨?_,xBm hE hB apex hss⟩) ?_<;>simp only [go_sem,Nat.reduceEqDiff,Nat.reduceBEq,Nat.reduceAdd]
 refine zE (.bool (qF apex ss)) ?_ (fun hg=>⟨?_,?_⟩) ?_
 ·simp only [go_sem,Nat.reduceEqDiff]
 ·simp only [go_sem,Nat.reduceEqDiff] at hg ⊢; exact hg
 ·simp only [go_sem,Nat.reduceEqDiff] at hg
  exact xCo hE apex hss (by have:=zHx hg; omega)
 simp only [go_sem,Nat.reduceEqDiff,Nat.reduceBEq,Nat.reduceAdd]
 refine⟨fun h=>?_,fun h=>?_⟩
 ·have : (vQ apex ss && qF apex ss) = false := by
   cases hx:vQ apex ss<;>cases hy:qF apex ss<;>simp_all
  simp only [xB,this,Bool.false_and]
 have h' : vQ apex ss = true ∧ qF apex ss = true := by
  cases hx:vQ apex ss<;>cases hy:qF apex ss<;>simp_all
 have hn:=zHx h'.1
 refine zM ?_ (xBv hE apex hss (by omega)) ?_
 ·simp only [go_sem,Nat.reduceEqDiff]
 rintro u H' ⟨w,rfl,hle,hw⟩
 have hss':=hss.mono hle
 have ho2:yV w=true:=zG.one hw
 simp only [ho1,ho2,go_sem,Nat.reduceEqDiff,Nat.reduceBEq,Nat.reduceAdd]
 have hz:xB apex ss=(zCd ss && zHr apex ss && zHu apex ss && zEi apex ss):=by simp only [xB,h'.1,h'.2,Bool.true_and]
 rw [hz]
 refine zE _ ?_ (fun _=>⟨?_,xCg hE apex hss' hw (by omega)⟩) ?_<;>simp only [go_sem,Nat.reduceEqDiff,Nat.reduceBEq,Nat.reduceAdd]
 refine zE _ ?_ (fun hg=>⟨?_,xBR hE apex hss' hw (by omega)⟩) ?_<;>simp only [go_sem,Nat.reduceEqDiff,Nat.reduceBEq,Nat.reduceAdd]
 ·simp only [go_sem,Nat.reduceEqDiff] at hg ⊢; exact hg
 refine zE _ ?_ (fun hg=>⟨?_,xCm hE apex hss' hw (by omega)⟩) ?_<;>simp only [go_sem,Nat.reduceEqDiff,Nat.reduceBEq,Nat.reduceAdd]
 ·simp only [go_sem,Nat.reduceEqDiff] at hg ⊢; exact hg
 refine zE _ ?_ (fun hg=>⟨?_,xCB hE apex hss' hw (by omega)⟩) ?_<;>simp only [go_sem,Nat.reduceEqDiff,Nat.reduceBEq]
 ·simp only [go_sem,Nat.reduceEqDiff] at hg ⊢; exact hg
 exact hle
end Go.SL
/- Contracts: name.Labels, world.wildcard. -/
namespace Go.SL
open Go
variable {E:Env} {H:Hp}
theorem zRM (n p : Nat) (f : Nat → Value) (x : Value) (hp : p < n) : ((List.range n).map f).take p ++ x :: ((List.range n).map f).drop (p + 1) = (List.range n).map (fun i => if i = p then x else f i) := by
 apply List.ext_getElem?
 intro i
 rcases Nat.lt_trichotomy i p with h | h | h
 ·rw [List.getElem?_append_left (by simp; omega)]
  have hl:i < n:=by omega
  simp [h,hl,show i≠p by omega]
 ·subst h
  rw [List.getElem?_append_right (by simp; omega)]
  simp [Nat.min_eq_left (Nat.le_of_lt hp),hp]
 ·rw [List.getElem?_append_right (by simp; omega)]
  simp only [List.length_take,List.length_map,List.length_range,Nat.min_eq_left (Nat.le_of_lt hp)]
  obtain⟨j,rfl⟩:∃ j,i=p + 1 + j:=⟨i - (p + 1),by omega⟩
  have e:p + 1 + j - p=j + 1:=by omega
  rw [e,List.getElem?_cons_succ,List.getElem?_drop]
  by_cases hl:p + 1 + j < n<;>simp [hl,show p + 1 + j≠p by omega]
theorem zHB : ∀ (l : List Bs) (c : Nat) (w : Bool), qE l c w = true → l ≠ [] → l.length + c ≤ 8
 | [],_,_,_,h=>absurd rfl h
 | x :: r, c, w, h, _ => by
  simp only [qE] at h
  split at h
  ·cases h
  ·rename_i h1
   have hc : c + 1 ≤ 8 := by
    simp only [Bool.or_eq_true,decide_eq_true_eq,not_or] at h1; omega
   split at h
   ·cases h
   ·cases r with
    | nil=>simp; omega
    | cons y t =>
     have:=zHB (y :: t) (c + 1) _ h (by simp)
     simp only [List.length_cons] at this ⊢; omega
theorem yRC {s : Bs} (h : zL s = true) : (zU s).length ≤ 8 := by
 by_cases hd:s = [46]
 ·simp [zU,hd]
 ·simp only [zL,Bool.or_eq_true,beq_iff_eq,hd,false_or,Bool.and_eq_true] at h
  by_cases he:zU s = []
  ·simp [he]
  ·have:=zHB _ _ _ h.2 he; omega
def yWP (H:Hp) (v:Value) (l:List Bs):Prop:=zG H 1 v l.length (fun i=>[S (l.getD i [])])
def zCH (l:List Bs) (j:Nat):List Value:=(List.range 8).map fun p=>if 8 - j≤p then S (l.getD (7 - p) []) else S []
theorem zIV (l:List Bs) (j:Nat):(zCH l j).length=8:=by simp [zCH]
theorem zSt (l : List Bs) {j : Nat} (hj : j < 8) : (zCH l j).take (7 - j) ++ S (l.getD j []) :: (zCH l j).drop (7 - j + 1) = zCH l (j + 1) := by
 unfold zCH
 rw [zRM _ _ _ _ (by omega)]
 apply List.map_congr_left
 intro p hp
 have hp8:p < 8:=by simpa using hp
 by_cases h1:p=7 - j
 ·subst h1
  have e:7 - (7 - j)=j:=by omega
  rw [if_pos rfl,if_pos (by omega),e]
 ·rw [if_neg h1]
  by_cases h2:8 - j≤p
  ·rw [if_pos h2,if_pos (by omega)]
  ·rw [if_neg h2,if_neg (by omega)]
set_option maxHeartbeats 1000000 in
set_option maxRecDepth 100000 in
theorem xBS (hE : zX E) (s : Bs) : Fn E.P (E.fn 73) [S s] H (fun u H' => ∃ v e, u = .tuple #[v, .int .i64 e] ∧ H.le H' ∧ yWP H' v (if zL s then (zU s).reverse else [])) := by
 refine Fn.of_vks hE.c73 (by simp [yHH]) ?_
 simp only [yHH,yKF,yKS,yMk,yJk,yQy,yJy,yJu,yLg,yJZ,yNM,yEH,yEy]
 simp only [go_sem,Nat.reduceEqDiff,Nat.reduceBEq,reduceCtorEq]
 refine zE _ ?_ (fun _=>⟨?_,zJW hE s⟩) ?_<;>simp only [rep,go_sem,Nat.reduceEqDiff,Nat.reduceBEq,Nat.reduceMul,Int.reduceToNat,Int.reduceLE,yL]
 refine⟨fun h=>?_,fun h=>?_⟩
 ·refine⟨_,_,rfl,?_⟩
  simp only [h,Bool.false_eq_true,if_false]
  exact zG.nil
 ·have h60:=jT h
  have h8:=yRC h
  refine⟨by omega,fun b3 hb3 b5 hb5 b6 hb6=>?_⟩
  have h53:b5≠b3:=by rintro rfl; simp at hb5
  simp only [h53,if_false] at hb5
  have h65:b6≠b5:=by rintro rfl; simp at hb6
  simp only [h65,if_false] at hb6
  have h63:b6≠b3:=by rintro rfl; simp at hb6
  simp only [h63,if_false] at hb6
  refine zAM H (fun xs => xs = (zU s).map (fun x => [S x])) (fun pre H' => H.le H' ∧ H' b3 = some (.row (zCH (zU s) pre.length) 8 true) ∧ H' b5 = some (.row [.slice (some ⟨b3, 0, none⟩) 8 8] 1 true) ∧ H' b6 = some (.row [.int .i64 ((8 - pre.length : Nat) : Int)] 1 true))
   (by simp only [go_sem,Nat.reduceEqDiff]) (by simp only [go_sem,Nat.reduceEqDiff,zFD]) (yRH hE H s h60) (by rintro xs rfl x hx; simp at hx; obtain⟨a,_,rfl⟩:=hx; rfl) ?_ (fun pre H' h=>h.1) ?_ ?_
  ·refine⟨zH (zH (zJ hb3 _) hb5 _) hb6 _,?_,?_,?_⟩
   ·simp only [yL,h53.symm,h63.symm,if_false,if_true]; rfl
   ·simp only [yL,h65.symm,if_false,if_true]
   ·simp only [yL,if_true]; rfl
  ·rintro pre x H' ⟨suf,hsuf⟩ ⟨hle,k3,k5,k6⟩
   obtain⟨hlt,rfl,hdrop⟩:=zRq hsuf
   have e1:IntKind.i64.wrap (((8 - pre.length:Nat):Int) - 1)=((7 - pre.length:Nat):Int):=by rw [yZ]<;>omega
   have hrl:=zIV (zU s) pre.length
   have hsu:=zSt (zU s) (j:=pre.length) (by omega)
   generalize hy:(zU s).getD pre.length []=y at *
   simp only [h53,h63,h63.symm,h65.symm,k3,k5,k6,e1,hrl,go_sem,Nat.reduceLeDiff,Nat.reduceEqDiff,Nat.reduceBEq,zC,yL,Nat.mul_one]
   refine⟨⟨by omega,by omega⟩,by omega,zH (zH hle hb6 _) hb3 _,?_,?_⟩
   ·rw [List.append_assoc,List.singleton_append,hsu]; simp
   ·have e2:7 - pre.length=8 - (pre ++ [[S y]]).length:=by simp only [List.length_append,List.length_cons,List.length_nil]; omega
    rw [e2]
  ·rintro xs H' rfl ⟨hle,k3,k5,k6⟩
   simp only [List.length_map] at k3 k6
   simp only [k5,k6,go_sem,Nat.reduceEqDiff,Nat.reduceBEq]
   refine⟨⟨fun b hb=>by cases hb; rfl,⟨by omega,by omega⟩,⟨by omega,by omega⟩,by omega,by omega⟩,_,_,rfl,hle,?_⟩
   rw [if_pos h]
   have hlen:8 - (8 - (zU s).length)=(zU s).reverse.length:=by simp; omega
   rw [hlen]
   refine⟨_,_,rfl,?_,fun hpos=>?_⟩
   ·intro hp
    split at hp<;>simp at hp
   ·have hpos':0 < (zU s).length:=by simpa using hpos
    have hne:¬ (8=8 - (zU s).length):=by omega
    rw [if_neg hne]
    refine⟨b3,8 - (zU s).length,_,_,_,by simp,k3,fun i hi=>?_⟩
    have hrl:=zIV (zU s) (zU s).length
    have hi':i < (zU s).length:=by simpa using hi
    refine⟨by omega,?_⟩
    apply List.ext_getElem?
    intro j
    cases j with
    | zero =>
     simp only [List.getElem?_take,List.getElem?_drop,zCH,Nat.mul_one,Nat.add_zero]
     have hp:8 - (zU s).length + i < 8:=by omega
     have hq:7 - (8 - (zU s).length + i)=(zU s).length - 1 - i:=by omega
     have hz:8≤8 - (zU s).length + i + (zU s).length:=by omega
     have hy:(zU s).length - 1 - i < (zU s).length:=by omega
     simp [hp,hq,hi',hz,hy]
    | succ j=>simp; omega
def yRG : List Bs → Bool
 | []=>false
 | x :: _=>x == [42]
theorem xCb (hE : zX E) (s : Bs) : yB E 52 [S s] H (.bool (jF s)) := by
 refine Fn.of_vks hE.c52 (by simp [yHL]) ?_
 simp only [yHL,yIM,yLA,yMt]
 simp only [go_sem,Nat.reduceBEq,reduceCtorEq]
 refine zM ?_ (xBS hE s) ?_
 ·simp only [go_sem,reduceCtorEq]
 rintro u H' ⟨v,e,rfl,hle,hv⟩
 obtain⟨L,hL⟩:∃ x,(if zL s then (zU s).reverse else [])=x:=⟨_,rfl⟩
 have hw : jF s = yRG L := by
  rw [← hL]; unfold jF
  cases zL s
  ·rfl
  ·simp only [Bool.true_and,if_true]
   cases (zU s).reverse<;>rfl
 rw [hL] at hv
 rw [hw]
 clear hL hw
 obtain⟨a,cap,rfl,hs,hr⟩:=hv
 cases L with
 | nil =>
  have hd:decide (((0:Nat):Int) > 0)=false:=by decide
  simp only [hd,go_sem,Nat.reduceLT,Nat.reduceEqDiff,Nat.reduceBEq,Nat.reduceAdd,reduceCtorEq,zC,↓vU,↓vH,↓yA]
  exact⟨rfl,hle⟩
 | cons x r =>
  have hr':=hr (by simp)
  obtain⟨b,o,vs,c,wr,ha,hb,hi⟩:=hr'
  subst ha
  have hi1:=(hi 0 (by simp)).1
  have hi2:=zK (hi 0 (by simp)).2 (j:=0) (by omega)
  simp only [Nat.zero_mul,Nat.add_zero] at hi1 hi2
  have hd:decide ((((x :: r).length:Nat):Int) > 0)=true:=by rw [decide_eq_true_eq,List.length_cons]; omega
  simp only [hb,hi2,go_sem,Nat.reduceLT,Nat.reduceEqDiff,Nat.reduceBEq,Nat.reduceAdd,reduceCtorEq,Int.reduceToNat,Int.reduceLE,zC]
  have hd':decide (((r.length + 1:Nat):Int) > 0)=true:=by rw [decide_eq_true_eq]; omega
  refine⟨fun h=>⟨h,by omega⟩,fun h=>⟨h,by omega⟩,?_,hle⟩
  rw [hd']; rfl
end Go.SL
/- Contract: world.validHosts. -/
namespace Go.SL
open Go
variable {E:Env} {H:Hp}
set_option maxHeartbeats 1000000 in
set_option maxRecDepth 100000 in
theorem xCa (hE : zX E) {v : Value} {hs : List qT} (hh : qN H v hs) : yB E 40 [v] H (.bool (jP hs)) := by
 obtain⟨a,cap,rfl,hsp,hr⟩:=hh
 refine Fn.of_vks hE.c40 (by simp [yIv]) ?_
 simp only [yIv,yNq,yLH,yNX,yQk,yNt,yJj,yLn,yPm,yMB,yOn,yBQ,yBS,zZz,zZK]
 simp only [go_sem,Nat.reduceEqDiff,Nat.reduceBEq,reduceCtorEq,zC]
 have hc:decide ((hs.length:Int) > 64) = !decide (hs.length≤64):=by rw [Bool.eq_iff_iff]; simp; omega
 rw [hc]
 refine⟨fun h=>?_,fun h=>?_⟩
 ·rw [Bool.not_eq_true'] at h; simp only [jP,h,Bool.false_and]
 have hn:hs.length≤64:=by simpa using h
 have ho:jP hs=zP (zBQ hs) hs.length:=by simp only [jP,hn,decide_true,Bool.true_and]
 rw [ho]
 intro b3 hb3
 refine yK hs.length 0 (fun k fr' H' => fr' = [(3, ⟨true, .val (.map (some b3))⟩), (10, ⟨true, .val (.slice a hs.length cap)⟩), (11, ⟨true, .val (.int .i64 hs.length)⟩), (12, ⟨true, .val (.int .i64 k)⟩)] ∧
   zP (zBQ hs) k=true∧∃ o,H'=H.put b3 o∧∀ H0:Hp,uI (H0.put b3 o) b3 ((jQ hs k).map fun e=>(Value.int .i64 e.1,.bool e.2))) (Nat.zero_le _) ⟨rfl,rfl,_,rfl,fun H0=>⟨#[],0,Hp.put_same ..,rfl⟩⟩ ?_
 rintro k fr' H' hk ⟨rfl,hP,om,rfl,hM⟩
 have hle:H.le (H.put b3 om):=zJ hb3 _
 by_cases hlt:k < hs.length
 ·have hd:decide ((k:Int) < (hs.length:Int))=true:=by simpa using hlt
  have hF:zBQ hs k=false→false=zP (zBQ hs) hs.length:=fun h=>(zY hlt h).symm
  have hS:zBQ hs k=true→zP (zBQ hs) (k + 1)=true:=fun h=>yJ hP h
  have hr':=hr (by omega)
  obtain⟨b,o,vs,c,wr,ha,hb,hi⟩:=hr'
  subst ha
  have hb1:=hle _ _ hb
  have hi1:=(hi k hlt).1
  have hi2:=(hi k hlt).2
  obtain⟨x,hx⟩:∃ y,hs.getD k default=y:=⟨_,rfl⟩
  have hok:zBQ hs k=(!(!zL x.name || jF x.name || decide (x.owner < 0) || decide (x.owner≥32)) && !(!kY x.addr || (yI x.addr (jQ hs k)).getD false)):=by rw [← hx]; rfl
  simp only [hd,hb1,hi2,zHb,hx,go_sem,Nat.reduceLeDiff,Nat.reduceEqDiff,Nat.reduceBEq,Nat.reduceAdd,zC]
  refine⟨⟨by omega,by omega⟩,hi1,?_⟩
  refine zE _ ?_ (fun _=>⟨?_,zFy hE x.name⟩) ?_<;>simp only [go_sem,Nat.reduceLeDiff,Nat.reduceEqDiff,Nat.reduceBEq,Nat.reduceAdd]
  refine zE _ ?_ (fun hg=>⟨?_,xCb hE x.name⟩) ?_<;>simp only [go_sem,Nat.reduceLeDiff,Nat.reduceEqDiff,Nat.reduceBEq,Nat.reduceAdd,zC]
  ·simp only [go_sem,Nat.reduceEqDiff] at hg ⊢; exact hg
  refine⟨fun h1=>⟨hF ?_,hle⟩,fun h1=>?_⟩
  ·rw [hok,h1]; rfl
  rw [h1,Bool.not_false,Bool.true_and] at hok
  refine zE _ ?_ (fun _=>⟨?_,yVj hE x.addr⟩) ?_<;>simp only [go_sem,Nat.reduceLeDiff,Nat.reduceEqDiff,Nat.reduceBEq,Nat.reduceAdd]
  cases hA:kY x.addr with
  | false =>
   rw [hA] at hok
   refine zBw (by intro x h; cases h) (by intro f a h; cases h) ?_ ?_ ?_
   ·simp only [go_sem,Nat.reduceEqDiff]
   ·simp only [go_sem,Nat.reduceEqDiff]
   simp only [go_sem,Nat.reduceLeDiff,Nat.reduceEqDiff,Nat.reduceBEq,Nat.reduceAdd,↓yQ]
   exact⟨hF hok,hle⟩
  | true =>
   rw [hA] at hok
   refine zAr (by intro x h; cases h) (by intro f a h; cases h) ?_ ?_ ?_
   ·simp only [go_sem,Nat.reduceEqDiff]
   ·simp only [go_sem,Nat.reduceEqDiff]
   refine zAd (enc:=fun x=>Value.int .i64 x) (encv:=fun b=>.bool b) (l:=jQ hs k) (b:=b3) x.addr yRR trivial ?_ ?_ ?_ ?_ (hM H) ?_
   ·simp only [go_sem,Nat.reduceEqDiff]
   ·simp only [go_sem,Nat.reduceEqDiff]
   ·simp only [go_sem,Nat.reduceEqDiff]
   ·simp only [go_sem,Nat.reduceEqDiff]
   have hv : ((yI x.addr (jQ hs k)).map (fun b => Value.bool b)).getD (.bool false) = .bool ((yI x.addr (jQ hs k)).getD false) := by
    cases yI x.addr (jQ hs k)<;>rfl
   rw [hv]
   simp only [go_sem,Nat.reduceLeDiff,Nat.reduceEqDiff,Nat.reduceBEq,Nat.reduceAdd]
   refine⟨fun h2=>⟨hF ?_,hle⟩,fun h2=>?_⟩
   ·rw [hok,h2]; rfl
   rw [h2] at hok
   refine zBv (enc:=fun x=>Value.int .i64 x) (encv:=fun b=>.bool b) (l:=jQ hs k) (b:=b3) x.addr true yRR trivial ?_ ?_ ?_ ?_ ?_ ?_ (hM H) ?_
   ·simp only [go_sem,Nat.reduceEqDiff]
   ·simp only [go_sem,Nat.reduceEqDiff]
   ·simp only [go_sem]
   ·simp only [go_sem,Nat.reduceEqDiff]
   ·simp only [go_sem,Nat.reduceEqDiff]
   ·simp only [go_sem]
   intro o' hM'
   simp only [go_sem,Nat.reduceEqDiff,Nat.reduceBEq,zC]
   refine⟨hlt,zR (by omega),hS hok,o',rfl,fun H0=>?_⟩
   have:=hM' H0
   rw [← hx] at this
   exact this
 ·have hd:decide ((k:Int) < (hs.length:Int))=false:=by simpa using hlt
  have:k=hs.length:=by omega
  simp only [hd,go_sem,Nat.reduceEqDiff,Nat.reduceBEq,Nat.reduceAdd,zC]
  rw [← this]; exact⟨hP.symm,hle⟩
end Go.SL
