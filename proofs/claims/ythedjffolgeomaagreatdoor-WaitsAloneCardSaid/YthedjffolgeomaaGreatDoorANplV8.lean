/- Contracts: the text that tells a signed set (package history). -/
import Derived.Test.YthedjffolgeomaaGreatDoorANplQ
import Derived.Test.YthedjffolgeomaaGreatDoorANplV1
import Derived.Test.YthedjffolgeomaaGreatDoorANplO
import Derived.Test.YthedjffolgeomaaGreatDoorANplT28
namespace Go.SL
open Go
variable {E:Env} {H:Hp}
theorem zOa {fr : Fr} {Q : X → Fr → Hp → Prop} {k : List Item} {d : Option Nat} {r : List zA} {live : List Nat} {kk : Nat} {zero : List Value} : zS E (.ops (⟨d, .newT kk zero, none⟩ :: r) live :: k) fr H Q =
  (∀ b,H b=none→zS E (.ops r live :: k) (setD fr d ⟨true,.val (.pointer (some ⟨b,0,none⟩))⟩) (H.put b (.obj (.cells zero.toArray (E.gl kk) (0,0)))) Q):=by
 simp [zS,kE,vI,qA,yY,xU]
theorem vE.put {b bs:Nat} {ob:Option Nat} {o:xI} (h:H bs=none):vE H (H.put bs o) b ob ob:=⟨fun _c _o hc _ _=>zJ h _ _ _ hc,fun _c hc=>.inl hc.symm⟩
def zAe (n:Int):Bs:=47 :: Lib.itoa n
theorem zBX (w:Bs) (ns:List Int):uK w ns=w ++ (ns.flatMap zAe ++ [47]):=rfl
theorem zAx {α : Type} [Inhabited α] (f : α → Bs) {l : List α} {k : Nat} (hk : k < l.length) : (l.take (k + 1)).flatMap f = (l.take k).flatMap f ++ f (l.getD k default) := by
 rw [List.take_add_one,List.getElem?_eq_getElem hk,List.getD_eq_getElem?_getD,List.getElem?_eq_getElem hk,List.flatMap_append]
 simp
theorem wS {α : Type} (f : α → Bs) (l : List α) (k : Nat) : ((l.take k).flatMap f).length ≤ (l.flatMap f).length := by
 conv=>rhs; rw [← List.take_append_drop k l,List.flatMap_append,List.length_append]
 omega
def I64 (n:Int):Prop:=-9223372036854775808≤n∧n≤9223372036854775807
set_option maxHeartbeats 1000000 in
theorem zMP (h3 : yW E) (L : zBz E) {b : Nat} {l : Bs} {ob : Option Nat} (hB : vW E H b l ob) (h2 : uD E H) (w : Bs) {ns : List Int} {nv : Value} (hns : wH H nv ns) (hr : ∀ n ∈ ns, I64 n) (hn : l.length + (uK w ns).length ≤ 900000000) (hm : ns.length ≤ 1000000) :
  Fn E.P (E.fn 132) [S w,nv,.pointer (some ⟨b,0,none⟩)] H (fun _ H'=>∃ ob',vW E H' b (l ++ uK w ns) ob'∧vE H H' b ob ob'):=by
 have hlen:(uK w ns).length=w.length + ((ns.flatMap zAe).length + 1):=by rw [zBX]; simp
 have hns':=hns
 obtain⟨a,cap,rfl,hsp,hrow⟩:=hns
 refine Fn.of_vks h3.c132 (by simp [zMZ]) ?_
 simp only [zMZ,zWf,yBN,yFN,zZc,yGj,zUA,zWA,zVZ]
 simp only [go_sem,Nat.reduceBEq,Nat.reduceAdd,reduceCtorEq]
 refine zM ?_ (yIk h3 L hB w (by omega)) ?_
 ·simp only [go_sem,Nat.reduceEqDiff,reduceCtorEq]
 rintro u H1 ⟨ob1,hB1,hk1⟩
 simp only [go_sem,Nat.reduceEqDiff,Nat.reduceBEq,reduceCtorEq]
 refine yK ns.length 0 (fun k fr' G => fr' = [(2, ⟨true, .val (.pointer (some ⟨b, 0, none⟩))⟩), (9, ⟨true, .val (.slice a ns.length cap)⟩), (10, ⟨true, .val (.int .i64 ns.length)⟩), (11, ⟨true, .val (.int .i64 k)⟩)] ∧
  ∃ ob',vW E G b (l ++ w ++ (ns.take k).flatMap zAe) ob'∧vE H G b ob ob') (Nat.zero_le _) ⟨rfl,ob1,by simpa using hB1,hk1⟩ ?_
 rintro k fr' G hk ⟨rfl,ob2,hB2,hk2⟩
 have hrl:=hB.rows hk2
 have hfl:=wS zAe ns k
 by_cases hlt:k < ns.length
 ·have hd:decide ((k:Int) < (ns.length:Int))=true:=by simpa using hlt
  have hr':=(zG.rowmono hns' hrl)
  obtain⟨a',cap',hv,_,hr'⟩:=hr'
  cases hv
  have hr':=hr' (by omega)
  obtain⟨b0,o,vs,c,wr,ha,hb,hi⟩:=hr'
  subst ha
  have hi1:=(hi k hlt).1
  have hi2:=(hi k hlt).2
  have hsucc:=zAx (α:=Int) zAe hlt
  have hfl':=wS zAe ns (k + 1)
  have hrng:=hr _ (yN (α:=Int) hlt)
  have hd0:(default:Int)=0:=rfl
  rw [hd0] at hsucc hrng
  obtain⟨x,hx⟩:∃ y,ns.getD k 0=y:=⟨_,rfl⟩
  have v0 : vs.getD (o + k) undef = .int .i64 x := by
   have:=zK (j:=0) hi2 (by omega)
   simp only [vP,hx,List.getD_cons_zero,Nat.mul_one,Nat.add_zero] at this
   exact this
  rw [hx] at hsucc hrng
  have hnl:(zAe x).length=(Lib.itoa x).length + 1:=by simp [zAe]
  rw [hsucc,List.length_append] at hfl'
  simp only [hd,hb,v0,Nat.mul_one,go_sem,Nat.reduceEqDiff,Nat.reduceBEq,zC]
  refine⟨⟨by omega,by omega⟩,by omega,?_⟩
  have c47:(47:Int)=((47:UInt8).toNat:Int):=rfl
  refine zM ?_ (yHM h3 L hB2 47 (by simp only [List.length_append]; omega)) ?_
  ·simp only [go_sem,Nat.reduceEqDiff]
  rintro u G1 ⟨ob3,hB3,hk3⟩
  have hrl3:=hrl.trans (hB2.rows hk3)
  simp only [go_sem,Nat.reduceEqDiff,Nat.reduceBEq]
  refine zM ?_ (L.itoa G1 x (h2.rowmono hrl3) hrng.1 hrng.2) ?_
  ·simp only [go_sem,Nat.reduceEqDiff]
  rintro u G2 ⟨rfl,hle⟩
  simp only [go_sem,Nat.reduceBEq]
  refine zM ?_ (yIk h3 L (hB3.keep hle) (Lib.itoa x) (by simp only [List.length_append,List.length_singleton]; omega)) ?_
  ·simp only [go_sem,Nat.reduceEqDiff]
  rintro u G3 ⟨ob4,hB4,hk4⟩
  simp only [go_sem,Nat.reduceEqDiff,Nat.reduceBEq,zC]
  refine⟨hlt,zR (by omega),ob4,?_,?_⟩
  ·rw [hsucc]
   have e:l ++ w ++ (ns.take k).flatMap zAe ++ [47] ++ Lib.itoa x=l ++ w ++ ((ns.take k).flatMap zAe ++ zAe x):=by simp [zAe]
   rw [← e]; exact hB4
  ·refine(hk2.trans hk3).trans (vE.trans ?_ hk4)
   exact⟨fun c o hc _ _=>hle _ _ hc,fun c hc=>.inl hc.symm⟩
 ·have hd:decide ((k:Int) < (ns.length:Int))=false:=by simpa using hlt
  have:k=ns.length:=by omega
  subst this
  rw [List.take_length] at hB2 hfl
  simp only [hd,go_sem,Nat.reduceEqDiff,Nat.reduceBEq,zC]
  refine zM ?_ (yHM h3 L hB2 47 (by simp only [List.length_append]; omega)) ?_
  ·simp only [go_sem,Nat.reduceEqDiff]
  rintro u G1 ⟨ob3,hB3,hk3⟩
  simp only [go_sem,Nat.reduceBEq]
  refine⟨ob3,?_,hk2.trans hk3⟩
  have e:l ++ w ++ ns.flatMap zAe ++ [47]=l ++ uK w ns:=by rw [zBX]; simp
  rw [← e]; exact hB3
end Go.SL
/- Contract: the text of a signed set (package history). -/
namespace Go.SL
open Go
variable {E:Env} {H:Hp}
theorem ints_at {bs c cap : Nat} {wr : Bool} {ns : List Int} (hb : H bs = some (.row (ns.map fun n => .int .i64 n) c wr)) : wH H (.slice (some ⟨bs, 0, none⟩) ns.length cap) ns := by
 refine zG.lit hb fun i hi=>⟨by simp; omega,?_⟩
 rw [Nat.mul_one,List.drop_eq_getElem_cons (by simpa using hi)]
 simp [vP,hi]
structure zIb (s : zF) : Prop where
 type:I64 s.type
 life:I64 s.life
 data:∀ d∈s.data,I64 d.n∧I64 d.m
 sigs:∀ g∈s.sigs,I64 g.key∧I64 g.alg∧I64 g.from_∧I64 g.till∧0≤g.sum∧g.sum≤18446744073709551615
 nd:s.data.length≤1000000
 ng:s.sigs.length≤1000000
 len:(xK s).length≤800000000
def vG (s:zF):Bs:=uK s.name [s.type,s.life,s.data.length]
theorem zBq (s:zF):xK s=vG s ++ (s.data.flatMap uM ++ s.sigs.flatMap uE):=rfl
set_option maxHeartbeats 2000000 in
theorem yWH (h3 : yW E) (L : zBz E) (h2 : uD E H) {s : zF} {dv gv : Value} (hd : xF H dv s.data) (hg : xL H gv s.sigs) (hr : zIb s) :
  yB E 127 [.agg #[S s.name,.int .i64 s.type,.int .i64 s.life,dv,gv]] H (S (xK s)):=by
 have hd':=hd
 have hg':=hg
 obtain⟨ad,cd,rfl,_,_⟩:=hd
 obtain⟨ag,cg,rfl,_,_⟩:=hg
 have htl:(xK s).length=(vG s).length + ((s.data.flatMap uM).length + (s.sigs.flatMap uE).length):=by rw [zBq]; simp
 have hlen:=hr.len
 have hlp:∀ (w:Bs) (ns:List Int),(uK w ns).length=w.length + ((ns.flatMap zAe).length + 1):=fun w ns=>by rw [zBX]; simp
 have hnd:=hr.nd
 have hng:=hr.ng
 refine Fn.of_vks h3.c127 (by simp [zLD]) ?_
 simp only [zLD,yGl,yDZ,yBD,zYQ,yDk,zVc,yCI,yFD,zZY,zTO,zRX,zOU,zQo,zQk,zQE,zNZ]
 simp only [zOa,go_sem,Nat.reduceLeDiff,Nat.reduceEqDiff,Nat.reduceBEq,Nat.reduceAdd,reduceCtorEq]
 intro b hb
 obtain⟨H1,hH1⟩:∃ y,y=H.put b (.obj (.cells #[.pointer none,.slice none 0 0] (E.gl 181) (0,0))):=⟨_,rfl⟩
 have hle1:H.le H1:=by rw [hH1]; exact zJ hb _
 have hB1:vW E H1 b [] none:=⟨_,_,.inl rfl,by rw [hH1]; exact Hp.put_same ..,by simp,rfl,rfl⟩
 rw [← hH1]
 intro bs hbs
 have hk0:vE H1 (H1.put bs (.row [.int .i64 s.type,.int .i64 s.life,.int .i64 s.data.length] 3 true)) b none none:=vE.put hbs
 have hle2:H1.le (H1.put bs (.row [.int .i64 s.type,.int .i64 s.life,.int .i64 s.data.length] 3 true)):=zJ hbs _
 have hns:wH (H1.put bs (.row [.int .i64 s.type,.int .i64 s.life,.int .i64 s.data.length] 3 true)) (.slice (some ⟨bs,0,none⟩) 3 3) [s.type,s.life,s.data.length]:=ints_at (ns:=[s.type,s.life,s.data.length]) (c:=3) (wr:=true) (cap:=3) (by rw [Hp.put_same]; rfl)
 refine xA ?_ ?_ (yP h3.e132 (zMP h3 L (hB1.keep hle2) (h2.mono (hle1.trans hle2)) s.name hns ?_ (by simp only [List.length_nil]; show 0 + (vG s).length≤_; omega) (by simp))) ?_
 ·simp only [go_sem,Nat.reduceEqDiff]
 ·simp only [go_sem,Nat.reduceEqDiff]
 ·intro n hn
  simp only [List.mem_cons,List.not_mem_nil,or_false] at hn
  rcases hn with rfl | rfl | rfl
  ·exact hr.type
  ·exact hr.life
  ·exact⟨by omega,by omega⟩
 rintro u G ⟨ob1,hB2,hk1⟩
 have hB2':vW E G b (vG s) ob1:=hB2
 have hk1':=hk0.trans hk1
 simp only [go_sem,Nat.reduceLeDiff,Nat.reduceEqDiff,Nat.reduceBEq,Nat.reduceAdd]
 refine yK s.data.length 0 (fun k fr' G => fr' = [(1, ⟨true, .box [S s.name, .int .i64 s.type, .int .i64 s.life, .slice ad s.data.length cd, .slice ag s.sigs.length cg]⟩), (3, ⟨true, .val (.pointer (some ⟨b, 0, none⟩))⟩), (4, ⟨true, .val (.func (.func (E.fn 132)) #[] #[.pointer (some ⟨b, 0, none⟩)])⟩), (28, ⟨true, .val (.slice ad s.data.length cd)⟩), (29, ⟨true, .val (.int .i64 s.data.length)⟩), (30, ⟨true, .val (.int .i64 k)⟩)] ∧
  ∃ ob',vW E G b (vG s ++ (s.data.take k).flatMap uM) ob'∧vE H1 G b none ob') (Nat.zero_le _) ⟨rfl,ob1,by simpa using hB2',hk1'⟩ ?_
 rintro k fr' G hk ⟨rfl,ob2,hB3,hk2⟩
 have hrl:=(pJ.of_le hle1).trans (hB1.rows hk2)
 have hfl:=wS uM s.data k
 by_cases hlt:k < s.data.length
 ·have hdk:decide ((k:Int) < (s.data.length:Int))=true:=by simpa using hlt
  have hr':=zG.rowmono hd' hrl
  obtain⟨a',cap',hv,_,hr'⟩:=hr'
  cases hv
  have hr':=hr' (by omega)
  obtain⟨b0,o,vs,c,wr,ha,hb0,hi⟩:=hr'
  subst ha
  have hi1:=(hi k hlt).1
  have hi2:=(hi k hlt).2
  have hsucc:=zAx uM hlt
  have hfl':=wS uM s.data (k + 1)
  have hrng:=hr.data _ (yN hlt)
  obtain⟨x,hx⟩:∃ y,s.data.getD k default=y:=⟨_,rfl⟩
  rw [hx] at hsucc hrng
  rw [hsucc,List.length_append] at hfl'
  have htx:uM x=uK x.text [x.n,x.m]:=rfl
  simp only [hdk,hb0,hi2,pR,hx,go_sem,Nat.reduceLeDiff,Nat.reduceEqDiff,Nat.reduceBEq,Nat.reduceAdd,zC]
  refine⟨⟨by omega,by omega⟩,hi1,?_⟩
  intro bs hbs
  have hle3:G.le (G.put bs (.row [.int .i64 x.n,.int .i64 x.m] 2 true)):=zJ hbs _
  have hns:wH (G.put bs (.row [.int .i64 x.n,.int .i64 x.m] 2 true)) (.slice (some ⟨bs,0,none⟩) 2 2) [x.n,x.m]:=ints_at (ns:=[x.n,x.m]) (c:=2) (wr:=true) (cap:=2) (by rw [Hp.put_same]; rfl)
  refine xA ?_ ?_ (yP h3.e132 (zMP h3 L (hB3.keep hle3) (h2.rowmono (hrl.trans (pJ.of_le hle3))) x.text hns ?_ (by rw [← htx]; simp only [List.length_append]; omega) (by simp))) ?_
  ·simp only [go_sem,Nat.reduceEqDiff]
  ·simp only [go_sem,Nat.reduceEqDiff]
  ·intro n hn
   simp only [List.mem_cons,List.not_mem_nil,or_false] at hn
   rcases hn with rfl | rfl
   ·exact hrng.1
   ·exact hrng.2
  rintro u G1 ⟨ob3,hB4,hk3⟩
  simp only [go_sem,Nat.reduceEqDiff,Nat.reduceBEq,zC]
  refine⟨hlt,zR (by omega),ob3,?_,(hk2.trans (vE.put hbs)).trans hk3⟩
  rw [hsucc,← List.append_assoc]
  exact hB4
 ·have hdk:decide ((k:Int) < (s.data.length:Int))=false:=by simpa using hlt
  have:k=s.data.length:=by omega
  subst this
  rw [List.take_length] at hB3 hfl
  simp only [hdk,go_sem,Nat.reduceLeDiff,Nat.reduceEqDiff,Nat.reduceBEq,Nat.reduceAdd,zC]
  refine yK s.sigs.length 0 (fun k fr' G => fr' = [(3, ⟨true, .val (.pointer (some ⟨b, 0, none⟩))⟩), (4, ⟨true, .val (.func (.func (E.fn 132)) #[] #[.pointer (some ⟨b, 0, none⟩)])⟩), (45, ⟨true, .val (.slice ag s.sigs.length cg)⟩), (46, ⟨true, .val (.int .i64 s.sigs.length)⟩), (47, ⟨true, .val (.int .i64 k)⟩)] ∧
   ∃ ob',vW E G b (vG s ++ s.data.flatMap uM ++ (s.sigs.take k).flatMap uE) ob'∧vE H1 G b none ob') (Nat.zero_le _) ⟨rfl,ob2,by simpa using hB3,hk2⟩ ?_
  rintro k fr' G hk ⟨rfl,ob2,hB3,hk2⟩
  have hrl:=(pJ.of_le hle1).trans (hB1.rows hk2)
  have hfg:=wS uE s.sigs k
  by_cases hlt:k < s.sigs.length
  ·have hdk:decide ((k:Int) < (s.sigs.length:Int))=true:=by simpa using hlt
   have hr':=zG.rowmono hg' hrl
   obtain⟨a',cap',hv,_,hr'⟩:=hr'
   cases hv
   have hr':=hr' (by omega)
   obtain⟨b0,o,vs,c,wr,ha,hb0,hi⟩:=hr'
   subst ha
   have hi1:=(hi k hlt).1
   have hi2:=(hi k hlt).2
   have hsucc:=zAx uE hlt
   have hfl':=wS uE s.sigs (k + 1)
   have hrng:=hr.sigs _ (yN hlt)
   obtain⟨x,hx⟩:∃ y,s.sigs.getD k default=y:=⟨_,rfl⟩
   rw [hx] at hsucc hrng
   rw [hsucc,List.length_append] at hfl'
   have htx:uE x=uK x.zone [x.key,x.alg,x.from_,x.till] ++ uK (Lib.itoa x.sum) []:=rfl
   rw [htx,List.length_append] at hfl'
   simp only [hdk,hb0,hi2,zAf,hx,go_sem,Nat.reduceLeDiff,Nat.reduceEqDiff,Nat.reduceBEq,Nat.reduceAdd,zC]
   refine⟨⟨by omega,by omega⟩,hi1,?_⟩
   intro bs hbs
   have hle3:G.le (G.put bs (.row [.int .i64 x.key,.int .i64 x.alg,.int .i64 x.from_,.int .i64 x.till] 4 true)):=zJ hbs _
   have hns:wH (G.put bs (.row [.int .i64 x.key,.int .i64 x.alg,.int .i64 x.from_,.int .i64 x.till] 4 true)) (.slice (some ⟨bs,0,none⟩) 4 4) [x.key,x.alg,x.from_,x.till]:=ints_at (ns:=[x.key,x.alg,x.from_,x.till]) (c:=4) (wr:=true) (cap:=4) (by rw [Hp.put_same]; rfl)
   refine xA ?_ ?_ (yP h3.e132 (zMP h3 L (hB3.keep hle3) (h2.rowmono (hrl.trans (pJ.of_le hle3))) x.zone hns ?_ (by simp only [List.length_append]; omega) (by simp))) ?_
   ·simp only [go_sem,Nat.reduceEqDiff]
   ·simp only [go_sem,Nat.reduceEqDiff]
   ·intro n hn
    simp only [List.mem_cons,List.not_mem_nil,or_false] at hn
    rcases hn with rfl | rfl | rfl | rfl
    ·exact hrng.1
    ·exact hrng.2.1
    ·exact hrng.2.2.1
    ·exact hrng.2.2.2.1
   rintro u G1 ⟨ob3,hB4,hk3⟩
   have hk3':=(hk2.trans (vE.put hbs)).trans hk3
   have hrl3:=(pJ.of_le hle1).trans (hB1.rows hk3')
   simp only [go_sem,Nat.reduceEqDiff,Nat.reduceBEq,Nat.reduceAdd]
   refine zM ?_ (L.fmtU G1 x.sum (h2.rowmono hrl3) hrng.2.2.2.2.1 hrng.2.2.2.2.2) ?_
   ·simp only [go_sem,Nat.reduceEqDiff]
   rintro u G2 ⟨rfl,hle4⟩
   simp only [go_sem,Nat.reduceBEq]
   have hnil:wH G2 (.slice none 0 0) []:=zG.nil
   refine xA ?_ ?_ (yP h3.e132 (zMP h3 L (hB4.keep hle4) (h2.rowmono (hrl3.trans (pJ.of_le hle4))) (Lib.itoa x.sum) hnil (fun n h=>by cases h) (by simp only [List.length_append]; omega) (by simp))) ?_
   ·simp only [go_sem,Nat.reduceEqDiff]
   ·simp only [go_sem,Nat.reduceEqDiff]
   rintro u G3 ⟨ob4,hB5,hk4⟩
   simp only [go_sem,Nat.reduceEqDiff,Nat.reduceBEq,zC]
   refine⟨hlt,zR (by omega),ob4,?_,hk3'.trans (vE.trans ⟨fun c o hc _ _=>hle4 _ _ hc,fun c hc=>.inl hc.symm⟩ hk4)⟩
   rw [hsucc,htx]
   simp only [← List.append_assoc]
   exact hB5
  ·have hdk:decide ((k:Int) < (s.sigs.length:Int))=false:=by simpa using hlt
   have:k=s.sigs.length:=by omega
   subst this
   rw [List.take_length] at hB3
   have etx:vG s ++ s.data.flatMap uM ++ s.sigs.flatMap uE=xK s:=by rw [zBq,List.append_assoc]
   rw [etx] at hB3
   have hne:xK s≠[]:=by rw [zBq]; simp [vG,uK]
   obtain⟨p,v,hp,hbo,hobne,hbuf⟩:=hB3
   cases ob2 with
   | none=>exact absurd hbuf.2 hne
   | some bb =>
    obtain⟨_,cap,c,rfl,hbb,hsz,hle,htk⟩:=hbuf
    simp only [hdk,go_sem,Nat.reduceLeDiff,Nat.reduceEqDiff,Nat.reduceBEq,Nat.reduceAdd,zC]
    refine zM ?_ (L.str G b bb cap (xK s) c p (fun e=>hobne (by rw [e])) hbo hbb hsz hle htk hne (by omega)) ?_
    ·simp only [go_sem,Nat.reduceEqDiff]
    rintro u G1 ⟨rfl,rfl⟩
    simp only [go_sem,Nat.reduceEqDiff,Nat.reduceBEq]
    intro x o hx
    have hxb:x≠b:=by rintro rfl; rw [hb] at hx; cases hx
    have hxbb : x ≠ bb := by
     rintro rfl
     rcases hk2.2 x rfl with h | h
     ·cases h
     ·rw [hle1 _ _ hx] at h; cases h.2
    rw [Hp.del_ne _ hxbb]
    exact hk2.1 x o (hle1 _ _ hx) hxb (by simp)
end Go.SL
/- Contracts: small functions of package history; its iterator over copies. -/
namespace Go.SL
open Go
variable {E:Env} {H:Hp}
theorem yXZ (hE : zX E) (h3 : yW E) {s : zF} {dv gv : Value} (hd : xF H dv s.data) (hg : xL H gv s.sigs) (nd : s.data.length ≤ 1000000) (ng : s.sigs.length ≤ 1000000) :
  Fn E.P (E.fn 128) [.agg #[S s.name,.int .i64 s.type,.int .i64 s.life,dv,gv]] H (fun u H'=>∃ dv' gv',u = .agg #[S s.name,.int .i64 s.type,.int .i64 s.life,dv',gv']∧xF H' dv' s.data∧xL H' gv' s.sigs∧H.le H'):=by
 have o1:=zG.one hd
 have o2:=zG.one hg
 refine Fn.of_vks h3.c128 (by simp [zNn]) ?_
 simp only [zNn,zUB,yEo,zUd,yEm]
 simp only [go_sem,Nat.reduceLeDiff,Nat.reduceEqDiff,Nat.reduceBEq,Nat.reduceAdd,reduceCtorEq]
 refine zM ?_ (xBj hE hd (by omega)) ?_
 ·simp only [go_sem,Nat.reduceEqDiff]
 rintro u H1 hcl
 have hd1:xF H1 u s.data:=hcl.at (fun i _=>rfl)
 have hle1:=hcl.le
 have o3:=zG.one hd1
 obtain⟨a1,c1,rfl⟩:=zG.sl hd1
 simp only [go_sem,Nat.reduceLeDiff,Nat.reduceEqDiff,Nat.reduceBEq,Nat.reduceAdd]
 refine zM ?_ (xBz hE (xL.mono hg hle1) (by omega)) ?_
 ·simp only [go_sem,Nat.reduceEqDiff]
 rintro u H2 hcl
 have hg2:xL H2 u s.sigs:=hcl.at (fun i _=>rfl)
 have hle2:=hcl.le
 obtain⟨a2,c2,rfl⟩:=zG.sl hg2
 simp only [go_sem,Nat.reduceEqDiff,Nat.reduceBEq,Nat.reduceAdd]
 exact⟨_,_,rfl,xF.mono hd1 hle2,hg2,hle1.trans hle2⟩
def zBA (cs:List yE) (z:Nat→Value) (i:Nat):Value:=.agg #[.int .i64 (cs.getD i default).host,.int .i64 (cs.getD i default).from_,.int .i64 (cs.getD i default).till,S (cs.getD i default).apex,z i]
theorem yXC (h3 : yW E) {bz c : Nat} {wr : Bool} {zone : Bs} (hb : H bz = some (.row [S zone] c wr)) (cs : List yE) (z : Nat → Value) (i : Nat) (_hz : yV (z i) = true) :
  yB E 125 [zBA cs z i,.pointer (some ⟨bz,0,none⟩)] H (.bool ((cs.getD i default).apex == zone)):=by
 unfold zBA
 refine Fn.of_vks h3.c125 (by simp [zLZ]) ?_
 simp only [zLZ,zWi,zYi]
 simp only [hb,go_sem,Nat.reduceLeDiff,Nat.reduceEqDiff,Nat.reduceBEq,Nat.reduceAdd,reduceCtorEq,zC]
def zCO (ok:yE→Bool) (cs:List yE) (n:Nat):List Nat:=(List.range n).filter fun i=>ok (cs.getD i default)
theorem zKZ (ok : yE → Bool) (cs : List yE) (n : Nat) : zCO ok cs (n + 1) = zCO ok cs n ++ (if ok (cs.getD n default) then [n] else []) := by
 unfold zCO
 rw [List.range_succ,List.filter_append]
 congr 1
 by_cases h:ok (cs.getD n default)=true
 ·rw [if_pos h,List.filter_cons_of_pos (p:=fun i=>ok (cs.getD i default)) h]; rfl
 ·rw [if_neg h,List.filter_cons_of_neg (p:=fun i=>ok (cs.getD i default)) h]; rfl
theorem zJj (ok : yE → Bool) (cs : List yE) {k : Nat} (h : ok (cs.getD k default) = true) : ∀ n, k < n → ∃ suf, zCO ok cs n = zCO ok cs k ++ k :: suf
 | 0,hk=>by omega
 | n + 1, hk => by
  rw [zKZ]
  by_cases e:k=n
  ·subst e; exact⟨[],by rw [if_pos h]⟩
  ·obtain⟨suf,hs⟩:=zJj ok cs h n (by omega)
   exact⟨suf ++ (if ok (cs.getD n default) then [n] else []),by rw [hs]; simp⟩
def itC (ok:yE→Bool) (cs:List yE) (z:Nat→Value):List (List Value):=(zCO ok cs cs.length).map fun i=>[zBA cs z i]
set_option maxHeartbeats 1000000 in
theorem yXI (h3 : yW E) {G : Hp} {bh bf ch cf : Nat} {wh wf : Bool} {rest : List Value} {vh f a : Value} {cs : List yE} {z : Nat → Value} (hvc : zG G 5 a cs.length (jY cs z)) (hz : ∀ i, i < cs.length → yV (z i) = true) (hn : cs.length ≤ 1000000)
  (hH:G bh=some (.row (vh :: a :: rest) ch wh)) (hF:G bf=some (.row [f] cf wf)) (ok:yE→Bool)
  (hok:∀ H',G.le H'→∀ i,i < cs.length→FnV E f [zBA cs z i] H' (fun u H''=>u = .bool (ok (cs.getD i default))∧H''=H')) :
  Iter E (.func (.func (E.fn 131)) #[] #[.pointer (some ⟨bh,0,none⟩),.pointer (some ⟨bf,0,none⟩)]) G (fun xs=>xs=itC ok cs z):=by
 intro y Inv Stop H hG hy h0
 refine yP h3.e131 ?_
 show Fn E.P (E.fn 131) [y,.pointer (some ⟨bh,0,none⟩),.pointer (some ⟨bf,0,none⟩)] H _
 have hle0:=hG _ _ h0
 have hvc0:=hvc
 obtain⟨aa,cap,rfl,hsp,hr⟩:=hvc
 have hH0:=hle0 _ _ hH
 refine Fn.of_vks h3.c131 (by simp [zMg]) ?_
 simp only [zMg,yBC,yGm,zYa,zTq,yAY]
 simp only [hH0,go_sem,Nat.reduceLeDiff,Nat.reduceEqDiff,Nat.reduceBEq,Nat.reduceAdd,reduceCtorEq]
 refine yK cs.length 0 (fun k fr' H' => fr' = [(0, ⟨true, .val y⟩), (2, ⟨true, .val (.pointer (some ⟨bf, 0, none⟩))⟩), (7, ⟨true, .val (.slice aa cs.length cap)⟩), (8, ⟨true, .val (.int .i64 cs.length)⟩), (9, ⟨true, .val (.int .i64 k)⟩)] ∧
  Inv ((zCO ok cs k).map fun i=>[zBA cs z i]) H') (Nat.zero_le _) ⟨rfl,h0⟩ ?_
 rintro k fr' H' hk ⟨rfl,hinv⟩
 have hle:=hG _ _ hinv
 by_cases hlt:k < cs.length
 ·have hd:decide ((k:Int) < (cs.length:Int))=true:=by simpa using hlt
  have hr':=hr (by omega)
  obtain⟨b,o,vs,c,wr,ha,hb,hi⟩:=hr'
  subst ha
  have hb1:=hle _ _ hb
  have hi1:=(hi k hlt).1
  have hi2:=(hi k hlt).2
  have hzk:=hz k hlt
  have hF1:=hle _ _ hF
  have hsucc:=zKZ ok cs k
  simp only [hd,hb1,hi2,jY,hzk,hF1,go_sem,Nat.reduceEqDiff,Nat.reduceBEq,Nat.reduceAdd,reduceCtorEq,zC]
  refine⟨⟨by omega,by omega⟩,hi1,?_⟩
  refine xA ?_ ?_ (hok H' hle k hlt) ?_
  ·simp only [go_sem,Nat.reduceEqDiff,reduceCtorEq]
  ·simp only [go_sem,Nat.reduceEqDiff,reduceCtorEq]
  rintro w H'' ⟨rfl,rfl⟩
  cases hokk:ok (cs.getD k default) with
  | true =>
   obtain⟨suf,hsuf⟩:=zJj ok cs hokk cs.length hlt
   rw [hokk,if_pos rfl] at hsucc
   simp only [go_sem,Nat.reduceEqDiff,Nat.reduceBEq,Nat.reduceAdd,reduceCtorEq]
   refine zAr (by intro x h; cases h) (by intro f a h; cases h) ?_ ?_ ?_
   ·simp only [go_sem,Nat.reduceEqDiff,reduceCtorEq]
   ·simp only [go_sem,Nat.reduceEqDiff,reduceCtorEq]
   refine xA ?_ ?_ (hy ((zCO ok cs k).map fun i=>[zBA cs z i]) [zBA cs z k] H'' ⟨suf.map fun i=>[zBA cs z i],by simp only [itC,hsuf,List.map_append,List.map_cons]⟩ hinv) ?_
   ·simp only [go_sem,Nat.reduceEqDiff,reduceCtorEq]
   ·simp only [go_sem,Nat.reduceEqDiff,reduceCtorEq]
   rintro v H3 (⟨rfl,hi3⟩ | ⟨rfl,hs⟩)
   ·simp only [go_sem,Nat.reduceEqDiff,Nat.reduceBEq,reduceCtorEq,zC]
    refine⟨hlt,zR (by omega),?_⟩
    rw [hsucc,List.map_append]; exact hi3
   ·simp only [go_sem,Nat.reduceEqDiff,Nat.reduceBEq,reduceCtorEq,zC]
    exact .inr ⟨_,hs⟩
  | false =>
   rw [hokk] at hsucc
   simp only [go_sem,Nat.reduceEqDiff,Nat.reduceBEq,Nat.reduceAdd,reduceCtorEq]
   refine zBw (by intro x h; cases h) (by intro f a h; cases h) ?_ ?_ ?_
   ·simp only [go_sem,Nat.reduceEqDiff,reduceCtorEq]
   ·simp only [go_sem,Nat.reduceEqDiff,reduceCtorEq]
   simp only [undef,↓yA,go_sem,Nat.reduceEqDiff,Nat.reduceBEq,reduceCtorEq,zC]
   refine⟨hlt,zR (by omega),?_⟩
   rw [hsucc]; simpa using hinv
 ·have hd:decide ((k:Int) < (cs.length:Int))=false:=by simpa using hlt
  have:k=cs.length:=by omega
  subst this
  simp only [hd,go_sem,Nat.reduceEqDiff,Nat.reduceBEq,Nat.reduceAdd,reduceCtorEq,zC]
  exact .inl ⟨_,rfl,hinv⟩
theorem yXv (h3 : yW E) {cs : List Value} (hl : cs.length = 9) (_h1 : cs.all yV = true) {f : Value} (hf : f.cells = #[f]) :
  Fn E.P (E.fn 126) [.agg cs.toArray, f] H (fun u H' => ∃ bh bf, H bh = none ∧ H bf = none ∧ bf ≠ bh ∧ u = .func (.func (E.fn 131)) #[] #[.pointer (some ⟨bh, 0, none⟩), .pointer (some ⟨bf, 0, none⟩)] ∧
   H'=(H.put bh (.row cs 9 true)).put bf (.row [f] 1 true)):=by
 refine Fn.of_vks h3.c126 (by simp [zNr]) ?_
 simp only [zNr,zVU,zVL]
 simp only [go_sem,Nat.reduceEqDiff,Nat.reduceBEq,reduceCtorEq]
 intro b hb b1 hb1
 have hne:b1≠b:=by rintro rfl; rw [Hp.put_same] at hb1; cases hb1
 have hb2:H b1=none:=by rwa [Hp.put_ne _ _ hne] at hb1
 refine⟨b,b1,hb,hb2,hne,rfl,?_⟩
 change (H.put b (.row cs cs.length true)).put b1 (.row f.cells.toList f.cells.toList.length true)=_
 rw [hf,hl]; rfl
end Go.SL
/- Contract: the text of a signed set (package holds) is that of package history. -/
namespace Go.SL
open Go
variable {E:Env} {H:Hp}
def wT (w:Bs):Bs:=w ++ [47]
theorem jA (w:Bs):(wT w).length=w.length + 1:=by simp [wT]
theorem yWS (w:Bs):uK w []=wT w:=by simp [zBX,wT]
theorem yXJ (w:Bs) (a b:Int):uK w [a,b]=wT w ++ (wT (Lib.itoa a) ++ wT (Lib.itoa b)):=by simp [zBX,wT,zAe]
theorem yXl (w:Bs) (a b c:Int):uK w [a,b,c]=wT w ++ (wT (Lib.itoa a) ++ (wT (Lib.itoa b) ++ wT (Lib.itoa c))):=by simp [zBX,wT,zAe]
theorem yYh (w:Bs) (a b c d:Int):uK w [a,b,c,d]=wT w ++ (wT (Lib.itoa a) ++ (wT (Lib.itoa b) ++ (wT (Lib.itoa c) ++ wT (Lib.itoa d)))):=by simp [zBX,wT,zAe]
theorem zJm (h3 : yW E) (h5 : uJ E) (L : zBz E) {b : Nat} {l : Bs} {ob : Option Nat} (hB : vW E H b l ob) (w : Bs) (hn : l.length + w.length ≤ 900000000) :
  Fn E.P (E.fn 233) [S w,.pointer (some ⟨b,0,none⟩)] H (fun _ H'=>∃ ob',vW E H' b (l ++ wT w) ob'∧vE H H' b ob ob'):=by
 refine Fn.of_vks h5.c233 (by simp [zMw]) ?_
 simp only [zMw,yEq,yBY]
 simp only [go_sem,Nat.reduceBEq]
 refine zM ?_ (yIk h3 L hB w (by omega)) ?_
 ·simp only [go_sem,Nat.reduceEqDiff,reduceCtorEq]
 rintro u H1 ⟨ob1,hB1,hk1⟩
 simp only [go_sem,Nat.reduceEqDiff,Nat.reduceBEq,reduceCtorEq]
 refine zM ?_ (yHM h3 L hB1 47 (by simp only [List.length_append]; omega)) ?_
 ·simp only [go_sem]
 rintro u G1 ⟨ob3,hB3,hk3⟩
 simp only [go_sem,Nat.reduceBEq]
 refine⟨ob3,?_,hk1.trans hk3⟩
 unfold wT
 rw [← List.append_assoc]; exact hB3
theorem zDh (h3 : yW E) (h5 : uJ E) (L : zBz E) {b c4 : Nat} {l : Bs} {ob : Option Nat} (hB : vW E H b l ob) (hc4 : H c4 = some (.row [.func (.func (E.fn 233)) #[] #[.pointer (some ⟨b, 0, none⟩)]] 1 true)) (h2 : uD E H) (n : Int) (hr : I64 n) (hn : l.length + (Lib.itoa n).length ≤ 900000000) :
  Fn E.P (E.fn 234) [.int .i64 n,.pointer (some ⟨c4,0,none⟩)] H (fun _ H'=>∃ ob',vW E H' b (l ++ wT (Lib.itoa n)) ob'∧vE H H' b ob ob'):=by
 refine Fn.of_vks h5.c234 (by simp [zMU]) ?_
 simp only [zMU,zWx]
 simp only [hc4,go_sem,Nat.reduceBEq,reduceCtorEq]
 refine zEp ?_ (L.itoa H n h2 hr.1 hr.2) ?_
 ·simp only [go_sem,Nat.reduceEqDiff,reduceCtorEq]
 rintro u H1 ⟨rfl,hle⟩
 have hc4':=hle _ _ hc4
 refine⟨?_,?_⟩
 ·simp only [hc4',go_sem,Nat.reduceEqDiff,Nat.reduceBEq,reduceCtorEq]
 simp only [go_sem,Nat.reduceBEq]
 refine zFQ ?_ ?_ (yP h5.e233 (zJm h3 h5 L (hB.keep hle) (Lib.itoa n) hn)) ?_
 ·simp only [go_sem,Nat.reduceEqDiff,reduceCtorEq]
 ·simp only [go_sem,Nat.reduceEqDiff,reduceCtorEq]
 rintro u G ⟨ob',hB',hk'⟩
 simp only [go_sem,Nat.reduceEqDiff,Nat.reduceBEq,reduceCtorEq]
 exact⟨ob',hB',vE.trans ⟨fun c o hc _ _=>hle _ _ hc,fun c hc=>.inl hc.symm⟩ hk'⟩
set_option maxHeartbeats 4000000 in
theorem yZn (h3 : yW E) (h5 : uJ E) (L : zBz E) (h2 : uD E H) {s : zF} {dv gv : Value} (hd : xF H dv s.data) (hg : xL H gv s.sigs) (hr : zIb s) :
  yB E 230 [.agg #[S s.name,.int .i64 s.type,.int .i64 s.life,dv,gv]] H (S (xK s)):=by
 have hd':=hd
 have hg':=hg
 obtain⟨ad,cd,rfl,_,_⟩:=hd
 obtain⟨ag,cg,rfl,_,_⟩:=hg
 have htl:(xK s).length=(vG s).length + ((s.data.flatMap uM).length + (s.sigs.flatMap uE).length):=by rw [zBq]; simp
 have hlen:=hr.len
 have hth:vG s=wT s.name ++ (wT (Lib.itoa s.type) ++ (wT (Lib.itoa s.life) ++ wT (Lib.itoa s.data.length))):=yXl ..
 have hthl:(vG s).length=(s.name.length + 1) + (((Lib.itoa s.type).length + 1) + (((Lib.itoa s.life).length + 1) + ((Lib.itoa s.data.length).length + 1))):=by rw [hth]; simp only [List.length_append,jA]
 have hnd:=hr.nd
 have hng:=hr.ng
 refine Fn.of_vks h5.c230 (by simp [zMm]) ?_
 simp only [zMm,zYv,yAE,yAT,zZg,zTj,zVq,zXN,zZV,yAm,zYU,zRG,zPh,zPu,zPz,zNO,zOr,zPy,zOR,zNy,zOF,zRi,zOj,zOd,zPT,zQy,zNL]
 simp only [zOa,go_sem,Nat.reduceEqDiff,Nat.reduceBEq,reduceCtorEq]
 intro b hb c4 hc4
 have nb4:b≠c4:=by rintro rfl; rw [Hp.put_same] at hc4; cases hc4
 obtain⟨H1,hH1⟩:∃ y,y=((H.put b (.obj (.cells #[.pointer none,.slice none 0 0] (E.gl 181) (0,0)))).put c4 (.row [.func (.func (E.fn 233)) #[] #[.pointer (some ⟨b,0,none⟩)]] 1 true)):=⟨_,rfl⟩
 have hle1 : H.le H1 := by
  rw [hH1]
  refine(zJ hb _).trans (zJ ?_ _)
  exact hc4
 have e4:H1 c4=some (.row [.func (.func (E.fn 233)) #[] #[.pointer (some ⟨b,0,none⟩)]] 1 true):=by rw [hH1,Hp.put_same]
 have hB1:vW E H1 b [] none:=⟨_,_,.inl rfl,by rw [hH1,Hp.put_ne _ _ nb4]; exact Hp.put_same ..,by simp,rfl,rfl⟩
 simp only [Hp.put_same,go_sem,Nat.reduceLeDiff,Nat.reduceEqDiff,Nat.reduceBEq,Nat.reduceAdd]
 rw [← hH1]
 have hB2:=h2.mono hle1
 refine xA ?_ ?_ (yP h5.e233 (zJm h3 h5 L hB1 s.name (by simp only [List.length_nil]; omega))) ?_
 ·simp only [go_sem,Nat.reduceEqDiff]
 ·simp only [go_sem,Nat.reduceEqDiff]
 rintro u G1 ⟨ob1,hG1,hk1⟩
 have k1:=hk1
 have rl1:=hB1.rows k1
 have e41:=rl1 _ _ _ _ e4
 simp only [go_sem,Nat.reduceLeDiff,Nat.reduceEqDiff,Nat.reduceBEq,Nat.reduceAdd]
 refine xA ?_ ?_ (yP h5.e234 (zDh h3 h5 L hG1 e41 (hB2.rowmono rl1) s.type hr.type (by simp only [List.length_append,List.length_nil,jA]; omega))) ?_
 ·simp only [go_sem,Nat.reduceEqDiff]
 ·simp only [go_sem,Nat.reduceEqDiff]
 rintro u G2 ⟨ob2,hG2,hk2⟩
 have k2:=k1.trans hk2
 have rl2:=hB1.rows k2
 have e42:=rl2 _ _ _ _ e4
 simp only [go_sem,Nat.reduceLeDiff,Nat.reduceEqDiff,Nat.reduceBEq,Nat.reduceAdd]
 refine xA ?_ ?_ (yP h5.e234 (zDh h3 h5 L hG2 e42 (hB2.rowmono rl2) s.life hr.life (by simp only [List.length_append,List.length_nil,jA]; omega))) ?_
 ·simp only [go_sem,Nat.reduceEqDiff]
 ·simp only [go_sem,Nat.reduceEqDiff]
 rintro u G3 ⟨ob3,hG3,hk3⟩
 have k3:=k2.trans hk3
 have rl3:=hB1.rows k3
 have e43:=rl3 _ _ _ _ e4
 simp only [go_sem,Nat.reduceLeDiff,Nat.reduceEqDiff,Nat.reduceBEq,Nat.reduceAdd]
 refine xA ?_ ?_ (yP h5.e234 (zDh h3 h5 L hG3 e43 (hB2.rowmono rl3) s.data.length ⟨by omega,by omega⟩ (by simp only [List.length_append,List.length_nil,jA]; omega))) ?_
 ·simp only [go_sem,Nat.reduceEqDiff]
 ·simp only [go_sem,Nat.reduceEqDiff]
 rintro u G4 ⟨ob4,hG4,hk4⟩
 have k4:=k3.trans hk4
 have hG4' : vW E G4 b (vG s) ob4 := by
  have e:[] ++ wT s.name ++ wT (Lib.itoa s.type) ++ wT (Lib.itoa s.life) ++ wT (Lib.itoa s.data.length)=vG s:=by rw [hth]; simp
  rw [← e]; exact hG4
 simp only [go_sem,Nat.reduceLeDiff,Nat.reduceEqDiff,Nat.reduceBEq,Nat.reduceAdd]
 refine yK s.data.length 0 (fun k fr' G => fr' = [(1, ⟨true, .box [S s.name, .int .i64 s.type, .int .i64 s.life, .slice ad s.data.length cd, .slice ag s.sigs.length cg]⟩), (3, ⟨true, .val (.pointer (some ⟨b, 0, none⟩))⟩), (4, ⟨true, .val (.pointer (some ⟨c4, 0, none⟩))⟩), (5, ⟨true, .val (.func (.func (E.fn 234)) #[] #[.pointer (some ⟨c4, 0, none⟩)])⟩), (35, ⟨true, .val (.slice ad s.data.length cd)⟩), (36, ⟨true, .val (.int .i64 s.data.length)⟩), (37, ⟨true, .val (.int .i64 k)⟩)] ∧
  ∃ ob',vW E G b (vG s ++ (s.data.take k).flatMap uM) ob'∧vE H1 G b none ob') (Nat.zero_le _) ⟨rfl,ob4,by simpa using hG4',k4⟩ ?_
 rintro k fr' G hk ⟨rfl,obk,hBk,kk⟩
 have hrl:=(pJ.of_le hle1).trans (hB1.rows kk)
 have rlk:=hB1.rows kk
 have hfl:=wS uM s.data k
 by_cases hlt:k < s.data.length
 ·have hdk:decide ((k:Int) < (s.data.length:Int))=true:=by simpa using hlt
  have hr':=zG.rowmono hd' hrl
  obtain⟨a',cap',hv,_,hr'⟩:=hr'
  cases hv
  have hr':=hr' (by omega)
  obtain⟨b0,o,vs,c,wr,ha,hb0,hi⟩:=hr'
  subst ha
  have hi1:=(hi k hlt).1
  have hi2:=(hi k hlt).2
  have hsucc:=zAx uM hlt
  have hfl':=wS uM s.data (k + 1)
  have hrng:=hr.data _ (yN hlt)
  obtain⟨x,hx⟩:∃ y,s.data.getD k default=y:=⟨_,rfl⟩
  rw [hx] at hsucc hrng
  rw [hsucc,List.length_append] at hfl'
  have htx:uM x=wT x.text ++ (wT (Lib.itoa x.n) ++ wT (Lib.itoa x.m)):=yXJ ..
  rw [htx] at hsucc hfl'
  simp only [List.length_append,jA] at hfl'
  have e4k:=rlk _ _ _ _ e4
  simp only [hdk,hb0,hi2,pR,hx,e4k,go_sem,Nat.reduceLeDiff,Nat.reduceEqDiff,Nat.reduceBEq,Nat.reduceAdd,zC]
  refine⟨⟨by omega,by omega⟩,hi1,?_⟩
  refine xA ?_ ?_ (yP h5.e233 (zJm h3 h5 L hBk x.text (by simp only [List.length_append]; omega))) ?_
  ·simp only [go_sem,Nat.reduceEqDiff]
  ·simp only [go_sem,Nat.reduceEqDiff]
  rintro u J1 ⟨o1,hJ1,j1⟩
  have m1:=kk.trans j1
  have r1:=hB1.rows m1
  simp only [go_sem,Nat.reduceLeDiff,Nat.reduceEqDiff,Nat.reduceBEq,Nat.reduceAdd]
  refine xA ?_ ?_ (yP h5.e234 (zDh h3 h5 L hJ1 (r1 _ _ _ _ e4) (hB2.rowmono r1) x.n hrng.1 (by simp only [List.length_append,jA]; omega))) ?_
  ·simp only [go_sem,Nat.reduceEqDiff]
  ·simp only [go_sem,Nat.reduceEqDiff]
  rintro u J2 ⟨o2,hJ2,j2⟩
  have m2:=m1.trans j2
  have r2:=hB1.rows m2
  simp only [go_sem,Nat.reduceEqDiff,Nat.reduceBEq,Nat.reduceAdd]
  refine xA ?_ ?_ (yP h5.e234 (zDh h3 h5 L hJ2 (r2 _ _ _ _ e4) (hB2.rowmono r2) x.m hrng.2 (by simp only [List.length_append,jA]; omega))) ?_
  ·simp only [go_sem,Nat.reduceEqDiff]
  ·simp only [go_sem,Nat.reduceEqDiff]
  rintro u J3 ⟨o3,hJ3,j3⟩
  simp only [go_sem,Nat.reduceEqDiff,Nat.reduceBEq,zC]
  refine⟨hlt,zR (by omega),o3,?_,m2.trans j3⟩
  rw [hsucc]
  simp only [← List.append_assoc]
  exact hJ3
 have hdk:decide ((k:Int) < (s.data.length:Int))=false:=by simpa using hlt
 have:k=s.data.length:=by omega
 subst this
 rw [List.take_length] at hBk hfl
 simp only [hdk,go_sem,Nat.reduceEqDiff,Nat.reduceBEq,Nat.reduceAdd,zC]
 refine yK s.sigs.length 0 (fun k fr' G => fr' = [(3, ⟨true, .val (.pointer (some ⟨b, 0, none⟩))⟩), (4, ⟨true, .val (.pointer (some ⟨c4, 0, none⟩))⟩), (5, ⟨true, .val (.func (.func (E.fn 234)) #[] #[.pointer (some ⟨c4, 0, none⟩)])⟩), (55, ⟨true, .val (.slice ag s.sigs.length cg)⟩), (56, ⟨true, .val (.int .i64 s.sigs.length)⟩), (57, ⟨true, .val (.int .i64 k)⟩)] ∧
  ∃ ob',vW E G b (vG s ++ s.data.flatMap uM ++ (s.sigs.take k).flatMap uE) ob'∧vE H1 G b none ob') (Nat.zero_le _) ⟨rfl,obk,by simpa using hBk,kk⟩ ?_
 rintro k fr' G hk ⟨rfl,obk,hBk,kk⟩
 have hrl:=(pJ.of_le hle1).trans (hB1.rows kk)
 have rlk:=hB1.rows kk
 have hfg:=wS uE s.sigs k
 by_cases hlt:k < s.sigs.length
 ·have hdk:decide ((k:Int) < (s.sigs.length:Int))=true:=by simpa using hlt
  have hr':=zG.rowmono hg' hrl
  obtain⟨a',cap',hv,_,hr'⟩:=hr'
  cases hv
  have hr':=hr' (by omega)
  obtain⟨b0,o,vs,c,wr,ha,hb0,hi⟩:=hr'
  subst ha
  have hi1:=(hi k hlt).1
  have hi2:=(hi k hlt).2
  have hsucc:=zAx uE hlt
  have hfl':=wS uE s.sigs (k + 1)
  have hrng:=hr.sigs _ (yN hlt)
  obtain⟨x,hx⟩:∃ y,s.sigs.getD k default=y:=⟨_,rfl⟩
  rw [hx] at hsucc hrng
  rw [hsucc,List.length_append] at hfl'
  have htx : uE x = wT x.zone ++ (wT (Lib.itoa x.key) ++ (wT (Lib.itoa x.alg) ++ (wT (Lib.itoa x.from_) ++ wT (Lib.itoa x.till)))) ++ wT (Lib.itoa x.sum) := by
   have:uE x=uK x.zone [x.key,x.alg,x.from_,x.till] ++ uK (Lib.itoa x.sum) []:=rfl
   rw [this,yYh,yWS]
  rw [htx] at hsucc hfl'
  simp only [List.length_append,jA] at hfl'
  have e4k:=rlk _ _ _ _ e4
  simp only [hdk,hb0,hi2,zAf,hx,e4k,go_sem,Nat.reduceLeDiff,Nat.reduceEqDiff,Nat.reduceBEq,Nat.reduceAdd,zC]
  refine⟨⟨by omega,by omega⟩,hi1,?_⟩
  refine xA ?_ ?_ (yP h5.e233 (zJm h3 h5 L hBk x.zone (by simp only [List.length_append]; omega))) ?_
  ·simp only [go_sem,Nat.reduceEqDiff]
  ·simp only [go_sem,Nat.reduceEqDiff]
  rintro u J1 ⟨o1,hJ1,j1⟩
  have m1:=kk.trans j1
  have r1:=hB1.rows m1
  simp only [go_sem,Nat.reduceLeDiff,Nat.reduceEqDiff,Nat.reduceBEq,Nat.reduceAdd]
  refine xA ?_ ?_ (yP h5.e234 (zDh h3 h5 L hJ1 (r1 _ _ _ _ e4) (hB2.rowmono r1) x.key hrng.1 (by simp only [List.length_append,jA]; omega))) ?_
  ·simp only [go_sem,Nat.reduceEqDiff]
  ·simp only [go_sem,Nat.reduceEqDiff]
  rintro u J2 ⟨o2,hJ2,j2⟩
  have m2:=m1.trans j2
  have r2:=hB1.rows m2
  simp only [go_sem,Nat.reduceLeDiff,Nat.reduceEqDiff,Nat.reduceBEq,Nat.reduceAdd]
  refine xA ?_ ?_ (yP h5.e234 (zDh h3 h5 L hJ2 (r2 _ _ _ _ e4) (hB2.rowmono r2) x.alg hrng.2.1 (by simp only [List.length_append,jA]; omega))) ?_
  ·simp only [go_sem,Nat.reduceEqDiff]
  ·simp only [go_sem,Nat.reduceEqDiff]
  rintro u J3 ⟨o3,hJ3,j3⟩
  have m3:=m2.trans j3
  have r3:=hB1.rows m3
  simp only [go_sem,Nat.reduceLeDiff,Nat.reduceEqDiff,Nat.reduceBEq,Nat.reduceAdd]
  refine xA ?_ ?_ (yP h5.e234 (zDh h3 h5 L hJ3 (r3 _ _ _ _ e4) (hB2.rowmono r3) x.from_ hrng.2.2.1 (by simp only [List.length_append,jA]; omega))) ?_
  ·simp only [go_sem,Nat.reduceEqDiff]
  ·simp only [go_sem,Nat.reduceEqDiff]
  rintro u J4 ⟨o4,hJ4,j4⟩
  have m4:=m3.trans j4
  have r4:=hB1.rows m4
  simp only [go_sem,Nat.reduceLeDiff,Nat.reduceEqDiff,Nat.reduceBEq,Nat.reduceAdd]
  refine xA ?_ ?_ (yP h5.e234 (zDh h3 h5 L hJ4 (r4 _ _ _ _ e4) (hB2.rowmono r4) x.till hrng.2.2.2.1 (by simp only [List.length_append,jA]; omega))) ?_
  ·simp only [go_sem,Nat.reduceEqDiff]
  ·simp only [go_sem,Nat.reduceEqDiff]
  rintro u J5 ⟨o5,hJ5,j5⟩
  have m5:=m4.trans j5
  have r5:=hB1.rows m5
  have e45:=r5 _ _ _ _ e4
  simp only [e45,go_sem,Nat.reduceEqDiff,Nat.reduceBEq,Nat.reduceAdd]
  refine zEp ?_ (L.fmtU J5 x.sum (hB2.rowmono r5) hrng.2.2.2.2.1 hrng.2.2.2.2.2) ?_
  ·simp only [go_sem,Nat.reduceEqDiff]
  rintro u J6 ⟨rfl,hle6⟩
  have e46:=hle6 _ _ e45
  refine⟨?_,?_⟩
  ·simp only [e46,go_sem,Nat.reduceEqDiff,Nat.reduceBEq,Nat.reduceAdd]
  simp only [go_sem,Nat.reduceBEq]
  refine zFQ ?_ ?_ (yP h5.e233 (zJm h3 h5 L (hJ5.keep hle6) (Lib.itoa x.sum) (by simp only [List.length_append,jA]; omega))) ?_
  ·simp only [go_sem,Nat.reduceEqDiff]
  ·simp only [go_sem,Nat.reduceEqDiff]
  rintro u J7 ⟨o7,hJ7,j7⟩
  simp only [go_sem,Nat.reduceEqDiff,Nat.reduceBEq,Nat.reduceAdd,zC]
  refine⟨hlt,zR (by omega),o7,?_,m5.trans (vE.trans ⟨fun c o hc _ _=>hle6 _ _ hc,fun c hc=>.inl hc.symm⟩ j7)⟩
  rw [hsucc]
  simp only [← List.append_assoc]
  exact hJ7
 have hdk:decide ((k:Int) < (s.sigs.length:Int))=false:=by simpa using hlt
 have:k=s.sigs.length:=by omega
 subst this
 rw [List.take_length] at hBk
 have etx:vG s ++ s.data.flatMap uM ++ s.sigs.flatMap uE=xK s:=by rw [zBq,List.append_assoc]
 rw [etx] at hBk
 have hne:xK s≠[]:=by rw [zBq]; simp [vG,uK]
 obtain⟨p,v,hp,hbo,hobne,hbuf⟩:=hBk
 cases obk with
 | none=>exact absurd hbuf.2 hne
 | some bb =>
  obtain⟨_,cap,c,rfl,hbb,hsz,hle,htk⟩:=hbuf
  simp only [hdk,go_sem,Nat.reduceEqDiff,Nat.reduceBEq,Nat.reduceAdd,zC]
  refine zM ?_ (L.str G b bb cap (xK s) c p (fun e=>hobne (by rw [e])) hbo hbb hsz hle htk hne (by omega)) ?_
  ·simp only [go_sem,Nat.reduceEqDiff]
  rintro u J ⟨rfl,rfl⟩
  simp only [go_sem,Nat.reduceEqDiff,Nat.reduceBEq]
  intro x o hx
  have hxb:x≠b:=by rintro rfl; rw [hb] at hx; cases hx
  have hxbb : x ≠ bb := by
   rintro rfl
   rcases kk.2 x rfl with h | h
   ·cases h
   ·rw [hle1 _ _ hx] at h; cases h.2
  rw [Hp.del_ne _ hxbb]
  exact kk.1 x o (hle1 _ _ hx) hxb (by simp)
end Go.SL
