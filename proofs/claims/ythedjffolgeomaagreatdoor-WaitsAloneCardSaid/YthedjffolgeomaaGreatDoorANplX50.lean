/- The law WaitsAlone, out of the contracts. -/
import Derived.Test.YthedjffolgeomaaGreatDoorANplX25
import Derived.Test.YthedjffolgeomaaGreatDoorANplX24
import Derived.Test.YthedjffolgeomaaGreatDoorANplT28
import Derived.Test.YthedjffolgeomaaGreatDoorANplX49
import Derived.Test.YthedjffolgeomaaGreatDoorANplW6
namespace Go.SL
open Go
variable {E:Env} {H:Hp}
theorem zQw (h : yO) (zone : Bs) (t : Int) : (zCw h zone t = 0 ∧ zCe h zone t = false ∧ zCV h zone t = uW h.copies zone t h.drift h.copies.length - t) ∨ (zCw h zone t ≠ 0 ∧ zCV h zone t = 0) := by
 unfold zCw zCV
 cases hb:zCe h zone t
 ·cases ha:wM (zBE h.copies zone) h.copies.length
  ·exact .inr ⟨by simp,by simp⟩
  ·exact .inl ⟨by simp,rfl,by simp⟩
 ·exact .inr ⟨by simp,by simp⟩
theorem zSx {d : Int} {s : zF} (h : zCC d s) {e : Int} : wC d s e ≤ e + 102000 := by
 have h1:=h.d1
 have h2:=h.d2
 have h3:=h.life
 unfold wC
 split<;>omega
theorem yNh {h : yO} (hk : zQT h) {zone : Bs} {t : Int} (h1 : t ≤ 10000000) (k : Nat) (hkn : k ≤ h.copies.length) : uW h.copies zone t h.drift k ≤ 10200000 := by
 rcases(zBZ h.copies zone t h.drift k).2.2 with he | ⟨i,hi,_,_,s,hs,he⟩
 ·omega
 ·rw [he]
  have h1:=hk.till i (by omega)
  have h2:=zSx (hk.sets i (by omega) s hs) (e:=min (h.copies.getD i default).till t)
  omega
def zEd (l : List zO) : Nat → Int
 | 0=>0
 | k + 1=>max (zEd l k) (l.getD k default).till
theorem zRS {l : List zO} {i : Nat} : ∀ {k : Nat}, i < k → (l.getD i default).till ≤ zEd l k
 | 0,h=>by omega
 | k + 1, h => by
  have e:zEd l (k + 1)=max (zEd l k) (l.getD k default).till:=rfl
  by_cases hk:i=k
  ·subst hk; omega
  ·have:=zRS (l:=l) (i:=i) (k:=k) (by omega); omega
def zIO (A:yR) (i j:Nat):Bool:=!((A.getD j default).1 == (A.getD i default).1) && decide ((A.getD i default).2.1=(A.getD j default).2.1)
theorem yEX {P : Nat → Bool} : ∀ {n : Nat}, wM P n = false → ∀ {k}, k < n → P k = false
 | 0,_,k,h=>by omega
 | n + 1, ha, k, h => by
  simp only [wM,Bool.or_eq_false_iff] at ha
  by_cases e:k=n
  ·subst e; exact ha.2
  ·exact yEX ha.1 (by omega)
theorem yRF {h : yO} {x : Bs × (zF × List zO)} (hx : x ∈ wI h) : ∃ c ∈ h.copies, x.2.1 ∈ c.sets := by
 obtain⟨e,he,hex⟩:=zFx hx
 have hinv:=zDG (wD h.copies x.1) (wD h.copies x.1).length (Nat.le_refl _)
 obtain⟨c,hc,hs⟩:=hinv.set e he
 exact⟨c,(zAv hc).1,by rw [← hex]; exact hs⟩
theorem ySf {apex : Bs} {ss : List zF} (h : xB apex ss = true) : ∀ s ∈ ss, okQ s.name s.type = true := by
 intro s hsm
 unfold xB at h
 simp only [Bool.and_eq_true] at h
 obtain⟨⟨⟨⟨⟨h1,_⟩,_⟩,_⟩,_⟩,_⟩:=h
 obtain⟨i,hi,e⟩:=uO hsm
 unfold vQ at h1
 simp only [Bool.and_eq_true] at h1
 have hi1:=yG.1 h1.2 i hi
 simp only [Bool.and_eq_true,yF,e] at hi1
 have hr:=hi1.1.1
 unfold wK zZ at hr
 simp only [Bool.and_eq_true,decide_eq_true_eq] at hr
 obtain⟨⟨⟨⟨⟨⟨r1,r2⟩,_⟩,_⟩,_⟩,_⟩,_⟩:=hr
 unfold okQ
 rw [r1]
 simp
 omega
theorem yUd {h : yO} (hv : yS h = true) {k : Nat} (hk : k < (wI h).length) {zone : Bs} {t t' : Int} (hz : ((wI h).getD k default).1 = zone) (hl : ∀ s ∈ yC ((wI h).getD k default).2.2, s.till ≤ t)
  (he:wM (zIO (wI h) k) (wI h).length=false) (ht:uW h.copies zone t h.drift h.copies.length≤t') {n:Bs} {ty:Int} {s:zF} (hp:zNc h n ty t' s):s≠((wI h).getD k default).2.1:=by
 obtain⟨i,hi,rfl,hb⟩:=hp
 intro hs
 have h1:=yEX he hi
 unfold zIO at h1
 rw [hs,decide_eq_true rfl,Bool.and_true,Bool.not_eq_false'] at h1
 have hz1:((wI h).getD i default).1=((wI h).getD k default).1:=by simpa using h1
 have hu:=yOE (yN hk) (yN hi) hz1 hs
 rw [hu] at hb
 have hok:=qW.1 hv
 have ha:=yMz (h:=h) (fun c hc=>⟨(hok.copy c hc).2.2.2.1,fun s hs=>(zCF (hok.copy c hc).2.2.2.2.2 s hs).plain⟩) (yN hk) hl (t':=t') (by rw [hz]; exact ht)
 rw [hb] at ha; cases ha
set_option maxRecDepth 8000 in
set_option maxHeartbeats 8000000 in
theorem yXe (hE : zX E) (h2 : xZ E) (h3 : yW E) (h4 : xH E) (h5 : uJ E) (L : zBz E) (hB : qU E H) (hB2 : uD E H) (h183 : yB E 183 [] H (.bool true)) {v : Value} {h : yO} (hh : vV H v h)
  (hsums:∀ c∈h.copies,zBO c.sets) (zone:Bs) (t later:Int) (hl0:0≤later) (hl1:later≤65535):yB E 227 [v,S zone,.int .i64 t,.int .u16 later] H (.bool true):=by
 have f1:=yYZ hE h4 hh
 have f2:=fun hx=>yZg h4 hh hx
 have f3:=fun hx hy=>zNo hE h2 h4 hB hh hx hy zone t
 have hh0:=hh
 obtain⟨vh,vz,vd,vi,rfl,g1,g2,g3,g5⟩:=hh
 have o1:=zG.one g1
 have o2:=g2.one
 have o3:=zG.one g3
 have o5:=zG.one g5
 refine Fn.of_vks h5.c227 (by simp [zMk]) ?_
 simp only [zMk,yET,zTx,zTT,zWQ,yGu,yEj,zZm,zWV,zVv,zVp,zOI,zRB,zQq,zRH,zPW,zPM,zRy,zPx,zQV,zPa,zNK,zOn,zRA,zPj,zPp,zPm,zNN]
 simp only [go_sem,Nat.reduceEqDiff,Nat.reduceBEq,Nat.reduceAdd,reduceCtorEq]
 refine zM (by simp only [go_sem]) (Fn.same h183) ?_
 rintro u H1 ⟨rfl,rfl⟩
 simp only [go_sem,Nat.reduceEqDiff,Nat.reduceBEq,Nat.reduceAdd]
 refine zE _ (by simp only [go_sem]) (fun _=>⟨by simp only [go_sem,Nat.reduceEqDiff],f1⟩) ?_
 cases hfew:zGZ h
 ·simp only [go_sem,Nat.reduceEqDiff,Nat.reduceBEq,Nat.reduceAdd]
  refine zE (.bool false) (by simp only [go_sem,Nat.reduceEqDiff]) (fun hg=>by simp only [go_sem,Nat.reduceEqDiff] at hg) ?_
  simp only [↓yQ,go_sem,Nat.reduceEqDiff,Nat.reduceBEq,Nat.reduceAdd,zC]
 have hF:=yTh hfew
 simp only [go_sem,Nat.reduceEqDiff,Nat.reduceBEq,Nat.reduceAdd]
 refine zE _ (by simp only [go_sem,Nat.reduceEqDiff]) (fun _=>⟨by simp only [go_sem,Nat.reduceEqDiff],f2 (by have:=hF.hints; omega)⟩) ?_
 cases hrh:zHk h
 ·simp only [↓yQ,go_sem,Nat.reduceEqDiff,Nat.reduceBEq,Nat.reduceAdd,zC]
 have hv:=zSG hrh
 by_cases hzl:(zone.length:Int) > 200
 ·have e1:decide ((zone.length:Int) > 200)=true:=by rw [decide_eq_true_eq]; exact hzl
  simp only [e1,go_sem,Nat.reduceEqDiff,Nat.reduceBEq,Nat.reduceAdd,zC]
 have e1:decide ((zone.length:Int) > 200)=false:=by rw [decide_eq_false_iff_not]; exact hzl
 simp only [e1,go_sem,Nat.reduceEqDiff,Nat.reduceBEq,Nat.reduceAdd,zC]
 have hset30:∀ i,i < h.copies.length→(h.copies.getD i default).sets.length≤30:=hF.sets
 have hcn:=hF.copies
 have hsm : zJb h.copies := ⟨by omega, fun c hc => by
  obtain⟨i,hi,hie⟩:=uO hc
  have:=hset30 i hi
  rw [← hie]; omega⟩
 have hzo:=zIS hv hsm
 have hps:=zQp hv hsm hsums
 have hok:=qW.1 hv
 have hend:=hok.end2
 refine zM (by simp only [go_sem,Nat.reduceEqDiff]) (Fn.same (f3 (by omega) (fun i hi=>Nat.le_trans (hset30 i hi) (by omega)))) ?_
 rintro u H1 ⟨rfl,rfl⟩
 obtain⟨n,hn⟩:∃ n,n=zCV h zone t:=⟨_,rfl⟩
 obtain⟨e,he⟩:∃ e,e=zCw h zone t:=⟨_,rfl⟩
 rw [← hn,← he]
 simp only [go_sem,Nat.reduceLT,Nat.reduceEqDiff,Nat.reduceBEq,Nat.reduceAdd]
 refine zM (by simp only [go_sem,Nat.reduceEqDiff]) (yIc hE h2 h3 L hB hB2 hh0 hsm.num (fun _=>hps) (fun _=>hzo)) ?_
 rintro u H2 ⟨hle2,_,hp2⟩
 obtain⟨vo,dv,gv,fv,sv,rfl,hsl,hdat⟩:=hp2 hv
 rcases zQw h zone t with⟨hE0,hbad,hN⟩ | ⟨hE0,hN⟩
 rotate_left
 ·have e2:(e == 0)=false:=by rw [he]; simpa using hE0
  simp only [bne,e2,↓yQ,go_sem,Nat.reduceLT,Nat.reduceEqDiff,Nat.reduceBEq,Nat.reduceAdd,zC]
  exact hle2
 have e2:e=0:=by rw [he]; exact hE0
 subst e2
 have hq:=hbad
 unfold zCe at hq
 simp only [Bool.or_eq_false_iff,decide_eq_false_iff_not,Bool.not_eq_false'] at hq
 obtain⟨⟨⟨_,_⟩,ht0⟩,ht1⟩:=hq
 have hlk:=zIz.long hv
 have hub:=yNh hlk (zone:=zone) (t:=t) (by omega) h.copies.length (Nat.le_refl _)
 have hlb:=(zBZ h.copies zone t h.drift h.copies.length).1
 rw [← hn] at hN
 have hel:=zDQ hzo (wB h).length (Nat.le_refl _)
 have hAl:=zCJ hzo (wB h).length (Nat.le_refl _)
 change ∀ e∈wI h,_ at hel
 change (wI h).length≤_ at hAl
 have hrngs : ∀ i, i < (wI h).length → zIb ((wI h).getD i default).2.1 ∧ okQ ((wI h).getD i default).2.1.name ((wI h).getD i default).2.1.type = true := by
  intro i hi
  obtain⟨c,hc,hs⟩:=yRF (yN hi)
  have hz:=(hok.copy c hc).2.2.2.2.2
  exact⟨zPe hz (hsums c hc) _ hs,ySf hz _ hs⟩
 have hrngs0:=hrngs
 have hnp:=fun k hk=>yUd hv (k:=k) hk (zone:=zone) (t:=t) (t':=t + n + later)
 obtain⟨C,hC⟩:∃ C,C=uW h.copies zone t h.drift h.copies.length:=⟨_,rfl⟩
 rw [← hC] at hub hlb hN
 have w1:IntKind.i64.wrap (t + n)=t + n:=by rw [yZ]<;>omega
 have w2:IntKind.i64.wrap (t + n + later)=t + n + later:=by rw [yZ]<;>omega
 have w3:IntKind.i64.wrap later=later:=by rw [yZ]<;>omega
 have hpos:=fun(H':Hp) (hle:H2.le H') (k:Nat) (hk:k < (wI h).length)=>yYL (H:=H') hE h2 h3 h5 L (hB.mono (hle2.trans hle)) (hB2.mono (hle2.trans hle)) (hh0.mono (hle2.trans hle)) hsm.num hv hps hzo (fun i hi=>(hrngs i hi).1) (hrngs k hk).2 (t:=t + n + later) (by omega) (by omega)
 obtain⟨A,hAA⟩:∃ A,A=wI h:=⟨_,rfl⟩
 rw [← hAA] at hsl hdat hel hAl hrngs hnp hpos
 have hAn:A.length≤14400:=by have:=hzo.num; omega
 obtain⟨oa,oc,rfl,_,hrow⟩:=hsl
 simp only [bne,go_sem,Nat.reduceLT,Nat.reduceEqDiff,Nat.reduceBEq,Nat.reduceAdd,zC]
 refine yK A.length 0 (fun k fr' H'=>fr' = [(1,⟨true,.val (S zone)⟩),(2,⟨true,.val (.int .i64 t)⟩),(3,⟨true,.val (.int .u16 later)⟩),(4,⟨true,.box [vh,vz,S h.aname,.int .i64 h.atype,.int .i64 h.alife,vd,vi,.int .i64 h.drift,.int .i64 h.end_]⟩),(9,⟨true,.val (.bool true)⟩),(10,⟨true,.val (.int .i64 n)⟩),(12,⟨true,.val (.slice oa A.length oc)⟩),(65,⟨true,.val (.slice oa A.length oc)⟩),(66,⟨true,.val (.int .i64 A.length)⟩),(67,⟨true,.val (.int .i64 k)⟩)]∧H2.le H') (Nat.zero_le _) ⟨rfl,Hp.le.refl _⟩ ?_
 rintro k fr' H' hk ⟨rfl,hle⟩
 by_cases hlt:k < A.length
 rotate_left
 ·have hdl:decide ((k:Int) < (A.length:Int))=false:=by simpa using hlt
  simp only [hdl,go_sem,Nat.reduceEqDiff,Nat.reduceBEq,Nat.reduceAdd,zC]
  exact hle2.trans hle
 have hdl:decide ((k:Int) < (A.length:Int))=true:=by simpa using hlt
 obtain⟨b,o,vs,c,wr,ha,hb,hi⟩:=hrow (by omega)
 subst ha
 have hb':=hle _ _ hb
 have hi1:=(hi k hlt).1
 have hi2:=(hi k hlt).2
 obtain⟨hdd,hgg,hff,huu⟩:=hdat k hlt
 have p1:=zG.one hdd
 have p2:=zG.one hgg
 have p4:=zG.one huu
 have hks:IntKind.i64.wrap ((k:Int) + 1)=((k + 1:Nat):Int):=zR (by omega)
 have hnk:=hnp k hlt
 have hpk:=fun H' hle=>hpos H' hle k hlt
 have hek:=(hel _ (yN hlt)).num
 obtain⟨hrk,hqk⟩:=hrngs k hlt
 obtain⟨x,hx⟩:∃ x,A.getD k default=x:=⟨_,rfl⟩
 have hEl:∀ j,zIO A k j=(!((A.getD j default).1 == x.1) && decide (x.2.1=(A.getD j default).2.1)):=fun j=>by unfold zIO; rw [hx]
 rw [hx] at hdd hgg hff huu hnk hpk hek hrk hqk
 have hnl:=jV x.2.2
 obtain⟨l,hl⟩:∃ l,l=yC x.2.2:=⟨_,rfl⟩
 rw [← hl] at hff hnk hnl
 obtain⟨fa,fc,hfv,_,hfr⟩:=hff
 simp only [vL,pF,hx,hfv] at hi2
 obtain⟨EB,hEB⟩:∃ P,P=zIO A k:=⟨_,rfl⟩
 rw [← hEB] at hnk hEl
 simp only [hdl,hb',hi2,p1,p2,p4,go_sem,Nat.reduceLeDiff,Nat.reduceEqDiff,Nat.reduceBEq,Nat.reduceAdd,zC]
 refine⟨⟨by omega,by omega⟩,hi1,?_⟩
 refine zT l.length 0 (fun j => [(1, ⟨true, .val (S zone)⟩), (2, ⟨true, .val (.int .i64 t)⟩), (3, ⟨true, .val (.int .u16 later)⟩), (4, ⟨true, .box [vh, vz, S h.aname, .int .i64 h.atype, .int .i64 h.alife, vd, vi, .int .i64 h.drift, .int .i64 h.end_]⟩), (9, ⟨true, .val (.bool true)⟩), (10, ⟨true, .val (.int .i64 n)⟩), (12, ⟨true, .val (.slice (some ⟨b, o, none⟩) A.length oc)⟩),
  (15,⟨true,.box [S x.1,S x.2.1.name,.int .i64 x.2.1.type,.int .i64 x.2.1.life,dv k,gv k,.slice fa l.length fc,sv k]⟩),(16,⟨true,.val (.int .i64 (zEd l j))⟩),(65,⟨true,.val (.slice (some ⟨b,o,none⟩) A.length oc)⟩),(66,⟨true,.val (.int .i64 A.length)⟩),(67,⟨true,.val (.int .i64 k)⟩),(72,⟨true,.val (.slice fa l.length fc)⟩),(73,⟨true,.val (.int .i64 l.length)⟩),(74,⟨true,.val (.int .i64 j)⟩)]) (fun _=>True) (Nat.zero_le _) rfl trivial ?_
 intro j hj _
 by_cases hltj:j < l.length
 ·have hdj:decide ((j:Int) < (l.length:Int))=true:=by simpa using hltj
  obtain⟨b2,o2,vs2,c2,wr2,ha2,hb2,hiw⟩:=hfr (by omega)
  subst ha2
  have hbj:=hle _ _ hb2
  have hj1:=(hiw j hltj).1
  have hj2:=(hiw j hltj).2
  simp only [yM] at hj2
  have hmx:zEd l (j + 1)=max (zEd l j) (l.getD j default).till:=rfl
  have hjs:IntKind.i64.wrap ((j:Int) + 1)=((j + 1:Nat):Int):=zR (by omega)
  simp only [zQn,zPF,hdj,hbj,hj2,go_sem,Nat.reduceEqDiff,Nat.reduceBEq,Nat.reduceAdd,reduceCtorEq,zC]
  exact⟨⟨by omega,by omega⟩,hj1,hltj,hmx.symm,hjs⟩
 have hdj:decide ((j:Int) < (l.length:Int))=false:=by simpa using hltj
 have:j=l.length:=by omega
 subst this
 obtain⟨last,hlast⟩:∃ y,y=zEd l l.length:=⟨_,rfl⟩
 have hlst : ∀ s ∈ l, s.till ≤ last := fun s hs => by
  obtain⟨i,hi,rfl⟩:=uO hs
  rw [hlast]; exact zRS hi
 rw [← hlast]
 simp only [hdj,go_sem,Nat.reduceEqDiff,Nat.reduceBEq,reduceCtorEq,zC]
 refine zT A.length 0 (fun j => [(1, ⟨true, .val (S zone)⟩), (2, ⟨true, .val (.int .i64 t)⟩), (3, ⟨true, .val (.int .u16 later)⟩), (4, ⟨true, .box [vh, vz, S h.aname, .int .i64 h.atype, .int .i64 h.alife, vd, vi, .int .i64 h.drift, .int .i64 h.end_]⟩), (9, ⟨true, .val (.bool true)⟩), (10, ⟨true, .val (.int .i64 n)⟩), (12, ⟨true, .val (.slice (some ⟨b, o, none⟩) A.length oc)⟩),
  (15,⟨true,.box [S x.1,S x.2.1.name,.int .i64 x.2.1.type,.int .i64 x.2.1.life,dv k,gv k,.slice fa l.length fc,sv k]⟩),(16,⟨true,.val (.int .i64 last)⟩),(19,⟨true,.val (.bool (wM EB j))⟩),(65,⟨true,.val (.slice (some ⟨b,o,none⟩) A.length oc)⟩),(66,⟨true,.val (.int .i64 A.length)⟩),(67,⟨true,.val (.int .i64 k)⟩),(83,⟨true,.val (.slice (some ⟨b,o,none⟩) A.length oc)⟩),(84,⟨true,.val (.int .i64 A.length)⟩),(85,⟨true,.val (.int .i64 j)⟩)]) (fun _=>True) (Nat.zero_le _) rfl trivial ?_
 intro j hj _
 by_cases hltj:j < A.length
 ·have hdj:decide ((j:Int) < (A.length:Int))=true:=by simpa using hltj
  have hj1:=(hi j hltj).1
  have hj2:=(hi j hltj).2
  obtain⟨hd1,hg1,hf1,hu1⟩:=hdat j hltj
  have r1:=zG.one hd1
  have r2:=zG.one hg1
  have r3:=zG.one hf1
  have r4:=zG.one hu1
  have hjs:IntKind.i64.wrap ((j:Int) + 1)=((j + 1:Nat):Int):=zR (by omega)
  have hE1:=hEl j
  have hany:wM EB (j + 1)=(wM EB j || EB j):=rfl
  obtain⟨y,hy⟩:∃ y,A.getD j default=y:=⟨_,rfl⟩
  rw [hy] at hd1 hg1 hE1
  simp only [vL,pF,hy] at hj2
  have hsame:yB E 47 [.agg #[S x.2.1.name,.int .i64 x.2.1.type,.int .i64 x.2.1.life,dv k,gv k],.agg #[S y.2.1.name,.int .i64 y.2.1.type,.int .i64 y.2.1.life,dv j,gv j]] H' (.bool (decide (x.2.1=y.2.1))):=yTx hE x.2.1 y.2.1 (xF.mono hdd hle) (xF.mono hd1 hle) (xL.mono hgg hle) (xL.mono hg1 hle) (by have:=hrk.nd; omega) (by have:=hrk.ng; omega)
  simp only [zQj,hdj,hb',hj2,r1,r2,r3,r4,go_sem,Nat.reduceEqDiff,Nat.reduceBEq,Nat.reduceAdd,reduceCtorEq,zC]
  refine⟨⟨by omega,by omega⟩,hj1,?_⟩
  simp only [zNW]
  cases hq:wM EB j
  ·cases hz:(y.1 == x.1)
   ·have:EB j=decide (x.2.1=y.2.1):=by rw [hE1,hz]; rfl
    simp only [hz,go_sem,Nat.reduceLeDiff,Nat.reduceEqDiff,Nat.reduceBEq,Nat.reduceAdd,zC]
    refine zE _ (by simp only [go_sem,Nat.reduceEqDiff]) (fun _=>⟨by simp only [go_sem,Nat.reduceEqDiff],hsame⟩) ?_
    simp only [go_sem,Nat.reduceEqDiff,Nat.reduceBEq,zC]
    refine⟨hltj,?_,hjs⟩
    rw [hany,hq,this,Bool.false_or]
   ·have:EB j=false:=by rw [hE1,hz]; rfl
    simp only [hz,go_sem,Nat.reduceLeDiff,Nat.reduceEqDiff,Nat.reduceBEq,Nat.reduceAdd,zC]
    refine zE (.bool false) (by simp only [go_sem,Nat.reduceEqDiff]) (fun hg=>by simp only [go_sem,Nat.reduceEqDiff] at hg) ?_
    simp only [↓yA,go_sem,Nat.reduceEqDiff,Nat.reduceBEq,zC]
    refine⟨hltj,?_,hjs⟩
    rw [hany,hq,this,Bool.false_or]
  ·simp only [go_sem,Nat.reduceLeDiff,Nat.reduceEqDiff,Nat.reduceBEq,Nat.reduceAdd,zC]
   refine zE (.bool false) (by simp only [go_sem,Nat.reduceEqDiff]) (fun hg=>by simp only [go_sem,Nat.reduceEqDiff] at hg) ?_
   simp only [↓yQ,go_sem,Nat.reduceEqDiff,Nat.reduceBEq,zC]
   refine⟨hltj,?_,hjs⟩
   rw [hany,hq,Bool.true_or]
 have hdj:decide ((j:Int) < (A.length:Int))=false:=by simpa using hltj
 have:j=A.length:=by omega
 subst this
 simp only [hdj,go_sem,Nat.reduceEqDiff,Nat.reduceBEq,reduceCtorEq,zC]
 simp only [zOG]
 cases hz:(x.1 == zone)
 ·simp only [hz,↓yQ,go_sem,Nat.reduceLeDiff,Nat.reduceEqDiff,Nat.reduceBEq,Nat.reduceAdd,zC]
  exact⟨hlt,hks,hle⟩
 by_cases hlt2:last > t
 ·have hd2:decide (last > t)=true:=by rw [decide_eq_true_eq]; exact hlt2
  simp only [hz,hd2,↓yQ,go_sem,Nat.reduceLeDiff,Nat.reduceEqDiff,Nat.reduceBEq,Nat.reduceAdd,zC]
  exact⟨hlt,hks,hle⟩
 have hd2:decide (last > t)=false:=by rw [decide_eq_false_iff_not]; exact hlt2
 cases hq:wM EB A.length
 rotate_left
 ·simp only [hz,hd2,go_sem,Nat.reduceLeDiff,Nat.reduceEqDiff,Nat.reduceBEq,Nat.reduceAdd,zC]
  exact⟨hlt,hks,hle⟩
 have hnone:∀ s,zNc h x.2.1.name x.2.1.type (t + n + later) s→s≠x.2.1:=fun s hp=>hnk (by simpa using hz) (fun s hs=>by have:=hlst s hs; omega) hq (by omega) hp
 simp only [hz,hd2,go_sem,Nat.reduceLeDiff,Nat.reduceEqDiff,Nat.reduceBEq,Nat.reduceAdd,zC]
 simp only [zRs,go_sem,Nat.reduceLeDiff,Nat.reduceEqDiff,Nat.reduceBEq,Nat.reduceAdd]
 simp only [zPw,w1,w2,w3,go_sem,Nat.reduceEqDiff,Nat.reduceBEq,Nat.reduceAdd,zC]
 refine zM (by simp only [go_sem,Nat.reduceEqDiff]) (hpk H' hle) ?_
 rintro u H3 ⟨hle3,w,ss,rfl,⟨d,g,⟨sa,sc,rfl,_,hsr⟩,hsd⟩,hssn,hss⟩
 have hle23:=hle.trans hle3
 simp only [bne,go_sem,Nat.reduceLT,Nat.reduceEqDiff,Nat.reduceBEq,Nat.reduceAdd,zC]
 refine zT ss.length 0 (fun j => [(1, ⟨true, .val (S zone)⟩), (2, ⟨true, .val (.int .i64 t)⟩), (3, ⟨true, .val (.int .u16 later)⟩), (4, ⟨true, .box [vh, vz, S h.aname, .int .i64 h.atype, .int .i64 h.alife, vd, vi, .int .i64 h.drift, .int .i64 h.end_]⟩), (9, ⟨true, .val (.bool true)⟩), (10, ⟨true, .val (.int .i64 n)⟩), (12, ⟨true, .val (.slice (some ⟨b, o, none⟩) A.length oc)⟩),
  (15,⟨true,.box [S x.1,S x.2.1.name,.int .i64 x.2.1.type,.int .i64 x.2.1.life,dv k,gv k,.slice fa l.length fc,sv k]⟩),(65,⟨true,.val (.slice (some ⟨b,o,none⟩) A.length oc)⟩),(66,⟨true,.val (.int .i64 A.length)⟩),(67,⟨true,.val (.int .i64 k)⟩),(140,⟨true,.val (.slice sa ss.length sc)⟩),(141,⟨true,.val (.int .i64 ss.length)⟩),(142,⟨true,.val (.int .i64 j)⟩)]) (fun _=>True) (Nat.zero_le _) rfl trivial ?_
 intro j hj _
 by_cases hltj:j < ss.length
 ·have hdj:decide ((j:Int) < (ss.length:Int))=true:=by simpa using hltj
  obtain⟨b3,o3',vs3,c3,wr3,ha3,hb3,hi3⟩:=hsr (by omega)
  subst ha3
  have hj1:=(hi3 j hltj).1
  have hj2:=(hi3 j hltj).2
  obtain⟨hd1,hg1⟩:=hsd j hltj
  have r1:=zG.one hd1
  have r2:=zG.one hg1
  have hsn:=hnone _ (hss _ (yN hltj))
  have hyr : zIb (ss.getD j default) := by
   obtain⟨i,hi,he,_⟩:=hss _ (yN hltj)
   rw [he]; exact(hrngs0 i hi).1
  obtain⟨y,hy⟩:∃ y,ss.getD j default=y:=⟨_,rfl⟩
  rw [hy] at hd1 hg1 hsn hyr
  simp only [xD,hy] at hj2
  have hjs:IntKind.i64.wrap ((j:Int) + 1)=((j + 1:Nat):Int):=zR (by omega)
  have hsame : yB E 47 [.agg #[S y.name, .int .i64 y.type, .int .i64 y.life, d j, g j], .agg #[S x.2.1.name, .int .i64 x.2.1.type, .int .i64 x.2.1.life, dv k, gv k]] H3 (.bool false) := by
   have hf:=yTx hE y x.2.1 hd1 (xF.mono hdd hle23) hg1 (xL.mono hgg hle23) (by have:=hyr.nd; omega) (by have:=hyr.ng; omega)
   rw [decide_eq_false hsn] at hf
   exact hf
  simp only [zPq,hdj,hb3,hj2,r1,r2,go_sem,Nat.reduceEqDiff,Nat.reduceBEq,Nat.reduceAdd,reduceCtorEq,zC]
  refine⟨⟨by omega,by omega⟩,hj1,?_⟩
  simp only [zPt,go_sem,Nat.reduceLeDiff,Nat.reduceEqDiff,Nat.reduceBEq,Nat.reduceAdd]
  refine zE _ (by simp only [go_sem]) (fun _=>⟨by simp only [go_sem,Nat.reduceEqDiff],hsame⟩) ?_
  simp only [go_sem,Nat.reduceEqDiff,Nat.reduceBEq,zC]
  exact⟨hltj,hjs⟩
 have hdj:decide ((j:Int) < (ss.length:Int))=false:=by simpa using hltj
 simp only [hdj,go_sem,Nat.reduceEqDiff,Nat.reduceBEq,reduceCtorEq,zC]
 exact⟨hlt,hks,hle23⟩
end Go.SL
