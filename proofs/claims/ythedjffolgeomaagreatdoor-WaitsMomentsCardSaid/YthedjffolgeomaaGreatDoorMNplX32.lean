/- Contracts: all that was published, and when a cache may use it. -/
import Derived.Test.YthedjffolgeomaaGreatDoorMNplX31
import Derived.Test.YthedjffolgeomaaGreatDoorMNplX24
import Derived.Lib.ItoaLen
namespace Go.SL
open Go
variable {E:Env} {H:Hp}
theorem yQz (n m : Nat) (row : Nat → List Value) : flat (n + m) row = flat n row ++ flat m (fun i => row (n + i)) := by
 induction m with
 | zero=>simp [flat]
 | succ m ih=>rw [← Nat.add_assoc,vP,ih,vP,List.append_assoc]
section
variable {fr:Fr} {Q:X→Fr→Hp→Prop} {k:List Item} {d:Option Nat} {r:List zA} {live:List Nat}
theorem yRm {sz bytes n m : Nat} {zero : List Value} {s x : Arg} {v vx : Value} {row rowx row' : Nat → List Value} {ob : Option Nat} (h1 : vok fr s) (h2 : vok fr x) (hs : vo E fr s = v) (hx : vo E fr x = vx)
  (hX:zG H sz vx m rowx) (hX1:∀ i,i < m→(rowx i).all yW=true) (hB:xS H sz v n row ob) (hl:∀ i,i < n→(row i).length=sz) (hr:∀ i,i < n→row' i=row i) (hrx:∀ i,i < m→row' (n + i)=rowx i)
  (hn1:(n + m) * bytes≤140737488355328) (hn2:n + m≤4611686018427387904)
  (h:∀ v' H' ob',xS H' sz v' (n + m) row' ob'→(∀ c o,H c=some o→some c≠ob→H' c=some o)→(∀ b',ob'=some b'→H b'=none∨some b'=ob)→zT E (.ops r live :: k) (setD fr d ⟨true,.val v'⟩) H' Q) :
  zT E (.ops (⟨d,.app sz bytes zero s x,none⟩ :: r) live :: k) fr H Q:=by
 obtain⟨e1,e3,e2⟩:=hX.src
 have e4:(zL H sz (vo E fr x)).all yW=true:=by rw [hx,e2]; exact zDO hX1
 have hfp:flat (n + m) row'=flat n row ++ flat m rowx:=by rw [yQz,xZ hr,xZ hrx]
 rw [← hx] at e1 e2 e3
 cases ob with
 | none =>
  obtain⟨rfl,rfl⟩:=hB
  rw [Nat.zero_add] at hn1 hn2
  refine zDK h1 h2 e1 e4 hs (by rw [e3]; exact hn1) (by rw [e3]; exact hn2) (fun h0=>?_) fun _ b cap hbn=>?_
  ·rw [e3] at h0
   subst h0
   exact h _ _ none ⟨rfl,rfl⟩ (fun c o hc _=>hc) (fun b' hb'=>by cases hb')
  ·rw [e2,e3]
   refine h _ _ (some b) ⟨cap,by rw [Nat.zero_add],?_⟩ (fun c o hc _=>zM hbn _ _ _ hc) (fun b' hb'=>by cases hb'; exact .inl hbn)
   rw [Hp.put_same,hfp]; rfl
 | some b0 =>
  obtain⟨cap,rfl,hH⟩:=hB
  have hfl:=xR hl
  refine kJ h1 h2 e1 e4 hs (by rw [e3]; exact hn1) (by rw [e3]; exact hn2) hH hfl rfl fun b cap' hbn=>?_
  rw [e2,e3]
  refine h _ _ (some b) ⟨cap',rfl,?_⟩ (fun c o hc hne=>?_) (fun b' hb'=>?_)
  ·rw [Hp.put_same,hfp]
  ·have hcb:c≠b0:=by rintro rfl; exact hne rfl
   refine zM hbn _ _ _ ?_
   rw [Hp.del_ne _ hcb]; exact hc
  ·cases hb'
   by_cases e:b=b0
   ·exact .inr (by rw [e])
   ·rw [Hp.del_ne _ e] at hbn; exact .inl hbn
end
def zEf (cs:List yE) (z:Bs):yU:=(kX cs z).map fun e=>(z,e.2)
def pA (cs : List yE) (zs : List Bs) : Nat → yU
 | 0=>[]
 | k + 1=>pA cs zs k ++ zEf cs (zs.getD k [])
def uH (h:yA):yU:=pA h.copies (wA h) (wA h).length
def uA (A:yU) (dv gv fv sv:Nat→Value) (i:Nat):List Value:=kA (A.getD i default).1 (A.getD i default).2.1 (dv i) (gv i) (fv i) (sv i)
structure yWi (d : Int) (e : Bs × (zF × List zN)) : Prop where
 num:e.2.2.length≤12
 ok:yHf e.2.2
 till:∀ sp∈e.2.2,sp.till≤10000000
 grow:zDS d e.2.1
theorem zLF (cs:List yE) (z:Bs):(zEf cs z).length=(kX cs z).length:=by simp [zEf]
theorem zLy {cs : List yE} {z : Bs} {i : Nat} (hi : i < (kX cs z).length) : (zEf cs z).getD i default = (z, ((kX cs z).getD i default).2) := by
 unfold zEf
 simp [hi]
theorem zIF {A B:yU} {i:Nat} (hi:i < A.length):(A ++ B).getD i default=A.getD i default:=by simp [List.getElem?_append_left hi]
theorem zJo {A B:yU} {i:Nat}:(A ++ B).getD (A.length + i) default=B.getD i default:=by simp [List.getElem?_append_right]
def zCw (n:Nat) (f g:Nat→Value):Nat→Value:=fun i=>if i < n then f i else g (i - n)
theorem zCf {n:Nat} {f g:Nat→Value} {i:Nat} (hi:i < n):zCw n f g i=f i:=by unfold zCw; rw [if_pos hi]
theorem zCn {n:Nat} {f g:Nat→Value} {i:Nat}:zCw n f g (n + i)=g i:=by unfold zCw; rw [if_neg (by omega),Nat.add_sub_cancel_left]
theorem zNO {A : yU} {dv gv fv sv : Nat → Value} {n i : Nat} (hi : i < n) (x : Value) : (flat n (uA A dv gv fv sv)).take (i * 8 + 7) ++ [x] ++ (flat n (uA A dv gv fv sv)).drop (i * 8 + 7 + 1) = flat n (uA A dv gv fv (yR sv i x)) := by
 rw [zAW (sz:=8) (fun _ _=>rfl) hi (by omega)]
 apply xZ
 intro j _
 by_cases e:j=i
 ·subst e; simp [uA,kA,yR]
 ·simp [uA,kA,yR,e]
theorem yGq {out : List zN} {s : zN} (ho : ∀ p ∈ out, p.from_ < p.till) (hs : s.from_ < s.till) : ∀ p ∈ zBG out s, p.from_ < p.till := by
 intro p hp
 unfold zBG at hp
 split at hp
 ·rename_i q hq
  have hqm:q∈out:=List.mem_of_getLast? hq
  have hq2:=ho q hqm
  split at hp
  ·rcases List.mem_append.1 hp with h | h
   ·exact ho p (List.dropLast_subset _ h)
   ·simp only [List.mem_singleton] at h
    subst h
    show q.from_ < max q.till s.till
    omega
  ·rcases List.mem_append.1 hp with h | h
   ·exact ho p h
   ·simp only [List.mem_singleton] at h
    subst h; exact hs
 ·simp only [List.mem_singleton] at hp
  subst hp; exact hs
theorem zHP {l : List zN} (hl : ∀ p ∈ l, p.from_ < p.till) : ∀ k, k ≤ l.length → ∀ p ∈ uK l k, p.from_ < p.till
 | 0,_,p,h=>by cases h
 | k + 1,hk,p,h=>yGq (zHP hl k (by omega)) (hl _ (yY (by omega))) p h
theorem zSi {l : List zN} {p : zN} (h : p ∈ yC l) : p.from_ < p.till :=
 zHP (fun _q hq=>(zGJ.1 (zGU.1 hq)).2) _ (Nat.le_refl _) p h
theorem kK (l : List zN) : (yC l).length ≤ l.length := by
 have h1:=zES (pC (vH l)) (pC (vH l)).length
 have h2:=zIk l
 have h3:(pC (vH l)).length=(vH l).length:=vC _ _ _
 unfold yC zJZ
 omega
structure zDv (h : yA) : Prop where
 name:∀ z∈wA h,zK z=true
 idx:∀ z∈wA h,wW h.copies z≠[]
 el:∀ z∈wA h,∀ e∈kX h.copies z,yWi h.drift e
 num:(wA h).length≤12
 size:∀ z∈wA h,(kX h.copies z).length≤1200
theorem zCQ {h : yA} (hz : zDv h) : ∀ k, k ≤ (wA h).length → (pA h.copies (wA h) k).length ≤ k * 1200
 | 0,_=>by simp [pA]
 | k + 1, hk => by
  have h1:=zCQ hz k (by omega)
  have h2:=hz.size _ (jK (show k < (wA h).length by omega))
  simp only [pA,List.length_append,zLF,Nat.succ_mul]; omega
theorem zDV {h : yA} (hz : zDv h) : ∀ k, k ≤ (wA h).length → ∀ e ∈ pA h.copies (wA h) k, yWi h.drift e
 | 0,_,e,he=>by simp [pA] at he
 | k + 1, hk, e, he => by
  simp only [pA] at he
  rcases List.mem_append.1 he with he | he
  ·exact zDV hz k (by omega) e he
  ·unfold zEf at he
   obtain⟨e',he',rfl⟩:=List.mem_map.1 he
   have:=hz.el _ (jK (show k < (wA h).length by omega)) e' he'
   exact⟨this.num,this.ok,this.till,this.grow⟩
set_option maxRecDepth 4000 in
set_option maxHeartbeats 8000000 in
theorem yTk (hE : zV E) (h2 : wC E) (h3 : yZ E) (L : zEQ E) (hB : qT E H) (hB2 : qC E H) {v : Value} {h : yA} (hh : vS H v h) (hn : h.copies.length ≤ 12)
  (hsz:yO h=true→zME h.copies) (hzo:yO h=true→zDv h) :
  Fn E.P (E.fn 139) [v] H (fun u H' => H.le H' ∧ (yO h = false → u = .tuple #[.slice none 0 0, .int .i64 1]) ∧
   (yO h = true → ∃ vo dv gv fv sv, u = .tuple #[vo, .int .i64 0] ∧ zG H' 8 vo (uH h).length (uA (uH h) dv gv fv sv) ∧
    ∀ i, i < (uH h).length → xC H' (dv i) ((uH h).getD i default).2.1.data ∧ xT H' (gv i) ((uH h).getD i default).2.1.sigs ∧ wP H' (fv i) (yC ((uH h).getD i default).2.2) ∧
     wP H' (sv i) (zEw h.drift ((uH h).getD i default).2.1 (yC ((uH h).getD i default).2.2)))):=by
 have fz:=yYX hE h2 h3 hB hh hn
 have hh':=hh
 obtain⟨vh,vz,vd,vi,rfl,g1,g2,g3,g5⟩:=hh
 have o1:=zG.one g1
 have o2:=g2.one
 have o3:=zG.one g3
 have o5:=zG.one g5
 refine Fn.of_vks h3.c139 (by simp [zLN]) ?_
 simp only [zLN,zZf,zWq,yCu,zWL,yDg,yEL,yEC,zTd,zWD,yBm,zOh,zPT,zNy,zQw,zOR,zRo,zQA,zQt,zRz,zPu,zQS]
 simp only [go_sem,Nat.reduceEqDiff,Nat.reduceBEq,Nat.reduceAdd,reduceCtorEq]
 refine zP (by simp only [go_sem,Nat.reduceEqDiff]) fz ?_
 rintro u H1 ⟨hle1,hbad,hgood⟩
 cases hv:yO h
 ·rw [hbad hv]
  simp only [go_sem,Nat.reduceLT,Nat.reduceEqDiff,Nat.reduceBEq,Nat.reduceAdd,zC,bne,Int.reduceBEq]
  exact hle1
 obtain⟨vzl,hu,hzl⟩:=hgood hv
 subst hu
 have hzo':=hzo hv
 clear hbad hgood
 obtain⟨za,zc,hzv⟩:=hzl.sl
 subst hzv
 simp only [go_sem,Nat.reduceLT,Nat.reduceEqDiff,Nat.reduceBEq,Nat.reduceAdd,zC,bne]
 obtain⟨zs,hzs⟩:∃ zs,zs=wA h:=⟨_,rfl⟩
 have hAlen:=fun k hk=>zCQ hzo' k hk
 have hAel:=fun k hk=>zDV hzo' k hk
 have hznum:=hzo'.num
 have hall:uH h=pA h.copies (wA h) (wA h).length:=rfl
 rw [← hzs] at hzl hAlen hAel hznum hall
 rw [hall,← hzs]
 have hzmem:∀ k,k < zs.length→zs.getD k []∈wA h:=fun k hk=>by rw [← hzs]; exact jK hk
 refine yP zs.length 0 (fun k fr' H' => ∃ K u ob dv gv fv, fr' = [(1, ⟨true, .box [vh, vz, S h.aname, .int .i64 h.atype, .int .i64 h.alife, vd, vi, .int .i64 h.drift, .int .i64 h.end_]⟩), (6, ⟨true, .val u⟩), (21, ⟨true, .val (.slice za zs.length zc)⟩), (22, ⟨true, .val (.int .i64 zs.length)⟩), (23, ⟨true, .val (.int .i64 k)⟩)] ∧
  H1.le K ∧ K.le H' ∧ (∀ b, ob = some b → K b = none) ∧ xS H' 8 u (pA h.copies zs k).length (uA (pA h.copies zs k) dv gv fv (fun _ => .slice none 0 0)) ob ∧
   ∀ i,i < (pA h.copies zs k).length→xC K (dv i) ((pA h.copies zs k).getD i default).2.1.data∧xT K (gv i) ((pA h.copies zs k).getD i default).2.1.sigs∧wP K (fv i) (yC ((pA h.copies zs k).getD i default).2.2)) (Nat.zero_le _)
  ⟨H1,_,none,fun _=>undef,fun _=>undef,fun _=>undef,rfl,Hp.le.refl _,Hp.le.refl _,(fun b hb=>by cases hb),⟨rfl,rfl⟩,(fun i hi=>by cases hi)⟩ ?_
 rintro k fr' H' hk ⟨K,u,ob,dv,gv,fv,rfl,hK1,hKH,hobn,hown,hdat⟩
 obtain⟨ua,uc,hua⟩:=hown.sl
 by_cases hlt:k < zs.length
 ·have hdk:decide ((k:Int) < (zs.length:Int))=true:=by simpa using hlt
  obtain⟨b,o,c,cap,vs,wr,hsl,hb,hrow,hvl⟩:=(hzl.mono (hK1.trans hKH)).str hlt
  cases hsl
  have hg:=zH (j:=0) hrow (by omega)
  rw [Nat.mul_one,Nat.add_zero,List.getD_cons_zero] at hg
  rw [Nat.mul_one] at hvl
  have hzk:=hzmem k hlt
  have hnext:pA h.copies zs (k + 1)=pA h.copies zs k ++ zEf h.copies (zs.getD k []):=rfl
  have hl1:=hAlen (k + 1) (by omega)
  have hks:IntKind.i64.wrap ((k:Int) + 1)=((k + 1:Nat):Int):=zQ (by omega)
  obtain⟨zn,hzn⟩:∃ z,z=zs.getD k []:=⟨_,rfl⟩
  rw [← hzn] at hg hzk hnext
  have hgl:=zLF h.copies zn
  rw [hnext,List.length_append,hgl] at hl1
  obtain⟨A,hA⟩:∃ A,A=pA h.copies zs k:=⟨_,rfl⟩
  rw [← hA] at hown hdat hnext hl1
  have hnm:=hzo'.name zn hzk
  have hcall:=(yYW hE h2 h3 L (hB.mono (hle1.trans hK1)) (hB2.mono (hle1.trans hK1)) (hh'.mono (hle1.trans hK1)) zn hn hsz (fun _ e he=>⟨(hzo'.el zn hzk e he).num,(hzo'.el zn hzk e he).ok⟩)).frame hKH
  simp only [hdk,hb,hg,Nat.mul_one,go_sem,Nat.reduceEqDiff,Nat.reduceBEq,Nat.reduceAdd,zC]
  refine⟨⟨by omega,by omega⟩,by omega,?_⟩
  refine zP (by simp only [go_sem,Nat.reduceEqDiff]) hcall ?_
  rintro w H2 ⟨K2,⟨k2,_,_,hpub⟩,k2le,kfr⟩
  obtain⟨vo,dv',gv',fv',hw,hsl2,hel⟩:=hpub (by rw [hv,hnm]; rfl) (hzo'.idx zn hzk)
  subst hw
  obtain⟨oa,oc,hvo⟩:=hsl2.sl
  have hkob : ∀ b, ob = some b → K2 b = none ∧ H2 b = H' b := fun b hb => by
   cases hq:H' b with
   | none=>subst hb; exact absurd hq hown.some_at
   | some o=>exact⟨(kfr b o hq (hobn b hb)).1,(kfr b o hq (hobn b hb)).2⟩
  have hown2:=hown.keep fun b hb=>(hkob b hb).2
  simp only [hvo,hua,go_sem,Nat.reduceLT,Nat.reduceEqDiff,Nat.reduceBEq,Nat.reduceAdd,zC,bne]
  rw [hvo] at hsl2
  rw [hua] at hown2
  refine yRm (n:=A.length) (m:=(kX h.copies zn).length) (row:=uA A dv gv fv (fun _=>.slice none 0 0)) (rowx:=xF zn (kX h.copies zn) dv' gv' fv') (row':=uA (A ++ zEf h.copies zn) (zCw A.length dv dv') (zCw A.length gv gv') (zCw A.length fv fv') (fun _=>.slice none 0 0)) ?_ ?_ ?_ ?_ (hsl2.mono k2le) ?_ hown2 (fun _ _=>rfl) ?_ ?_ (by omega) (by omega) ?_
  ·simp only [go_sem,Nat.reduceEqDiff]
  ·simp only [go_sem,Nat.reduceEqDiff]
  ·simp only [go_sem,Nat.reduceEqDiff]
  ·simp only [go_sem,Nat.reduceEqDiff]
  ·intro i hi
   have q1:=zG.one (hel i hi).1
   have q2:=zG.one (hel i hi).2.1
   have q3:=zG.one (hel i hi).2.2
   simp only [xF,kA,q1,q2,q3,go_sem]
  ·intro i hi
   unfold uA
   rw [zIF hi,zCf hi,zCf hi,zCf hi]
  ·intro i hi
   unfold uA xF
   rw [zJo,zCn,zCn,zCn,zLy hi]
  intro v' H3 ob' hO3 hkeep hnew
  obtain⟨va,vc,hv'⟩:=hO3.sl
  subst hv'
  have e20:decide (((A.length + (kX h.copies zn).length:Nat):Int) > 20000)=false:=by rw [decide_eq_false_iff_not]; omega
  simp only [e20,go_sem,Nat.reduceEqDiff,Nat.reduceBEq,zC]
  refine⟨hlt,K2,_,ob',zCw A.length dv dv',zCw A.length gv gv',zCw A.length fv fv',⟨rfl,hks⟩,hK1.trans k2,fun c o hc=>hkeep c o (k2le c o hc) (fun e=>by rw [(hkob c e.symm).1] at hc; cases hc),fun b hb=>?_,?_,?_⟩
  ·rcases hnew b hb with hx | hx
   ·cases hq:K2 b with
    | none=>rfl
    | some o=>rw [k2le b o hq] at hx; cases hx
   ·exact(hkob b hx.symm).1
  ·rw [hnext,List.length_append,hgl]; exact hO3
  ·rw [hnext,List.length_append,hgl]
   intro i hi
   by_cases hi1:i < A.length
   ·rw [zIF hi1,zCf hi1,zCf hi1,zCf hi1]
    have hdi:=hdat i hi1
    exact⟨xC.mono hdi.1 k2,xT.mono hdi.2.1 k2,zG.mono hdi.2.2 k2⟩
   ·obtain⟨j,rfl⟩:∃ j,i=A.length + j:=⟨i - A.length,by omega⟩
    have hj:j < (kX h.copies zn).length:=by omega
    rw [zJo,zCn,zCn,zCn,zLy hj]
    exact hel j hj
 ·have hdk:decide ((k:Int) < (zs.length:Int))=false:=by simpa using hlt
  have:k=zs.length:=by omega
  subst this
  have hl1:=hAlen zs.length (Nat.le_refl _)
  have hel1:=hAel zs.length (Nat.le_refl _)
  obtain⟨A,hA⟩:∃ A,A=pA h.copies zs zs.length:=⟨_,rfl⟩
  rw [← hA] at hown hdat hl1 hel1 hua
  rw [← hA]
  subst hua
  simp only [hdk,go_sem,Nat.reduceEqDiff,Nat.reduceBEq,zC]
  refine yP A.length 0 (fun k fr' HX => fr' = [(1, ⟨true, .box [vh, vz, S h.aname, .int .i64 h.atype, .int .i64 h.alife, vd, vi, .int .i64 h.drift, .int .i64 h.end_]⟩), (6, ⟨true, .val (.slice ua A.length uc)⟩), (43, ⟨true, .val (.slice ua A.length uc)⟩), (44, ⟨true, .val (.int .i64 A.length)⟩), (45, ⟨true, .val (.int .i64 k)⟩)] ∧
   ∃ K4 sv, K.le K4 ∧ K4.le HX ∧ (∀ b, ob = some b → K4 b = none) ∧ xS HX 8 (.slice ua A.length uc) A.length (uA A dv gv fv (fun i => if i < k then sv i else .slice none 0 0)) ob ∧
    ∀ i,i < k→wP K4 (sv i) (zEw h.drift (A.getD i default).2.1 (yC (A.getD i default).2.2))) (Nat.zero_le _)
   ⟨rfl,K,fun _=>.slice none 0 0,Hp.le.refl _,hKH,hobn,hown.row_congr (fun i _=>by unfold uA; simp),(fun i hi=>by cases hi)⟩ ?_
  rintro k fr' HX hk2 ⟨rfl,K4,sv,k4,k4le,k4ob,hownX,hspX⟩
  by_cases hlt2:k < A.length
  ·have hdk2:decide ((k:Int) < (A.length:Int))=true:=by simpa using hlt2
   obtain ⟨b0, cap, hob, hve, hHb0⟩ : ∃ b0 cap, ob = some b0 ∧ Value.slice ua A.length uc = .slice (some ⟨b0, 0, none⟩) A.length cap ∧ HX b0 = some (.row (flat A.length (uA A dv gv fv (fun i => if i < k then sv i else .slice none 0 0))) (cap * 8) true) := by
    cases hobb:ob with
    | none=>rw [hobb] at hownX; have:=hownX.2; omega
    | some b0 =>
     rw [hobb] at hownX
     obtain⟨cap,h1,h2⟩:=hownX
     exact⟨b0,cap,rfl,h1,h2⟩
   have hat:=pE (n:=A.length) (sz:=8) (row:=uA A dv gv fv (fun i=>if i < k then sv i else .slice none 0 0)) (fun _ _=>rfl) k hlt2
   have hfl8:=xR (n:=A.length) (sz:=8) (row:=uA A dv gv fv (fun i=>if i < k then sv i else .slice none 0 0)) (fun _ _=>rfl)
   have hspl:=fun x=>zNO (A:=A) (dv:=dv) (gv:=gv) (fv:=fv) (sv:=fun i=>if i < k then sv i else .slice none 0 0) hlt2 x
   have hself:(if k < k then sv k else Value.slice none 0 0) = .slice none 0 0:=if_neg (Nat.lt_irrefl k)
   obtain⟨FL,hFL⟩:∃ y,y=flat A.length (uA A dv gv fv (fun i=>if i < k then sv i else .slice none 0 0)):=⟨_,rfl⟩
   rw [← hFL] at hHb0 hat hfl8 hspl
   have hdi:=hdat k hlt2
   have hee:=hel1 _ (yY hlt2)
   have hks:IntKind.i64.wrap ((k:Int) + 1)=((k + 1:Nat):Int):=zQ (by omega)
   simp only [uA,kA,hself] at hat
   have q1:=zG.one hdi.1
   have q2:=zG.one hdi.2.1
   have q3:=zG.one hdi.2.2
   have hb8:k * 8 + 8≤FL.length:=by omega
   have hb7:k * 8 + 7 + 1≤FL.length:=by omega
   have hnl:(yC (A.getD k default).2.2).length≤12:=Nat.le_trans (kK _) hee.num
   have hnb : ∀ sp ∈ yC (A.getD k default).2.2, 0 ≤ sp.from_ ∧ sp.from_ ≤ sp.till ∧ sp.till ≤ 10000000 := by
    intro sp hsp
    obtain⟨⟨s1,hs1,_,e1⟩,s2,hs2,_,e2⟩:=zRR hsp
    have p1:=zSi hsp
    have p2:=hee.till s1 hs1
    have p3:=(hee.ok s2 hs2).1
    omega
   have hcall:=(yYk hE h2 h3 (H:=K4) (zn:=(A.getD k default).1) (dv:=dv k) (sv:=.slice none 0 0) hee.grow (xT.mono hdi.2.1 k4) (zG.mono hdi.2.2 k4) hnl hnb q1 rfl).frame k4le
   rw [hve]
   simp only [hdk2,hHb0,hat,q1,q2,q3,hb8,toNat_ofNat',go_sem,Nat.reduceLeDiff,Nat.reduceEqDiff,Nat.reduceBEq,Nat.reduceAdd,zC]
   refine⟨⟨by omega,by omega⟩,?_⟩
   refine zP (by simp only [go_sem,Nat.reduceEqDiff]) hcall ?_
   rintro w H2 ⟨K5,⟨ob2,q4,q5,q6⟩,k5le,kfr⟩
   obtain⟨wa,wc,hw⟩:=q4.sl
   subst hw
   have yb:=kfr b0 _ hHb0 (k4ob b0 hob)
   have y0:=yb.2
   have hspl':=hspl (.slice wa (zEw h.drift (A.getD k default).2.1 (yC (A.getD k default).2.2)).length wc)
   simp only [y0,hspl',hb7,toNat_ofNat',go_sem,Nat.reduceEqDiff,Nat.reduceBEq,zC]
   have hrow : ∀ i, uA A dv gv fv (yR (fun i => if i < k then sv i else .slice none 0 0) k (.slice wa (zEw h.drift (A.getD k default).2.1 (yC (A.getD k default).2.2)).length wc)) i = uA A dv gv fv (fun i => if i < k + 1 then yR sv k (.slice wa (zEw h.drift (A.getD k default).2.1 (yC (A.getD k default).2.2)).length wc) i else .slice none 0 0) i := by
    intro i
    unfold uA yR
    by_cases e:i=k
    ·subst e; simp
    ·by_cases e2:i < k
     ·simp [e,e2,show i < k + 1 by omega]
     ·simp [e,e2,show ¬ i < k + 1 by omega]
   refine⟨⟨by omega,by omega⟩,hlt2,hks,K5,yR sv k (.slice wa (zEw h.drift (A.getD k default).2.1 (yC (A.getD k default).2.2)).length wc),k4.trans q5,zI k5le yb.1 _,?_,?_,?_⟩
   ·intro b hb
    rw [hob] at hb; cases hb
    exact yb.1
   ·rw [hob]
    refine⟨cap,rfl,?_⟩
    rw [Hp.put_same]
    congr 2
    exact xZ fun i _=>hrow i
   ·intro i hi
    by_cases e:i=k
    ·subst e
     simp only [yR,if_true]
     exact q4.at
    ·simp only [yR,if_neg e]
     exact zG.mono (hspX i (by omega)) q5
  ·have hdk2:decide ((k:Int) < (A.length:Int))=false:=by simpa using hlt2
   have:k=A.length:=by omega
   subst this
   simp only [hdk2,go_sem,Nat.reduceEqDiff,Nat.reduceBEq,Nat.reduceAdd,zC]
   refine⟨hle1.trans (hK1.trans (k4.trans k4le)),_,dv,gv,fv,sv,rfl,?_,?_⟩
   ·refine zG.row_congr (xS.at hownX (fun _ _=>rfl)) fun i hi=>?_
    unfold uA
    simp only [if_pos hi]
   ·intro i hi
    have hdi:=hdat i hi
    exact⟨xC.mono hdi.1 (k4.trans k4le),xT.mono hdi.2.1 (k4.trans k4le),zG.mono hdi.2.2 (k4.trans k4le),zG.mono (hspX i hi) k4le⟩
end Go.SL
/- Plain laws: the sets of a valid zone differ; what a zone of a valid history publishes. -/
namespace Go.SL
open Go
theorem zCN : ∀ x : Bs, Op.bytesLess x x = false
 | []=>rfl
 | a :: x=>by simp [Op.bytesLess,zCN x]
theorem zFA : ∀ {x y z : Bs}, Op.bytesLess x y = true → Op.bytesLess y z = true → Op.bytesLess x z = true
 | _,[],_,h1,_=>by simp [Op.bytesLess] at h1
 | [],_ :: _,[],_,h2=>by simp [Op.bytesLess] at h2
 | [],_ :: _,_ :: _,_,_=>rfl
 | _ :: _,_ :: _,[],_,h2=>by simp [Op.bytesLess] at h2
 | a :: x, b :: y, c :: z, h1, h2 => by
  simp only [Op.bytesLess,Bool.or_eq_true,Bool.and_eq_true,decide_eq_true_eq,beq_iff_eq] at h1 h2 ⊢
  rcases h1 with h1 | ⟨rfl,h1⟩
  ·rcases h2 with h2 | ⟨rfl,h2⟩
   ·exact .inl (UInt8.lt_trans h1 h2)
   ·exact .inl h1
  ·rcases h2 with h2 | ⟨rfl,h2⟩
   ·exact .inl h2
   ·exact .inr ⟨rfl,zFA h1 h2⟩
theorem vL {x y : Bs} : wI x y = 0 ↔ x = y := by
 unfold wI
 constructor
 ·intro h
  split at h
  ·cases h
  ·split at h
   ·assumption
   ·cases h
 ·rintro rfl
  rw [zCN,if_neg (by simp),if_pos rfl]
theorem zAt {x y : Bs} : wI x y < 0 ↔ Op.bytesLess x y = true := by
 unfold wI
 constructor
 ·intro h
  split at h
  ·assumption
  ·split at h<;>omega
 ·intro h
  rw [if_pos h]; omega
theorem zAv (x:Bs) (r:List Bs) (y:Bs) (r':List Bs):uC (x :: r) (y :: r')=if wI x y≠0 then wI x y else uC r r':=rfl
theorem zFu : ∀ {x y z : List Bs}, uC x y < 0 → uC y z < 0 → uC x z < 0
 | [],_,_,_,_=>by simp [uC]
 | _ :: _,[],_,h1,_=>by simp [uC] at h1
 | _ :: _,_ :: _,[],_,h2=>by simp [uC] at h2
 | a :: x, b :: y, c :: z, h1, h2 => by
  rw [zAv] at h1 h2 ⊢
  by_cases e1:wI a b=0
  ·have:=vL.1 e1
   subst this
   rw [if_neg (by simpa using e1)] at h1
   by_cases e2:wI a c=0
   ·rw [if_neg (by simpa using e2)] at h2 ⊢
    exact zFu h1 h2
   ·rw [if_pos e2] at h2 ⊢
    exact h2
  ·rw [if_pos e1] at h1
   have l1:=zAt.1 h1
   by_cases e2:wI b c=0
   ·have:=vL.1 e2
    subst this
    rw [if_pos e1]; exact h1
   ·rw [if_pos e2] at h2
    have l3:=zAt.2 (zFA l1 (zAt.1 h2))
    rw [if_pos (by omega)]; exact l3
theorem zDl : ∀ {x y : List Bs}, uC x y < 0 → uC y x < 0 → x = y
 | [],[],_,_=>rfl
 | [],_ :: _,_,h2=>by simp [uC] at h2
 | _ :: _,[],h1,_=>by simp [uC] at h1
 | a :: x, b :: y, h1, h2 => by
  rw [zAv] at h1 h2
  by_cases e1:wI a b=0
  ·have:=vL.1 e1
   subst this
   rw [if_neg (by simpa using e1)] at h1 h2
   rw [zDl h1 h2]
  ·exfalso
   rw [if_pos e1] at h1
   have e2:wI b a≠0:=fun h=>e1 (vL.2 (vL.1 h).symm)
   rw [if_pos e2] at h2
   have:=zFA (zAt.1 h1) (zAt.1 h2)
   rw [zCN] at this; cases this
theorem zAr {l : Bs} {i : Nat} (h : lastIx 46 l = some i) : l = l.take i ++ 46 :: l.drop (i + 1) := by
 have hl:=uO h
 have hg : l.getD i 0 = 46 := by
  unfold lastIx at h
  have : ∀ k, uL 46 l k = some i → l.getD i 0 = 46 := by
   intro k
   induction k with
   | zero=>intro h; cases h
   | succ k ih =>
    intro h
    simp only [uL] at h
    split at h
    ·cases h; assumption
    ·exact ih h
  exact this _ h
 have e:l[i]=46:=by rw [List.getD_eq_getElem?_getD,List.getElem?_eq_getElem hl] at hg; exact hg
 rw [← e,← List.drop_eq_getElem_cons hl,List.take_append_drop]
theorem zDt (n : Nat) (l : Bs) (h : 0 < n) : wZ n l ≠ [] := by
 cases n with
 | zero=>omega
 | succ n=>simp only [wZ]; split<;>simp
theorem zQN : ∀ (n m : Nat) (l l' : Bs), l.length < n → l'.length < m → wZ n l = wZ m l' → l = l'
 | 0,_,_,_,h,_,_=>by omega
 | _,0,_,_,_,h,_=>by omega
 | n + 1, m + 1, l, l', hn, hm, h => by
  simp only [wZ] at h
  cases e1:lastIx 46 l with
  | none =>
   rw [e1] at h
   cases e2:lastIx 46 l' with
   | none=>rw [e2] at h; simpa using h
   | some j =>
    rw [e2] at h
    exfalso
    have hj:=uO e2
    have:=zDt m (l'.take j) (by omega)
    simp only [List.cons.injEq] at h
    exact this h.2.symm
  | some i =>
   rw [e1] at h
   have hi:=uO e1
   cases e2:lastIx 46 l' with
   | none =>
    rw [e2] at h
    exfalso
    have:=zDt n (l.take i) (by omega)
    simp only [List.cons.injEq] at h
    exact this h.2
   | some j =>
    rw [e2] at h
    have hj:=uO e2
    simp only [List.cons.injEq] at h
    have ih:=zQN n m (l.take i) (l'.take j) (by rw [List.length_take]; omega) (by rw [List.length_take]; omega) h.2
    rw [zAr e1,zAr e2,ih,h.1]
theorem zDU {a b : Bs} (h : zW a = zW b) : a = b := by
 unfold zW at h
 split at h
 ·rename_i e1
  split at h
  ·rename_i e2; rw [e1,e2]
  ·exact absurd h.symm (zDt _ _ (by omega))
 ·split at h
  ·exact absurd h (zDt _ _ (by omega))
  ·exact zQN _ _ _ _ (by omega) (by omega) h
def zAU (s t:zF):Prop:=(s.name=t.name∧s.type < t.type)∨(s.name≠t.name∧uC (zW s.name) (zW t.name) < 0)
theorem zAU.trans {a b c : zF} (h1 : zAU a b) (h2 : zAU b c) : zAU a c := by
 rcases h1 with⟨e1,t1⟩ | ⟨n1,l1⟩
 ·rcases h2 with⟨e2,t2⟩ | ⟨n2,l2⟩
  ·exact .inl ⟨e1.trans e2,by omega⟩
  ·exact .inr (by rw [e1]; exact⟨n2,l2⟩)
 ·rcases h2 with⟨e2,t2⟩ | ⟨n2,l2⟩
  ·exact .inr (by rw [← e2]; exact⟨n1,l1⟩)
  ·refine .inr ⟨fun e=>n1 ?_,zFu l1 l2⟩
   rw [← e] at l2
   exact zDU (zDl l1 l2)
theorem zPJ {apex : Bs} {ss : List zF} (h : xG apex ss = true) : ∀ j i, i < j → j < ss.length → zAU (ss.getD i default) (ss.getD j default) := by
 unfold xG at h
 simp only [Bool.and_eq_true] at h
 obtain⟨⟨⟨⟨⟨h1,_⟩,_⟩,_⟩,_⟩,_⟩:=h
 unfold vU at h1
 simp only [Bool.and_eq_true] at h1
 have hadj : ∀ j, j + 1 < ss.length → zAU (ss.getD j default) (ss.getD (j + 1) default) := by
  intro j hj
  have hj1:=yH.1 h1.2 (j + 1) hj
  have hj0:=yH.1 h1.2 j (by omega)
  simp only [Bool.and_eq_true,yG,Nat.add_sub_cancel] at hj1 hj0
  have hn1:=(zAJ hj1.1.1).1
  have hn0:=(zAJ hj0.1.1).1
  have hc:=hj1.2
  simp only [Bool.or_eq_true,Bool.not_eq_true',decide_eq_false_iff_not,beq_iff_eq] at hc
  have hc' : ¬ vO (ss.getD j default).name (ss.getD j default).type (ss.getD (j + 1) default).name (ss.getD (j + 1) default).type ≥ 0 := by
   rcases hc with hc | hc
   ·omega
   ·exact hc
  unfold vO at hc'
  split at hc'
  ·rename_i e
   refine .inl ⟨e,?_⟩
   unfold vE at hc'
   split at hc'
   ·assumption
   ·split at hc'<;>omega
  ·rename_i e
   refine .inr ⟨e,?_⟩
   unfold vX at hc'
   rw [hn0,hn1,Bool.and_self,if_pos rfl,if_neg e] at hc'
   omega
 intro j
 induction j with
 | zero=>intro i hi; omega
 | succ j ih =>
  intro i hi hj
  by_cases e:i=j
  ·subst e; exact hadj i hj
  ·exact(ih i (by omega) (by omega)).trans (hadj j hj)
def zEC (ss:List zF):Prop:=∀ j i,i < j→j < ss.length→xW (ss.getD i default)≠xW (ss.getD j default)
theorem yHl {apex : Bs} {ss : List zF} (h : xG apex ss = true) : zEC ss := by
 intro j i hij hj e
 have hb:=zPJ h j i hij hj
 have g1:=(zEk h _ (yY (show i < ss.length by omega))).plain
 have g2:=(zEk h _ (yY hj)).plain
 have hs:=yGX g1 g2 e
 rw [hs] at hb
 rcases hb with⟨_,h⟩ | ⟨h,_⟩
 ·omega
 ·exact h rfl
theorem zEI {sp : zN} {G : yU} {ss : List zF} {N : Nat} (hd : zEC ss) (h : SpB G N) : ∀ k, k ≤ ss.length →
  ∀ e∈qA sp G ss k,e.2.2.length≤N + 1∧((∀ i,i < k→e.1≠xW (ss.getD i default))→e.2.2.length≤N)
 | 0,_,e,he=>⟨Nat.le_succ_of_le (h e he),fun _=>h e he⟩
 | k + 1, hk, e, he => by
  simp only [qA] at he
  unfold pG at he
  rcases pM he with rfl | he
  ·refine⟨?_,fun hn=>absurd rfl (hn k (by omega))⟩
   cases hg:yK (xW (ss.getD k default)) (qA sp G ss k) with
   | none=>simp
   | some e0 =>
    have:=(zEI hd h k (by omega) _ (zBf hg)).2 (fun i hi=>(hd k i hi (by omega)).symm)
    simp only [List.length_append,List.length_cons,List.length_nil] at this ⊢
    omega
  ·have ih:=zEI hd h k (by omega) e he
   exact⟨ih.1,fun hn=>ih.2 fun i hi=>hn i (by omega)⟩
theorem zRu {fs : List yE} (hd : ∀ c ∈ fs, zEC c.sets) : ∀ m, m ≤ fs.length → SpB (jL fs m) m
 | 0,_=>fun e he=>by simp [jL] at he
 | m + 1,hm=>fun e he=>(zEI (hd _ (yY (by omega))) (zRu hd m (by omega)) _ (Nat.le_refl _) e he).1
theorem zEm {cs : List yE} {z : Bs} {c : yE} : c ∈ vB cs z → c ∈ cs ∧ c.apex = z := by
 intro h
 unfold vB wW zAQ at h
 obtain⟨i,hi,rfl⟩:=List.mem_map.1 h
 have h1:=List.mem_filter.1 hi
 exact⟨yY (List.mem_range.1 h1.1),by simpa using h1.2⟩
theorem zEH (cs : List yE) (x : Bs) : ∀ k, x ∈ (xK cs k).map (·.1) ↔ ∃ i, i < k ∧ (cs.getD i default).apex = x
 | 0=>by simp [xK,jU]
 | k + 1 => by
  have ih:=zEH cs x k
  have hk : ∀ l : List (Bs × Bool), x ∈ (xU (cs.getD k default).apex true l).map (·.1) ↔ x = (cs.getD k default).apex ∨ x ∈ l.map (·.1) := by
   intro l
   induction l with
   | nil=>simp [xU]
   | cons e r ih =>
    obtain⟨k',u⟩:=e
    simp only [xU]
    split
    ·rename_i he; subst he; simp
    ·simp only [List.map_cons,List.mem_cons,ih]
     constructor
     ·rintro(h | h | h)
      ·exact .inr (.inl h)
      ·exact .inl h
      ·exact .inr (.inr h)
     ·rintro(h | h | h)
      ·exact .inr (.inl h)
      ·exact .inl h
      ·exact .inr (.inr h)
  show x∈(xU (cs.getD k default).apex true (xK cs k)).map (·.1)↔_
  rw [hk,ih]
  constructor
  ·rintro(h | ⟨i,hi,h⟩)
   ·exact⟨k,by omega,h.symm⟩
   ·exact⟨i,by omega,h⟩
  ·rintro⟨i,hi,h⟩
   by_cases e:i=k
   ·subst e; exact .inl h.symm
   ·exact .inr ⟨i,by omega,h⟩
theorem zJi {h : yA} {z : Bs} : z ∈ wA h ↔ ∃ i, i < h.copies.length ∧ (h.copies.getD i default).apex = z := by
 unfold wA
 rw [(zBK (lt:=qU) (zAP h).length (zAP h) (Nat.le_refl _)).mem_iff]
 exact zEH h.copies z h.copies.length
theorem zGf {apex : Bs} {ss : List zF} (h : xG apex ss = true) : zK apex = true := by
 unfold xG at h
 simp only [Bool.and_eq_true] at h
 obtain⟨⟨⟨⟨⟨h1,_⟩,_⟩,_⟩,_⟩,_⟩:=h
 unfold vU at h1
 simp only [Bool.and_eq_true] at h1
 have:=h1.1
 simp only [Bool.not_eq_true',Bool.or_eq_false_iff,Bool.not_eq_false'] at this
 exact this.1.1
structure zJq (cs : List yE) : Prop where
 num:cs.length≤12
 sets:∀ c∈cs,c.sets.length≤100
theorem zIG {h : yA} (hv : yO h = true) (hs : zJq h.copies) : zDv h := by
 have hk:=qQ.1 hv
 have hfl : ∀ z, (vB h.copies z).length ≤ 12 := fun z => by
  rw [zEg]
  have h1:(wW h.copies z).length≤(List.range h.copies.length).length:=List.length_filter_le _ _
  rw [List.length_range] at h1
  have:=hs.num
  omega
 refine⟨fun z hz=>?_,fun z hz=>?_,fun z hz e he=>?_,?_,fun z hz=>?_⟩
 ·obtain⟨i,hi,rfl⟩:=zJi.1 hz
  exact zGf (hk.copy _ (yY hi)).2.2.2.2.2
 ·obtain⟨i,hi,rfl⟩:=zJi.1 hz
  intro hnil
  have : i ∈ wW h.copies (h.copies.getD i default).apex := by
   unfold wW zAQ
   exact List.mem_filter.2 ⟨List.mem_range.2 hi,by simp⟩
  rw [hnil] at this; cases this
 ·have hinv:=zPv (vB h.copies z) _ (Nat.le_refl _)
  have hsp:=zRu (fs:=vB h.copies z) (fun c hc=>yHl (hk.copy c (zEm hc).1).2.2.2.2.2) _ (Nat.le_refl _) e he
  have hspan : ∀ sp ∈ e.2.2, 0 ≤ sp.from_ ∧ sp.from_ ≤ sp.till ∧ sp.till ≤ 10000000 := by
   intro sp hsp
   obtain⟨c,hc,rfl,_⟩:=hinv.spans e he sp hsp
   have h1:=hk.copy c (zEm hc).1
   have h2:=hk.end2
   unfold xX
   exact⟨h1.2.2.1,by simp only; omega,by simp only; omega⟩
  refine⟨Nat.le_trans hsp (hfl z),fun sp hm=>?_,fun sp hm=>(hspan sp hm).2.2,?_⟩
  ·have:=hspan sp hm; exact⟨this.1,this.2.1,by omega⟩
  ·obtain⟨c,hc,hm⟩:=hinv.set e he
   exact(zEk (hk.copy c (zEm hc).1).2.2.2.2.2 _ hm).grow hk.drift1 hk.drift2
 ·have:(wA h).length=(zAP h).length:=vC _ _ _
  have h2:=zIc h.copies h.copies.length
  have h3:(zAP h).length=(xK h.copies h.copies.length).length:=by unfold zAP; simp
  have:=hs.num
  omega
 ·have:=zFL (B:=100) (fs:=vB h.copies z) (fun i hi=>hs.sets _ (zEm (yY hi)).1) _ (Nat.le_refl _)
  have h2:=hfl z
  unfold kX
  omega
end Go.SL
