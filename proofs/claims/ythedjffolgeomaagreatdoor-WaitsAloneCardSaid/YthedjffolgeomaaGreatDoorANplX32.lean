/- Contracts: all that was published, and when a cache may use it. -/
import Derived.Test.YthedjffolgeomaaGreatDoorANplX31
import Derived.Test.YthedjffolgeomaaGreatDoorANplX24
import Derived.Test.YthedjffolgeomaaGreatDoorANplX33
namespace Go.SL
open Go
variable {E:Env} {H:Hp}
theorem ySV (n m : Nat) (row : Nat → List Value) : flat (n + m) row = flat n row ++ flat m (fun i => row (n + i)) := by
 induction m with
 | zero=>simp [flat]
 | succ m ih=>rw [← Nat.add_assoc,vT,ih,vT,List.append_assoc]
section
variable {fr:Fr} {Q:X→Fr→Hp→Prop} {k:List Item} {d:Option Nat} {r:List zA} {live:List Nat}
theorem yRV {sz bytes n m : Nat} {zero : List Value} {s x : Arg} {v vx : Value} {row rowx row' : Nat → List Value} {ob : Option Nat} (h1 : vok fr s) (h2 : vok fr x) (hs : vo E fr s = v) (hx : vo E fr x = vx)
  (hX:zG H sz vx m rowx) (hX1:∀ i,i < m→(rowx i).all yV=true) (hB:xX H sz v n row ob) (hl:∀ i,i < n→(row i).length=sz) (hr:∀ i,i < n→row' i=row i) (hrx:∀ i,i < m→row' (n + i)=rowx i)
  (hn1:(n + m) * bytes≤140737488355328) (hn2:n + m≤4611686018427387904)
  (h:∀ v' H' ob',xX H' sz v' (n + m) row' ob'→(∀ c o,H c=some o→some c≠ob→H' c=some o)→(∀ b',ob'=some b'→H b'=none∨some b'=ob)→zS E (.ops r live :: k) (setD fr d ⟨true,.val v'⟩) H' Q) :
  zS E (.ops (⟨d,.app sz bytes zero s x,none⟩ :: r) live :: k) fr H Q:=by
 obtain⟨e1,e3,e2⟩:=hX.src
 have e4:(zN H sz (vo E fr x)).all yV=true:=by rw [hx,e2]; exact zIf hX1
 have hfp:flat (n + m) row'=flat n row ++ flat m rowx:=by rw [ySV,xW hr,xW hrx]
 rw [← hx] at e1 e2 e3
 cases ob with
 | none =>
  obtain⟨rfl,rfl⟩:=hB
  rw [Nat.zero_add] at hn1 hn2
  refine zDy h1 h2 e1 e4 hs (by rw [e3]; exact hn1) (by rw [e3]; exact hn2) (fun h0=>?_) fun _ b cap hbn=>?_
  ·rw [e3] at h0
   subst h0
   exact h _ _ none ⟨rfl,rfl⟩ (fun c o hc _=>hc) (fun b' hb'=>by cases hb')
  ·rw [e2,e3]
   refine h _ _ (some b) ⟨cap,by rw [Nat.zero_add],?_⟩ (fun c o hc _=>zJ hbn _ _ _ hc) (fun b' hb'=>by cases hb'; exact .inl hbn)
   rw [Hp.put_same,hfp]; rfl
 | some b0 =>
  obtain⟨cap,rfl,hH⟩:=hB
  have hfl:=xS hl
  refine zAl h1 h2 e1 e4 hs (by rw [e3]; exact hn1) (by rw [e3]; exact hn2) hH hfl rfl fun b cap' hbn=>?_
  rw [e2,e3]
  refine h _ _ (some b) ⟨cap',rfl,?_⟩ (fun c o hc hne=>?_) (fun b' hb'=>?_)
  ·rw [Hp.put_same,hfp]
  ·have hcb:c≠b0:=by rintro rfl; exact hne rfl
   refine zJ hbn _ _ _ ?_
   rw [Hp.del_ne _ hcb]; exact hc
  ·cases hb'
   by_cases e:b=b0
   ·exact .inr (by rw [e])
   ·rw [Hp.del_ne _ e] at hbn; exact .inl hbn
end
def zCW (cs:List yE) (z:Bs):yR:=(kN cs z).map fun e=>(z,e.2)
def uZ (cs : List yE) (zs : List Bs) : Nat → yR
 | 0=>[]
 | k + 1=>uZ cs zs k ++ zCW cs (zs.getD k [])
def wI (h:yO):yR:=uZ h.copies (wB h) (wB h).length
def vL (A:yR) (dv gv fv sv:Nat→Value) (i:Nat):List Value:=pF (A.getD i default).1 (A.getD i default).2.1 (dv i) (gv i) (fv i) (sv i)
structure yVI (d : Int) (e : Bs × (zF × List zO)) : Prop where
 num:e.2.2.length≤12
 ok:yIB e.2.2
 till:∀ sp∈e.2.2,sp.till≤10000000
 grow:zCC d e.2.1
theorem zKV (cs:List yE) (z:Bs):(zCW cs z).length=(kN cs z).length:=by simp [zCW]
theorem zKE {cs : List yE} {z : Bs} {i : Nat} (hi : i < (kN cs z).length) : (zCW cs z).getD i default = (z, ((kN cs z).getD i default).2) := by
 unfold zCW
 simp [hi]
theorem zIW {A B:yR} {i:Nat} (hi:i < A.length):(A ++ B).getD i default=A.getD i default:=by simp [List.getElem?_append_left hi]
theorem zIt {A B:yR} {i:Nat}:(A ++ B).getD (A.length + i) default=B.getD i default:=by simp [List.getElem?_append_right]
def zCs (n:Nat) (f g:Nat→Value):Nat→Value:=fun i=>if i < n then f i else g (i - n)
theorem zCl {n:Nat} {f g:Nat→Value} {i:Nat} (hi:i < n):zCs n f g i=f i:=by unfold zCs; rw [if_pos hi]
theorem zBY {n:Nat} {f g:Nat→Value} {i:Nat}:zCs n f g (n + i)=g i:=by unfold zCs; rw [if_neg (by omega),Nat.add_sub_cancel_left]
theorem zQN {A : yR} {dv gv fv sv : Nat → Value} {n i : Nat} (hi : i < n) (x : Value) : (flat n (vL A dv gv fv sv)).take (i * 8 + 7) ++ [x] ++ (flat n (vL A dv gv fv sv)).drop (i * 8 + 7 + 1) = flat n (vL A dv gv fv (yX sv i x)) := by
 rw [zAQ (sz:=8) (fun _ _=>rfl) hi (by omega)]
 apply xW
 intro j _
 by_cases e:j=i
 ·subst e; simp [vL,pF,yX]
 ·simp [vL,pF,yX,e]
theorem yIq {out : List zO} {s : zO} (ho : ∀ p ∈ out, p.from_ < p.till) (hs : s.from_ < s.till) : ∀ p ∈ zBS out s, p.from_ < p.till := by
 intro p hp
 unfold zBS at hp
 split at hp
 ·rename_i q hq
  have hqm:q∈out:=List.mem_of_getLast? hq
  have hq2:=ho q hqm
  split at hp
  ·rcases List.mem_append.1 hp with h | h
   ·exact ho p (List.dropLast_subset _ h)
   ·simp only [List.mem_singleton] at h
    subst h
    show q.from_ < max q.till s.till
    omega
  ·rcases List.mem_append.1 hp with h | h
   ·exact ho p h
   ·simp only [List.mem_singleton] at h
    subst h; exact hs
 ·simp only [List.mem_singleton] at hp
  subst hp; exact hs
theorem zHA {l : List zO} (hl : ∀ p ∈ l, p.from_ < p.till) : ∀ k, k ≤ l.length → ∀ p ∈ uQ l k, p.from_ < p.till
 | 0,_,p,h=>by cases h
 | k + 1,hk,p,h=>yIq (zHA hl k (by omega)) (hl _ (yN (by omega))) p h
theorem zSL {l : List zO} {p : zO} (h : p ∈ yC l) : p.from_ < p.till :=
 zHA (fun _q hq=>(zGq.1 (zGH.1 hq)).2) _ (Nat.le_refl _) p h
theorem jV (l : List zO) : (yC l).length ≤ l.length := by
 have h1:=zEE (pE (vF l)) (pE (vF l)).length
 have h2:=zIo l
 have h3:(pE (vF l)).length=(vF l).length:=vB _ _ _
 unfold yC zKs
 omega
structure zDr (h : yO) : Prop where
 name:∀ z∈wB h,zL z=true
 idx:∀ z∈wB h,wW h.copies z≠[]
 el:∀ z∈wB h,∀ e∈kN h.copies z,yVI h.drift e
 num:(wB h).length≤12
 size:∀ z∈wB h,(kN h.copies z).length≤1200
theorem zCJ {h : yO} (hz : zDr h) : ∀ k, k ≤ (wB h).length → (uZ h.copies (wB h) k).length ≤ k * 1200
 | 0,_=>by simp [uZ]
 | k + 1, hk => by
  have h1:=zCJ hz k (by omega)
  have h2:=hz.size _ (jG (show k < (wB h).length by omega))
  simp only [uZ,List.length_append,zKV,Nat.succ_mul]; omega
theorem zDQ {h : yO} (hz : zDr h) : ∀ k, k ≤ (wB h).length → ∀ e ∈ uZ h.copies (wB h) k, yVI h.drift e
 | 0,_,e,he=>by simp [uZ] at he
 | k + 1, hk, e, he => by
  simp only [uZ] at he
  rcases List.mem_append.1 he with he | he
  ·exact zDQ hz k (by omega) e he
  ·unfold zCW at he
   obtain⟨e',he',rfl⟩:=List.mem_map.1 he
   have:=hz.el _ (jG (show k < (wB h).length by omega)) e' he'
   exact⟨this.num,this.ok,this.till,this.grow⟩
set_option maxRecDepth 4000 in
set_option maxHeartbeats 8000000 in
theorem yIc (hE : zX E) (h2 : xZ E) (h3 : yW E) (L : zBz E) (hB : qU E H) (hB2 : uD E H) {v : Value} {h : yO} (hh : vV H v h) (hn : h.copies.length ≤ 12)
  (hsz:yS h=true→zJf h.copies) (hzo:yS h=true→zDr h) :
  Fn E.P (E.fn 139) [v] H (fun u H' => H.le H' ∧ (yS h = false → u = .tuple #[.slice none 0 0, .int .i64 1]) ∧
   (yS h = true → ∃ vo dv gv fv sv, u = .tuple #[vo, .int .i64 0] ∧ zG H' 8 vo (wI h).length (vL (wI h) dv gv fv sv) ∧
    ∀ i, i < (wI h).length → xF H' (dv i) ((wI h).getD i default).2.1.data ∧ xL H' (gv i) ((wI h).getD i default).2.1.sigs ∧ wR H' (fv i) (yC ((wI h).getD i default).2.2) ∧
     wR H' (sv i) (kO h.drift ((wI h).getD i default).2.1 (yC ((wI h).getD i default).2.2)))):=by
 have fz:=yZe hE h2 h3 hB hh hn
 have hh':=hh
 obtain⟨vh,vz,vd,vi,rfl,g1,g2,g3,g5⟩:=hh
 have o1:=zG.one g1
 have o2:=g2.one
 have o3:=zG.one g3
 have o5:=zG.one g5
 refine Fn.of_vks h3.c139 (by simp [zLx]) ?_
 simp only [zLx,zWs,yDY,yEe,zWy,zUn,zXB,zYw,zTs,yDd,yBL,zNt,zRo,zPL,zNM,zPf,zNA,zQv,zNF,zOo,zSb,zQB]
 simp only [go_sem,Nat.reduceEqDiff,Nat.reduceBEq,Nat.reduceAdd,reduceCtorEq]
 refine zM (by simp only [go_sem,Nat.reduceEqDiff]) fz ?_
 rintro u H1 ⟨hle1,hbad,hgood⟩
 cases hv:yS h
 ·rw [hbad hv]
  simp only [go_sem,Nat.reduceLT,Nat.reduceEqDiff,Nat.reduceBEq,Nat.reduceAdd,zC,bne,Int.reduceBEq]
  exact hle1
 obtain⟨vzl,hu,hzl⟩:=hgood hv
 subst hu
 have hzo':=hzo hv
 clear hbad hgood
 obtain⟨za,zc,hzv⟩:=hzl.sl
 subst hzv
 simp only [go_sem,Nat.reduceLT,Nat.reduceEqDiff,Nat.reduceBEq,Nat.reduceAdd,zC,bne]
 obtain⟨zs,hzs⟩:∃ zs,zs=wB h:=⟨_,rfl⟩
 have hAlen:=fun k hk=>zCJ hzo' k hk
 have hAel:=fun k hk=>zDQ hzo' k hk
 have hznum:=hzo'.num
 have hall:wI h=uZ h.copies (wB h) (wB h).length:=rfl
 rw [← hzs] at hzl hAlen hAel hznum hall
 rw [hall,← hzs]
 have hzmem:∀ k,k < zs.length→zs.getD k []∈wB h:=fun k hk=>by rw [← hzs]; exact jG hk
 refine yK zs.length 0 (fun k fr' H' => ∃ K u ob dv gv fv, fr' = [(1, ⟨true, .box [vh, vz, S h.aname, .int .i64 h.atype, .int .i64 h.alife, vd, vi, .int .i64 h.drift, .int .i64 h.end_]⟩), (6, ⟨true, .val u⟩), (21, ⟨true, .val (.slice za zs.length zc)⟩), (22, ⟨true, .val (.int .i64 zs.length)⟩), (23, ⟨true, .val (.int .i64 k)⟩)] ∧
  H1.le K ∧ K.le H' ∧ (∀ b, ob = some b → K b = none) ∧ xX H' 8 u (uZ h.copies zs k).length (vL (uZ h.copies zs k) dv gv fv (fun _ => .slice none 0 0)) ob ∧
   ∀ i,i < (uZ h.copies zs k).length→xF K (dv i) ((uZ h.copies zs k).getD i default).2.1.data∧xL K (gv i) ((uZ h.copies zs k).getD i default).2.1.sigs∧wR K (fv i) (yC ((uZ h.copies zs k).getD i default).2.2)) (Nat.zero_le _)
  ⟨H1,_,none,fun _=>undef,fun _=>undef,fun _=>undef,rfl,Hp.le.refl _,Hp.le.refl _,(fun b hb=>by cases hb),⟨rfl,rfl⟩,(fun i hi=>by cases hi)⟩ ?_
 rintro k fr' H' hk ⟨K,u,ob,dv,gv,fv,rfl,hK1,hKH,hobn,hown,hdat⟩
 obtain⟨ua,uc,hua⟩:=hown.sl
 by_cases hlt:k < zs.length
 ·have hdk:decide ((k:Int) < (zs.length:Int))=true:=by simpa using hlt
  obtain⟨b,o,c,cap,vs,wr,hsl,hb,hrow,hvl⟩:=(hzl.mono (hK1.trans hKH)).str hlt
  cases hsl
  have hg:=zK (j:=0) hrow (by omega)
  rw [Nat.mul_one,Nat.add_zero,List.getD_cons_zero] at hg
  rw [Nat.mul_one] at hvl
  have hzk:=hzmem k hlt
  have hnext:uZ h.copies zs (k + 1)=uZ h.copies zs k ++ zCW h.copies (zs.getD k []):=rfl
  have hl1:=hAlen (k + 1) (by omega)
  have hks:IntKind.i64.wrap ((k:Int) + 1)=((k + 1:Nat):Int):=zR (by omega)
  obtain⟨zn,hzn⟩:∃ z,z=zs.getD k []:=⟨_,rfl⟩
  rw [← hzn] at hg hzk hnext
  have hgl:=zKV h.copies zn
  rw [hnext,List.length_append,hgl] at hl1
  obtain⟨A,hA⟩:∃ A,A=uZ h.copies zs k:=⟨_,rfl⟩
  rw [← hA] at hown hdat hnext hl1
  have hnm:=hzo'.name zn hzk
  have hcall:=(yYN hE h2 h3 L (hB.mono (hle1.trans hK1)) (hB2.mono (hle1.trans hK1)) (hh'.mono (hle1.trans hK1)) zn hn hsz (fun _ e he=>⟨(hzo'.el zn hzk e he).num,(hzo'.el zn hzk e he).ok⟩)).frame hKH
  simp only [hdk,hb,hg,Nat.mul_one,go_sem,Nat.reduceEqDiff,Nat.reduceBEq,Nat.reduceAdd,zC]
  refine⟨⟨by omega,by omega⟩,by omega,?_⟩
  refine zM (by simp only [go_sem,Nat.reduceEqDiff]) hcall ?_
  rintro w H2 ⟨K2,⟨k2,_,_,hpub⟩,k2le,kfr⟩
  obtain⟨vo,dv',gv',fv',hw,hsl2,hel⟩:=hpub (by rw [hv,hnm]; rfl) (hzo'.idx zn hzk)
  subst hw
  obtain⟨oa,oc,hvo⟩:=hsl2.sl
  have hkob : ∀ b, ob = some b → K2 b = none ∧ H2 b = H' b := fun b hb => by
   cases hq:H' b with
   | none=>subst hb; exact absurd hq hown.some_at
   | some o=>exact⟨(kfr b o hq (hobn b hb)).1,(kfr b o hq (hobn b hb)).2⟩
  have hown2:=hown.keep fun b hb=>(hkob b hb).2
  simp only [hvo,hua,go_sem,Nat.reduceLT,Nat.reduceEqDiff,Nat.reduceBEq,Nat.reduceAdd,zC,bne]
  rw [hvo] at hsl2
  rw [hua] at hown2
  refine yRV (n:=A.length) (m:=(kN h.copies zn).length) (row:=vL A dv gv fv (fun _=>.slice none 0 0)) (rowx:=xE zn (kN h.copies zn) dv' gv' fv') (row':=vL (A ++ zCW h.copies zn) (zCs A.length dv dv') (zCs A.length gv gv') (zCs A.length fv fv') (fun _=>.slice none 0 0)) ?_ ?_ ?_ ?_ (hsl2.mono k2le) ?_ hown2 (fun _ _=>rfl) ?_ ?_ (by omega) (by omega) ?_
  ·simp only [go_sem,Nat.reduceEqDiff]
  ·simp only [go_sem,Nat.reduceEqDiff]
  ·simp only [go_sem,Nat.reduceEqDiff]
  ·simp only [go_sem,Nat.reduceEqDiff]
  ·intro i hi
   have q1:=zG.one (hel i hi).1
   have q2:=zG.one (hel i hi).2.1
   have q3:=zG.one (hel i hi).2.2
   simp only [xE,pF,q1,q2,q3,go_sem]
  ·intro i hi
   unfold vL
   rw [zIW hi,zCl hi,zCl hi,zCl hi]
  ·intro i hi
   unfold vL xE
   rw [zIt,zBY,zBY,zBY,zKE hi]
  intro v' H3 ob' hO3 hkeep hnew
  obtain⟨va,vc,hv'⟩:=hO3.sl
  subst hv'
  have e20:decide (((A.length + (kN h.copies zn).length:Nat):Int) > 20000)=false:=by rw [decide_eq_false_iff_not]; omega
  simp only [e20,go_sem,Nat.reduceEqDiff,Nat.reduceBEq,zC]
  refine⟨hlt,K2,_,ob',zCs A.length dv dv',zCs A.length gv gv',zCs A.length fv fv',⟨rfl,hks⟩,hK1.trans k2,fun c o hc=>hkeep c o (k2le c o hc) (fun e=>by rw [(hkob c e.symm).1] at hc; cases hc),fun b hb=>?_,?_,?_⟩
  ·rcases hnew b hb with hx | hx
   ·cases hq:K2 b with
    | none=>rfl
    | some o=>rw [k2le b o hq] at hx; cases hx
   ·exact(hkob b hx.symm).1
  ·rw [hnext,List.length_append,hgl]; exact hO3
  ·rw [hnext,List.length_append,hgl]
   intro i hi
   by_cases hi1:i < A.length
   ·rw [zIW hi1,zCl hi1,zCl hi1,zCl hi1]
    have hdi:=hdat i hi1
    exact⟨xF.mono hdi.1 k2,xL.mono hdi.2.1 k2,zG.mono hdi.2.2 k2⟩
   ·obtain⟨j,rfl⟩:∃ j,i=A.length + j:=⟨i - A.length,by omega⟩
    have hj:j < (kN h.copies zn).length:=by omega
    rw [zIt,zBY,zBY,zBY,zKE hj]
    exact hel j hj
 ·have hdk:decide ((k:Int) < (zs.length:Int))=false:=by simpa using hlt
  have:k=zs.length:=by omega
  subst this
  have hl1:=hAlen zs.length (Nat.le_refl _)
  have hel1:=hAel zs.length (Nat.le_refl _)
  obtain⟨A,hA⟩:∃ A,A=uZ h.copies zs zs.length:=⟨_,rfl⟩
  rw [← hA] at hown hdat hl1 hel1 hua
  rw [← hA]
  subst hua
  simp only [hdk,go_sem,Nat.reduceEqDiff,Nat.reduceBEq,zC]
  refine yK A.length 0 (fun k fr' HX => fr' = [(1, ⟨true, .box [vh, vz, S h.aname, .int .i64 h.atype, .int .i64 h.alife, vd, vi, .int .i64 h.drift, .int .i64 h.end_]⟩), (6, ⟨true, .val (.slice ua A.length uc)⟩), (43, ⟨true, .val (.slice ua A.length uc)⟩), (44, ⟨true, .val (.int .i64 A.length)⟩), (45, ⟨true, .val (.int .i64 k)⟩)] ∧
   ∃ K4 sv, K.le K4 ∧ K4.le HX ∧ (∀ b, ob = some b → K4 b = none) ∧ xX HX 8 (.slice ua A.length uc) A.length (vL A dv gv fv (fun i => if i < k then sv i else .slice none 0 0)) ob ∧
    ∀ i,i < k→wR K4 (sv i) (kO h.drift (A.getD i default).2.1 (yC (A.getD i default).2.2))) (Nat.zero_le _)
   ⟨rfl,K,fun _=>.slice none 0 0,Hp.le.refl _,hKH,hobn,hown.row_congr (fun i _=>by unfold vL; simp),(fun i hi=>by cases hi)⟩ ?_
  rintro k fr' HX hk2 ⟨rfl,K4,sv,k4,k4le,k4ob,hownX,hspX⟩
  by_cases hlt2:k < A.length
  ·have hdk2:decide ((k:Int) < (A.length:Int))=true:=by simpa using hlt2
   obtain ⟨b0, cap, hob, hve, hHb0⟩ : ∃ b0 cap, ob = some b0 ∧ Value.slice ua A.length uc = .slice (some ⟨b0, 0, none⟩) A.length cap ∧ HX b0 = some (.row (flat A.length (vL A dv gv fv (fun i => if i < k then sv i else .slice none 0 0))) (cap * 8) true) := by
    cases hobb:ob with
    | none=>rw [hobb] at hownX; have:=hownX.2; omega
    | some b0 =>
     rw [hobb] at hownX
     obtain⟨cap,h1,h2⟩:=hownX
     exact⟨b0,cap,rfl,h1,h2⟩
   have hat:=pK (n:=A.length) (sz:=8) (row:=vL A dv gv fv (fun i=>if i < k then sv i else .slice none 0 0)) (fun _ _=>rfl) k hlt2
   have hfl8:=xS (n:=A.length) (sz:=8) (row:=vL A dv gv fv (fun i=>if i < k then sv i else .slice none 0 0)) (fun _ _=>rfl)
   have hspl:=fun x=>zQN (A:=A) (dv:=dv) (gv:=gv) (fv:=fv) (sv:=fun i=>if i < k then sv i else .slice none 0 0) hlt2 x
   have hself:(if k < k then sv k else Value.slice none 0 0) = .slice none 0 0:=if_neg (Nat.lt_irrefl k)
   obtain⟨FL,hFL⟩:∃ y,y=flat A.length (vL A dv gv fv (fun i=>if i < k then sv i else .slice none 0 0)):=⟨_,rfl⟩
   rw [← hFL] at hHb0 hat hfl8 hspl
   have hdi:=hdat k hlt2
   have hee:=hel1 _ (yN hlt2)
   have hks:IntKind.i64.wrap ((k:Int) + 1)=((k + 1:Nat):Int):=zR (by omega)
   simp only [vL,pF,hself] at hat
   have q1:=zG.one hdi.1
   have q2:=zG.one hdi.2.1
   have q3:=zG.one hdi.2.2
   have hb8:k * 8 + 8≤FL.length:=by omega
   have hb7:k * 8 + 7 + 1≤FL.length:=by omega
   have hnl:(yC (A.getD k default).2.2).length≤12:=Nat.le_trans (jV _) hee.num
   have hnb : ∀ sp ∈ yC (A.getD k default).2.2, 0 ≤ sp.from_ ∧ sp.from_ ≤ sp.till ∧ sp.till ≤ 10000000 := by
    intro sp hsp
    obtain⟨⟨s1,hs1,_,e1⟩,s2,hs2,_,e2⟩:=zEx hsp
    have p1:=zSL hsp
    have p2:=hee.till s1 hs1
    have p3:=(hee.ok s2 hs2).1
    omega
   have hcall:=(yWZ hE h2 h3 (H:=K4) (zn:=(A.getD k default).1) (dv:=dv k) (sv:=.slice none 0 0) hee.grow (xL.mono hdi.2.1 k4) (zG.mono hdi.2.2 k4) hnl hnb q1 rfl).frame k4le
   rw [hve]
   simp only [hdk2,hHb0,hat,q1,q2,q3,hb8,toNat_ofNat',go_sem,Nat.reduceLeDiff,Nat.reduceEqDiff,Nat.reduceBEq,Nat.reduceAdd,zC]
   refine⟨⟨by omega,by omega⟩,?_⟩
   refine zM (by simp only [go_sem,Nat.reduceEqDiff]) hcall ?_
   rintro w H2 ⟨K5,⟨ob2,q4,q5,q6⟩,k5le,kfr⟩
   obtain⟨wa,wc,hw⟩:=q4.sl
   subst hw
   have yb:=kfr b0 _ hHb0 (k4ob b0 hob)
   have y0:=yb.2
   have hspl':=hspl (.slice wa (kO h.drift (A.getD k default).2.1 (yC (A.getD k default).2.2)).length wc)
   simp only [y0,hspl',hb7,toNat_ofNat',go_sem,Nat.reduceEqDiff,Nat.reduceBEq,zC]
   have hrow : ∀ i, vL A dv gv fv (yX (fun i => if i < k then sv i else .slice none 0 0) k (.slice wa (kO h.drift (A.getD k default).2.1 (yC (A.getD k default).2.2)).length wc)) i = vL A dv gv fv (fun i => if i < k + 1 then yX sv k (.slice wa (kO h.drift (A.getD k default).2.1 (yC (A.getD k default).2.2)).length wc) i else .slice none 0 0) i := by
    intro i
    unfold vL yX
    by_cases e:i=k
    ·subst e; simp
    ·by_cases e2:i < k
     ·simp [e,e2,show i < k + 1 by omega]
     ·simp [e,e2,show ¬ i < k + 1 by omega]
   refine⟨⟨by omega,by omega⟩,hlt2,hks,K5,yX sv k (.slice wa (kO h.drift (A.getD k default).2.1 (yC (A.getD k default).2.2)).length wc),k4.trans q5,zH k5le yb.1 _,?_,?_,?_⟩
   ·intro b hb
    rw [hob] at hb; cases hb
    exact yb.1
   ·rw [hob]
    refine⟨cap,rfl,?_⟩
    rw [Hp.put_same]
    congr 2
    exact xW fun i _=>hrow i
   ·intro i hi
    by_cases e:i=k
    ·subst e
     simp only [yX,if_true]
     exact q4.at
    ·simp only [yX,if_neg e]
     exact zG.mono (hspX i (by omega)) q5
  ·have hdk2:decide ((k:Int) < (A.length:Int))=false:=by simpa using hlt2
   have:k=A.length:=by omega
   subst this
   simp only [hdk2,go_sem,Nat.reduceEqDiff,Nat.reduceBEq,Nat.reduceAdd,zC]
   refine⟨hle1.trans (hK1.trans (k4.trans k4le)),_,dv,gv,fv,sv,rfl,?_,?_⟩
   ·refine zG.row_congr (xX.at hownX (fun _ _=>rfl)) fun i hi=>?_
    unfold vL
    simp only [if_pos hi]
   ·intro i hi
    have hdi:=hdat i hi
    exact⟨xF.mono hdi.1 (k4.trans k4le),xL.mono hdi.2.1 (k4.trans k4le),zG.mono hdi.2.2 (k4.trans k4le),zG.mono (hspX i hi) k4le⟩
end Go.SL
/- Contracts: the moments of a history. -/
namespace Go.SL
open Go
variable {E:Env} {H:Hp}
def ySI (e t:Int) (M:List (Int × Bool)):List (Int × Bool):=if decide (t≥0) && decide (t≤e) then xV t true M else M
def zIr (e : Int) (ts : List Int) (M : List (Int × Bool)) : Nat → List (Int × Bool)
 | 0=>M
 | k + 1=>ySI e (ts.getD k 0) (zIr e ts M k)
def zFA (e:Int) (ts:List Int) (M:List (Int × Bool)):List (Int × Bool):=zIr e ts M ts.length
def zDU (vh vc vd vi:Value) (h:yO):List Value:=[vh,vc,S h.aname,.int .i64 h.atype,.int .i64 h.alife,vd,vi,.int .i64 h.drift,.int .i64 h.end_]
set_option maxHeartbeats 1000000 in
theorem yYy (h3 : yW E) {b1 b6 m c1 c6 : Nat} {w1 w6 : Bool} {vh vc vd vi v : Value} {h : yO} {ts : List Int} {M : List (Int × Bool)} (hb1 : H b1 = some (.row (zDU vh vc vd vi h) c1 w1)) (hb6 : H b6 = some (.row [.map (some m)] c6 w6)) (hM : zAz H m M)
  (hts:wH H v ts) (hn:ts.length≤1000000):Fn E.P (E.fn 155) [v,.pointer (some ⟨b1,0,none⟩),.pointer (some ⟨b6,0,none⟩)] H (fun _ H'=>H'=H.put m (.obj (.map (wE (zFA h.end_ ts M)) (zFA h.end_ ts M).length))):=by
 have hMm:H m=some (.obj (.map (wE M) M.length)):=hM
 have n1:b1≠m:=by rintro rfl; rw [hMm] at hb1; cases hb1
 have n6:b6≠m:=by rintro rfl; rw [hMm] at hb6; cases hb6
 obtain⟨a,cap,rfl,hsp,hr⟩:=hts
 unfold zDU at hb1
 refine Fn.of_vks h3.c155 (by simp [zMB]) ?_
 simp only [zMB,zZE,yDC,zWW,yGp,yCa,yFK]
 simp only [go_sem,Nat.reduceEqDiff,Nat.reduceBEq,Nat.reduceAdd,reduceCtorEq]
 refine yK ts.length 0 (fun k fr' H' => fr' = [(1, ⟨true, .val (.pointer (some ⟨b1, 0, none⟩))⟩), (2, ⟨true, .val (.pointer (some ⟨b6, 0, none⟩))⟩), (6, ⟨true, .val (.slice a ts.length cap)⟩), (7, ⟨true, .val (.int .i64 ts.length)⟩), (8, ⟨true, .val (.int .i64 k)⟩)] ∧
  H'=H.put m (.obj (.map (wE (zIr h.end_ ts M k)) (zIr h.end_ ts M k).length))) (Nat.zero_le _) ⟨rfl,(zDV hMm).symm⟩ ?_
 rintro k fr' H' hk ⟨rfl,hH'⟩
 have e1:H' b1=some (.row [vh,vc,S h.aname,.int .i64 h.atype,.int .i64 h.alife,vd,vi,.int .i64 h.drift,.int .i64 h.end_] c1 w1):=by rw [hH',Hp.put_ne _ _ n1]; exact hb1
 have e6:H' b6=some (.row [.map (some m)] c6 w6):=by rw [hH',Hp.put_ne _ _ n6]; exact hb6
 have em:zAz H' m (zIr h.end_ ts M k):=by unfold zAz; rw [hH',Hp.put_same]
 by_cases hlt:k < ts.length
 ·have hd:decide ((k:Int) < (ts.length:Int))=true:=by simpa using hlt
  obtain⟨b,o,vs,c,wr,ha,hb,hi⟩:=hr (by omega)
  subst ha
  have nb:b≠m:=by rintro rfl; rw [hMm] at hb; cases hb
  have hb':H' b=some (.row vs c wr):=by rw [hH',Hp.put_ne _ _ nb]; exact hb
  have hi1:=(hi k hlt).1
  have hi2:=zK (hi k hlt).2 (j:=0) (by omega)
  simp only [vP,List.getD_cons_zero,Nat.add_zero,Nat.mul_one] at hi2
  have hsucc:zIr h.end_ ts M (k + 1)=ySI h.end_ (ts.getD k 0) (zIr h.end_ ts M k):=rfl
  obtain⟨t,ht⟩:∃ t,t=ts.getD k 0:=⟨_,rfl⟩
  rw [← ht] at hi2 hsucc
  have hks:IntKind.i64.wrap ((k:Int) + 1)=((k + 1:Nat):Int):=zR (by omega)
  simp only [hd,hb',hi2,e1,Nat.mul_one,go_sem,Nat.reduceEqDiff,Nat.reduceBEq,Nat.reduceAdd,zC]
  rw [Nat.mul_one] at hi1
  refine⟨⟨by omega,by omega⟩,by omega,?_⟩
  unfold ySI at hsucc
  cases hq:(decide (t≥0) && decide (t≤h.end_))
  ·rw [hq,if_neg (by simp)] at hsucc
   refine⟨fun h=>⟨h,h⟩,fun h=>?_,fun _=>?_⟩
   ·cases h
   ·exact⟨hlt,hks,by rw [hsucc]; exact hH'⟩
  ·rw [hq,if_pos rfl] at hsucc
   refine⟨fun h=>⟨h,h⟩,fun _=>?_,fun h=>?_⟩
   ·simp only [e6,go_sem]
    refine ySs t true ?_ ?_ ?_ ?_ ?_ ?_ em ?_
    ·simp only [go_sem,Nat.reduceEqDiff]
    ·simp only [go_sem,Nat.reduceEqDiff]
    ·simp only [go_sem]
    ·simp only [go_sem,Nat.reduceEqDiff]
    ·simp only [go_sem,Nat.reduceEqDiff]
    ·simp only [go_sem]
    simp only [go_sem,Nat.reduceEqDiff,Nat.reduceBEq,zC]
    exact⟨hlt,hks,by rw [hsucc,hH',zHl]⟩
   ·cases h
 ·have hd:decide ((k:Int) < (ts.length:Int))=false:=by simpa using hlt
  have:k=ts.length:=by omega
  subst this
  simp only [hd,go_sem,Nat.reduceEqDiff,Nat.reduceBEq,zC]
  exact hH'
theorem yGD {H : Hp} {bs c : Nat} {ts : List Int} (hb : H bs = some (.row (ts.map fun n => Value.int .i64 n) c true)) : wH H (.slice (some ⟨bs, 0, none⟩) ts.length ts.length) ts := by
 refine zG.lit hb fun i hi=>⟨by simp; omega,?_⟩
 rw [Nat.mul_one,List.drop_eq_getElem_cons (by simpa using hi)]
 simp [vP,hi]
theorem yHT (h3 : yW E) {K H' : Hp} {b1 b6 m c1 c6 bs : Nat} {w1 w6 : Bool} {vh vc vd vi : Value} {h : yO} {M : List (Int × Bool)} (k1 : K b1 = some (.row (zDU vh vc vd vi h) c1 w1)) (k6 : K b6 = some (.row [.map (some m)] c6 w6)) (km : K m = none)
  (hle:K.le H') (hM:zAz H' m M) (hbs:H' bs=none) (ts:List Int) (hn:ts.length≤1000000) :
  FnV E (.func (.func (E.fn 155)) #[] #[.pointer (some ⟨b1,0,none⟩),.pointer (some ⟨b6,0,none⟩)]) [.slice (some ⟨bs,0,none⟩) ts.length ts.length] (H'.put bs (.row (ts.map fun n=>Value.int .i64 n) ts.length true)) (fun _ H''=>K.le H''∧zAz H'' m (zFA h.end_ ts M)):=by
 have hMm:H' m=some (.obj (.map (wE M) M.length)):=hM
 have nb:m≠bs:=by rintro rfl; rw [hMm] at hbs; cases hbs
 have hle1:K.le (H'.put bs (.row (ts.map fun n=>Value.int .i64 n) ts.length true)):=hle.trans (zJ hbs _)
 have hM1:zAz (H'.put bs (.row (ts.map fun n=>Value.int .i64 n) ts.length true)) m M:=by unfold zAz; rw [Hp.put_ne _ _ nb]; exact hM
 refine yP h3.e155 ?_
 refine Fn.mono (yYy h3 (hle1 _ _ k1) (hle1 _ _ k6) hM1 (yGD (Hp.put_same ..)) hn) ?_
 rintro u H'' rfl
 exact⟨zH hle1 km _,Hp.put_same ..⟩
def zKk (e : Int) (cs : List yE) (M : List (Int × Bool)) : Nat → List (Int × Bool)
 | 0=>M
 | k + 1=>zFA e [(cs.getD k default).from_,(cs.getD k default).till] (zKk e cs M k)
def zDA (e : Int) (l : List zO) (M : List (Int × Bool)) : Nat → List (Int × Bool)
 | 0=>M
 | k + 1=>zFA e [(l.getD k default).from_,(l.getD k default).till] (zDA e l M k)
def zIi (d:Int) (g:kI):List Int:=[IntKind.i64.wrap (g.from_ + d),IntKind.i64.wrap (IntKind.i64.wrap (g.till - d) + 1),IntKind.i64.wrap (IntKind.i64.wrap (g.till + d) + 1)]
def yRE (e d:Int) (s:zF) (M:List (Int × Bool)):List (Int × Bool):=if decide ((s.sigs.length:Int) > 0) then zFA e (zIi d (s.sigs.getD 0 default)) M else M
def vO (d:Int) (x:Bs × (zF × List zO)):List zO:=kO d x.2.1 (yC x.2.2)
def yIy (h : yO) (x : Bs × (zF × List zO)) (M : List (Int × Bool)) : List (Int × Bool) :=
 yRE h.end_ h.drift x.2.1 (zDA h.end_ (vO h.drift x) (zDA h.end_ (yC x.2.2) M (yC x.2.2).length) (vO h.drift x).length)
def zEt (h : yO) (A : yR) (M : List (Int × Bool)) : Nat → List (Int × Bool)
 | 0=>M
 | k + 1=>yIy h (A.getD k default) (zEt h A M k)
def zES (h:yO):List (Int × Bool):=zEt h (wI h) (zKk h.end_ h.copies [] h.copies.length) (wI h).length
set_option maxRecDepth 8000 in
set_option maxHeartbeats 8000000 in
theorem yTA (hE : zX E) (h2 : xZ E) (h3 : yW E) (L : zBz E) {srt : List Int → List Int} {N : Nat} (hS : zQC E srt N) (hN : N ≤ 1000000) (hB : qU E H) (hB2 : uD E H) {v : Value} {h : yO} (hh : vV H v h) (hn : h.copies.length ≤ 12)
  (hsz:yS h=true→zJf h.copies) (hzo:yS h=true→zDr h) (hml:yS h=true→(zES h).length≤N) :
  Fn E.P (E.fn 158) [v] H (fun u H' => H.le H' ∧ (yS h = false → u = .tuple #[.slice none 0 0, .int .i64 1]) ∧
   (yS h=true→∃ w ns,u = .tuple #[w,.int .i64 0]∧ns.Perm ((zES h).map (·.1))∧wH H' w (srt ns))):=by
 have hh0:=hh
 obtain⟨vh,vz,vd,vi,rfl,g1,g2,g3,g5⟩:=hh
 have o1:=zG.one g1
 have o2:=g2.one
 have o3:=zG.one g3
 have o5:=zG.one g5
 obtain⟨z,⟨a,cap,rfl,hs,hr⟩,hdeep⟩:=g2
 refine Fn.of_vks h3.c158 (by simp [zNp]) ?_
 simp only [zNp,zXU,zXj,zVe,yAh,yFA,yBZ,yCn,zTW,yCe,zPg,zQR,zOM,zPD,zQc,zQJ,zRR,zRh,zNH]
 simp only [go_sem,Nat.reduceEqDiff,Nat.reduceBEq,Nat.reduceAdd,reduceCtorEq]
 intro b1 hb1
 obtain⟨HA,hHA⟩:∃ y,y=H.put b1 (.row [vh,.slice a h.copies.length cap,S h.aname,.int .i64 h.atype,.int .i64 h.alife,vd,vi,.int .i64 h.drift,.int .i64 h.end_] 9 true):=⟨_,rfl⟩
 have hA1:HA b1=some (.row (zDU vh (.slice a h.copies.length cap) vd vi h) 9 true):=by rw [hHA,Hp.put_same]; rfl
 have hleA:H.le HA:=by rw [hHA]; exact zJ hb1 _
 have hA1':=hA1
 unfold zDU at hA1'
 have hall:=yIc hE h2 h3 L (hB.mono hleA) (hB2.mono hleA) (hh0.mono hleA) hn hsz hzo
 rw [← hHA]
 simp only [hA1',go_sem,Nat.reduceAdd]
 refine zM (by simp only [go_sem,Nat.reduceEqDiff]) hall ?_
 rintro u H2 ⟨hle2,hbad,hpost⟩
 cases hv:yS h
 ·rw [hbad hv]
  simp only [go_sem,Nat.reduceLT,Nat.reduceEqDiff,Nat.reduceBEq,Nat.reduceAdd,zC,bne,Int.reduceBEq]
  exact hleA.trans hle2
 obtain⟨vo,dv,gv,fv,sv,hw,hsl2,hdat⟩:=hpost hv
 subst hw
 have hzo':=hzo hv
 have hel:=zDQ hzo' (wB h).length (Nat.le_refl _)
 have hAl:=zCJ hzo' (wB h).length (Nat.le_refl _)
 have hmm:=hml hv
 unfold zES at hmm ⊢
 obtain⟨A,hAA⟩:∃ A,A=wI h:=⟨_,rfl⟩
 change ∀ e∈wI h,_ at hel
 change (wI h).length≤_ at hAl
 rw [← hAA] at hsl2 hdat hel hAl hmm ⊢
 obtain⟨oa,oc,hvo⟩:=hsl2.sl
 subst hvo
 simp only [Hp.put_same,go_sem,Nat.reduceLT,Nat.reduceEqDiff,Nat.reduceBEq,Nat.reduceAdd,zC,bne]
 intro m hm b6 hb6
 obtain⟨HB,hHB⟩:∃ y,y=(H2.put m (.obj (.map #[] 0))).put b6 (.row [.map (some m)] 1 true):=⟨_,rfl⟩
 rw [← hHB]
 have n6m:b6≠m:=by rintro rfl; rw [Hp.put_same] at hb6; cases hb6
 have hB6:HB b6=some (.row [.map (some m)] 1 true):=by rw [hHB,Hp.put_same]
 have hBm:zAz HB m []:=by unfold zAz; rw [hHB,Hp.put_ne _ _ (Ne.symm n6m),Hp.put_same]; rfl
 have hle2B:H2.le HB:=by rw [hHB]; exact(zJ hm _).trans (zJ hb6 _)
 obtain⟨K,hK⟩:∃ y,y=HB.del m:=⟨_,rfl⟩
 have km:K m=none:=by rw [hK,Hp.del_same]
 have kB:K.le HB:=by rw [hK]; exact zRP _ _
 have k2:H2.le K:=by rw [hK]; exact zEO hm hle2B
 have k6:K b6=some (.row [.map (some m)] 1 true):=by rw [hK,Hp.del_ne _ n6m]; exact hB6
 have k1:=k2 _ _ (hle2 _ _ hA1)
 have kH:=(hleA.trans hle2).trans k2
 have kB1:=kB _ _ k1
 unfold zDU at kB1
 simp only [yBR,kB1,go_sem,Nat.reduceLeDiff,Nat.reduceEqDiff,Nat.reduceBEq,Nat.reduceAdd]
 refine yK h.copies.length 0 (fun k fr' H' => fr' = [(1, ⟨true, .val (.pointer (some ⟨b1, 0, none⟩))⟩), (4, ⟨true, .val (.slice oa A.length oc)⟩), (6, ⟨true, .val (.pointer (some ⟨b6, 0, none⟩))⟩), (7, ⟨true, .val (.func (.func (E.fn 155)) #[] #[.pointer (some ⟨b1, 0, none⟩), .pointer (some ⟨b6, 0, none⟩)])⟩), (28, ⟨true, .val (.slice a h.copies.length cap)⟩), (29, ⟨true, .val (.int .i64 h.copies.length)⟩), (30, ⟨true, .val (.int .i64 k)⟩)] ∧
  K.le H'∧zAz H' m (zKk h.end_ h.copies [] k)) (Nat.zero_le _) ⟨rfl,kB,hBm⟩ ?_
 rintro k fr' H' hk ⟨rfl,hle,hM⟩
 by_cases hlt:k < h.copies.length
 ·have hd:decide ((k:Int) < (h.copies.length:Int))=true:=by simpa using hlt
  obtain⟨b,o,vs,c,wr,ha,hb,hi⟩:=hr (by omega)
  subst ha
  have hb':=hle _ _ (kH _ _ hb)
  have hi1:=(hi k hlt).1
  have hi2:=(hi k hlt).2
  have hz1:yV (z k)=true:=by obtain⟨d,g,h,_⟩:=hdeep k hlt; exact zG.one h
  have hsucc:zKk h.end_ h.copies [] (k + 1)=zFA h.end_ [(h.copies.getD k default).from_,(h.copies.getD k default).till] (zKk h.end_ h.copies [] k):=rfl
  have hks:IntKind.i64.wrap ((k:Int) + 1)=((k + 1:Nat):Int):=zR (by omega)
  simp only [hd,hb',hi2,jY,hz1,go_sem,Nat.reduceLeDiff,Nat.reduceEqDiff,Nat.reduceBEq,Nat.reduceAdd,zC]
  refine⟨⟨by omega,by omega⟩,hi1,?_⟩
  intro bs hbs
  have hadd:=yHT h3 k1 k6 km hle hM hbs [(h.copies.getD k default).from_,(h.copies.getD k default).till] (by simp)
  refine xA (by simp only [go_sem,Nat.reduceEqDiff]) (by simp only [go_sem,Nat.reduceEqDiff]) hadd ?_
  rintro w H3 ⟨hle3,hM3⟩
  simp only [go_sem,Nat.reduceEqDiff,Nat.reduceBEq,zC]
  exact⟨hlt,hks,hle3,by rw [hsucc]; exact hM3⟩
 have hd:decide ((k:Int) < (h.copies.length:Int))=false:=by simpa using hlt
 have:k=h.copies.length:=by omega
 subst this
 simp only [hd,go_sem,Nat.reduceLeDiff,Nat.reduceEqDiff,Nat.reduceBEq,Nat.reduceAdd,zC]
 obtain⟨M0,hM0⟩:∃ y,y=zKk h.end_ h.copies [] h.copies.length:=⟨_,rfl⟩
 rw [← hM0] at hM hmm ⊢
 obtain⟨ab,acp,hsv2,_,hrow⟩:=hsl2
 cases hsv2
 refine yK A.length 0 (fun k fr' H'=>fr' = [(1,⟨true,.val (.pointer (some ⟨b1,0,none⟩))⟩),(6,⟨true,.val (.pointer (some ⟨b6,0,none⟩))⟩),(7,⟨true,.val (.func (.func (E.fn 155)) #[] #[.pointer (some ⟨b1,0,none⟩),.pointer (some ⟨b6,0,none⟩)])⟩),(42,⟨true,.val (.slice oa A.length oc)⟩),(43,⟨true,.val (.int .i64 A.length)⟩),(44,⟨true,.val (.int .i64 k)⟩)]∧K.le H'∧zAz H' m (zEt h A M0 k)) (Nat.zero_le _) ⟨rfl,hle,hM⟩ ?_
 rintro k fr' H' hk ⟨rfl,hle,hM⟩
 by_cases hlt:k < A.length
 ·have hd:decide ((k:Int) < (A.length:Int))=true:=by simpa using hlt
  obtain⟨b,o,vs,c,wr,ha,hb,hi⟩:=hrow (by omega)
  subst ha
  have hb':=hle _ _ (k2 _ _ hb)
  have hi1:=(hi k hlt).1
  have hi2:=(hi k hlt).2
  have hdk:=hdat k hlt
  have hek:=(hel _ (yN hlt)).num
  have hsucc:zEt h A M0 (k + 1)=yIy h (A.getD k default) (zEt h A M0 k):=rfl
  have hks:IntKind.i64.wrap ((k:Int) + 1)=((k + 1:Nat):Int):=zR (by have:=hzo'.num; omega)
  obtain⟨x,hx⟩:∃ x,A.getD k default=x:=⟨_,rfl⟩
  rw [hx] at hdk hsucc hek
  obtain⟨MK,hMK⟩:∃ y,y=zEt h A M0 k:=⟨_,rfl⟩
  rw [← hMK] at hM hsucc
  obtain⟨hdd,hgg,hff,huu⟩:=hdk
  change wR H2 (sv k) (vO h.drift x) at huu
  have p1:=zG.one hdd
  have p2:=zG.one hgg
  have hnl:=jV x.2.2
  have hul : (vO h.drift x).length ≤ (yC x.2.2).length := by
   have:=jV ((yC x.2.2).map (jZ h.drift x.2.1))
   rw [List.length_map] at this
   exact this
  obtain⟨fa,fc,hfv,_,hfr⟩:=hff
  obtain⟨ua,uc,huv,_,hur⟩:=huu
  simp only [vL,pF,hx,hfv,huv] at hi2
  simp only [hd,hb',hi2,p1,p2,go_sem,Nat.reduceEqDiff,Nat.reduceBEq,Nat.reduceAdd,zC]
  refine⟨⟨by omega,by omega⟩,hi1,?_⟩
  simp only [zOC,go_sem,Nat.reduceLeDiff,Nat.reduceEqDiff,Nat.reduceBEq,Nat.reduceAdd]
  refine yK (yC x.2.2).length 0 (fun j fr' H' => fr' = [(1, ⟨true, .val (.pointer (some ⟨b1, 0, none⟩))⟩), (6, ⟨true, .val (.pointer (some ⟨b6, 0, none⟩))⟩), (7, ⟨true, .val (.func (.func (E.fn 155)) #[] #[.pointer (some ⟨b1, 0, none⟩), .pointer (some ⟨b6, 0, none⟩)])⟩), (11, ⟨true, .box [S x.1, S x.2.1.name, .int .i64 x.2.1.type, .int .i64 x.2.1.life, dv k, gv k, .slice fa (yC x.2.2).length fc, .slice ua (vO h.drift x).length uc]⟩), (42, ⟨true, .val (.slice (some ⟨b, o, none⟩) A.length oc)⟩), (43, ⟨true, .val (.int .i64 A.length)⟩), (44, ⟨true, .val (.int .i64 k)⟩), (49, ⟨true, .val (.slice fa (yC x.2.2).length fc)⟩), (50, ⟨true, .val (.int .i64 (yC x.2.2).length)⟩), (51, ⟨true, .val (.int .i64 j)⟩)] ∧
   K.le H'∧zAz H' m (zDA h.end_ (yC x.2.2) MK j)) (Nat.zero_le _) ⟨rfl,hle,hM⟩ ?_
  rintro j fr' HJ hj ⟨rfl,hleJ,hMJ⟩
  by_cases hltj:j < (yC x.2.2).length
  ·have hdj:decide ((j:Int) < ((yC x.2.2).length:Int))=true:=by simpa using hltj
   obtain⟨b2,o2,vs2,c2,wr2,ha2,hb2,hiw⟩:=hfr (by omega)
   subst ha2
   have hbj:=hleJ _ _ (k2 _ _ hb2)
   have hj1:=(hiw j hltj).1
   have hj2:=(hiw j hltj).2
   simp only [yM] at hj2
   have hsj:zDA h.end_ (yC x.2.2) MK (j + 1)=zFA h.end_ [((yC x.2.2).getD j default).from_,((yC x.2.2).getD j default).till] (zDA h.end_ (yC x.2.2) MK j):=rfl
   have hjs:IntKind.i64.wrap ((j:Int) + 1)=((j + 1:Nat):Int):=zR (by omega)
   simp only [zNU,zRw,hdj,hbj,hj2,go_sem,Nat.reduceLeDiff,Nat.reduceEqDiff,Nat.reduceBEq,Nat.reduceAdd,zC]
   refine⟨⟨by omega,by omega⟩,hj1,?_⟩
   intro bs hbs
   have hadd:=yHT h3 k1 k6 km hleJ hMJ hbs [((yC x.2.2).getD j default).from_,((yC x.2.2).getD j default).till] (by simp)
   refine xA (by simp only [go_sem,Nat.reduceEqDiff]) (by simp only [go_sem,Nat.reduceEqDiff]) hadd ?_
   rintro w H3 ⟨hle3,hM3⟩
   simp only [go_sem,Nat.reduceEqDiff,Nat.reduceBEq,zC]
   exact⟨hltj,hjs,hle3,by rw [hsj]; exact hM3⟩
  have hdj:decide ((j:Int) < ((yC x.2.2).length:Int))=false:=by simpa using hltj
  have:j=(yC x.2.2).length:=by omega
  subst this
  simp only [hdj,go_sem,Nat.reduceEqDiff,Nat.reduceBEq,zC]
  obtain⟨MF,hMF⟩:∃ y,y=zDA h.end_ (yC x.2.2) MK (yC x.2.2).length:=⟨_,rfl⟩
  rw [← hMF] at hMJ
  have hleJ1:=hleJ
  have hMJ1:=hMJ
  simp only [zRj,go_sem,Nat.reduceEqDiff,Nat.reduceBEq,Nat.reduceAdd]
  refine yK (vO h.drift x).length 0 (fun j fr' H' => fr' = [(1, ⟨true, .val (.pointer (some ⟨b1, 0, none⟩))⟩), (6, ⟨true, .val (.pointer (some ⟨b6, 0, none⟩))⟩), (7, ⟨true, .val (.func (.func (E.fn 155)) #[] #[.pointer (some ⟨b1, 0, none⟩), .pointer (some ⟨b6, 0, none⟩)])⟩), (11, ⟨true, .box [S x.1, S x.2.1.name, .int .i64 x.2.1.type, .int .i64 x.2.1.life, dv k, gv k, .slice fa (yC x.2.2).length fc, .slice ua (vO h.drift x).length uc]⟩), (42, ⟨true, .val (.slice (some ⟨b, o, none⟩) A.length oc)⟩), (43, ⟨true, .val (.int .i64 A.length)⟩), (44, ⟨true, .val (.int .i64 k)⟩), (64, ⟨true, .val (.slice ua (vO h.drift x).length uc)⟩), (65, ⟨true, .val (.int .i64 (vO h.drift x).length)⟩), (66, ⟨true, .val (.int .i64 j)⟩)] ∧
   K.le H'∧zAz H' m (zDA h.end_ (vO h.drift x) MF j)) (Nat.zero_le _) ⟨rfl,hleJ1,hMJ1⟩ ?_
  rintro j fr' HJ hj ⟨rfl,hleJ,hMJ⟩
  by_cases hltj:j < (vO h.drift x).length
  ·have hdj:decide ((j:Int) < ((vO h.drift x).length:Int))=true:=by simpa using hltj
   obtain⟨b2,o2,vs2,c2,wr2,ha2,hb2,hiw⟩:=hur (by omega)
   subst ha2
   have hbj:=hleJ _ _ (k2 _ _ hb2)
   have hj1:=(hiw j hltj).1
   have hj2:=(hiw j hltj).2
   simp only [yM] at hj2
   have hsj:zDA h.end_ (vO h.drift x) MF (j + 1)=zFA h.end_ [((vO h.drift x).getD j default).from_,((vO h.drift x).getD j default).till] (zDA h.end_ (vO h.drift x) MF j):=rfl
   have hjs:IntKind.i64.wrap ((j:Int) + 1)=((j + 1:Nat):Int):=zR (by omega)
   simp only [zOS,zNz,hdj,hbj,hj2,go_sem,Nat.reduceLeDiff,Nat.reduceEqDiff,Nat.reduceBEq,Nat.reduceAdd,zC]
   refine⟨⟨by omega,by omega⟩,hj1,?_⟩
   intro bs hbs
   have hadd:=yHT h3 k1 k6 km hleJ hMJ hbs [((vO h.drift x).getD j default).from_,((vO h.drift x).getD j default).till] (by simp)
   refine xA (by simp only [go_sem,Nat.reduceEqDiff]) (by simp only [go_sem,Nat.reduceEqDiff]) hadd ?_
   rintro w H3 ⟨hle3,hM3⟩
   simp only [go_sem,Nat.reduceEqDiff,Nat.reduceBEq,zC]
   exact⟨hltj,hjs,hle3,by rw [hsj]; exact hM3⟩
  have hdj:decide ((j:Int) < ((vO h.drift x).length:Int))=false:=by simpa using hltj
  have:j=(vO h.drift x).length:=by omega
  subst this
  simp only [hdj,go_sem,Nat.reduceEqDiff,Nat.reduceBEq,zC]
  obtain⟨MU,hMU⟩:∃ y,y=zDA h.end_ (vO h.drift x) MF (vO h.drift x).length:=⟨_,rfl⟩
  rw [← hMU] at hMJ
  have hME:yIy h x MK=yRE h.end_ h.drift x.2.1 MU:=by unfold yIy; rw [← hMF,← hMU]
  rw [hME] at hsucc
  unfold yRE at hsucc
  obtain⟨sa,sc,hgv,_,hgr⟩:=hgg
  cases hsg:decide (((x.2.1.sigs.length:Nat):Int) > 0)
  ·rw [hsg,if_neg (by simp)] at hsucc
   simp only [zIc,hgv,hsg,go_sem,Nat.reduceLeDiff,Nat.reduceEqDiff,Nat.reduceBEq,Nat.reduceAdd,zC]
   exact⟨hlt,hks,hleJ,by rw [hsucc]; exact hMJ⟩
  ·rw [hsg,if_pos rfl] at hsucc
   have hpos:0 < x.2.1.sigs.length:=by rw [decide_eq_true_eq] at hsg; omega
   obtain⟨b2,o2,vs2,c2,wr2,ha2,hb2,hi3⟩:=hgr hpos
   subst ha2
   have hbj:=hleJ _ _ (k2 _ _ hb2)
   have hj1:=(hi3 0 hpos).1
   have hj2:=(hi3 0 hpos).2
   have hB1:=hleJ _ _ k1
   unfold zDU at hB1
   obtain⟨g,hgd⟩:∃ g,x.2.1.sigs.getD 0 default=g:=⟨_,rfl⟩
   simp only [zAf,hgd,Nat.zero_mul,Nat.add_zero] at hj2 hj1
   rw [hgd] at hsucc
   simp only [zIc,zOY,zNw,hgv,hsg,hbj,hj2,hB1,go_sem,Nat.reduceLeDiff,Nat.reduceEqDiff,Nat.reduceBEq,Nat.reduceAdd,Int.reduceToNat,Int.reduceLE,zC]
   refine⟨by omega,by omega,?_⟩
   intro bs hbs
   have hadd:=yHT h3 k1 k6 km hleJ hMJ hbs (zIi h.drift g) (by simp [zIi])
   refine xA (by simp only [go_sem,Nat.reduceEqDiff]) (by simp only [go_sem,Nat.reduceEqDiff]) hadd ?_
   rintro w H3 ⟨hle3,hM3⟩
   simp only [go_sem,Nat.reduceEqDiff,Nat.reduceBEq,zC]
   exact⟨hlt,hks,hle3,by rw [hsucc]; exact hM3⟩
 have hd:decide ((k:Int) < (A.length:Int))=false:=by simpa using hlt
 have:k=A.length:=by omega
 subst this
 have hB6':=hle _ _ k6
 simp only [hd,zNB,hB6',go_sem,Nat.reduceEqDiff,Nat.reduceBEq,Nat.reduceAdd,zC]
 refine zM (by simp only [go_sem,Nat.reduceEqDiff]) (yYd h3 m) ?_
 rintro u H3 ⟨bk,hbk,rfl,hH3⟩
 have hMm:H' m=some (.obj (.map (wE (zEt h A M0 A.length)) (zEt h A M0 A.length).length)):=hM
 have nbk:m≠bk:=by rintro rfl; rw [hMm] at hbk; cases hbk
 have hM3:zAz H3 m (zEt h A M0 A.length):=by unfold zAz; rw [hH3,Hp.put_ne _ _ nbk]; exact hMm
 have h3k:H3 bk=some (.row [.map (some m)] 1 true):=by rw [hH3,Hp.put_same]
 have hle3:H'.le H3:=by rw [hH3]; exact zJ hbk _
 simp only [go_sem,Nat.reduceBEq]
 refine zM (by simp only [go_sem,Nat.reduceEqDiff]) (yZv hE h2 h3 hS hN (l:=zEt h A M0 A.length) trivial rfl (yZk h3 h3k hM3) hmm) ?_
 rintro w H4 ⟨ns,hp,hins,hle4⟩
 obtain⟨wa,wc,hw⟩:=zG.sl hins
 simp only [hw,go_sem,Nat.reduceEqDiff,Nat.reduceBEq]
 rw [hw] at hins
 exact⟨((kH.trans hle).trans hle3).trans hle4,_,ns,rfl,hp,hins⟩
end Go.SL
