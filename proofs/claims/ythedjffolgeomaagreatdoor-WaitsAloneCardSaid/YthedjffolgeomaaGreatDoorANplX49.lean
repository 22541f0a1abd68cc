/- Contracts: what a cache may use at a time (package holds): at, Possible. -/
import Derived.Test.YthedjffolgeomaaGreatDoorANplX14
import Derived.Test.YthedjffolgeomaaGreatDoorANplV8
import Derived.Test.YthedjffolgeomaaGreatDoorANplX32
import Derived.Test.YthedjffolgeomaaGreatDoorANplX19
namespace Go.SL
open Go
variable {E:Env} {H:Hp}
def zDB (P:Nat→Bool) (n:Nat):List Nat:=(List.range n).filter P
theorem zGX (P : Nat → Bool) (n : Nat) : zDB P (n + 1) = zDB P n ++ if P n then [n] else [] := by
 unfold zDB
 rw [List.range_succ,List.filter_append]
 cases h:P n<;>simp [h]
theorem zJx {P : Nat → Bool} {k : Nat} (hP : P k = true) : ∀ {n : Nat}, k < n → ∃ suf, zDB P n = zDB P k ++ k :: suf
 | 0,h=>by omega
 | n + 1, h => by
  by_cases e:k=n
  ·subst e
   exact⟨[],by rw [zGX,if_pos hP]⟩
  ·obtain⟨suf,hs⟩:=zJx hP (n:=n) (by omega)
   exact⟨suf ++ (if P n then [n] else []),by rw [zGX,hs]; simp⟩
def zCG (A:yR) (dv gv fv sv:Nat→Value) (i:Nat):Value:=.agg #[S (A.getD i default).1,S (A.getD i default).2.1.name,.int .i64 (A.getD i default).2.1.type,.int .i64 (A.getD i default).2.1.life,dv i,gv i,fv i,sv i]
set_option maxHeartbeats 1000000 in
theorem yZY (h5 : uJ E) {G : Hp} {b2 b3 c2 c3 : Nat} {w2 w3 : Bool} {a : Option Addr} {cap : Nat} {A : yR} {dv gv fv sv : Nat → Value} {t : Int} (P : Nat → Bool) (hb2 : G b2 = some (.row [.slice a A.length cap] c2 w2)) (hb3 : G b3 = some (.row [.int .i64 t] c3 w3))
  (hsl:zG G 8 (.slice a A.length cap) A.length (vL A dv gv fv sv)) (hn:A.length≤1000000) (h1:∀ i,i < A.length→yV (dv i)=true∧yV (gv i)=true∧yV (fv i)=true∧yV (sv i)=true)
  (hP:∀ H',G.le H'→∀ i,i < A.length→yB E 232 [sv i,.int .i64 t] H' (.bool (P i))) :
  Iter E (.func (.func (E.fn 231)) #[] #[.pointer (some ⟨b2,0,none⟩),.pointer (some ⟨b3,0,none⟩)]) G (fun xs=>xs=(zDB P A.length).map fun i=>[zCG A dv gv fv sv i]):=by
 intro y Inv Stop H hG hy h0
 refine yP h5.e231 ?_
 show Fn E.P (E.fn 231) [y,.pointer (some ⟨b2,0,none⟩),.pointer (some ⟨b3,0,none⟩)] H _
 have hle0:=hG _ _ h0
 have e2:=hle0 _ _ hb2
 obtain⟨a',cap',hv,_,hr⟩:=hsl
 cases hv
 refine Fn.of_vks h5.c231 (by simp [zNa]) ?_
 simp only [zNa,zWn,yBT,yEz,zVD,yDJ]
 simp only [e2,go_sem,Nat.reduceEqDiff,Nat.reduceBEq,Nat.reduceAdd,reduceCtorEq]
 refine yK A.length 0 (fun k fr' H' => fr' = [(0, ⟨true, .val y⟩), (2, ⟨true, .val (.pointer (some ⟨b3, 0, none⟩))⟩), (6, ⟨true, .val (.slice a A.length cap)⟩), (7, ⟨true, .val (.int .i64 A.length)⟩), (8, ⟨true, .val (.int .i64 k)⟩)] ∧
  Inv ((zDB P k).map fun i=>[zCG A dv gv fv sv i]) H') (Nat.zero_le _) ⟨rfl,h0⟩ ?_
 rintro k fr' H' hk ⟨rfl,hinv⟩
 have hle:=hG _ _ hinv
 by_cases hlt:k < A.length
 ·have hd:decide ((k:Int) < (A.length:Int))=true:=by simpa using hlt
  obtain⟨b,o,vs,c,wr,ha,hb,hi⟩:=hr (by omega)
  subst ha
  have hb1:=hle _ _ hb
  have hi1:=(hi k hlt).1
  have hi2:=(hi k hlt).2
  obtain⟨p1,p2,p3,p4⟩:=h1 k hlt
  have e3:=hle _ _ hb3
  have hsucc:=zGX P k
  have hPk:=hP H' hle k hlt
  simp only [vL,pF] at hi2
  simp only [hd,hb1,hi2,p1,p2,p3,p4,e3,go_sem,Nat.reduceEqDiff,Nat.reduceBEq,Nat.reduceAdd,reduceCtorEq,zC]
  refine⟨⟨by omega,by omega⟩,hi1,?_⟩
  refine zE _ (by simp only [go_sem]) (fun _=>⟨by simp only [go_sem,Nat.reduceEqDiff,reduceCtorEq],hPk⟩) ?_
  cases hokk:P k with
  | true =>
   obtain⟨suf,hsuf⟩:=zJx hokk hlt
   rw [hokk,if_pos rfl] at hsucc
   simp only [go_sem,Nat.reduceEqDiff,Nat.reduceBEq,Nat.reduceAdd,reduceCtorEq]
   refine zAr (by intro x h; cases h) (by intro f a h; cases h) ?_ ?_ ?_
   ·simp only [go_sem,Nat.reduceEqDiff,reduceCtorEq]
   ·simp only [go_sem,Nat.reduceEqDiff,reduceCtorEq]
   refine xA ?_ ?_ (hy ((zDB P k).map fun i=>[zCG A dv gv fv sv i]) [zCG A dv gv fv sv k] H' ⟨suf.map fun i=>[zCG A dv gv fv sv i],by simp only [hsuf,List.map_append,List.map_cons]⟩ hinv) ?_
   ·simp only [go_sem,Nat.reduceEqDiff,reduceCtorEq]
   ·simp only [go_sem,Nat.reduceEqDiff,reduceCtorEq]
   rintro v H3 (⟨rfl,hi3⟩ | ⟨rfl,hs⟩)
   ·simp only [go_sem,Nat.reduceEqDiff,Nat.reduceBEq,reduceCtorEq,zC]
    refine⟨hlt,zR (by omega),?_⟩
    rw [hsucc,List.map_append]; exact hi3
   ·simp only [go_sem,Nat.reduceEqDiff,Nat.reduceBEq,reduceCtorEq,zC]
    exact .inr ⟨_,hs⟩
  | false =>
   rw [hokk] at hsucc
   simp only [go_sem,Nat.reduceEqDiff,Nat.reduceBEq,Nat.reduceAdd,reduceCtorEq]
   refine zBw (by intro x h; cases h) (by intro f a h; cases h) ?_ ?_ ?_
   ·simp only [go_sem,Nat.reduceEqDiff,reduceCtorEq]
   ·simp only [go_sem,Nat.reduceEqDiff,reduceCtorEq]
   simp only [undef,↓yA,go_sem,Nat.reduceEqDiff,Nat.reduceBEq,reduceCtorEq,zC]
   refine⟨hlt,zR (by omega),?_⟩
   rw [hsucc]; simpa using hinv
 ·have hd:decide ((k:Int) < (A.length:Int))=false:=by simpa using hlt
  have:k=A.length:=by omega
  subst this
  simp only [hd,go_sem,Nat.reduceEqDiff,Nat.reduceBEq,Nat.reduceAdd,reduceCtorEq,zC]
  exact .inl ⟨_,rfl,hinv⟩
theorem yYF (h5 : uJ E) (a : Option Addr) (n cap : Nat) (t : Int) : Fn E.P (E.fn 229) [.slice a n cap, .int .i64 t] H (fun u H' => ∃ b2 b3, u = .func (.func (E.fn 231)) #[] #[.pointer (some ⟨b2, 0, none⟩), .pointer (some ⟨b3, 0, none⟩)] ∧ H.le H' ∧ H b2 = none ∧ H b3 = none ∧
  H' b2=some (.row [.slice a n cap] 1 true)∧H' b3=some (.row [.int .i64 t] 1 true)):=by
 refine Fn.of_vks h5.c229 (by simp [zLI]) ?_
 simp only [zLI,zWP,zVE]
 simp only [go_sem,Nat.reduceEqDiff,Nat.reduceBEq,reduceCtorEq]
 intro b2 hb2 b3 hb3
 have hne:b2≠b3:=by rintro rfl; rw [Hp.put_same] at hb3; cases hb3
 refine⟨b2,b3,rfl,(zJ hb2 _).trans (zJ hb3 _),hb2,?_,by rw [Hp.put_ne _ _ hne,Hp.put_same],Hp.put_same ..⟩
 rw [Hp.put_ne _ _ (Ne.symm hne)] at hb3; exact hb3
def zNc (h:yO) (_n:Bs) (_ty t:Int) (s:zF):Prop:=∃ i,i < (wI h).length∧s=((wI h).getD i default).2.1∧hasB (kO h.drift ((wI h).getD i default).2.1 (yC ((wI h).getD i default).2.2)) t=true
theorem zSM (ss : List zF) (s : zF) (d g : Nat → Value) (x y : Value) (i : Nat) (hi : i < ss.length) : xD (ss ++ [s]) (yX d ss.length x) (yX g ss.length y) i = xD ss d g i := by
 simp [xD,List.getElem?_append_left hi,yX,show i≠ss.length by omega]
theorem zOu (ss : List zF) (s : zF) (d g : Nat → Value) (x y : Value) : xD (ss ++ [s]) (yX d ss.length x) (yX g ss.length y) ss.length = [S s.name, .int .i64 s.type, .int .i64 s.life, x, y] := by
 simp [xD,yX]
def yWv (G : Hp) (m b11 : Nat) (h : yO) (A : yR) (t : Int) (n : Nat) (H' : Hp) : Prop :=
 G.le H' ∧ n ≤ A.length ∧ ∃ (l : List (Bs × Bool)) (u : Value) (ss : List zF) (d g : Nat → Value) (ob : Option Nat), uI H' m (l.map fun e => (S e.1, Value.bool e.2)) ∧ (∀ e ∈ l, e.2 = true) ∧ H' b11 = some (.row [u] 1 true) ∧ xX H' 5 u ss.length (xD ss d g) ob ∧
  (∀ b,ob=some b→G b=none∧b≠b11∧b≠m)∧ss.length≤n∧(∀ i,i < ss.length→xF G (d i) (ss.getD i default).data∧xL G (g i) (ss.getD i default).sigs) ∧
  ∀ s∈ss,∃ i,i < A.length∧s=(A.getD i default).2.1∧hasB (kO h.drift (A.getD i default).2.1 (yC (A.getD i default).2.2)) t=true
set_option maxHeartbeats 8000000 in
theorem yYL (hE : zX E) (h2 : xZ E) (h3 : yW E) (h5 : uJ E) (L : zBz E) (hB : qU E H) (hB2 : uD E H) {v : Value} {h : yO} (hh : vV H v h) (hn : h.copies.length ≤ 12) (hv : yS h = true)
  (hsz:zJf h.copies) (hzo:zDr h) (hrng:∀ i,i < (wI h).length→zIb ((wI h).getD i default).2.1) {n:Bs} {ty t:Int} (hq:okQ n ty=true) (ht0:0≤t) (ht1:t≤20000000) :
  Fn E.P (E.fn 226) [v,.agg #[S n,.int .i64 ty],.int .i64 t] H (fun u H'=>H.le H'∧∃ w ss,u = .tuple #[w,.int .i64 0]∧xT H' w ss∧ss.length≤14400∧∀ s∈ss,zNc h n ty t s):=by
 have hh0:=hh
 obtain⟨vh,vz,vd,vi,rfl,g1,g2,g3,g5⟩:=hh
 have o1:=zG.one g1
 have o2:=g2.one
 have o3:=zG.one g3
 have o5:=zG.one g5
 have e1:decide (t < 0)=false:=by rw [decide_eq_false_iff_not]; omega
 have e2:decide (t > 20000000)=false:=by rw [decide_eq_false_iff_not]; omega
 refine Fn.of_vks h5.c226 (by simp [zMR]) ?_
 simp only [zMR,yEM,zTk,yAH,zVh,zUJ,zTy,yFl,yAk,zOO]
 simp only [go_sem,Nat.reduceEqDiff,Nat.reduceBEq,Nat.reduceAdd,reduceCtorEq]
 intro b4 hb4
 obtain⟨H1,hH1⟩:∃ y,y=H.put b4 (.row [S n,.int .i64 ty] 2 true):=⟨_,rfl⟩
 have hle1:H.le H1:=by rw [hH1]; exact zJ hb4 _
 have e4:H1 b4=some (.row [S n,.int .i64 ty] 2 true):=by rw [hH1,Hp.put_same]
 rw [← hH1]
 simp only [yFp,go_sem,Nat.reduceEqDiff,Nat.reduceBEq,Nat.reduceAdd]
 refine zE _ (by simp only [go_sem]) (fun _=>⟨by simp only [go_sem,Nat.reduceEqDiff],zHg hE h2 (hB.mono hle1) (hh0.mono hle1) hn⟩) ?_
 rw [hv]
 simp only [e4,go_sem,Nat.reduceEqDiff,Nat.reduceBEq,Nat.reduceAdd]
 refine zE _ (by simp only [go_sem,Nat.reduceEqDiff]) (fun _=>⟨by simp only [go_sem,Nat.reduceEqDiff],yWM hE h5 hq⟩) ?_
 simp only [e1,e2,go_sem,Nat.reduceEqDiff,Nat.reduceBEq,Nat.reduceAdd,zC]
 refine zM (by simp only [go_sem,Nat.reduceEqDiff]) (yIc hE h2 h3 L (hB.mono hle1) (hB2.mono hle1) (hh0.mono hle1) hn (fun _=>hsz) (fun _=>hzo)) ?_
 rintro u H2 ⟨hle2,_,hp2⟩
 obtain⟨vo,dv,gv,fv,sv,rfl,hsl,hdat⟩:=hp2 hv
 have hel:=zDQ hzo (wB h).length (Nat.le_refl _)
 have hAl:=zCJ hzo (wB h).length (Nat.le_refl _)
 change ∀ e∈wI h,_ at hel
 change (wI h).length≤_ at hAl
 unfold zNc
 obtain⟨A,hAA⟩:∃ A,A=wI h:=⟨_,rfl⟩
 rw [← hAA] at hsl hdat hel hAl hrng ⊢
 have hAn:A.length≤14400:=by have:=hzo.num; omega
 obtain⟨oa,oc,rfl⟩:=zG.sl hsl
 simp only [bne,go_sem,Nat.reduceLT,Nat.reduceEqDiff,Nat.reduceBEq,Nat.reduceAdd,zC]
 intro m hm b10 hb10
 have nm10:m≠b10:=by rintro rfl; rw [Hp.put_same] at hb10; cases hb10
 simp only [Hp.put_same,go_sem]
 intro b11 hb11
 have nm11:m≠b11:=by rintro rfl; rw [Hp.put_ne _ _ nm10,Hp.put_same] at hb11; cases hb11
 have n1011:b10≠b11:=by rintro rfl; rw [Hp.put_same] at hb11; cases hb11
 obtain⟨H3,hH3⟩:∃ y,y=(((H2.put m (.obj (.map #[] 0))).put b10 (.row [.map (some m)] 1 true)).put b11 (.row [.slice none 0 0] 1 true)):=⟨_,rfl⟩
 have hle3 : H2.le H3 := by
  rw [hH3]
  refine((zJ hm _).trans (zJ hb10 _)).trans (zJ ?_ _)
  exact hb11
 have e11:H3 b11=some (.row [.slice none 0 0] 1 true):=by rw [hH3,Hp.put_same]
 have e10:H3 b10=some (.row [.map (some m)] 1 true):=by rw [hH3,Hp.put_ne _ _ n1011,Hp.put_same]
 have em:H3 m=some (.obj (.map #[] 0)):=by rw [hH3,Hp.put_ne _ _ nm11,Hp.put_ne _ _ nm10,Hp.put_same]
 rw [← hH3]
 refine zM (by simp only [go_sem,Nat.reduceEqDiff]) (yYF h5 oa A.length oc t) ?_
 rintro u H4 ⟨b2,b3,rfl,hle4,f2,f3,e2',e3'⟩
 have n2m:b2≠m:=by rintro rfl; rw [em] at f2; cases f2
 have n3m:b3≠m:=by rintro rfl; rw [em] at f3; cases f3
 have n211:b2≠b11:=by rintro rfl; rw [e11] at f2; cases f2
 have n311:b3≠b11:=by rintro rfl; rw [e11] at f3; cases f3
 have fm2:H2 m=none:=hm
 have f112 : H2 b11 = none := by
  rw [Hp.put_ne _ _ (Ne.symm n1011),Hp.put_ne _ _ (Ne.symm nm11)] at hb11; exact hb11
 obtain⟨G,hG⟩:∃ y,y=(H4.del m).del b11:=⟨_,rfl⟩
 have hG4:G.le H4:=by rw [hG]; exact(zRP _ _).trans (zRP _ _)
 have h2G:H2.le G:=by rw [hG]; exact zEO f112 (zEO fm2 (hle3.trans hle4))
 have gm:G m=none:=by rw [hG,Hp.del_ne _ nm11,Hp.del_same]
 have g11:G b11=none:=by rw [hG,Hp.del_same]
 have g2':G b2=some (.row [.slice oa A.length oc] 1 true):=by rw [hG,Hp.del_ne _ n211,Hp.del_ne _ n2m]; exact e2'
 have g3':G b3=some (.row [.int .i64 t] 1 true):=by rw [hG,Hp.del_ne _ n311,Hp.del_ne _ n3m]; exact e3'
 have g10:G b10=some (.row [.map (some m)] 1 true):=by rw [hG,Hp.del_ne _ n1011,Hp.del_ne _ (Ne.symm nm10)]; exact hle4 _ _ e10
 have g4:G b4=some (.row [S n,.int .i64 ty] 2 true):=h2G _ _ (hle2 _ _ e4)
 have hHG:H.le G:=(hle1.trans hle2).trans h2G
 have hslG:=hsl.mono h2G
 have hone:∀ i,i < A.length→yV (dv i)=true∧yV (gv i)=true∧yV (fv i)=true∧yV (sv i)=true:=fun i hi=>⟨zG.one (hdat i hi).1,zG.one (hdat i hi).2.1,zG.one (hdat i hi).2.2.1,zG.one (hdat i hi).2.2.2⟩
 have hul : ∀ i, i < A.length → (kO h.drift (A.getD i default).2.1 (yC (A.getD i default).2.2)).length ≤ 1000000 := fun i hi => by
  have h1:=jV ((yC (A.getD i default).2.2).map (jZ h.drift (A.getD i default).2.1))
  rw [List.length_map] at h1
  have h2:=jV (A.getD i default).2.2
  have h3:=(hel _ (yN hi)).num
  show(yC ((yC (A.getD i default).2.2).map (jZ h.drift (A.getD i default).2.1))).length≤_
  omega
 obtain⟨P,hP⟩:∃ P:Nat→Bool,P=fun i=>hasB (kO h.drift (A.getD i default).2.1 (yC (A.getD i default).2.2)) t:=⟨_,rfl⟩
 have hit:=yZY h5 (dv:=dv) (gv:=gv) (fv:=fv) (sv:=sv) P g2' g3' hslG (by omega) hone (fun H' hle i hi=>by rw [hP]; exact yXX h5 t ((hdat i hi).2.2.2.mono (h2G.trans hle)) (hul i hi))
 simp only [go_sem,Nat.reduceEqDiff,Nat.reduceBEq]
 refine zAM G (fun xs=>xs=(zDB P A.length).map fun i=>[zCG A dv gv fv sv i]) (fun pre H'=>yWv G m b11 h A t pre.length H') ?_ ?_ ?_ ?_ ?_ ?_ ?_ ?_
 ·simp only [go_sem,Nat.reduceEqDiff]
 ·simp only [go_sem,Nat.reduceEqDiff]; trivial
 ·simp only [go_sem,Nat.reduceEqDiff]; exact hit
 ·rintro xs rfl x hx
  obtain⟨i,_,rfl⟩:=List.mem_map.1 hx
  rfl
 ·exact⟨hG4,Nat.zero_le _,[],_,[],fun _=>undef,fun _=>undef,none,⟨_,_,hle4 _ _ em,rfl⟩,(fun e he=>by cases he),hle4 _ _ e11,⟨rfl,rfl⟩,(fun b hb=>by cases hb),Nat.le_refl _,(fun i hi=>by cases hi),(fun s hs=>by cases hs)⟩
 ·intro pre H' hI
  exact hI.1
 ·rintro pre x H' ⟨suf,hS⟩ ⟨hle,hpl,l,u,ss,d,g,ob,hM,hall,h11,hown,hob,hsl',hdd,hss⟩
  have hlenS:=congrArg List.length hS
  have hple : (zDB P A.length).length ≤ A.length := by
   have:((List.range A.length).filter P).length≤(List.range A.length).length:=List.length_filter_le _ _
   rw [List.length_range] at this; exact this
  simp only [List.length_append,List.length_cons,List.length_map] at hlenS
  have hxm:x∈(zDB P A.length).map fun i=>[zCG A dv gv fv sv i]:=by rw [← hS]; exact List.mem_append_right _ List.mem_cons_self
  obtain⟨i,hi,rfl⟩:=List.mem_map.1 hxm
  have hi':=List.mem_filter.1 hi
  have hil:i < A.length:=List.mem_range.1 hi'.1
  have hPi:hasB (kO h.drift (A.getD i default).2.1 (yC (A.getD i default).2.2)) t=true:=by rw [hP] at hi'; exact hi'.2
  obtain⟨p1,p2,p3,p4⟩:=hone i hil
  obtain⟨hd1,hg1,_,_⟩:=hdat i hil
  have hrs:=hrng i hil
  have j4:=hle _ _ g4
  have j10:=hle _ _ g10
  obtain⟨X,hX⟩:∃ X,X=A.getD i default:=⟨_,rfl⟩
  have hXl:∃ i,i < A.length∧X.2.1=(A.getD i default).2.1∧hasB (kO h.drift (A.getD i default).2.1 (yC (A.getD i default).2.2)) t=true:=⟨i,hil,by rw [hX],hPi⟩
  simp only [zCG]
  rw [← hX] at hd1 hg1 hrs ⊢
  obtain⟨ua,uc,rfl⟩:=hown.sl
  have hstay : yWv G m b11 h A t (pre ++ [[Value.agg #[S X.1, S X.2.1.name, .int .i64 X.2.1.type, .int .i64 X.2.1.life, dv i, gv i, fv i, sv i]]]).length H' :=
   ⟨hle,by simp only [List.length_append,List.length_cons,List.length_nil]; omega,l,_,ss,d,g,ob,hM,hall,h11,hown,hob,by simp only [List.length_append,List.length_cons,List.length_nil]; omega,hdd,hss⟩
  simp only [zVz,p1,p2,p3,p4,go_sem,Nat.reduceEqDiff,Nat.reduceBEq,Nat.reduceAdd]
  simp only [zQe,j4,bne,go_sem,Nat.reduceLeDiff,Nat.reduceEqDiff,Nat.reduceBEq,Nat.reduceAdd,zC]
  cases hc1:(X.2.1.name == n)
  ·simp only [go_sem]
   exact hstay
  cases hc2:(X.2.1.type == ty)
  ·simp only [go_sem]
   exact hstay
  simp only [go_sem]
  simp only [zSi,go_sem,Nat.reduceLeDiff,Nat.reduceEqDiff,Nat.reduceBEq,Nat.reduceAdd]
  have hdH:=xF.mono hd1 (h2G.trans hle)
  have hgH:=xL.mono hg1 (h2G.trans hle)
  refine zM (by simp only [go_sem,Nat.reduceEqDiff]) (Fn.same (yZn h3 h5 L (hB2.mono (hHG.trans hle)) hdH hgH hrs)) ?_
  rintro u H5 ⟨rfl,rfl⟩
  simp only [zPs,j10,go_sem,Nat.reduceEqDiff,Nat.reduceBEq]
  refine zAd (enc:=fun x=>S x) (encv:=fun b=>.bool b) (l:=l) (b:=m) (xK X.2.1) zEH trivial ?_ ?_ ?_ ?_ hM ?_
  ·simp only [go_sem,Nat.reduceEqDiff]
  ·simp only [go_sem,Nat.reduceEqDiff]
  ·simp only [go_sem,Nat.reduceEqDiff]
  ·simp only [go_sem,Nat.reduceEqDiff]
  obtain⟨T,hT⟩:∃ T,T=xK X.2.1:=⟨_,rfl⟩
  rw [← hT]
  cases hg:yI T l with
  | some q =>
   have hq:=hall _ (zAp hg)
   simp only at hq
   subst hq
   simp only [Option.map_some,go_sem,Nat.reduceEqDiff,Nat.reduceBEq]
   exact hstay
  | none =>
   simp only [Option.map_none,zOA,j10,go_sem,Nat.reduceEqDiff,Nat.reduceBEq]
   refine zBv (enc:=fun x=>S x) (encv:=fun b=>.bool b) (l:=l) (b:=m) T true zEH trivial ?_ ?_ ?_ ?_ ?_ ?_ hM ?_
   ·simp only [go_sem,Nat.reduceEqDiff]
   ·simp only [go_sem,Nat.reduceEqDiff]
   ·simp only [go_sem]
   ·simp only [go_sem,Nat.reduceEqDiff]
   ·simp only [go_sem,Nat.reduceEqDiff]
   ·simp only [go_sem]
   intro o' ho'
   have q1:G.le (H5.put m o'):=zH hle gm _
   have q2:(H5.put m o') b11=some (.row [.slice ua ss.length uc] 1 true):=by rw [Hp.put_ne _ _ (Ne.symm nm11)]; exact h11
   have q3:xX (H5.put m o') 5 (.slice ua ss.length uc) ss.length (xD ss d g) ob:=hown.keep fun b hb=>by rw [Hp.put_ne _ _ (hob b hb).2.2]
   have hM6:=ho' H5
   obtain⟨H6,hH6⟩:∃ y,y=H5.put m o':=⟨_,rfl⟩
   rw [← hH6] at q1 q2 q3 hM6
   simp only [go_sem,Nat.reduceEqDiff]
   rw [← hH6]
   simp only [zQi,q2,go_sem,Nat.reduceLeDiff,Nat.reduceEqDiff,Nat.reduceBEq,Nat.reduceAdd]
   intro bs hbs
   obtain⟨es,ck,em6,hes⟩:=hM6
   refine zAu (n:=ss.length) (row:=xD ss d g) (row':=xD (ss ++ [X.2.1]) (yX d ss.length (dv i)) (yX g ss.length (gv i))) (cells:=[S X.2.1.name,.int .i64 X.2.1.type,.int .i64 X.2.1.life,dv i,gv i]) ?_ ?_ ?_ ?_ (Hp.put_same ..) rfl ?_ (q3.put hbs) (fun _ _=>rfl) (fun j hj=>zSM ss _ d g _ _ j hj) (zOu ss _ d g _ _) (by omega) (by omega) ?_
   ·simp only [go_sem,Nat.reduceEqDiff]
   ·simp only [go_sem,Nat.reduceEqDiff]
   ·simp only [go_sem,Nat.reduceEqDiff]
   ·simp only [go_sem,Nat.reduceEqDiff]
   ·simp only [p1,p2,go_sem]
   intro v' H7 b' hO7 hkeep hnew
   obtain⟨va,vc,rfl⟩:=hO7.sl
   have k11:H7 b11=some (.row [.slice ua ss.length uc] 1 true):=hkeep b11 _ (zJ hbs _ _ _ q2) (fun e=>(hob b11 e.symm).2.1 rfl)
   have hb'G : G b' = none := by
    rcases hnew with e | e
    ·cases hx:G b' with
     | none=>rfl
     | some o=>rw [zJ hbs _ _ _ (q1 _ _ hx)] at e; cases e
    ·exact(hob b' e.symm).1
   have nb'11 : b' ≠ b11 := by
    rintro rfl
    rcases hnew with e | e
    ·rw [zJ hbs _ _ _ q2] at e; cases e
    ·exact(hob _ e.symm).2.1 rfl
   have nb'm : b' ≠ m := by
    rintro rfl
    rcases hnew with e | e
    ·rw [zJ hbs _ _ _ em6] at e; cases e
    ·exact(hob _ e.symm).2.2 rfl
   simp only [k11,go_sem,Nat.reduceEqDiff,Nat.reduceBEq]
   refine ⟨zH (fun c o hc => hkeep c o (zJ hbs _ _ _ (q1 _ _ hc)) (fun e => by rw [(hob c e.symm).1] at hc; cases hc)) g11 _, by simp only [List.length_append, List.length_cons, List.length_nil]; omega, xV T true l, _, ss ++ [X.2.1], yX d ss.length (dv i), yX g ss.length (gv i), some b',
    ⟨es,ck,by rw [Hp.put_ne _ _ nm11]; exact hkeep m _ (zJ hbs _ _ _ em6) (fun e=>(hob m e.symm).2.2 rfl),hes⟩,?_,Hp.put_same ..,?_,?_,by simp only [List.length_append,List.length_cons,List.length_nil]; omega,?_,?_⟩
   ·intro e he
    rcases qX he with rfl | he
    ·rfl
    ·exact hall e he
   ·rw [List.length_append]
    exact hO7.keep fun b hb=>by cases hb; exact Hp.put_ne _ _ nb'11
   ·intro b hb; cases hb; exact⟨hb'G,nb'11,nb'm⟩
   ·intro j hj
    by_cases e:j=ss.length
    ·subst e
     have:(ss ++ [X.2.1]).getD ss.length default=X.2.1:=by simp
     rw [this]
     simp only [yX,if_true]
     exact⟨xF.mono hd1 h2G,xL.mono hg1 h2G⟩
    ·have hj':j < ss.length:=by simp at hj; omega
     have:(ss ++ [X.2.1]).getD j default=ss.getD j default:=by simp [List.getElem?_append_left hj']
     rw [this]
     simp only [yX,if_neg e]
     exact hdd j hj'
   ·intro s hs
    rcases List.mem_append.1 hs with hs | hs
    ·exact hss s hs
    ·rw [List.mem_singleton.1 hs]; exact hXl
 ·rintro xs H' rfl ⟨hle,hnl,l,u,ss,d,g,ob,hM,hall,h11,hown,hob,hsn,hdd,hss⟩
  obtain⟨ua,uc,rfl⟩:=hown.sl
  simp only [h11,go_sem,Nat.reduceEqDiff,Nat.reduceBEq]
  exact⟨hHG.trans hle,_,ss,rfl,⟨d,g,xX.at hown (fun _ _=>rfl),fun i hi=>⟨xF.mono (hdd i hi).1 hle,xL.mono (hdd i hi).2 hle⟩⟩,by omega,hss⟩
end Go.SL
