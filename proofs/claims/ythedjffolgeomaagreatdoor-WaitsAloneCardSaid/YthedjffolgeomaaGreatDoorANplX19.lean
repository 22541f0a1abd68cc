/- Contracts: the reference's cuts. -/
import Derived.Test.YthedjffolgeomaaGreatDoorANplX18
namespace Go.SL
open Go
variable {E:Env} {H:Hp}
theorem zFk (L : List Bs) (x : Bs) (i : Nat) (hi : i < L.length) : rS (L ++ [x]) i = rS L i := by
 simp [rS,List.getElem?_append_left hi]
theorem zDT (L:List Bs) (x:Bs):rS (L ++ [x]) L.length = [S x]:=by simp [rS]
theorem zGE {H' H3 : Hp} {bs : Nat} {p : xI} {ob : Option Nat} (hle : H.le H') (hbs : H' bs = none) (hob : ∀ b, ob = some b → H b = none) (hkeep : ∀ c o, (H'.put bs p) c = some o → some c ≠ ob → H3 c = some o) : H.le H3 :=
 fun c o hc=>hkeep c o (zJ hbs _ _ _ (hle _ _ hc)) (fun e=>by rw [hob c e.symm] at hc; cases hc)
theorem zEU {H' : Hp} {bs b' : Nat} {p : xI} {ob : Option Nat} (hle : H.le H') (hbs : H' bs = none) (hob : ∀ b, ob = some b → H b = none) (h : (H'.put bs p) b' = none ∨ some b' = ob) : ∀ b, some b' = some b → H b = none := by
 intro b2 e
 cases e
 rcases h with h | h
 ·cases hq:H b' with
  | none=>rfl
  | some o=>rw [zJ hbs _ _ _ (hle _ _ hq)] at h; cases h
 ·exact hob b' h.symm
def zCo (H:Hp) (v:Value) (l:List Bs) (ob:Option Nat):Prop:=xX H 1 v l.length (rS l) ob
theorem zCo.at {v:Value} {l:List Bs} {ob:Option Nat} (h:zCo H v l ob):zG H 1 v l.length (rS l):=xX.at h fun _ _=>rfl
theorem zCo.sl {v:Value} {l:List Bs} {ob:Option Nat} (h:zCo H v l ob):∃ a c,v = .slice a l.length c:=xX.sl h
def wP (apex : Bs) (ss : List zF) : Nat → List Bs
 | 0=>[]
 | k + 1=>if (sD ss k).type == 2 && !((sD ss k).name == apex) then wP apex ss k ++ [(sD ss k).name] else wP apex ss k
theorem zDj (apex : Bs) (ss : List zF) : ∀ k, (wP apex ss k).length ≤ k
 | 0=>Nat.le_refl _
 | k + 1 => by
  have ih:=zDj apex ss k
  simp only [wP]
  split
  ·simp; omega
  ·omega
def zDk (apex:Bs) (ss:List zF):List Bs:=wP apex ss ss.length
set_option maxHeartbeats 1000000 in
theorem yXP (h4 : xH E) (apex : Bs) {v : Value} {ss : List zF} (hss : xT H v ss) (hn : ss.length ≤ 1000000000) :
  Fn E.P (E.fn 214) [.agg #[S apex,v]] H (fun u H'=>∃ ob,zCo H' u (zDk apex ss) ob∧H.le H'∧∀ b,ob=some b→H b=none):=by
 obtain⟨d,g,⟨a,cap,rfl,hsp,hr⟩,hdeep⟩:=hss
 refine Fn.of_vks h4.c214 (by simp [zLG]) ?_
 simp only [zLG,yCd,yGd,zZM,zTB,yAr,zXO,yEJ,zWR,zYT]
 simp only [go_sem,Nat.reduceEqDiff,Nat.reduceBEq,reduceCtorEq]
 refine yK ss.length 0 (fun k fr' H' => ∃ u ob, fr' = [(1, ⟨true, .box [S apex, .slice a ss.length cap]⟩), (3, ⟨true, .val u⟩), (4, ⟨true, .val (.int .i64 k)⟩)] ∧
  zCo H' u (wP apex ss k) ob∧H.le H'∧∀ b,ob=some b→H b=none) (Nat.zero_le _) ⟨_,none,rfl,⟨rfl,rfl⟩,Hp.le.refl _,fun b h=>by cases h⟩ ?_
 rintro k fr' H' hk ⟨u,ob,rfl,hO,hle,hob⟩
 by_cases hlt:k < ss.length
 ·have hdl:decide ((k:Int) < (ss.length:Int))=true:=by simpa using hlt
  obtain⟨b,o,vs,c,wr,ha,hb,hi⟩:=hr (by omega)
  subst ha
  have hb1:=hle _ _ hb
  have hi1:=(hi k hlt).1
  have hi2:=jC (hi k hlt).2 0 4 (by omega)
  have hd1:=zG.one (hdeep k hlt).1
  have hsucc:wP apex ss (k + 1)=if (sD ss k).type == 2 && !((sD ss k).name == apex) then wP apex ss k ++ [(sD ss k).name] else wP apex ss k:=rfl
  have hlen:=zDj apex ss k
  obtain⟨s,hs⟩:∃ s,s=sD ss k:=⟨_,rfl⟩
  obtain⟨L,hL⟩:∃ L,L=wP apex ss k:=⟨_,rfl⟩
  have hs':ss.getD k default=s:=hs.symm
  rw [← hs,← hL] at hsucc
  rw [← hL] at hO hlen
  obtain⟨au,cu,hu⟩:=hO.sl
  simp only [xD,hs',List.drop_zero,List.take_succ_cons,List.take_zero,Nat.add_zero] at hi2
  simp only [hdl,hb1,hi2,hd1,go_sem,Nat.reduceLeDiff,Nat.reduceEqDiff,Nat.reduceBEq,Nat.reduceAdd,zC]
  refine⟨⟨by omega,by omega⟩,by omega,fun h=>⟨h,h⟩,fun hc=>?_,fun hc=>?_⟩
  ·rw [hc,if_pos rfl] at hsucc
   intro bs hbs
   refine zAu (n:=L.length) (row:=rS L) (row':=rS (L ++ [s.name])) (cells:=[S s.name]) ?_ ?_ ?_ ?_ (Hp.put_same ..) rfl rfl (xX.put hO hbs) (fun _ _=>rfl) (zFk L _) (zDT L _) (by omega) (by omega) ?_
   ·simp only [go_sem,Nat.reduceEqDiff]
   ·simp only [go_sem,Nat.reduceEqDiff]
   ·simp only [go_sem,Nat.reduceEqDiff]
   ·simp only [go_sem,Nat.reduceEqDiff]
   intro v' H3 b' hO3 hkeep hb'
   simp only [go_sem,Nat.reduceEqDiff,Nat.reduceBEq,zC]
   refine⟨hlt,v',some b',⟨rfl,zR (by omega)⟩,?_,zGE hle hbs hob hkeep,zEU hle hbs hob hb'⟩
   rw [hsucc]
   show xX _ _ _ (L ++ [s.name]).length _ _
   rw [List.length_append]; exact hO3
  ·rw [hc] at hsucc
   exact⟨hlt,u,ob,⟨rfl,zR (by omega)⟩,by rw [hsucc]; exact hO,hle,hob⟩
 ·have hdl:decide ((k:Int) < (ss.length:Int))=false:=by simpa using hlt
  have:k=ss.length:=by omega
  subst this
  simp only [hdl,go_sem,Nat.reduceEqDiff,Nat.reduceBEq,Nat.reduceAdd,zC]
  exact⟨ob,hO,hle,hob⟩
def wA (C : List Bs) : Nat → List Bs
 | 0=>[]
 | k + 1=>if (wA C k).length == 0 || !rIn (C.getD k []) ((wA C k).getD ((wA C k).length - 1) []) then wA C k ++ [C.getD k []] else wA C k
theorem zGr (C : List Bs) : ∀ k, (wA C k).length ≤ k
 | 0=>Nat.le_refl _
 | k + 1 => by
  have ih:=zGr C k
  simp only [wA]
  split
  ·simp; omega
  ·omega
theorem zGW (C : List Bs) : ∀ k, k ≤ C.length → ∀ x ∈ wA C k, x ∈ C
 | 0,_,x,h=>by simp [wA] at h
 | k + 1, hk, x, h => by
  have ih:=zGW C k (by omega)
  have hm:C.getD k []∈C:=by rw [List.getD_eq_getElem?_getD,List.getElem?_eq_getElem (by omega)]; exact List.getElem_mem _
  simp only [wA] at h
  split at h
  ·rcases List.mem_append.1 h with h | h
   ·exact ih x h
   ·simp at h; subst h; exact hm
  ·exact ih x h
def wU (apex:Bs) (ss:List zF):List Bs:=wA (zDk apex ss) (zDk apex ss).length
theorem zDD {apex : Bs} {ss : List zF} (hz : SzS ss) : ∀ k, k ≤ ss.length → ∀ x ∈ wP apex ss k, x.length ≤ 1000000
 | 0,_,x,h=>by simp [wP] at h
 | k + 1, hk, x, h => by
  have ih:=zDD (apex:=apex) hz k (by omega)
  simp only [wP] at h
  split at h
  ·rcases List.mem_append.1 h with h | h
   ·exact ih x h
   ·simp only [List.mem_singleton] at h; subst h; exact hz.at (by omega)
  ·exact ih x h
theorem jG {l : List Bs} {k : Nat} (h : k < l.length) : l.getD k [] ∈ l := by
 rw [List.getD_eq_getElem?_getD,List.getElem?_eq_getElem h]; exact List.getElem_mem _
set_option maxHeartbeats 1000000 in
theorem yXB (h4 : xH E) (apex : Bs) {v : Value} {ss : List zF} (hss : xT H v ss) (hn : ss.length ≤ 1000000000) (hz : SzS ss) :
  Fn E.P (E.fn 213) [.agg #[S apex,v]] H (fun u H'=>∃ ob,zCo H' u (wU apex ss) ob∧H.le H'∧∀ b,ob=some b→H b=none):=by
 have hcut:=yXP h4 apex hss hn
 obtain⟨d,g,⟨a,cap,rfl,hsp,hr⟩,hdeep⟩:=hss
 refine Fn.of_vks h4.c213 (by simp [zMo]) ?_
 simp only [zMo,yEE,yCm,zZp,zVM,yBB,zSW,zXa,yDx,yCN]
 simp only [go_sem,Nat.reduceBEq,Nat.reduceAdd,reduceCtorEq]
 refine zM ?_ hcut ?_
 ·simp only [go_sem,Nat.reduceEqDiff]
 rintro w H1 ⟨ob1,hO1,hle1,hob1⟩
 have hC:=hO1.at
 obtain⟨a1,c1,rfl⟩:=hO1.sl
 unfold wU
 have hCs:=zDD (apex:=apex) hz ss.length (Nat.le_refl _)
 have hCl:=zDj apex ss ss.length
 obtain⟨C,hCC⟩:∃ C,C=zDk apex ss:=⟨_,rfl⟩
 change ∀ x∈zDk apex ss,_ at hCs
 change (zDk apex ss).length≤_ at hCl
 rw [← hCC] at hC hCs hCl ⊢
 simp only [go_sem,Nat.reduceEqDiff,Nat.reduceBEq]
 refine yK C.length 0 (fun k fr' H' => ∃ u ob, fr' = [(3, ⟨true, .val (.slice a1 C.length c1)⟩), (4, ⟨true, .val u⟩), (5, ⟨true, .val (.int .i64 k)⟩)] ∧
  zCo H' u (wA C k) ob∧H1.le H'∧∀ b,ob=some b→H1 b=none) (Nat.zero_le _) ⟨_,none,rfl,⟨rfl,rfl⟩,Hp.le.refl _,fun b h=>by cases h⟩ ?_
 rintro k fr' H' hk ⟨u,ob,rfl,hO,hle,hob⟩
 by_cases hlt:k < C.length
 ·have hdl:decide ((k:Int) < (C.length:Int))=true:=by simpa using hlt
  have hsucc:wA C (k + 1)=if (wA C k).length == 0 || !rIn (C.getD k []) ((wA C k).getD ((wA C k).length - 1) []) then wA C k ++ [C.getD k []] else wA C k:=rfl
  have hlen:=zGr C k
  have hmem:=zGW C k hk
  obtain⟨L,hL⟩:∃ L,L=wA C k:=⟨_,rfl⟩
  rw [← hL] at hsucc hO hlen hmem
  have hat:=hO.at
  obtain⟨au,cu,rfl⟩:=hO.sl
  obtain⟨b,o,c,cap2,vs,wr,hsl,hb,hv,hvl⟩:=(hC.mono hle).str hlt
  cases hsl
  have hg:=zK (j:=0) hv (by omega)
  rw [Nat.mul_one,Nat.add_zero,List.getD_cons_zero] at hg
  rw [Nat.mul_one] at hvl
  have hxs:=hCs _ (jG hlt)
  obtain⟨x,hx⟩:∃ x,x=C.getD k []:=⟨_,rfl⟩
  rw [← hx] at hsucc hg hxs
  by_cases h0:L.length=0
  ·have e0:((L.length:Int) == 0)=true:=by rw [beq_iff_eq]; omega
   have e0':(L.length == 0)=true:=by simpa using h0
   rw [e0',Bool.true_or,if_pos rfl] at hsucc
   simp only [hdl,e0,↓vH,↓vU,go_sem,Nat.reduceEqDiff,Nat.reduceBEq,zC]
   refine xM (.bool false) (by simp only [go_sem,Nat.reduceEqDiff]) (fun hg=>by simp only [go_sem,Nat.reduceEqDiff] at hg) ?_ ?_
   ·simp only [e0,↓vH,↓vU,go_sem,Nat.reduceEqDiff,Nat.reduceBEq,zC]
   simp only [hb,hg,Nat.mul_one,↓yQ,go_sem,Nat.reduceEqDiff,Nat.reduceBEq,zC]
   refine⟨⟨by omega,by omega⟩,by omega,?_⟩
   intro bs hbs
   refine zAu (n:=L.length) (row:=rS L) (row':=rS (L ++ [x])) (cells:=[S x]) ?_ ?_ ?_ ?_ (Hp.put_same ..) rfl rfl (xX.put hO hbs) (fun _ _=>rfl) (zFk L _) (zDT L _) (by omega) (by omega) ?_
   ·simp only [go_sem,Nat.reduceEqDiff]
   ·simp only [go_sem,Nat.reduceEqDiff]
   ·simp only [go_sem,Nat.reduceEqDiff]
   ·simp only [go_sem,Nat.reduceEqDiff]
   intro v' H3 b' hO3 hkeep hb'
   simp only [go_sem,Nat.reduceEqDiff,Nat.reduceBEq,zC]
   refine⟨hlt,v',some b',⟨rfl,zR (by omega)⟩,?_,zGE hle hbs hob hkeep,zEU hle hbs hob hb'⟩
   rw [hsucc]
   show xX _ _ _ (L ++ [x]).length _ _
   rw [List.length_append]; exact hO3
  ·have e0:((L.length:Int) == 0)=false:=by rw [beq_eq_false_iff_ne]; omega
   have e0':(L.length == 0)=false:=by simpa using h0
   have e1:IntKind.i64.wrap ((L.length:Int) - 1)=((L.length - 1:Nat):Int):=by rw [yZ]<;>omega
   obtain⟨b2,o2,c2,cap3,vs2,wr2,hsl2,hb2,hv2,hvl2⟩:=hat.str (k:=L.length - 1) (by omega)
   cases hsl2
   have hg2:=zK (j:=0) hv2 (by omega)
   rw [Nat.mul_one,Nat.add_zero,List.getD_cons_zero] at hg2
   rw [Nat.mul_one] at hvl2
   have hys:=hCs _ (hmem _ (jG (l:=L) (k:=L.length - 1) (by omega)))
   obtain⟨y,hy⟩:∃ y,y=L.getD (L.length - 1) []:=⟨_,rfl⟩
   rw [← hy] at hsucc hg2 hys
   rw [e0',Bool.false_or] at hsucc
   simp only [hdl,e0,e1,toNat_ofNat',hb,hg,hb2,hg2,Nat.mul_one,go_sem,Nat.reduceEqDiff,Nat.reduceBEq,zC]
   refine⟨⟨by omega,by omega⟩,by omega,⟨by omega,by omega⟩,by omega,?_⟩
   refine xM _ (by simp only [go_sem,Nat.reduceEqDiff]) (fun _=>⟨by simp only [go_sem,Nat.reduceEqDiff],yHA h4 x y hxs hys⟩) ?_ ?_
   ·simp only [e0,e1,toNat_ofNat',hb,hg,hb2,hg2,Nat.mul_one,go_sem,Nat.reduceEqDiff,Nat.reduceBEq,zC]
   cases hq:rIn x y
   ·rw [hq,Bool.not_false,if_pos rfl] at hsucc
    simp only [toNat_ofNat',hb,hg,Nat.mul_one,go_sem,Nat.reduceEqDiff,Nat.reduceBEq,zC]
    refine⟨⟨by omega,by omega⟩,by omega,?_⟩
    intro bs hbs
    refine zAu (n:=L.length) (row:=rS L) (row':=rS (L ++ [x])) (cells:=[S x]) ?_ ?_ ?_ ?_ (Hp.put_same ..) rfl rfl (xX.put hO hbs) (fun _ _=>rfl) (zFk L _) (zDT L _) (by omega) (by omega) ?_
    ·simp only [go_sem,Nat.reduceEqDiff]
    ·simp only [go_sem,Nat.reduceEqDiff]
    ·simp only [go_sem,Nat.reduceEqDiff]
    ·simp only [go_sem,Nat.reduceEqDiff]
    intro v' H3 b' hO3 hkeep hb'
    simp only [go_sem,Nat.reduceEqDiff,Nat.reduceBEq,zC]
    refine⟨hlt,v',some b',⟨rfl,zR (by omega)⟩,?_,zGE hle hbs hob hkeep,zEU hle hbs hob hb'⟩
    rw [hsucc]
    show xX _ _ _ (L ++ [x]).length _ _
    rw [List.length_append]; exact hO3
   ·rw [hq] at hsucc
    simp only [toNat_ofNat',hb,hg,Nat.mul_one,go_sem,Nat.reduceEqDiff,Nat.reduceBEq,zC]
    exact⟨hlt,_,ob,⟨rfl,zR (by omega)⟩,by rw [hsucc]; exact hO,hle,hob⟩
 ·have hdl:decide ((k:Int) < (C.length:Int))=false:=by simpa using hlt
  have:k=C.length:=by omega
  subst this
  simp only [hdl,go_sem,Nat.reduceEqDiff,Nat.reduceBEq,zC]
  refine⟨ob,hO,hle1.trans hle,fun b hb=>?_⟩
  have:=hob b hb
  cases hq:H b with
  | none=>rfl
  | some o=>rw [hle1 _ _ hq] at this; cases this
end Go.SL
/- Contracts: the reference: behind which cut a set is; own sets. -/
namespace Go.SL
open Go
variable {E:Env} {H:Hp}
section
variable {fr:Fr} {Q:X→Fr→Hp→Prop} {k:List Item}
theorem zFM {id : Nat} {c : vM} (R : Fr → Hp → Prop) (ha : zS E (.code c :: .blk id :: .goal R :: k) fr H Q) (hb : ∀ fr' H', R fr' H' → zS E k fr' H' Q) :
  zS E (.code c :: .blk id :: k) fr H Q:=by
 simp only [zS] at ha ⊢
 refine qQ (fun e fr H h=>?_) ha
 cases e with
 | nrm=>exact hb _ _ h
 | exit i =>
  simp only [uU] at h ⊢
  split
  ·rename_i he
   rw [if_pos he] at h
   simp only [zS] at h
   exact hb _ _ h
  ·rename_i he
   rw [if_neg he] at h
   exact h
 | ret=>simpa [uU] using h
end
theorem zQs (z : Value) (n : Nat) : rep [z] n = flat n (fun _ => [z]) := by
 apply List.ext_getElem?
 intro i
 rw [zGv]
 have h : flat n (fun _ => [z]) = List.replicate n z := by
  induction n with
  | zero=>rfl
  | succ n ih=>rw [vT,ih,List.replicate_succ']
 rw [h,List.getElem?_replicate]
def jO (C : List Bs) (nm : Bs) : Nat → Nat → Nat
 | 0,k=>k
 | r + 1,k=>if uL (C.getD k []) nm≤0 then jO C nm r (k + 1) else k
theorem zSf (C : List Bs) (nm : Bs) : ∀ r k, k ≤ jO C nm r k ∧ jO C nm r k ≤ k + r
 | 0,k=>⟨Nat.le_refl _,Nat.le_refl _⟩
 | r + 1, k => by
  have ih:=zSf C nm r (k + 1)
  simp only [jO]
  split<;>omega
def uF (C : List Bs) (ss : List zF) : Nat → Nat
 | 0=>0
 | i + 1=>jO C (sD ss i).name (C.length - uF C ss i) (uF C ss i)
theorem zDI (C : List Bs) (ss : List zF) : ∀ i, uF C ss i ≤ C.length
 | 0=>Nat.zero_le _
 | i + 1 => by
  have h1:=zDI C ss i
  have h2:=zSf C (sD ss i).name (C.length - uF C ss i) (uF C ss i)
  simp only [uF]; omega
def zHs (C:List Bs) (ss:List zF) (i:Nat):Bs:=if !(uF C ss (i + 1) == 0) && rIn (sD ss i).name (C.getD (uF C ss (i + 1) - 1) []) then C.getD (uF C ss (i + 1) - 1) [] else []
def vY (apex:Bs) (ss:List zF):List Bs:=(List.range ss.length).map (zHs (wU apex ss) ss)
def qS (f:Nat→Bs) (k i:Nat):List Value:=[S (if i < k then f i else [])]
theorem zNR (f : Nat → Bs) {n k : Nat} (hk : k < n) : (flat n (qS f k)).take k ++ [S (f k)] ++ (flat n (qS f k)).drop (k + 1) = flat n (qS f (k + 1)) := by
 have h:=zAQ (n:=n) (sz:=1) (row:=qS f k) (fun _ _=>rfl) (i:=k) (j:=0) hk (by omega) (S (f k))
 rw [Nat.mul_one,Nat.add_zero] at h
 rw [h]
 apply xW
 intro i _
 by_cases e:i=k
 ·subst e; simp [qS]
 ·rw [if_neg e]
  unfold qS
  by_cases h1:i < k
  ·rw [if_pos h1,if_pos (by omega)]
  ·rw [if_neg h1,if_neg (by omega)]
theorem zGf (f : Nat → Bs) {n k : Nat} (h : f k = []) : flat n (qS f k) = flat n (qS f (k + 1)) := by
 apply xW
 intro i _
 unfold qS
 by_cases h1:i < k
 ·rw [if_pos h1,if_pos (by omega)]
 ·by_cases h2:i=k
  ·subst h2; rw [if_neg h1,if_pos (by omega),h]
  ·rw [if_neg h1,if_neg (by omega)]
theorem zSD {apex:Bs} {ss:List zF} (hz:SzS ss):∀ x∈wU apex ss,x.length≤1000000:=fun x h=>zDD hz ss.length (Nat.le_refl _) x (zGW _ _ (Nat.le_refl _) x h)
theorem yJc (apex:Bs) (ss:List zF):(wU apex ss).length≤ss.length:=Nat.le_trans (zGr _ _) (zDj apex ss ss.length)
set_option maxHeartbeats 2000000 in
theorem yTy (h4 : xH E) (apex : Bs) {v : Value} {ss : List zF} (hss : xT H v ss) (hn : ss.length ≤ 1000000000) (hz : SzS ss) :
  Fn E.P (E.fn 210) [.agg #[S apex,v]] H (fun u H'=>zG H' 1 u (vY apex ss).length (rS (vY apex ss))∧H.le H'):=by
 have hcut:=yXB h4 apex hss hn hz
 obtain⟨d,g,⟨a,cap,rfl,hsp,hr⟩,hdeep⟩:=hss
 refine Fn.of_vks h4.c210 (by simp [zLL]) ?_
 simp only [zLL,zUm,yEW,zYM,yDb,zWM,yEA,zVN,zUk,zYx,zRN,zOZ,yFM,zOg]
 simp only [go_sem,Nat.reduceBEq,Nat.reduceAdd,reduceCtorEq]
 refine zM ?_ hcut ?_
 ·simp only [go_sem,Nat.reduceEqDiff]
 rintro w H1 ⟨ob1,hO1,hle1,hob1⟩
 have hC:=hO1.at
 obtain⟨a1,c1,rfl⟩:=hO1.sl
 have hCs:=zSD (apex:=apex) hz
 have hCl:=yJc apex ss
 unfold vY
 obtain⟨C,hCC⟩:∃ C,C=wU apex ss:=⟨_,rfl⟩
 rw [← hCC] at hC hCs hCl ⊢
 have emk1:(16:Int) * (ss.length:Int)≤140737488355328:=by omega
 have emk2:(ss.length:Int)≤4611686018427387904:=by omega
 have emk3:(0:Int)≤(ss.length:Int):=by omega
 simp only [emk2,emk3,toNat_ofNat',go_sem,Nat.reduceEqDiff,Nat.reduceBEq,Nat.reduceAdd]
 refine⟨by omega,by omega,?_⟩
 intro b4 hb4
 have hb4' : H b4 = none := by
  cases hq:H b4 with
  | none=>rfl
  | some o=>rw [hle1 _ _ hq] at hb4; cases hb4
 obtain⟨f,hf⟩:∃ f,f=zHs C ss:=⟨_,rfl⟩
 refine yK ss.length 0 (fun k fr' H' => fr' = [(1, ⟨true, .box [S apex, .slice a ss.length cap]⟩), (3, ⟨true, .val (.slice a1 C.length c1)⟩), (4, ⟨true, .val (.slice (some ⟨b4, 0, none⟩) ss.length ss.length)⟩), (5, ⟨true, .val (.int .i64 (uF C ss k))⟩), (6, ⟨true, .val (.int .i64 k)⟩)] ∧
  H'=H1.put b4 (.row (flat ss.length (qS f k)) ss.length true)) (Nat.zero_le _) ⟨rfl,?_⟩ ?_
 ·rw [zQs,Nat.mul_one]
  rfl
 rintro k fr' H' hk ⟨rfl,hH'⟩
 have hle:H1.le H':=by rw [hH']; exact zJ hb4 _
 by_cases hlt:k < ss.length
 ·have hdl:decide ((k:Int) < (ss.length:Int))=true:=by simpa using hlt
  obtain⟨b,o,vs,c,wr,ha,hb,hi⟩:=hr (by omega)
  subst ha
  have hb1:=hle _ _ (hle1 _ _ hb)
  have hi1:=(hi k hlt).1
  have hi2:=zK (hi k hlt).2 (j:=0) (by omega)
  simp only [xD,List.getD_cons_zero,Nat.add_zero] at hi2
  have hsz:=hz.at hlt
  have hpl:=zDI C ss k
  have hps:uF C ss (k + 1)=jO C (sD ss k).name (C.length - uF C ss k) (uF C ss k):=rfl
  have hpl1:=zDI C ss (k + 1)
  have hbe:zHs C ss k=if !(uF C ss (k + 1) == 0) && rIn (sD ss k).name (C.getD (uF C ss (k + 1) - 1) []) then C.getD (uF C ss (k + 1) - 1) [] else []:=rfl
  obtain⟨nm,hnm⟩:∃ nm,nm=(sD ss k).name:=⟨_,rfl⟩
  have hnm':(ss.getD k default).name=nm:=hnm.symm
  rw [← hnm] at hsz hps hbe
  rw [hnm'] at hi2
  obtain⟨p0,hp0⟩:∃ p,p=uF C ss k:=⟨_,rfl⟩
  obtain⟨p1,hp1⟩:∃ p,p=uF C ss (k + 1):=⟨_,rfl⟩
  rw [← hp0] at hpl hps
  rw [← hp1] at hps hpl1 hbe
  rw [← hp0]
  simp only [hdl,hb1,hi2,go_sem,Nat.reduceEqDiff,Nat.reduceBEq,Nat.reduceAdd,zC]
  refine⟨⟨by omega,by omega⟩,by omega,?_⟩
  refine zFM (fun fr'' H''=>fr'' = [(1,⟨true,.box [S apex,.slice (some ⟨b,o,none⟩) ss.length cap]⟩),(3,⟨true,.val (.slice a1 C.length c1)⟩),(4,⟨true,.val (.slice (some ⟨b4,0,none⟩) ss.length ss.length)⟩),(5,⟨true,.val (.int .i64 p1)⟩),(6,⟨true,.val (.int .i64 k)⟩),(7,⟨true,.val (S nm)⟩),(40,⟨true,.val (.bool false)⟩)]∧H''=H') ?_ ?_
  ·refine zT C.length p0 (fun j=>[(1,⟨true,.box [S apex,.slice (some ⟨b,o,none⟩) ss.length cap]⟩),(3,⟨true,.val (.slice a1 C.length c1)⟩),(4,⟨true,.val (.slice (some ⟨b4,0,none⟩) ss.length ss.length)⟩),(5,⟨true,.val (.int .i64 j)⟩),(6,⟨true,.val (.int .i64 k)⟩),(7,⟨true,.val (S nm)⟩)]) (fun j=>p1=jO C nm (C.length - j) j) hpl rfl hps ?_
   intro j hj hPj
   by_cases hlj:j < C.length
   ·have hdj:decide ((j:Int) < (C.length:Int))=true:=by simpa using hlj
    obtain⟨b2,o2,c2,cap2,vs2,wr2,hsl,hb2,hv,hvl⟩:=(hC.mono hle).str hlj
    cases hsl
    have hg:=zK (j:=0) hv (by omega)
    rw [Nat.mul_one,Nat.add_zero,List.getD_cons_zero] at hg
    rw [Nat.mul_one] at hvl
    have hxs:=hCs _ (jG hlj)
    obtain⟨r,hr'⟩:∃ r,C.length - j=r + 1:=⟨C.length - j - 1,by omega⟩
    have hr2:C.length - (j + 1)=r:=by omega
    have hgo:jO C nm (r + 1) j=if uL (C.getD j []) nm≤0 then jO C nm r (j + 1) else j:=rfl
    rw [hr',hgo] at hPj
    obtain⟨x,hx⟩:∃ x,x=C.getD j []:=⟨_,rfl⟩
    rw [← hx] at hg hxs hPj
    simp only [hdj,hb2,hg,Nat.mul_one,go_sem,Nat.reduceEqDiff,Nat.reduceBEq,zC]
    refine⟨⟨by omega,by omega⟩,by omega,?_⟩
    refine zE _ (by simp only [go_sem,Nat.reduceEqDiff]) (fun _=>⟨by simp only [go_sem,Nat.reduceEqDiff],yHX h4 x nm hxs hsz⟩) ?_
    by_cases hq:uL x nm≤0
    ·have hqd:decide (uL x nm≤0)=true:=by rw [decide_eq_true_eq]; exact hq
     rw [if_pos hq] at hPj
     simp only [hqd,go_sem,Nat.reduceEqDiff,Nat.reduceBEq,reduceCtorEq,zC]
     exact⟨hlj,zR (by omega),by rw [hr2]; exact hPj⟩
    ·have hqd:decide (uL x nm≤0)=false:=by rw [decide_eq_false_iff_not]; exact hq
     rw [if_neg hq] at hPj
     simp only [hqd,hPj,go_sem,Nat.reduceEqDiff,Nat.reduceBEq,reduceCtorEq,zC]
   ·have hdj:decide ((j:Int) < (C.length:Int))=false:=by simpa using hlj
    have:j=C.length:=by omega
    subst this
    rw [Nat.sub_self] at hPj
    simp only [jO] at hPj
    simp only [hdj,↓vH,↓vU,go_sem,Nat.reduceEqDiff,Nat.reduceBEq,zC]
    refine zE (.int .i64 0) (by simp only [go_sem,Nat.reduceEqDiff]) (fun hg=>by simp only [go_sem,Nat.reduceEqDiff] at hg) ?_
    simp only [hPj,↓yA,go_sem,Nat.reduceEqDiff,Nat.reduceBEq,reduceCtorEq,Int.reduceLE,zC,zIk]
  ·rintro fr'' H'' ⟨rfl,rfl⟩
   by_cases h0:p1=0
   ·have e0:decide ((p1:Int) > 0)=false:=by rw [decide_eq_false_iff_not]; omega
    have e0':(p1 == 0)=true:=by simpa using h0
    rw [e0',Bool.not_true,Bool.false_and,if_neg (by simp)] at hbe
    simp only [e0,↓vH,↓vU,go_sem,Nat.reduceEqDiff,Nat.reduceBEq,zC]
    refine zE (.bool false) (by simp only [go_sem,Nat.reduceEqDiff]) (fun hg=>by simp only [go_sem,Nat.reduceEqDiff] at hg) ?_
    simp only [↓yA,go_sem,Nat.reduceEqDiff,Nat.reduceBEq,zC]
    refine⟨hlt,⟨hp1 ▸ rfl,zR (by omega)⟩,?_⟩
    rw [hH',zGf f (by rw [hf]; exact hbe)]
   ·have e0:decide ((p1:Int) > 0)=true:=by rw [decide_eq_true_eq]; omega
    have e0':(p1 == 0)=false:=by simpa using h0
    have e1:IntKind.i64.wrap ((p1:Int) - 1)=((p1 - 1:Nat):Int):=by rw [yZ]<;>omega
    obtain⟨b2,o2,c2,cap2,vs2,wr2,hsl,hb2,hv,hvl⟩:=(hC.mono hle).str (k:=p1 - 1) (by omega)
    cases hsl
    have hg:=zK (j:=0) hv (by omega)
    rw [Nat.mul_one,Nat.add_zero,List.getD_cons_zero] at hg
    rw [Nat.mul_one] at hvl
    have hxs:=hCs _ (jG (l:=C) (k:=p1 - 1) (by omega))
    obtain⟨x,hx⟩:∃ x,x=C.getD (p1 - 1) []:=⟨_,rfl⟩
    rw [e0',Bool.not_false,Bool.true_and] at hbe
    rw [← hx] at hg hxs hbe
    simp only [e0,e1,toNat_ofNat',hb2,hg,Nat.mul_one,go_sem,Nat.reduceEqDiff,Nat.reduceBEq,zC]
    refine⟨⟨by omega,by omega⟩,by omega,?_⟩
    refine zE _ (by simp only [go_sem,Nat.reduceEqDiff]) (fun _=>⟨by simp only [go_sem,Nat.reduceEqDiff],yHA h4 nm x hsz hxs⟩) ?_
    cases hq:rIn nm x
    ·rw [hq,if_neg (by simp)] at hbe
     simp only [go_sem,Nat.reduceEqDiff,Nat.reduceBEq,zC]
     refine⟨hlt,⟨hp1 ▸ rfl,zR (by omega)⟩,?_⟩
     rw [hH',zGf f (by rw [hf]; exact hbe)]
    ·rw [hq,if_pos rfl] at hbe
     have hfk:f k=x:=by rw [hf]; exact hbe
     have hH4:H'' b4=some (.row (flat ss.length (qS f k)) ss.length true):=by rw [hH',Hp.put_same]
     have hstep:=zNR f hlt
     rw [hfk] at hstep
     have hfl:=xS (n:=ss.length) (sz:=1) (row:=qS f k) (fun _ _=>rfl)
     have hst2:k + 1≤(flat ss.length (qS f k)).length:=by rw [hfl]; omega
     simp only [e1,toNat_ofNat',hb2,hg,hH4,hstep,hst2,Nat.mul_one,go_sem,Nat.reduceEqDiff,Nat.reduceBEq,zC]
     refine⟨⟨by omega,by omega⟩,by omega,⟨by omega,by omega⟩,hlt,⟨hp1 ▸ rfl,zR (by omega)⟩,?_⟩
     rw [hH',zHl]
 ·have hdl:decide ((k:Int) < (ss.length:Int))=false:=by simpa using hlt
  have:k=ss.length:=by omega
  subst this
  simp only [hdl,go_sem,Nat.reduceEqDiff,Nat.reduceBEq,Nat.reduceAdd,zC]
  refine⟨?_,hle1.trans hle⟩
  rw [← hf]
  have hlen:((List.range ss.length).map f).length=ss.length:=by simp
  rw [hlen]
  refine zG.ofRow (c:=ss.length) (wr:=true) (fun _ _=>rfl) ?_
  rw [hH',Hp.put_same]
  congr 2
  apply xW
  intro i hi
  unfold qS rS
  rw [if_pos hi]
  simp [hi]
theorem zHy (apex:Bs) (ss:List zF):(vY apex ss).length=ss.length:=by simp [vY]
def zJp (B:List Bs) (ss:List zF) (i:Nat):Bool:=B.getD i [] == [] || ((sD ss i).type != 2 && (sD ss i).type != 1)
def zFX (apex:Bs) (ss:List zF):List Bool:=(List.range ss.length).map (zJp (vY apex ss) ss)
def ownRow (f:Nat→Bool) (k i:Nat):List Value:=[.bool (if i < k then f i else false)]
theorem zSN (f : Nat → Bool) {n k : Nat} (hk : k < n) : (flat n (ownRow f k)).take k ++ [.bool (f k)] ++ (flat n (ownRow f k)).drop (k + 1) = flat n (ownRow f (k + 1)) := by
 have h:=zAQ (n:=n) (sz:=1) (row:=ownRow f k) (fun _ _=>rfl) (i:=k) (j:=0) hk (by omega) (.bool (f k))
 rw [Nat.mul_one,Nat.add_zero] at h
 rw [h]
 apply xW
 intro i _
 by_cases e:i=k
 ·subst e; simp [ownRow]
 ·rw [if_neg e]
  unfold ownRow
  by_cases h1:i < k
  ·rw [if_pos h1,if_pos (by omega)]
  ·rw [if_neg h1,if_neg (by omega)]
def rB (l:List Bool) (i:Nat):List Value:=[.bool (l.getD i false)]
set_option maxHeartbeats 2000000 in
theorem yZG (h4 : xH E) (apex : Bs) {v : Value} {ss : List zF} (hss : xT H v ss) (hn : ss.length ≤ 1000000000) (hz : SzS ss) :
  Fn E.P (E.fn 211) [.agg #[S apex,v]] H (fun u H'=>zG H' 1 u (zFX apex ss).length (rB (zFX apex ss))∧H.le H'):=by
 have hbeh:=yTy h4 apex hss hn hz
 obtain⟨d,g,⟨a,cap,rfl,hsp,hr⟩,hdeep⟩:=hss
 refine Fn.of_vks h4.c211 (by simp [zLR]) ?_
 simp only [zLR,zWN,zYm,zTg,yDz,zWe,zYW,zUZ,yFu,yAj]
 simp only [go_sem,Nat.reduceBEq,Nat.reduceAdd,reduceCtorEq]
 refine zM ?_ hbeh ?_
 ·simp only [go_sem,Nat.reduceEqDiff]
 rintro w H1 ⟨hC,hle1⟩
 have hBl:=zHy apex ss
 unfold zFX
 obtain⟨C,hCC⟩:∃ C,C=vY apex ss:=⟨_,rfl⟩
 rw [← hCC] at hC hBl ⊢
 obtain⟨a1,c1,rfl⟩:=hC.sl
 have emk1:(1:Int) * (ss.length:Int)≤140737488355328:=by omega
 have emk2:(ss.length:Int)≤4611686018427387904:=by omega
 have emk3:(0:Int)≤(ss.length:Int):=by omega
 simp only [emk2,emk3,toNat_ofNat',go_sem,Nat.reduceEqDiff,Nat.reduceBEq,Nat.reduceAdd]
 refine⟨by omega,by omega,?_⟩
 intro b4 hb4
 obtain⟨f,hf⟩:∃ f,f=zJp C ss:=⟨_,rfl⟩
 refine yK ss.length 0 (fun k fr' H' => fr' = [(1, ⟨true, .box [S apex, .slice a ss.length cap]⟩), (3, ⟨true, .val (.slice a1 C.length c1)⟩), (4, ⟨true, .val (.slice (some ⟨b4, 0, none⟩) ss.length ss.length)⟩), (5, ⟨true, .val (.int .i64 k)⟩)] ∧
  H'=H1.put b4 (.row (flat ss.length (ownRow f k)) ss.length true)) (Nat.zero_le _) ⟨rfl,?_⟩ ?_
 ·rw [zQs,Nat.mul_one]
  rfl
 rintro k fr' H' hk ⟨rfl,hH'⟩
 have hle:H1.le H':=by rw [hH']; exact zJ hb4 _
 by_cases hlt:k < ss.length
 ·have hdl:decide ((k:Int) < (ss.length:Int))=true:=by simpa using hlt
  obtain⟨b,o,vs,c,wr,ha,hb,hi⟩:=hr (by omega)
  subst ha
  have hb1:=hle _ _ (hle1 _ _ hb)
  have hi1:=(hi k hlt).1
  have hi2:=zK (hi k hlt).2 (j:=1) (by omega)
  simp only [xD,List.getD_cons_zero,List.getD_cons_succ] at hi2
  have hat:zJp C ss k=(C.getD k [] == [] || ((sD ss k).type != 2 && (sD ss k).type != 1)):=rfl
  obtain⟨t,ht⟩:∃ t,t=(sD ss k).type:=⟨_,rfl⟩
  have ht':(ss.getD k default).type=t:=ht.symm
  rw [← ht] at hat
  rw [ht'] at hi2
  obtain⟨b2,o2,c2,cap2,vs2,wr2,hsl,hb2,hv,hvl⟩:=(hC.mono hle).str (k:=k) (by omega)
  cases hsl
  have hg:=zK (j:=0) hv (by omega)
  rw [Nat.mul_one,Nat.add_zero,List.getD_cons_zero] at hg
  rw [Nat.mul_one] at hvl
  obtain⟨x,hx⟩:∃ x,x=C.getD k []:=⟨_,rfl⟩
  rw [← hx] at hg hat
  have hfk:f k=(x == [] || (t != 2 && t != 1)):=by rw [hf]; exact hat
  have hH4:H' b4=some (.row (flat ss.length (ownRow f k)) ss.length true):=by rw [hH',Hp.put_same]
  have hstep:=zSN f hlt
  rw [hfk] at hstep
  have hfl:=xS (n:=ss.length) (sz:=1) (row:=ownRow f k) (fun _ _=>rfl)
  have hst2:k + 1≤(flat ss.length (ownRow f k)).length:=by rw [hfl]; omega
  simp only [hdl,hb1,hi2,hb2,hg,hH4,hstep,hst2,Nat.mul_one,toNat_ofNat',go_sem,Nat.reduceEqDiff,Nat.reduceBEq,Nat.reduceAdd,zC]
  refine⟨⟨by omega,by omega⟩,by omega,⟨by omega,by omega⟩,by omega,fun h=>⟨h,fun h2=>by rw [h,h2]; rfl⟩,⟨by omega,by omega⟩,hlt,zR (by omega),?_⟩
  rw [hH',zHl]
 ·have hdl:decide ((k:Int) < (ss.length:Int))=false:=by simpa using hlt
  have:k=ss.length:=by omega
  subst this
  simp only [hdl,go_sem,Nat.reduceEqDiff,Nat.reduceBEq,Nat.reduceAdd,reduceCtorEq,zC]
  refine⟨?_,hle1.trans hle⟩
  rw [← hf]
  have hlen:((List.range ss.length).map f).length=ss.length:=by simp
  rw [hlen]
  refine zG.ofRow (c:=ss.length) (wr:=true) (fun _ _=>rfl) ?_
  rw [hH',Hp.put_same]
  congr 2
  apply xW
  intro i hi
  unfold ownRow rB
  rw [if_pos hi]
  simp [hi]
theorem ySK (apex:Bs) (ss:List zF):(zFX apex ss).length=ss.length:=by simp [zFX]
end Go.SL
/- Contracts: the reference's valid zones. -/
namespace Go.SL
open Go
variable {E:Env} {H:Hp}
def jR (ss : List zF) : Nat → Bs
 | 0=>[]
 | k + 1=>if (sD ss k).type == 3 then (sD ss k).name else jR ss k
def zEM (ss:List zF) (k:Nat):Bs:=if !(k == 0) && (sD ss (k - 1)).name == (sD ss k).name then (sD ss k).name else []
def zBd (al last:Bs) (t:Int):Bool:=last != [] && t == 3 || last != [] && last == al && t != 3 && t != 8
def zDt (ss:List zF) (k:Nat):Bool:=!zBd (jR ss (k + 1)) (zEM ss k) (sD ss k).type
def zEX (ss:List zF):Bool:=zP (zDt ss) ss.length
theorem yHu:(([]:Bs) == [])=true:=rfl
set_option maxRecDepth 4000 in
set_option maxHeartbeats 2000000 in
theorem yWJ (h4 : xH E) (apex : Bs) {v : Value} {ss : List zF} (hss : xT H v ss) (hn : ss.length ≤ 1000000000) :
  yB E 203 [.agg #[S apex,v]] H (.bool (zEX ss)):=by
 obtain⟨d,g,⟨a,cap,rfl,hsp,hr⟩,hdeep⟩:=hss
 refine Fn.of_vks h4.c203 (by simp [zMT]) ?_
 simp only [zMT,zXW,yAB,zZk,yGw,yFO,yEO,yBy,yGt,zRJ,zNu,zTG,zPi]
 obtain⟨q0,hq0⟩:∃ y,y=zEX ss:=⟨_,rfl⟩
 rw [← hq0]
 unfold zEX at hq0
 simp only [go_sem,Nat.reduceEqDiff,Nat.reduceBEq,reduceCtorEq]
 refine zT ss.length 0 (fun k=>[(1,⟨true,.box [S apex,.slice a ss.length cap]⟩),(3,⟨true,.val (S (jR ss k))⟩),(4,⟨true,.val (.int .i64 k)⟩)]) (fun k=>zP (zDt ss) k=true) (Nat.zero_le _) rfl rfl ?_
 intro k hk hP
 by_cases hlt:k < ss.length
 ·have hdl:decide ((k:Int) < (ss.length:Int))=true:=by simpa using hlt
  obtain⟨b,o,vs,c,wr,rfl,hb,hi⟩:=hr (by omega)
  have hi1:=(hi k hlt).1
  have v0:=zK (hi k hlt).2 (j:=0) (by omega)
  have v1:=zK (hi k hlt).2 (j:=1) (by omega)
  have hat:zDt ss k = !zBd (jR ss (k + 1)) (zEM ss k) (sD ss k).type:=rfl
  have hals:jR ss (k + 1)=if (sD ss k).type == 3 then (sD ss k).name else jR ss k:=rfl
  have hlast:zEM ss k=if !(k == 0) && (sD ss (k - 1)).name == (sD ss k).name then (sD ss k).name else []:=rfl
  obtain⟨s,hs⟩:∃ s,s=sD ss k:=⟨_,rfl⟩
  have hs':ss.getD k default=s:=hs.symm
  rw [← hs] at hat hals hlast
  simp only [xD,hs',List.getD_cons_zero,List.getD_cons_succ,Nat.add_zero] at v0 v1
  obtain⟨al,hal⟩:∃ al,al=jR ss (k + 1):=⟨_,rfl⟩
  obtain⟨la,hla⟩:∃ la,la=zEM ss k:=⟨_,rfl⟩
  rw [← hal] at hals
  rw [← hla] at hlast
  rw [← hal,← hla] at hat
  have hbad:zBd al la s.type=true→q0=false:=fun h=>by rw [hq0]; exact zY hlt (by rw [hat,h]; rfl)
  have hgood:zBd al la s.type=false→zP (zDt ss) (k + 1)=true:=fun h=>yJ hP (by rw [hat,h]; rfl)
  unfold zBd at hbad hgood
  have hsucc:IntKind.i64.wrap ((k:Int) + 1)=((k + 1:Nat):Int):=zR (by omega)
  cases h3:(s.type == 3)
  ·rw [h3,if_neg (by simp)] at hals
   rw [← hals]
   by_cases hk0:k=0
   ·have e0:decide ((k:Int) > 0)=false:=by rw [decide_eq_false_iff_not]; omega
    have e0':(k == 0)=true:=by simpa using hk0
    rw [e0',Bool.not_true,Bool.false_and,if_neg (by simp)] at hlast
    have ht:=hgood (by rw [hlast]; rfl)
    simp only [hdl,hb,v0,v1,h3,go_sem,Nat.reduceEqDiff,Nat.reduceBEq,Nat.reduceAdd,zC]
    simp only [zCh,hb,v0,e0,↓yA,go_sem,Nat.reduceEqDiff,Nat.reduceBEq,Nat.reduceAdd,reduceCtorEq,zC]
    refine⟨⟨by omega,by omega⟩,by omega,⟨by omega,by omega⟩,by omega,?_⟩
    simp only [zBi,bne,yHu,↓yA,go_sem,Nat.reduceEqDiff,Nat.reduceBEq,zC]
    exact⟨hlt,⟨by rw [← hal],hsucc⟩,ht⟩
   ·have e0:decide ((k:Int) > 0)=true:=by rw [decide_eq_true_eq]; omega
    have e0':(k == 0)=false:=by simpa using hk0
    have e1:IntKind.i64.wrap ((k:Int) - 1)=((k - 1:Nat):Int):=by rw [yZ]<;>omega
    have j1:=(hi (k - 1) (by omega)).1
    have j0:=zK (hi (k - 1) (by omega)).2 (j:=0) (by omega)
    obtain⟨p,hp⟩:∃ p,p=sD ss (k - 1):=⟨_,rfl⟩
    have hp':ss.getD (k - 1) default=p:=hp.symm
    rw [e0',Bool.not_false,Bool.true_and,← hp] at hlast
    simp only [xD,hp',List.getD_cons_zero,Nat.add_zero] at j0
    simp only [hdl,hb,v0,v1,h3,go_sem,Nat.reduceEqDiff,Nat.reduceBEq,Nat.reduceAdd,zC]
    cases hn:(p.name == s.name)
    ·rw [hn,if_neg (by simp)] at hlast
     have ht:=hgood (by rw [hlast]; rfl)
     simp only [zCh,hb,v0,j0,hn,e0,e1,toNat_ofNat',go_sem,Nat.reduceEqDiff,Nat.reduceBEq,Nat.reduceAdd,zC]
     refine⟨⟨by omega,by omega⟩,by omega,⟨by omega,by omega⟩,by omega,⟨by omega,by omega⟩,by omega,⟨by omega,by omega⟩,by omega,?_⟩
     simp only [zBi,bne,yHu,↓yA,go_sem,Nat.reduceEqDiff,Nat.reduceBEq,zC]
     exact⟨hlt,⟨by rw [← hal],hsucc⟩,ht⟩
    ·rw [hn,if_pos rfl] at hlast
     rw [hlast] at hbad hgood
     simp only [zCh,hb,v0,j0,hn,e0,e1,toNat_ofNat',go_sem,Nat.reduceEqDiff,Nat.reduceBEq,Nat.reduceAdd,zC]
     refine⟨⟨by omega,by omega⟩,by omega,⟨by omega,by omega⟩,by omega,⟨by omega,by omega⟩,by omega,⟨by omega,by omega⟩,by omega,⟨by omega,by omega⟩,by omega,?_⟩
     simp only [zBi,go_sem,Nat.reduceEqDiff,Nat.reduceBEq,zC]
     exact⟨fun h=>⟨h,h⟩,fun h=>⟨h,fun h2=>by rw [h,h2]; rfl⟩,fun h=>⟨h,fun h2=>by rw [h,h2]; rfl⟩,fun h=>⟨h,fun h2=>by rw [h,h2]; rfl⟩,fun h=>(hbad h).symm,fun h=>⟨hlt,⟨by rw [← hal],hsucc⟩,hgood h⟩⟩
  ·rw [h3,if_pos rfl] at hals
   rw [hals] at hal hbad hgood
   by_cases hk0:k=0
   ·have e0:decide ((k:Int) > 0)=false:=by rw [decide_eq_false_iff_not]; omega
    have e0':(k == 0)=true:=by simpa using hk0
    rw [e0',Bool.not_true,Bool.false_and,if_neg (by simp)] at hlast
    have ht:=hgood (by rw [hlast]; rfl)
    simp only [hdl,hb,v0,v1,h3,go_sem,Nat.reduceEqDiff,Nat.reduceBEq,Nat.reduceAdd,zC]
    simp only [zCh,hb,v0,e0,↓yA,go_sem,Nat.reduceEqDiff,Nat.reduceBEq,Nat.reduceAdd,reduceCtorEq,zC]
    refine⟨⟨by omega,by omega⟩,by omega,⟨by omega,by omega⟩,by omega,⟨by omega,by omega⟩,by omega,?_⟩
    simp only [zBi,bne,yHu,↓yA,go_sem,Nat.reduceEqDiff,Nat.reduceBEq,zC]
    exact⟨hlt,⟨by rw [← hal],hsucc⟩,ht⟩
   ·have e0:decide ((k:Int) > 0)=true:=by rw [decide_eq_true_eq]; omega
    have e0':(k == 0)=false:=by simpa using hk0
    have e1:IntKind.i64.wrap ((k:Int) - 1)=((k - 1:Nat):Int):=by rw [yZ]<;>omega
    have j1:=(hi (k - 1) (by omega)).1
    have j0:=zK (hi (k - 1) (by omega)).2 (j:=0) (by omega)
    obtain⟨p,hp⟩:∃ p,p=sD ss (k - 1):=⟨_,rfl⟩
    have hp':ss.getD (k - 1) default=p:=hp.symm
    rw [e0',Bool.not_false,Bool.true_and,← hp] at hlast
    simp only [xD,hp',List.getD_cons_zero,Nat.add_zero] at j0
    simp only [hdl,hb,v0,v1,h3,go_sem,Nat.reduceEqDiff,Nat.reduceBEq,Nat.reduceAdd,zC]
    cases hn:(p.name == s.name)
    ·rw [hn,if_neg (by simp)] at hlast
     have ht:=hgood (by rw [hlast]; rfl)
     simp only [zCh,hb,v0,j0,hn,e0,e1,toNat_ofNat',go_sem,Nat.reduceEqDiff,Nat.reduceBEq,Nat.reduceAdd,zC]
     refine⟨⟨by omega,by omega⟩,by omega,⟨by omega,by omega⟩,by omega,⟨by omega,by omega⟩,by omega,⟨by omega,by omega⟩,by omega,⟨by omega,by omega⟩,by omega,?_⟩
     simp only [zBi,bne,yHu,↓yA,go_sem,Nat.reduceEqDiff,Nat.reduceBEq,zC]
     exact⟨hlt,⟨by rw [← hal],hsucc⟩,ht⟩
    ·rw [hn,if_pos rfl] at hlast
     rw [hlast,beq_self_eq_true,Bool.and_true] at hbad hgood
     simp only [zCh,hb,v0,j0,hn,e0,e1,toNat_ofNat',go_sem,Nat.reduceEqDiff,Nat.reduceBEq,Nat.reduceAdd,zC]
     refine⟨⟨by omega,by omega⟩,by omega,⟨by omega,by omega⟩,by omega,⟨by omega,by omega⟩,by omega,⟨by omega,by omega⟩,by omega,⟨by omega,by omega⟩,by omega,⟨by omega,by omega⟩,by omega,?_⟩
     simp only [zBi,go_sem,Nat.reduceEqDiff,Nat.reduceBEq,zC]
     exact⟨fun h=>⟨h,h⟩,fun h=>⟨h,fun h2=>by rw [h,h2]; rfl⟩,fun h=>⟨h,fun h2=>by rw [h,h2]; rfl⟩,fun h=>⟨h,fun h2=>by rw [h,h2]; rfl⟩,fun h=>(hbad h).symm,fun h=>⟨hlt,⟨by rw [← hal],hsucc⟩,hgood h⟩⟩
 ·have hdl:decide ((k:Int) < (ss.length:Int))=false:=by simpa using hlt
  have:k=ss.length:=by omega
  subst this
  rw [hP] at hq0
  simp only [hdl,hq0,go_sem,Nat.reduceEqDiff,Nat.reduceBEq,Nat.reduceAdd,zC]
end Go.SL
/- Contracts: the reference's zones: what lies behind cuts. -/
namespace Go.SL
open Go
variable {E:Env} {H:Hp}
def zDJ (B : List Bs) (ss : List zF) (k : Nat) : Bool :=
 !(!(B.getD k [] == []) && (sD ss k).type != 1 && !(!(B.getD k [] == []) && (sD ss k).name == B.getD k [])) &&
 !((!(B.getD k [] == []) && (sD ss k).name == B.getD k []) && (sD ss k).type != 1 && (sD ss k).type != 2 && (sD ss k).type != 6 && (sD ss k).type != 8) &&
 !((sD ss k).type == 6 && !(!(B.getD k [] == []) && (sD ss k).name == B.getD k []))
def zHp (apex:Bs) (ss:List zF):Bool:=zP (zDJ (vY apex ss) ss) ss.length
set_option maxRecDepth 4000 in
set_option maxHeartbeats 2000000 in
theorem yYa (h4 : xH E) (apex : Bs) {v : Value} {ss : List zF} (hss : xT H v ss) (hn : ss.length ≤ 1000000000) (hz : SzS ss) :
  yB E 204 [.agg #[S apex,v]] H (.bool (zHp apex ss)):=by
 have hbeh:=yTy h4 apex hss hn hz
 obtain⟨d,g,⟨a,cap,rfl,hsp,hr⟩,hdeep⟩:=hss
 refine Fn.of_vks h4.c204 (by simp [zMM]) ?_
 simp only [zMM,zWz,yEZ,zZT,zXb,yCj,yCb,zUl,yCl,zYb,zOW,zRZ,zOE,yFt,zQO]
 obtain⟨q0,hq0⟩:∃ y,y=zHp apex ss:=⟨_,rfl⟩
 rw [← hq0]
 unfold zHp at hq0
 simp only [go_sem,Nat.reduceBEq,Nat.reduceAdd,reduceCtorEq]
 refine zM ?_ hbeh ?_
 ·simp only [go_sem,Nat.reduceEqDiff]
 rintro w H1 ⟨hC,hle1⟩
 have hBl:=zHy apex ss
 obtain⟨C,hCC⟩:∃ C,C=vY apex ss:=⟨_,rfl⟩
 rw [← hCC] at hC hBl hq0
 obtain⟨a1,c1,rfl⟩:=hC.sl
 simp only [go_sem,Nat.reduceEqDiff,Nat.reduceBEq]
 refine zT ss.length 0 (fun k=>[(1,⟨true,.box [S apex,.slice a ss.length cap]⟩),(3,⟨true,.val (.slice a1 C.length c1)⟩),(4,⟨true,.val (.int .i64 k)⟩)]) (fun k=>zP (zDJ C ss) k=true) (Nat.zero_le _) rfl rfl ?_
 intro k hk hP
 by_cases hlt:k < ss.length
 ·have hdl:decide ((k:Int) < (ss.length:Int))=true:=by simpa using hlt
  obtain⟨b,o,vs,c,wr,ha,hb,hi⟩:=hr (by omega)
  subst ha
  have hb1:=hle1 _ _ hb
  have hi1:=(hi k hlt).1
  have hi2:=jC (hi k hlt).2 0 4 (by omega)
  have hd1:=zG.one (hdeep k hlt).1
  obtain⟨s,hs⟩:∃ s,s=sD ss k:=⟨_,rfl⟩
  have hs':ss.getD k default=s:=hs.symm
  simp only [xD,hs',List.drop_zero,List.take_succ_cons,List.take_zero,Nat.add_zero] at hi2
  obtain⟨b2,o2,c2,cap2,vs2,wr2,hsl,hb2,hv,hvl⟩:=hC.str (k:=k) (by omega)
  cases hsl
  have hg:=zK (j:=0) hv (by omega)
  rw [Nat.mul_one,Nat.add_zero,List.getD_cons_zero] at hg
  rw [Nat.mul_one] at hvl
  obtain⟨x,hx⟩:∃ x,x=C.getD k []:=⟨_,rfl⟩
  have hat:zDJ C ss k=(!(!(x == []) && s.type != 1 && !(!(x == []) && s.name == x)) && !((!(x == []) && s.name == x) && s.type != 1 && s.type != 2 && s.type != 6 && s.type != 8) && !(s.type == 6 && !(!(x == []) && s.name == x))):=by rw [hs,hx]; rfl
  rw [← hx] at hg
  have hbad:zDJ C ss k=false→q0=false:=fun h=>by rw [hq0]; exact zY hlt h
  have hgood:zDJ C ss k=true→zP (zDJ C ss) (k + 1)=true:=fun h=>yJ hP h
  rw [hat] at hbad hgood
  simp only [hdl,hb1,hi2,hd1,hb2,hg,Nat.mul_one,go_sem,Nat.reduceLeDiff,Nat.reduceEqDiff,Nat.reduceBEq,Nat.reduceAdd,zC]
  refine⟨⟨by omega,by omega⟩,by omega,⟨by omega,by omega⟩,by omega,fun h=>⟨h,h,by omega,by omega⟩,fun h=>⟨h,by omega⟩,fun h=>⟨h,h⟩,⟨by omega,by omega⟩,by omega,fun h=>?_,fun h=>⟨fun h2=>?_,fun h2=>⟨fun h3=>?_,fun h3=>?_⟩⟩⟩
  ·exact⟨(hbad (by rw [h]; rfl)).symm,hle1⟩
  ·exact⟨(hbad (by rw [h,h2]; rfl)).symm,hle1⟩
  ·exact⟨(hbad (by rw [h,h2,h3]; rfl)).symm,hle1⟩
  ·exact⟨hlt,zR (by omega),hgood (by rw [h,h2,h3]; rfl)⟩
 ·have hdl:decide ((k:Int) < (ss.length:Int))=false:=by simpa using hlt
  have:k=ss.length:=by omega
  subst this
  rw [hP] at hq0
  simp only [hdl,hq0,go_sem,Nat.reduceEqDiff,Nat.reduceBEq,Nat.reduceAdd,reduceCtorEq,zC]
  exact hle1
end Go.SL
/- Contracts: the reference's valid zones. -/
namespace Go.SL
open Go
variable {E:Env} {H:Hp}
def zCD (O:List Bool) (apex:Bs) (ss:List zF) (k:Nat):Bool:=!(!zFT (sD ss k).sigs apex || (!O.getD k false && decide ((sD ss k).sigs.length > 0)))
def zEs (apex:Bs) (ss:List zF):Bool:=zP (zCD (zFX apex ss) apex ss) ss.length
theorem zG.boolAt {v : Value} {l : List Bool} (h : zG H 1 v l.length (rB l)) {k : Nat} (hk : k < l.length) : ∃ b o c cap vs wr, v = .slice (some ⟨b, o, none⟩) l.length cap ∧ H b = some (.row vs c wr) ∧ (vs.drop (o + k * 1)).take 1 = [.bool (l.getD k false)] ∧ o + k * 1 + 1 ≤ vs.length := by
 obtain⟨a,cap,rfl,hsp,hr⟩:=h
 obtain⟨b,o,vs,c,wr,rfl,hb,hi⟩:=hr (by omega)
 exact⟨b,o,c,cap,vs,wr,rfl,hb,(hi k hk).2,(hi k hk).1⟩
set_option maxRecDepth 4000 in
set_option maxHeartbeats 2000000 in
theorem xAb (h4 : xH E) (apex : Bs) {v : Value} {ss : List zF} (hss : xT H v ss) (hn : ss.length ≤ 1000000000) (hz : SzS ss) :
  yB E 205 [.agg #[S apex,v]] H (.bool (zEs apex ss)):=by
 have hown:=yZG h4 apex hss hn hz
 obtain⟨d,g,⟨a,cap,rfl,hsp,hr⟩,hdeep⟩:=hss
 refine Fn.of_vks h4.c205 (by simp [zMh]) ?_
 simp only [zMh,zVJ,zWh,yFP,yCO,zXu,yAK,zXs,yCU]
 obtain⟨q0,hq0⟩:∃ y,y=zEs apex ss:=⟨_,rfl⟩
 rw [← hq0]
 unfold zEs at hq0
 simp only [go_sem,Nat.reduceBEq,Nat.reduceAdd,reduceCtorEq]
 refine zM ?_ hown ?_
 ·simp only [go_sem,Nat.reduceEqDiff]
 rintro w H1 ⟨hC,hle1⟩
 have hBl:=ySK apex ss
 obtain⟨C,hCC⟩:∃ C,C=zFX apex ss:=⟨_,rfl⟩
 rw [← hCC] at hC hBl hq0
 obtain⟨a1,c1,rfl⟩:=hC.sl
 simp only [go_sem,Nat.reduceEqDiff,Nat.reduceBEq]
 refine zT ss.length 0 (fun k=>[(1,⟨true,.box [S apex,.slice a ss.length cap]⟩),(3,⟨true,.val (.slice a1 C.length c1)⟩),(4,⟨true,.val (.int .i64 k)⟩)]) (fun k=>zP (zCD C apex ss) k=true) (Nat.zero_le _) rfl rfl ?_
 intro k hk hP
 by_cases hlt:k < ss.length
 ·have hdl:decide ((k:Int) < (ss.length:Int))=true:=by simpa using hlt
  obtain⟨b,o,vs,c,wr,ha,hb,hi⟩:=hr (by omega)
  subst ha
  have hb1:=hle1 _ _ hb
  have hi1:=(hi k hlt).1
  have hg1:=(hdeep k hlt).2.mono hle1
  obtain⟨ga,gc,hgv⟩:=zG.sl hg1
  have v4:=zK (hi k hlt).2 (j:=4) (by omega)
  simp only [xD,hgv,List.getD_cons_zero,List.getD_cons_succ] at v4
  rw [hgv] at hg1
  obtain⟨gs,hgs⟩:∃ gs,gs=(sD ss k).sigs:=⟨_,rfl⟩
  have hgs':(ss.getD k default).sigs=gs:=hgs.symm
  rw [hgs'] at hg1 v4
  obtain⟨b2,o2,c2,cap2,vs2,wr2,hsl,hb2,hv,hvl⟩:=hC.boolAt (k:=k) (by omega)
  cases hsl
  have hg:=zK (j:=0) hv (by omega)
  rw [Nat.mul_one,Nat.add_zero,List.getD_cons_zero] at hg
  rw [Nat.mul_one] at hvl
  obtain⟨x,hx⟩:∃ x,x=C.getD k false:=⟨_,rfl⟩
  rw [← hx] at hg
  have hat:zCD C apex ss k = !(!zFT gs apex || (!x && decide (gs.length > 0))):=by rw [hgs,hx]; rfl
  have hbad:zCD C apex ss k=false→q0=false:=fun h=>by rw [hq0]; exact zY hlt h
  have hgood:zCD C apex ss k=true→zP (zCD C apex ss) (k + 1)=true:=fun h=>yJ hP h
  have e0:decide ((gs.length:Int) > 0)=decide (gs.length > 0):=by rw [Bool.eq_iff_iff,decide_eq_true_eq,decide_eq_true_eq]; omega
  simp only [hdl,hb1,v4,toNat_ofNat',go_sem,Nat.reduceLeDiff,Nat.reduceEqDiff,Nat.reduceBEq,Nat.reduceAdd,zC]
  refine⟨⟨by omega,by omega⟩,by omega,?_⟩
  refine xM _ (by simp only [go_sem]) (fun _=>⟨by simp only [go_sem,Nat.reduceEqDiff],yYv h4 apex hg1⟩) ?_ ?_
  ·simp only [hb1,v4,go_sem,Nat.reduceLeDiff,Nat.reduceEqDiff,Nat.reduceBEq,Nat.reduceAdd]
  cases hq:zFT gs apex
  ·have hf:=hbad (by rw [hat,hq]; rfl)
   simp only [hb1,v4,hb2,hg,hf,Nat.mul_one,toNat_ofNat',↓yQ,go_sem,Nat.reduceEqDiff,Nat.reduceBEq,Nat.reduceAdd,zC]
   try exact hle1
  ·cases hxx:x
   ·cases hl:decide (gs.length > 0)
    ·have ht:=hgood (by rw [hat,hq,hxx,hl]; rfl)
     simp only [hxx,e0,hl,hb1,v4,hb2,hg,ht,Nat.mul_one,toNat_ofNat',go_sem,Nat.reduceEqDiff,Nat.reduceBEq,Nat.reduceAdd,zC]
     exact⟨⟨by omega,by omega⟩,by omega,⟨by omega,by omega⟩,by omega,hlt,zR (by omega)⟩
    ·have hf:=hbad (by rw [hat,hq,hxx,hl]; rfl)
     simp only [hxx,e0,hl,hb1,v4,hb2,hg,hf,Nat.mul_one,toNat_ofNat',go_sem,Nat.reduceEqDiff,Nat.reduceBEq,Nat.reduceAdd,zC]
     exact⟨⟨by omega,by omega⟩,by omega,⟨by omega,by omega⟩,by omega,hle1⟩
   ·have ht:=hgood (by rw [hat,hq,hxx]; rfl)
    simp only [hxx,hb1,v4,hb2,hg,ht,Nat.mul_one,toNat_ofNat',↓yA,go_sem,Nat.reduceEqDiff,Nat.reduceBEq,Nat.reduceAdd,zC]
    exact⟨⟨by omega,by omega⟩,by omega,hlt,zR (by omega)⟩
 ·have hdl:decide ((k:Int) < (ss.length:Int))=false:=by simpa using hlt
  have:k=ss.length:=by omega
  subst this
  rw [hP] at hq0
  simp only [hdl,hq0,go_sem,Nat.reduceEqDiff,Nat.reduceBEq,Nat.reduceAdd,zC]
  exact hle1
def zFR (apex:Bs) (ss:List zF):Bool:=zDx apex ss && zKf apex ss && zEX ss && zHp apex ss && zEs apex ss
theorem zDp {apex : Bs} {ss : List zF} (h : zDx apex ss = true) : SzS ss ∧ ss.length ≤ 1000000000 := by
 rw [zIq] at h
 simp only [Bool.and_eq_true,decide_eq_true_eq] at h
 refine⟨fun s hs=>?_,by omega⟩
 obtain⟨i,hi,he⟩:=List.mem_iff_getElem.1 hs
 have h1:=yG.1 h.2 i hi
 have h2:sD ss i=s:=by unfold sD; rw [List.getD_eq_getElem?_getD,List.getElem?_eq_getElem hi]; exact he
 unfold zCx at h1
 rw [h2,Bool.and_eq_true,Bool.and_eq_true] at h1
 exact zRz h1.1.1
set_option maxHeartbeats 1000000 in
theorem xAd (h4 : xH E) (apex : Bs) {v : Value} {ss : List zF} (hss : xT H v ss) :
  yB E 194 [.agg #[S apex,v]] H (.bool (zFR apex ss)):=by
 have f1:=xAc h4 apex hss
 have f2:=fun h:zDx apex ss=true=>xAt h4 apex hss (zDp h).2
 have f3:=fun h:zDx apex ss=true=>yWJ h4 apex hss (zDp h).2
 have f4:=fun h:zDx apex ss=true=>yYa h4 apex hss (zDp h).2 (zDp h).1
 have f5:=fun h:zDx apex ss=true=>xAb h4 apex hss (zDp h).2 (zDp h).1
 have o1:yV v=true:=by obtain⟨d,g,h,_⟩:=hss; exact zG.one h
 obtain⟨a,c,rfl⟩:∃ a c,v = .slice a ss.length c:=by obtain⟨d,g,h,_⟩:=hss; exact h.sl
 refine Fn.of_vks h4.c194 (by simp [zMJ]) ?_
 simp only [zMJ,yEG,yEB]
 unfold zFR
 simp only [go_sem,Nat.reduceBEq,Nat.reduceAdd,reduceCtorEq]
 refine zE _ (by simp only [go_sem]) (fun _=>⟨by simp only [go_sem,Nat.reduceEqDiff],f1⟩) ?_
 simp only [go_sem,Nat.reduceEqDiff,Nat.reduceBEq,Nat.reduceAdd]
 refine zE _ (by simp only [go_sem,Nat.reduceEqDiff]) (fun hg=>⟨by simp only [go_sem,Nat.reduceEqDiff] at hg ⊢; exact hg,f2 (by simpa only [go_sem,Nat.reduceLT,Nat.reduceLeDiff,Nat.reduceEqDiff,Nat.reduceBEq,Nat.reduceAdd,Nat.reduceMul,Nat.reduceSub,reduceIte,reduceCtorEq,Int.reduceToNat,Int.reduceLE,Int.reduceEq,Int.reduceNe,Int.reduceLT,Int.reduceAdd,Int.reduceSub] using hg)⟩) ?_
 simp only [go_sem,Nat.reduceEqDiff,Nat.reduceBEq,Nat.reduceAdd]
 refine zE _ (by simp only [go_sem,Nat.reduceEqDiff]) (fun hg=>⟨by simp only [go_sem,Nat.reduceEqDiff] at hg ⊢; exact hg,f3 (by simp only [go_sem,Nat.reduceEqDiff,Bool.and_eq_true] at hg; exact hg.1)⟩) ?_
 simp only [go_sem,Nat.reduceEqDiff,Nat.reduceBEq,Nat.reduceAdd]
 refine zE _ (by simp only [go_sem,Nat.reduceEqDiff]) (fun hg=>⟨by simp only [go_sem,Nat.reduceEqDiff] at hg ⊢; exact hg,f4 (by simp only [go_sem,Nat.reduceEqDiff,Bool.and_eq_true] at hg; exact hg.1.1)⟩) ?_
 simp only [go_sem,Nat.reduceEqDiff,Nat.reduceBEq,Nat.reduceAdd]
 refine zE _ (by simp only [go_sem,Nat.reduceEqDiff]) (fun hg=>⟨by simp only [go_sem,Nat.reduceEqDiff] at hg ⊢; exact hg,f5 (by simp only [go_sem,Nat.reduceEqDiff,Bool.and_eq_true] at hg; exact hg.1.1.1)⟩) ?_
 simp only [go_sem,Nat.reduceEqDiff,Nat.reduceBEq]
theorem yHF {apex : Bs} {ss : List zF} (h : zFR apex ss = true) : apex.length ≤ 1000000 := by
 unfold zFR at h
 simp only [Bool.and_eq_true] at h
 have h1:=h.1.1.1.1
 rw [zIq] at h1
 simp only [Bool.and_eq_true] at h1
 exact Nat.le_trans (zBt h1.1.1.1) (by omega)
end Go.SL
