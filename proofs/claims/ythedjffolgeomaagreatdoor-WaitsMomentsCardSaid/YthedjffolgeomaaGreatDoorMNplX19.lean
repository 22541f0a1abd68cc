/- Contracts: the reference's cuts. -/
import Derived.Test.YthedjffolgeomaaGreatDoorMNplX18
namespace Go.SL
open Go
variable {E:Env} {H:Hp}
theorem zFb (L : List Bs) (x : Bs) (i : Nat) (hi : i < L.length) : rS (L ++ [x]) i = rS L i := by
 simp [rS,List.getElem?_append_left hi]
theorem zEd (L:List Bs) (x:Bs):rS (L ++ [x]) L.length = [S x]:=by simp [rS]
theorem zHf {H' H3 : Hp} {bs : Nat} {p : xD} {ob : Option Nat} (hle : H.le H') (hbs : H' bs = none) (hob : ∀ b, ob = some b → H b = none) (hkeep : ∀ c o, (H'.put bs p) c = some o → some c ≠ ob → H3 c = some o) : H.le H3 :=
 fun c o hc=>hkeep c o (zM hbs _ _ _ (hle _ _ hc)) (fun e=>by rw [hob c e.symm] at hc; cases hc)
theorem zFn {H' : Hp} {bs b' : Nat} {p : xD} {ob : Option Nat} (hle : H.le H') (hbs : H' bs = none) (hob : ∀ b, ob = some b → H b = none) (h : (H'.put bs p) b' = none ∨ some b' = ob) : ∀ b, some b' = some b → H b = none := by
 intro b2 e
 cases e
 rcases h with h | h
 ·cases hq:H b' with
  | none=>rfl
  | some o=>rw [zM hbs _ _ _ (hle _ _ hq)] at h; cases h
 ·exact hob b' h.symm
def zCB (H:Hp) (v:Value) (l:List Bs) (ob:Option Nat):Prop:=xS H 1 v l.length (rS l) ob
theorem zCB.at {v:Value} {l:List Bs} {ob:Option Nat} (h:zCB H v l ob):zG H 1 v l.length (rS l):=xS.at h fun _ _=>rfl
theorem zCB.sl {v:Value} {l:List Bs} {ob:Option Nat} (h:zCB H v l ob):∃ a c,v = .slice a l.length c:=xS.sl h
def wN (apex : Bs) (ss : List zF) : Nat → List Bs
 | 0=>[]
 | k + 1=>if (sD ss k).type == 2 && !((sD ss k).name == apex) then wN apex ss k ++ [(sD ss k).name] else wN apex ss k
theorem zDm (apex : Bs) (ss : List zF) : ∀ k, (wN apex ss k).length ≤ k
 | 0=>Nat.le_refl _
 | k + 1 => by
  have ih:=zDm apex ss k
  simp only [wN]
  split
  ·simp; omega
  ·omega
def zDn (apex:Bs) (ss:List zF):List Bs:=wN apex ss ss.length
set_option maxHeartbeats 1000000 in
theorem yXR (h4 : xH E) (apex : Bs) {v : Value} {ss : List zF} (hss : xL H v ss) (hn : ss.length ≤ 1000000000) :
  Fn E.P (E.fn 214) [.agg #[S apex,v]] H (fun u H'=>∃ ob,zCB H' u (zDn apex ss) ob∧H.le H'∧∀ b,ob=some b→H b=none):=by
 obtain⟨d,g,⟨a,cap,rfl,hsp,hr⟩,hdeep⟩:=hss
 refine Fn.of_vks h4.c214 (by simp [zNh]) ?_
 simp only [zNh,yAQ,zVI,zTv,zTS,yCi,yBI,zWc,yEB,zZQ]
 simp only [go_sem,Nat.reduceEqDiff,Nat.reduceBEq,reduceCtorEq]
 refine yP ss.length 0 (fun k fr' H' => ∃ u ob, fr' = [(1, ⟨true, .box [S apex, .slice a ss.length cap]⟩), (3, ⟨true, .val u⟩), (4, ⟨true, .val (.int .i64 k)⟩)] ∧
  zCB H' u (wN apex ss k) ob∧H.le H'∧∀ b,ob=some b→H b=none) (Nat.zero_le _) ⟨_,none,rfl,⟨rfl,rfl⟩,Hp.le.refl _,fun b h=>by cases h⟩ ?_
 rintro k fr' H' hk ⟨u,ob,rfl,hO,hle,hob⟩
 by_cases hlt:k < ss.length
 ·have hdl:decide ((k:Int) < (ss.length:Int))=true:=by simpa using hlt
  obtain⟨b,o,vs,c,wr,ha,hb,hi⟩:=hr (by omega)
  subst ha
  have hb1:=hle _ _ hb
  have hi1:=(hi k hlt).1
  have hi2:=qF (hi k hlt).2 0 4 (by omega)
  have hd1:=zG.one (hdeep k hlt).1
  have hsucc:wN apex ss (k + 1)=if (sD ss k).type == 2 && !((sD ss k).name == apex) then wN apex ss k ++ [(sD ss k).name] else wN apex ss k:=rfl
  have hlen:=zDm apex ss k
  obtain⟨s,hs⟩:∃ s,s=sD ss k:=⟨_,rfl⟩
  obtain⟨L,hL⟩:∃ L,L=wN apex ss k:=⟨_,rfl⟩
  have hs':ss.getD k default=s:=hs.symm
  rw [← hs,← hL] at hsucc
  rw [← hL] at hO hlen
  obtain⟨au,cu,hu⟩:=hO.sl
  simp only [xA,hs',List.drop_zero,List.take_succ_cons,List.take_zero,Nat.add_zero] at hi2
  simp only [hdl,hb1,hi2,hd1,go_sem,Nat.reduceLeDiff,Nat.reduceEqDiff,Nat.reduceBEq,Nat.reduceAdd,zC]
  refine⟨⟨by omega,by omega⟩,by omega,fun h=>⟨h,h⟩,fun hc=>?_,fun hc=>?_⟩
  ·rw [hc,if_pos rfl] at hsucc
   intro bs hbs
   refine zAj (n:=L.length) (row:=rS L) (row':=rS (L ++ [s.name])) (cells:=[S s.name]) ?_ ?_ ?_ ?_ (Hp.put_same ..) rfl rfl (xS.put hO hbs) (fun _ _=>rfl) (zFb L _) (zEd L _) (by omega) (by omega) ?_
   ·simp only [go_sem,Nat.reduceEqDiff]
   ·simp only [go_sem,Nat.reduceEqDiff]
   ·simp only [go_sem,Nat.reduceEqDiff]
   ·simp only [go_sem,Nat.reduceEqDiff]
   intro v' H3 b' hO3 hkeep hb'
   simp only [go_sem,Nat.reduceEqDiff,Nat.reduceBEq,zC]
   refine⟨hlt,v',some b',⟨rfl,zQ (by omega)⟩,?_,zHf hle hbs hob hkeep,zFn hle hbs hob hb'⟩
   rw [hsucc]
   show xS _ _ _ (L ++ [s.name]).length _ _
   rw [List.length_append]; exact hO3
  ·rw [hc] at hsucc
   exact⟨hlt,u,ob,⟨rfl,zQ (by omega)⟩,by rw [hsucc]; exact hO,hle,hob⟩
 ·have hdl:decide ((k:Int) < (ss.length:Int))=false:=by simpa using hlt
  have:k=ss.length:=by omega
  subst this
  simp only [hdl,go_sem,Nat.reduceEqDiff,Nat.reduceBEq,Nat.reduceAdd,zC]
  exact⟨ob,hO,hle,hob⟩
def wD (C : List Bs) : Nat → List Bs
 | 0=>[]
 | k + 1=>if (wD C k).length == 0 || !rIn (C.getD k []) ((wD C k).getD ((wD C k).length - 1) []) then wD C k ++ [C.getD k []] else wD C k
theorem zHc (C : List Bs) : ∀ k, (wD C k).length ≤ k
 | 0=>Nat.le_refl _
 | k + 1 => by
  have ih:=zHc C k
  simp only [wD]
  split
  ·simp; omega
  ·omega
theorem zGp (C : List Bs) : ∀ k, k ≤ C.length → ∀ x ∈ wD C k, x ∈ C
 | 0,_,x,h=>by simp [wD] at h
 | k + 1, hk, x, h => by
  have ih:=zGp C k (by omega)
  have hm:C.getD k []∈C:=by rw [List.getD_eq_getElem?_getD,List.getElem?_eq_getElem (by omega)]; exact List.getElem_mem _
  simp only [wD] at h
  split at h
  ·rcases List.mem_append.1 h with h | h
   ·exact ih x h
   ·simp at h; subst h; exact hm
  ·exact ih x h
def wS (apex:Bs) (ss:List zF):List Bs:=wD (zDn apex ss) (zDn apex ss).length
theorem zDQ {apex : Bs} {ss : List zF} (hz : SzS ss) : ∀ k, k ≤ ss.length → ∀ x ∈ wN apex ss k, x.length ≤ 1000000
 | 0,_,x,h=>by simp [wN] at h
 | k + 1, hk, x, h => by
  have ih:=zDQ (apex:=apex) hz k (by omega)
  simp only [wN] at h
  split at h
  ·rcases List.mem_append.1 h with h | h
   ·exact ih x h
   ·simp only [List.mem_singleton] at h; subst h; exact hz.at (by omega)
  ·exact ih x h
theorem jK {l : List Bs} {k : Nat} (h : k < l.length) : l.getD k [] ∈ l := by
 rw [List.getD_eq_getElem?_getD,List.getElem?_eq_getElem h]; exact List.getElem_mem _
set_option maxHeartbeats 1000000 in
theorem yZI (h4 : xH E) (apex : Bs) {v : Value} {ss : List zF} (hss : xL H v ss) (hn : ss.length ≤ 1000000000) (hz : SzS ss) :
  Fn E.P (E.fn 213) [.agg #[S apex,v]] H (fun u H'=>∃ ob,zCB H' u (wS apex ss) ob∧H.le H'∧∀ b,ob=some b→H b=none):=by
 have hcut:=yXR h4 apex hss hn
 obtain⟨d,g,⟨a,cap,rfl,hsp,hr⟩,hdeep⟩:=hss
 refine Fn.of_vks h4.c213 (by simp [zMv]) ?_
 simp only [zMv,yDt,zWf,zWs,zYq,zVk,zTj,zVQ,zWV,zVD]
 simp only [go_sem,Nat.reduceBEq,Nat.reduceAdd,reduceCtorEq]
 refine zP ?_ hcut ?_
 ·simp only [go_sem,Nat.reduceEqDiff]
 rintro w H1 ⟨ob1,hO1,hle1,hob1⟩
 have hC:=hO1.at
 obtain⟨a1,c1,rfl⟩:=hO1.sl
 unfold wS
 have hCs:=zDQ (apex:=apex) hz ss.length (Nat.le_refl _)
 have hCl:=zDm apex ss ss.length
 obtain⟨C,hCC⟩:∃ C,C=zDn apex ss:=⟨_,rfl⟩
 change ∀ x∈zDn apex ss,_ at hCs
 change (zDn apex ss).length≤_ at hCl
 rw [← hCC] at hC hCs hCl ⊢
 simp only [go_sem,Nat.reduceEqDiff,Nat.reduceBEq]
 refine yP C.length 0 (fun k fr' H' => ∃ u ob, fr' = [(3, ⟨true, .val (.slice a1 C.length c1)⟩), (4, ⟨true, .val u⟩), (5, ⟨true, .val (.int .i64 k)⟩)] ∧
  zCB H' u (wD C k) ob∧H1.le H'∧∀ b,ob=some b→H1 b=none) (Nat.zero_le _) ⟨_,none,rfl,⟨rfl,rfl⟩,Hp.le.refl _,fun b h=>by cases h⟩ ?_
 rintro k fr' H' hk ⟨u,ob,rfl,hO,hle,hob⟩
 by_cases hlt:k < C.length
 ·have hdl:decide ((k:Int) < (C.length:Int))=true:=by simpa using hlt
  have hsucc:wD C (k + 1)=if (wD C k).length == 0 || !rIn (C.getD k []) ((wD C k).getD ((wD C k).length - 1) []) then wD C k ++ [C.getD k []] else wD C k:=rfl
  have hlen:=zHc C k
  have hmem:=zGp C k hk
  obtain⟨L,hL⟩:∃ L,L=wD C k:=⟨_,rfl⟩
  rw [← hL] at hsucc hO hlen hmem
  have hat:=hO.at
  obtain⟨au,cu,rfl⟩:=hO.sl
  obtain⟨b,o,c,cap2,vs,wr,hsl,hb,hv,hvl⟩:=(hC.mono hle).str hlt
  cases hsl
  have hg:=zH (j:=0) hv (by omega)
  rw [Nat.mul_one,Nat.add_zero,List.getD_cons_zero] at hg
  rw [Nat.mul_one] at hvl
  have hxs:=hCs _ (jK hlt)
  obtain⟨x,hx⟩:∃ x,x=C.getD k []:=⟨_,rfl⟩
  rw [← hx] at hsucc hg hxs
  by_cases h0:L.length=0
  ·have e0:((L.length:Int) == 0)=true:=by rw [beq_iff_eq]; omega
   have e0':(L.length == 0)=true:=by simpa using h0
   rw [e0',Bool.true_or,if_pos rfl] at hsucc
   simp only [hdl,e0,↓vI,↓vR,go_sem,Nat.reduceEqDiff,Nat.reduceBEq,zC]
   refine yV (.bool false) (by simp only [go_sem,Nat.reduceEqDiff]) (fun hg=>by simp only [go_sem,Nat.reduceEqDiff] at hg) ?_ ?_
   ·simp only [e0,↓vI,↓vR,go_sem,Nat.reduceEqDiff,Nat.reduceBEq,zC]
   simp only [hb,hg,Nat.mul_one,↓yQ,go_sem,Nat.reduceEqDiff,Nat.reduceBEq,zC]
   refine⟨⟨by omega,by omega⟩,by omega,?_⟩
   intro bs hbs
   refine zAj (n:=L.length) (row:=rS L) (row':=rS (L ++ [x])) (cells:=[S x]) ?_ ?_ ?_ ?_ (Hp.put_same ..) rfl rfl (xS.put hO hbs) (fun _ _=>rfl) (zFb L _) (zEd L _) (by omega) (by omega) ?_
   ·simp only [go_sem,Nat.reduceEqDiff]
   ·simp only [go_sem,Nat.reduceEqDiff]
   ·simp only [go_sem,Nat.reduceEqDiff]
   ·simp only [go_sem,Nat.reduceEqDiff]
   intro v' H3 b' hO3 hkeep hb'
   simp only [go_sem,Nat.reduceEqDiff,Nat.reduceBEq,zC]
   refine⟨hlt,v',some b',⟨rfl,zQ (by omega)⟩,?_,zHf hle hbs hob hkeep,zFn hle hbs hob hb'⟩
   rw [hsucc]
   show xS _ _ _ (L ++ [x]).length _ _
   rw [List.length_append]; exact hO3
  ·have e0:((L.length:Int) == 0)=false:=by rw [beq_eq_false_iff_ne]; omega
   have e0':(L.length == 0)=false:=by simpa using h0
   have e1:IntKind.i64.wrap ((L.length:Int) - 1)=((L.length - 1:Nat):Int):=by rw [yX]<;>omega
   obtain⟨b2,o2,c2,cap3,vs2,wr2,hsl2,hb2,hv2,hvl2⟩:=hat.str (k:=L.length - 1) (by omega)
   cases hsl2
   have hg2:=zH (j:=0) hv2 (by omega)
   rw [Nat.mul_one,Nat.add_zero,List.getD_cons_zero] at hg2
   rw [Nat.mul_one] at hvl2
   have hys:=hCs _ (hmem _ (jK (l:=L) (k:=L.length - 1) (by omega)))
   obtain⟨y,hy⟩:∃ y,y=L.getD (L.length - 1) []:=⟨_,rfl⟩
   rw [← hy] at hsucc hg2 hys
   rw [e0',Bool.false_or] at hsucc
   simp only [hdl,e0,e1,toNat_ofNat',hb,hg,hb2,hg2,Nat.mul_one,go_sem,Nat.reduceEqDiff,Nat.reduceBEq,zC]
   refine⟨⟨by omega,by omega⟩,by omega,⟨by omega,by omega⟩,by omega,?_⟩
   refine yV _ (by simp only [go_sem,Nat.reduceEqDiff]) (fun _=>⟨by simp only [go_sem,Nat.reduceEqDiff],yHh h4 x y hxs hys⟩) ?_ ?_
   ·simp only [e0,e1,toNat_ofNat',hb,hg,hb2,hg2,Nat.mul_one,go_sem,Nat.reduceEqDiff,Nat.reduceBEq,zC]
   cases hq:rIn x y
   ·rw [hq,Bool.not_false,if_pos rfl] at hsucc
    simp only [toNat_ofNat',hb,hg,Nat.mul_one,go_sem,Nat.reduceEqDiff,Nat.reduceBEq,zC]
    refine⟨⟨by omega,by omega⟩,by omega,?_⟩
    intro bs hbs
    refine zAj (n:=L.length) (row:=rS L) (row':=rS (L ++ [x])) (cells:=[S x]) ?_ ?_ ?_ ?_ (Hp.put_same ..) rfl rfl (xS.put hO hbs) (fun _ _=>rfl) (zFb L _) (zEd L _) (by omega) (by omega) ?_
    ·simp only [go_sem,Nat.reduceEqDiff]
    ·simp only [go_sem,Nat.reduceEqDiff]
    ·simp only [go_sem,Nat.reduceEqDiff]
    ·simp only [go_sem,Nat.reduceEqDiff]
    intro v' H3 b' hO3 hkeep hb'
    simp only [go_sem,Nat.reduceEqDiff,Nat.reduceBEq,zC]
    refine⟨hlt,v',some b',⟨rfl,zQ (by omega)⟩,?_,zHf hle hbs hob hkeep,zFn hle hbs hob hb'⟩
    rw [hsucc]
    show xS _ _ _ (L ++ [x]).length _ _
    rw [List.length_append]; exact hO3
   ·rw [hq] at hsucc
    simp only [toNat_ofNat',hb,hg,Nat.mul_one,go_sem,Nat.reduceEqDiff,Nat.reduceBEq,zC]
    exact⟨hlt,_,ob,⟨rfl,zQ (by omega)⟩,by rw [hsucc]; exact hO,hle,hob⟩
 ·have hdl:decide ((k:Int) < (C.length:Int))=false:=by simpa using hlt
  have:k=C.length:=by omega
  subst this
  simp only [hdl,go_sem,Nat.reduceEqDiff,Nat.reduceBEq,zC]
  refine⟨ob,hO,hle1.trans hle,fun b hb=>?_⟩
  have:=hob b hb
  cases hq:H b with
  | none=>rfl
  | some o=>rw [hle1 _ _ hq] at this; cases this
end Go.SL
/- Contracts: the reference: behind which cut a set is; own sets. -/
namespace Go.SL
open Go
variable {E:Env} {H:Hp}
section
variable {fr:Fr} {Q:X→Fr→Hp→Prop} {k:List Item}
theorem zFX {id : Nat} {c : vQ} (R : Fr → Hp → Prop) (ha : zT E (.code c :: .blk id :: .goal R :: k) fr H Q) (hb : ∀ fr' H', R fr' H' → zT E k fr' H' Q) :
  zT E (.code c :: .blk id :: k) fr H Q:=by
 simp only [zT] at ha ⊢
 refine qN (fun e fr H h=>?_) ha
 cases e with
 | nrm=>exact hb _ _ h
 | exit i =>
  simp only [uN] at h ⊢
  split
  ·rename_i he
   rw [if_pos he] at h
   simp only [zT] at h
   exact hb _ _ h
  ·rename_i he
   rw [if_neg he] at h
   exact h
 | ret=>simpa [uN] using h
end
theorem zRM (z : Value) (n : Nat) : rep [z] n = flat n (fun _ => [z]) := by
 apply List.ext_getElem?
 intro i
 rw [zGq]
 have h : flat n (fun _ => [z]) = List.replicate n z := by
  induction n with
  | zero=>rfl
  | succ n ih=>rw [vP,ih,List.replicate_succ']
 rw [h,List.getElem?_replicate]
def jM (C : List Bs) (nm : Bs) : Nat → Nat → Nat
 | 0,k=>k
 | r + 1,k=>if uE (C.getD k []) nm≤0 then jM C nm r (k + 1) else k
theorem zOd (C : List Bs) (nm : Bs) : ∀ r k, k ≤ jM C nm r k ∧ jM C nm r k ≤ k + r
 | 0,k=>⟨Nat.le_refl _,Nat.le_refl _⟩
 | r + 1, k => by
  have ih:=zOd C nm r (k + 1)
  simp only [jM]
  split<;>omega
def uB (C : List Bs) (ss : List zF) : Nat → Nat
 | 0=>0
 | i + 1=>jM C (sD ss i).name (C.length - uB C ss i) (uB C ss i)
theorem zDP (C : List Bs) (ss : List zF) : ∀ i, uB C ss i ≤ C.length
 | 0=>Nat.zero_le _
 | i + 1 => by
  have h1:=zDP C ss i
  have h2:=zOd C (sD ss i).name (C.length - uB C ss i) (uB C ss i)
  simp only [uB]; omega
def zHD (C:List Bs) (ss:List zF) (i:Nat):Bs:=if !(uB C ss (i + 1) == 0) && rIn (sD ss i).name (C.getD (uB C ss (i + 1) - 1) []) then C.getD (uB C ss (i + 1) - 1) [] else []
def vV (apex:Bs) (ss:List zF):List Bs:=(List.range ss.length).map (zHD (wS apex ss) ss)
def qM (f:Nat→Bs) (k i:Nat):List Value:=[S (if i < k then f i else [])]
theorem zPN (f : Nat → Bs) {n k : Nat} (hk : k < n) : (flat n (qM f k)).take k ++ [S (f k)] ++ (flat n (qM f k)).drop (k + 1) = flat n (qM f (k + 1)) := by
 have h:=zAW (n:=n) (sz:=1) (row:=qM f k) (fun _ _=>rfl) (i:=k) (j:=0) hk (by omega) (S (f k))
 rw [Nat.mul_one,Nat.add_zero] at h
 rw [h]
 apply xZ
 intro i _
 by_cases e:i=k
 ·subst e; simp [qM]
 ·rw [if_neg e]
  unfold qM
  by_cases h1:i < k
  ·rw [if_pos h1,if_pos (by omega)]
  ·rw [if_neg h1,if_neg (by omega)]
theorem zHe (f : Nat → Bs) {n k : Nat} (h : f k = []) : flat n (qM f k) = flat n (qM f (k + 1)) := by
 apply xZ
 intro i _
 unfold qM
 by_cases h1:i < k
 ·rw [if_pos h1,if_pos (by omega)]
 ·by_cases h2:i=k
  ·subst h2; rw [if_neg h1,if_pos (by omega),h]
  ·rw [if_neg h1,if_neg (by omega)]
theorem zRX {apex:Bs} {ss:List zF} (hz:SzS ss):∀ x∈wS apex ss,x.length≤1000000:=fun x h=>zDQ hz ss.length (Nat.le_refl _) x (zGp _ _ (Nat.le_refl _) x h)
theorem yLx (apex:Bs) (ss:List zF):(wS apex ss).length≤ss.length:=Nat.le_trans (zHc _ _) (zDm apex ss ss.length)
set_option maxHeartbeats 2000000 in
theorem ySQ (h4 : xH E) (apex : Bs) {v : Value} {ss : List zF} (hss : xL H v ss) (hn : ss.length ≤ 1000000000) (hz : SzS ss) :
  Fn E.P (E.fn 210) [.agg #[S apex,v]] H (fun u H'=>zG H' 1 u (vV apex ss).length (rS (vV apex ss))∧H.le H'):=by
 have hcut:=yZI h4 apex hss hn hz
 obtain⟨d,g,⟨a,cap,rfl,hsp,hr⟩,hdeep⟩:=hss
 refine Fn.of_vks h4.c210 (by simp [zMo]) ?_
 simp only [zMo,zVd,yCr,zTn,yAa,yDw,zXI,yCL,zVR,yEQ,zQc,zNA,zXf,zPV]
 simp only [go_sem,Nat.reduceBEq,Nat.reduceAdd,reduceCtorEq]
 refine zP ?_ hcut ?_
 ·simp only [go_sem,Nat.reduceEqDiff]
 rintro w H1 ⟨ob1,hO1,hle1,hob1⟩
 have hC:=hO1.at
 obtain⟨a1,c1,rfl⟩:=hO1.sl
 have hCs:=zRX (apex:=apex) hz
 have hCl:=yLx apex ss
 unfold vV
 obtain⟨C,hCC⟩:∃ C,C=wS apex ss:=⟨_,rfl⟩
 rw [← hCC] at hC hCs hCl ⊢
 have emk1:(16:Int) * (ss.length:Int)≤140737488355328:=by omega
 have emk2:(ss.length:Int)≤4611686018427387904:=by omega
 have emk3:(0:Int)≤(ss.length:Int):=by omega
 simp only [emk2,emk3,toNat_ofNat',go_sem,Nat.reduceEqDiff,Nat.reduceBEq,Nat.reduceAdd]
 refine⟨by omega,by omega,?_⟩
 intro b4 hb4
 have hb4' : H b4 = none := by
  cases hq:H b4 with
  | none=>rfl
  | some o=>rw [hle1 _ _ hq] at hb4; cases hb4
 obtain⟨f,hf⟩:∃ f,f=zHD C ss:=⟨_,rfl⟩
 refine yP ss.length 0 (fun k fr' H' => fr' = [(1, ⟨true, .box [S apex, .slice a ss.length cap]⟩), (3, ⟨true, .val (.slice a1 C.length c1)⟩), (4, ⟨true, .val (.slice (some ⟨b4, 0, none⟩) ss.length ss.length)⟩), (5, ⟨true, .val (.int .i64 (uB C ss k))⟩), (6, ⟨true, .val (.int .i64 k)⟩)] ∧
  H'=H1.put b4 (.row (flat ss.length (qM f k)) ss.length true)) (Nat.zero_le _) ⟨rfl,?_⟩ ?_
 ·rw [zRM,Nat.mul_one]
  rfl
 rintro k fr' H' hk ⟨rfl,hH'⟩
 have hle:H1.le H':=by rw [hH']; exact zM hb4 _
 by_cases hlt:k < ss.length
 ·have hdl:decide ((k:Int) < (ss.length:Int))=true:=by simpa using hlt
  obtain⟨b,o,vs,c,wr,ha,hb,hi⟩:=hr (by omega)
  subst ha
  have hb1:=hle _ _ (hle1 _ _ hb)
  have hi1:=(hi k hlt).1
  have hi2:=zH (hi k hlt).2 (j:=0) (by omega)
  simp only [xA,List.getD_cons_zero,Nat.add_zero] at hi2
  have hsz:=hz.at hlt
  have hpl:=zDP C ss k
  have hps:uB C ss (k + 1)=jM C (sD ss k).name (C.length - uB C ss k) (uB C ss k):=rfl
  have hpl1:=zDP C ss (k + 1)
  have hbe:zHD C ss k=if !(uB C ss (k + 1) == 0) && rIn (sD ss k).name (C.getD (uB C ss (k + 1) - 1) []) then C.getD (uB C ss (k + 1) - 1) [] else []:=rfl
  obtain⟨nm,hnm⟩:∃ nm,nm=(sD ss k).name:=⟨_,rfl⟩
  have hnm':(ss.getD k default).name=nm:=hnm.symm
  rw [← hnm] at hsz hps hbe
  rw [hnm'] at hi2
  obtain⟨p0,hp0⟩:∃ p,p=uB C ss k:=⟨_,rfl⟩
  obtain⟨p1,hp1⟩:∃ p,p=uB C ss (k + 1):=⟨_,rfl⟩
  rw [← hp0] at hpl hps
  rw [← hp1] at hps hpl1 hbe
  rw [← hp0]
  simp only [hdl,hb1,hi2,go_sem,Nat.reduceEqDiff,Nat.reduceBEq,Nat.reduceAdd,zC]
  refine⟨⟨by omega,by omega⟩,by omega,?_⟩
  refine zFX (fun fr'' H''=>fr'' = [(1,⟨true,.box [S apex,.slice (some ⟨b,o,none⟩) ss.length cap]⟩),(3,⟨true,.val (.slice a1 C.length c1)⟩),(4,⟨true,.val (.slice (some ⟨b4,0,none⟩) ss.length ss.length)⟩),(5,⟨true,.val (.int .i64 p1)⟩),(6,⟨true,.val (.int .i64 k)⟩),(7,⟨true,.val (S nm)⟩),(40,⟨true,.val (.bool false)⟩)]∧H''=H') ?_ ?_
  ·refine zS C.length p0 (fun j=>[(1,⟨true,.box [S apex,.slice (some ⟨b,o,none⟩) ss.length cap]⟩),(3,⟨true,.val (.slice a1 C.length c1)⟩),(4,⟨true,.val (.slice (some ⟨b4,0,none⟩) ss.length ss.length)⟩),(5,⟨true,.val (.int .i64 j)⟩),(6,⟨true,.val (.int .i64 k)⟩),(7,⟨true,.val (S nm)⟩)]) (fun j=>p1=jM C nm (C.length - j) j) hpl rfl hps ?_
   intro j hj hPj
   by_cases hlj:j < C.length
   ·have hdj:decide ((j:Int) < (C.length:Int))=true:=by simpa using hlj
    obtain⟨b2,o2,c2,cap2,vs2,wr2,hsl,hb2,hv,hvl⟩:=(hC.mono hle).str hlj
    cases hsl
    have hg:=zH (j:=0) hv (by omega)
    rw [Nat.mul_one,Nat.add_zero,List.getD_cons_zero] at hg
    rw [Nat.mul_one] at hvl
    have hxs:=hCs _ (jK hlj)
    obtain⟨r,hr'⟩:∃ r,C.length - j=r + 1:=⟨C.length - j - 1,by omega⟩
    have hr2:C.length - (j + 1)=r:=by omega
    have hgo:jM C nm (r + 1) j=if uE (C.getD j []) nm≤0 then jM C nm r (j + 1) else j:=rfl
    rw [hr',hgo] at hPj
    obtain⟨x,hx⟩:∃ x,x=C.getD j []:=⟨_,rfl⟩
    rw [← hx] at hg hxs hPj
    simp only [hdj,hb2,hg,Nat.mul_one,go_sem,Nat.reduceEqDiff,Nat.reduceBEq,zC]
    refine⟨⟨by omega,by omega⟩,by omega,?_⟩
    refine zE _ (by simp only [go_sem,Nat.reduceEqDiff]) (fun _=>⟨by simp only [go_sem,Nat.reduceEqDiff],yGL h4 x nm hxs hsz⟩) ?_
    by_cases hq:uE x nm≤0
    ·have hqd:decide (uE x nm≤0)=true:=by rw [decide_eq_true_eq]; exact hq
     rw [if_pos hq] at hPj
     simp only [hqd,go_sem,Nat.reduceEqDiff,Nat.reduceBEq,reduceCtorEq,zC]
     exact⟨hlj,zQ (by omega),by rw [hr2]; exact hPj⟩
    ·have hqd:decide (uE x nm≤0)=false:=by rw [decide_eq_false_iff_not]; exact hq
     rw [if_neg hq] at hPj
     simp only [hqd,hPj,go_sem,Nat.reduceEqDiff,Nat.reduceBEq,reduceCtorEq,zC]
   ·have hdj:decide ((j:Int) < (C.length:Int))=false:=by simpa using hlj
    have:j=C.length:=by omega
    subst this
    rw [Nat.sub_self] at hPj
    simp only [jM] at hPj
    simp only [hdj,↓vI,↓vR,go_sem,Nat.reduceEqDiff,Nat.reduceBEq,zC]
    refine zE (.int .i64 0) (by simp only [go_sem,Nat.reduceEqDiff]) (fun hg=>by simp only [go_sem,Nat.reduceEqDiff] at hg) ?_
    simp only [hPj,↓yB,go_sem,Nat.reduceEqDiff,Nat.reduceBEq,reduceCtorEq,Int.reduceLE,zC,zKp]
  ·rintro fr'' H'' ⟨rfl,rfl⟩
   by_cases h0:p1=0
   ·have e0:decide ((p1:Int) > 0)=false:=by rw [decide_eq_false_iff_not]; omega
    have e0':(p1 == 0)=true:=by simpa using h0
    rw [e0',Bool.not_true,Bool.false_and,if_neg (by simp)] at hbe
    simp only [e0,↓vI,↓vR,go_sem,Nat.reduceEqDiff,Nat.reduceBEq,zC]
    refine zE (.bool false) (by simp only [go_sem,Nat.reduceEqDiff]) (fun hg=>by simp only [go_sem,Nat.reduceEqDiff] at hg) ?_
    simp only [↓yB,go_sem,Nat.reduceEqDiff,Nat.reduceBEq,zC]
    refine⟨hlt,⟨hp1 ▸ rfl,zQ (by omega)⟩,?_⟩
    rw [hH',zHe f (by rw [hf]; exact hbe)]
   ·have e0:decide ((p1:Int) > 0)=true:=by rw [decide_eq_true_eq]; omega
    have e0':(p1 == 0)=false:=by simpa using h0
    have e1:IntKind.i64.wrap ((p1:Int) - 1)=((p1 - 1:Nat):Int):=by rw [yX]<;>omega
    obtain⟨b2,o2,c2,cap2,vs2,wr2,hsl,hb2,hv,hvl⟩:=(hC.mono hle).str (k:=p1 - 1) (by omega)
    cases hsl
    have hg:=zH (j:=0) hv (by omega)
    rw [Nat.mul_one,Nat.add_zero,List.getD_cons_zero] at hg
    rw [Nat.mul_one] at hvl
    have hxs:=hCs _ (jK (l:=C) (k:=p1 - 1) (by omega))
    obtain⟨x,hx⟩:∃ x,x=C.getD (p1 - 1) []:=⟨_,rfl⟩
    rw [e0',Bool.not_false,Bool.true_and] at hbe
    rw [← hx] at hg hxs hbe
    simp only [e0,e1,toNat_ofNat',hb2,hg,Nat.mul_one,go_sem,Nat.reduceEqDiff,Nat.reduceBEq,zC]
    refine⟨⟨by omega,by omega⟩,by omega,?_⟩
    refine zE _ (by simp only [go_sem,Nat.reduceEqDiff]) (fun _=>⟨by simp only [go_sem,Nat.reduceEqDiff],yHh h4 nm x hsz hxs⟩) ?_
    cases hq:rIn nm x
    ·rw [hq,if_neg (by simp)] at hbe
     simp only [go_sem,Nat.reduceEqDiff,Nat.reduceBEq,zC]
     refine⟨hlt,⟨hp1 ▸ rfl,zQ (by omega)⟩,?_⟩
     rw [hH',zHe f (by rw [hf]; exact hbe)]
    ·rw [hq,if_pos rfl] at hbe
     have hfk:f k=x:=by rw [hf]; exact hbe
     have hH4:H'' b4=some (.row (flat ss.length (qM f k)) ss.length true):=by rw [hH',Hp.put_same]
     have hstep:=zPN f hlt
     rw [hfk] at hstep
     have hfl:=xR (n:=ss.length) (sz:=1) (row:=qM f k) (fun _ _=>rfl)
     have hst2:k + 1≤(flat ss.length (qM f k)).length:=by rw [hfl]; omega
     simp only [e1,toNat_ofNat',hb2,hg,hH4,hstep,hst2,Nat.mul_one,go_sem,Nat.reduceEqDiff,Nat.reduceBEq,zC]
     refine⟨⟨by omega,by omega⟩,by omega,⟨by omega,by omega⟩,hlt,⟨hp1 ▸ rfl,zQ (by omega)⟩,?_⟩
     rw [hH',zHq]
 ·have hdl:decide ((k:Int) < (ss.length:Int))=false:=by simpa using hlt
  have:k=ss.length:=by omega
  subst this
  simp only [hdl,go_sem,Nat.reduceEqDiff,Nat.reduceBEq,Nat.reduceAdd,zC]
  refine⟨?_,hle1.trans hle⟩
  rw [← hf]
  have hlen:((List.range ss.length).map f).length=ss.length:=by simp
  rw [hlen]
  refine zG.ofRow (c:=ss.length) (wr:=true) (fun _ _=>rfl) ?_
  rw [hH',Hp.put_same]
  congr 2
  apply xZ
  intro i hi
  unfold qM rS
  rw [if_pos hi]
  simp [hi]
theorem zHK (apex:Bs) (ss:List zF):(vV apex ss).length=ss.length:=by simp [vV]
def zJz (B:List Bs) (ss:List zF) (i:Nat):Bool:=B.getD i [] == [] || ((sD ss i).type != 2 && (sD ss i).type != 1)
def zFI (apex:Bs) (ss:List zF):List Bool:=(List.range ss.length).map (zJz (vV apex ss) ss)
def ownRow (f:Nat→Bool) (k i:Nat):List Value:=[.bool (if i < k then f i else false)]
theorem zSf (f : Nat → Bool) {n k : Nat} (hk : k < n) : (flat n (ownRow f k)).take k ++ [.bool (f k)] ++ (flat n (ownRow f k)).drop (k + 1) = flat n (ownRow f (k + 1)) := by
 have h:=zAW (n:=n) (sz:=1) (row:=ownRow f k) (fun _ _=>rfl) (i:=k) (j:=0) hk (by omega) (.bool (f k))
 rw [Nat.mul_one,Nat.add_zero] at h
 rw [h]
 apply xZ
 intro i _
 by_cases e:i=k
 ·subst e; simp [ownRow]
 ·rw [if_neg e]
  unfold ownRow
  by_cases h1:i < k
  ·rw [if_pos h1,if_pos (by omega)]
  ·rw [if_neg h1,if_neg (by omega)]
def rB (l:List Bool) (i:Nat):List Value:=[.bool (l.getD i false)]
set_option maxHeartbeats 2000000 in
theorem yXn (h4 : xH E) (apex : Bs) {v : Value} {ss : List zF} (hss : xL H v ss) (hn : ss.length ≤ 1000000000) (hz : SzS ss) :
  Fn E.P (E.fn 211) [.agg #[S apex,v]] H (fun u H'=>zG H' 1 u (zFI apex ss).length (rB (zFI apex ss))∧H.le H'):=by
 have hbeh:=ySQ h4 apex hss hn hz
 obtain⟨d,g,⟨a,cap,rfl,hsp,hr⟩,hdeep⟩:=hss
 refine Fn.of_vks h4.c211 (by simp [zNb]) ?_
 simp only [zNb,yAU,zYb,zZR,zTD,zTe,zSU,yCC,yCV,yBw]
 simp only [go_sem,Nat.reduceBEq,Nat.reduceAdd,reduceCtorEq]
 refine zP ?_ hbeh ?_
 ·simp only [go_sem,Nat.reduceEqDiff]
 rintro w H1 ⟨hC,hle1⟩
 have hBl:=zHK apex ss
 unfold zFI
 obtain⟨C,hCC⟩:∃ C,C=vV apex ss:=⟨_,rfl⟩
 rw [← hCC] at hC hBl ⊢
 obtain⟨a1,c1,rfl⟩:=hC.sl
 have emk1:(1:Int) * (ss.length:Int)≤140737488355328:=by omega
 have emk2:(ss.length:Int)≤4611686018427387904:=by omega
 have emk3:(0:Int)≤(ss.length:Int):=by omega
 simp only [emk2,emk3,toNat_ofNat',go_sem,Nat.reduceEqDiff,Nat.reduceBEq,Nat.reduceAdd]
 refine⟨by omega,by omega,?_⟩
 intro b4 hb4
 obtain⟨f,hf⟩:∃ f,f=zJz C ss:=⟨_,rfl⟩
 refine yP ss.length 0 (fun k fr' H' => fr' = [(1, ⟨true, .box [S apex, .slice a ss.length cap]⟩), (3, ⟨true, .val (.slice a1 C.length c1)⟩), (4, ⟨true, .val (.slice (some ⟨b4, 0, none⟩) ss.length ss.length)⟩), (5, ⟨true, .val (.int .i64 k)⟩)] ∧
  H'=H1.put b4 (.row (flat ss.length (ownRow f k)) ss.length true)) (Nat.zero_le _) ⟨rfl,?_⟩ ?_
 ·rw [zRM,Nat.mul_one]
  rfl
 rintro k fr' H' hk ⟨rfl,hH'⟩
 have hle:H1.le H':=by rw [hH']; exact zM hb4 _
 by_cases hlt:k < ss.length
 ·have hdl:decide ((k:Int) < (ss.length:Int))=true:=by simpa using hlt
  obtain⟨b,o,vs,c,wr,ha,hb,hi⟩:=hr (by omega)
  subst ha
  have hb1:=hle _ _ (hle1 _ _ hb)
  have hi1:=(hi k hlt).1
  have hi2:=zH (hi k hlt).2 (j:=1) (by omega)
  simp only [xA,List.getD_cons_zero,List.getD_cons_succ] at hi2
  have hat:zJz C ss k=(C.getD k [] == [] || ((sD ss k).type != 2 && (sD ss k).type != 1)):=rfl
  obtain⟨t,ht⟩:∃ t,t=(sD ss k).type:=⟨_,rfl⟩
  have ht':(ss.getD k default).type=t:=ht.symm
  rw [← ht] at hat
  rw [ht'] at hi2
  obtain⟨b2,o2,c2,cap2,vs2,wr2,hsl,hb2,hv,hvl⟩:=(hC.mono hle).str (k:=k) (by omega)
  cases hsl
  have hg:=zH (j:=0) hv (by omega)
  rw [Nat.mul_one,Nat.add_zero,List.getD_cons_zero] at hg
  rw [Nat.mul_one] at hvl
  obtain⟨x,hx⟩:∃ x,x=C.getD k []:=⟨_,rfl⟩
  rw [← hx] at hg hat
  have hfk:f k=(x == [] || (t != 2 && t != 1)):=by rw [hf]; exact hat
  have hH4:H' b4=some (.row (flat ss.length (ownRow f k)) ss.length true):=by rw [hH',Hp.put_same]
  have hstep:=zSf f hlt
  rw [hfk] at hstep
  have hfl:=xR (n:=ss.length) (sz:=1) (row:=ownRow f k) (fun _ _=>rfl)
  have hst2:k + 1≤(flat ss.length (ownRow f k)).length:=by rw [hfl]; omega
  simp only [hdl,hb1,hi2,hb2,hg,hH4,hstep,hst2,Nat.mul_one,toNat_ofNat',go_sem,Nat.reduceEqDiff,Nat.reduceBEq,Nat.reduceAdd,zC]
  refine⟨⟨by omega,by omega⟩,by omega,⟨by omega,by omega⟩,by omega,fun h=>⟨h,fun h2=>by rw [h,h2]; rfl⟩,⟨by omega,by omega⟩,hlt,zQ (by omega),?_⟩
  rw [hH',zHq]
 ·have hdl:decide ((k:Int) < (ss.length:Int))=false:=by simpa using hlt
  have:k=ss.length:=by omega
  subst this
  simp only [hdl,go_sem,Nat.reduceEqDiff,Nat.reduceBEq,Nat.reduceAdd,reduceCtorEq,zC]
  refine⟨?_,hle1.trans hle⟩
  rw [← hf]
  have hlen:((List.range ss.length).map f).length=ss.length:=by simp
  rw [hlen]
  refine zG.ofRow (c:=ss.length) (wr:=true) (fun _ _=>rfl) ?_
  rw [hH',Hp.put_same]
  congr 2
  apply xZ
  intro i hi
  unfold ownRow rB
  rw [if_pos hi]
  simp [hi]
theorem ySo (apex:Bs) (ss:List zF):(zFI apex ss).length=ss.length:=by simp [zFI]
end Go.SL
/- Contracts: the reference's valid zones. -/
namespace Go.SL
open Go
variable {E:Env} {H:Hp}
def jZ (ss : List zF) : Nat → Bs
 | 0=>[]
 | k + 1=>if (sD ss k).type == 3 then (sD ss k).name else jZ ss k
def zFj (ss:List zF) (k:Nat):Bs:=if !(k == 0) && (sD ss (k - 1)).name == (sD ss k).name then (sD ss k).name else []
def zBp (al last:Bs) (t:Int):Bool:=last != [] && t == 3 || last != [] && last == al && t != 3 && t != 8
def zDr (ss:List zF) (k:Nat):Bool:=!zBp (jZ ss (k + 1)) (zFj ss k) (sD ss k).type
def zFp (ss:List zF):Bool:=zO (zDr ss) ss.length
theorem yFX:(([]:Bs) == [])=true:=rfl
set_option maxRecDepth 4000 in
set_option maxHeartbeats 2000000 in
theorem yXJ (h4 : xH E) (apex : Bs) {v : Value} {ss : List zF} (hss : xL H v ss) (hn : ss.length ≤ 1000000000) :
  yD E 203 [.agg #[S apex,v]] H (.bool (zFp ss)):=by
 obtain⟨d,g,⟨a,cap,rfl,hsp,hr⟩,hdeep⟩:=hss
 refine Fn.of_vks h4.c203 (by simp [zLU]) ?_
 simp only [zLU,zSD,yAA,zUJ,zXZ,yBA,yAz,zYM,yBo,zPy,zPr,zYj,zQm]
 obtain⟨q0,hq0⟩:∃ y,y=zFp ss:=⟨_,rfl⟩
 rw [← hq0]
 unfold zFp at hq0
 simp only [go_sem,Nat.reduceEqDiff,Nat.reduceBEq,reduceCtorEq]
 refine zS ss.length 0 (fun k=>[(1,⟨true,.box [S apex,.slice a ss.length cap]⟩),(3,⟨true,.val (S (jZ ss k))⟩),(4,⟨true,.val (.int .i64 k)⟩)]) (fun k=>zO (zDr ss) k=true) (Nat.zero_le _) rfl rfl ?_
 intro k hk hP
 by_cases hlt:k < ss.length
 ·have hdl:decide ((k:Int) < (ss.length:Int))=true:=by simpa using hlt
  obtain⟨b,o,vs,c,wr,rfl,hb,hi⟩:=hr (by omega)
  have hi1:=(hi k hlt).1
  have v0:=zH (hi k hlt).2 (j:=0) (by omega)
  have v1:=zH (hi k hlt).2 (j:=1) (by omega)
  have hat:zDr ss k = !zBp (jZ ss (k + 1)) (zFj ss k) (sD ss k).type:=rfl
  have hals:jZ ss (k + 1)=if (sD ss k).type == 3 then (sD ss k).name else jZ ss k:=rfl
  have hlast:zFj ss k=if !(k == 0) && (sD ss (k - 1)).name == (sD ss k).name then (sD ss k).name else []:=rfl
  obtain⟨s,hs⟩:∃ s,s=sD ss k:=⟨_,rfl⟩
  have hs':ss.getD k default=s:=hs.symm
  rw [← hs] at hat hals hlast
  simp only [xA,hs',List.getD_cons_zero,List.getD_cons_succ,Nat.add_zero] at v0 v1
  obtain⟨al,hal⟩:∃ al,al=jZ ss (k + 1):=⟨_,rfl⟩
  obtain⟨la,hla⟩:∃ la,la=zFj ss k:=⟨_,rfl⟩
  rw [← hal] at hals
  rw [← hla] at hlast
  rw [← hal,← hla] at hat
  have hbad:zBp al la s.type=true→q0=false:=fun h=>by rw [hq0]; exact zY hlt (by rw [hat,h]; rfl)
  have hgood:zBp al la s.type=false→zO (zDr ss) (k + 1)=true:=fun h=>yJ hP (by rw [hat,h]; rfl)
  unfold zBp at hbad hgood
  have hsucc:IntKind.i64.wrap ((k:Int) + 1)=((k + 1:Nat):Int):=zQ (by omega)
  cases h3:(s.type == 3)
  ·rw [h3,if_neg (by simp)] at hals
   rw [← hals]
   by_cases hk0:k=0
   ·have e0:decide ((k:Int) > 0)=false:=by rw [decide_eq_false_iff_not]; omega
    have e0':(k == 0)=true:=by simpa using hk0
    rw [e0',Bool.not_true,Bool.false_and,if_neg (by simp)] at hlast
    have ht:=hgood (by rw [hlast]; rfl)
    simp only [hdl,hb,v0,v1,h3,go_sem,Nat.reduceEqDiff,Nat.reduceBEq,Nat.reduceAdd,zC]
    simp only [zCh,hb,v0,e0,↓yB,go_sem,Nat.reduceEqDiff,Nat.reduceBEq,Nat.reduceAdd,reduceCtorEq,zC]
    refine⟨⟨by omega,by omega⟩,by omega,⟨by omega,by omega⟩,by omega,?_⟩
    simp only [zBm,bne,yFX,↓yB,go_sem,Nat.reduceEqDiff,Nat.reduceBEq,zC]
    exact⟨hlt,⟨by rw [← hal],hsucc⟩,ht⟩
   ·have e0:decide ((k:Int) > 0)=true:=by rw [decide_eq_true_eq]; omega
    have e0':(k == 0)=false:=by simpa using hk0
    have e1:IntKind.i64.wrap ((k:Int) - 1)=((k - 1:Nat):Int):=by rw [yX]<;>omega
    have j1:=(hi (k - 1) (by omega)).1
    have j0:=zH (hi (k - 1) (by omega)).2 (j:=0) (by omega)
    obtain⟨p,hp⟩:∃ p,p=sD ss (k - 1):=⟨_,rfl⟩
    have hp':ss.getD (k - 1) default=p:=hp.symm
    rw [e0',Bool.not_false,Bool.true_and,← hp] at hlast
    simp only [xA,hp',List.getD_cons_zero,Nat.add_zero] at j0
    simp only [hdl,hb,v0,v1,h3,go_sem,Nat.reduceEqDiff,Nat.reduceBEq,Nat.reduceAdd,zC]
    cases hn:(p.name == s.name)
    ·rw [hn,if_neg (by simp)] at hlast
     have ht:=hgood (by rw [hlast]; rfl)
     simp only [zCh,hb,v0,j0,hn,e0,e1,toNat_ofNat',go_sem,Nat.reduceEqDiff,Nat.reduceBEq,Nat.reduceAdd,zC]
     refine⟨⟨by omega,by omega⟩,by omega,⟨by omega,by omega⟩,by omega,⟨by omega,by omega⟩,by omega,⟨by omega,by omega⟩,by omega,?_⟩
     simp only [zBm,bne,yFX,↓yB,go_sem,Nat.reduceEqDiff,Nat.reduceBEq,zC]
     exact⟨hlt,⟨by rw [← hal],hsucc⟩,ht⟩
    ·rw [hn,if_pos rfl] at hlast
     rw [hlast] at hbad hgood
     simp only [zCh,hb,v0,j0,hn,e0,e1,toNat_ofNat',go_sem,Nat.reduceEqDiff,Nat.reduceBEq,Nat.reduceAdd,zC]
     refine⟨⟨by omega,by omega⟩,by omega,⟨by omega,by omega⟩,by omega,⟨by omega,by omega⟩,by omega,⟨by omega,by omega⟩,by omega,⟨by omega,by omega⟩,by omega,?_⟩
     simp only [zBm,go_sem,Nat.reduceEqDiff,Nat.reduceBEq,zC]
     exact⟨fun h=>⟨h,h⟩,fun h=>⟨h,fun h2=>by rw [h,h2]; rfl⟩,fun h=>⟨h,fun h2=>by rw [h,h2]; rfl⟩,fun h=>⟨h,fun h2=>by rw [h,h2]; rfl⟩,fun h=>(hbad h).symm,fun h=>⟨hlt,⟨by rw [← hal],hsucc⟩,hgood h⟩⟩
  ·rw [h3,if_pos rfl] at hals
   rw [hals] at hal hbad hgood
   by_cases hk0:k=0
   ·have e0:decide ((k:Int) > 0)=false:=by rw [decide_eq_false_iff_not]; omega
    have e0':(k == 0)=true:=by simpa using hk0
    rw [e0',Bool.not_true,Bool.false_and,if_neg (by simp)] at hlast
    have ht:=hgood (by rw [hlast]; rfl)
    simp only [hdl,hb,v0,v1,h3,go_sem,Nat.reduceEqDiff,Nat.reduceBEq,Nat.reduceAdd,zC]
    simp only [zCh,hb,v0,e0,↓yB,go_sem,Nat.reduceEqDiff,Nat.reduceBEq,Nat.reduceAdd,reduceCtorEq,zC]
    refine⟨⟨by omega,by omega⟩,by omega,⟨by omega,by omega⟩,by omega,⟨by omega,by omega⟩,by omega,?_⟩
    simp only [zBm,bne,yFX,↓yB,go_sem,Nat.reduceEqDiff,Nat.reduceBEq,zC]
    exact⟨hlt,⟨by rw [← hal],hsucc⟩,ht⟩
   ·have e0:decide ((k:Int) > 0)=true:=by rw [decide_eq_true_eq]; omega
    have e0':(k == 0)=false:=by simpa using hk0
    have e1:IntKind.i64.wrap ((k:Int) - 1)=((k - 1:Nat):Int):=by rw [yX]<;>omega
    have j1:=(hi (k - 1) (by omega)).1
    have j0:=zH (hi (k - 1) (by omega)).2 (j:=0) (by omega)
    obtain⟨p,hp⟩:∃ p,p=sD ss (k - 1):=⟨_,rfl⟩
    have hp':ss.getD (k - 1) default=p:=hp.symm
    rw [e0',Bool.not_false,Bool.true_and,← hp] at hlast
    simp only [xA,hp',List.getD_cons_zero,Nat.add_zero] at j0
    simp only [hdl,hb,v0,v1,h3,go_sem,Nat.reduceEqDiff,Nat.reduceBEq,Nat.reduceAdd,zC]
    cases hn:(p.name == s.name)
    ·rw [hn,if_neg (by simp)] at hlast
     have ht:=hgood (by rw [hlast]; rfl)
     simp only [zCh,hb,v0,j0,hn,e0,e1,toNat_ofNat',go_sem,Nat.reduceEqDiff,Nat.reduceBEq,Nat.reduceAdd,zC]
     refine⟨⟨by omega,by omega⟩,by omega,⟨by omega,by omega⟩,by omega,⟨by omega,by omega⟩,by omega,⟨by omega,by omega⟩,by omega,⟨by omega,by omega⟩,by omega,?_⟩
     simp only [zBm,bne,yFX,↓yB,go_sem,Nat.reduceEqDiff,Nat.reduceBEq,zC]
     exact⟨hlt,⟨by rw [← hal],hsucc⟩,ht⟩
    ·rw [hn,if_pos rfl] at hlast
     rw [hlast,beq_self_eq_true,Bool.and_true] at hbad hgood
     simp only [zCh,hb,v0,j0,hn,e0,e1,toNat_ofNat',go_sem,Nat.reduceEqDiff,Nat.reduceBEq,Nat.reduceAdd,zC]
     refine⟨⟨by omega,by omega⟩,by omega,⟨by omega,by omega⟩,by omega,⟨by omega,by omega⟩,by omega,⟨by omega,by omega⟩,by omega,⟨by omega,by omega⟩,by omega,⟨by omega,by omega⟩,by omega,?_⟩
     simp only [zBm,go_sem,Nat.reduceEqDiff,Nat.reduceBEq,zC]
     exact⟨fun h=>⟨h,h⟩,fun h=>⟨h,fun h2=>by rw [h,h2]; rfl⟩,fun h=>⟨h,fun h2=>by rw [h,h2]; rfl⟩,fun h=>⟨h,fun h2=>by rw [h,h2]; rfl⟩,fun h=>(hbad h).symm,fun h=>⟨hlt,⟨by rw [← hal],hsucc⟩,hgood h⟩⟩
 ·have hdl:decide ((k:Int) < (ss.length:Int))=false:=by simpa using hlt
  have:k=ss.length:=by omega
  subst this
  rw [hP] at hq0
  simp only [hdl,hq0,go_sem,Nat.reduceEqDiff,Nat.reduceBEq,Nat.reduceAdd,zC]
end Go.SL
/- Contracts: the reference's zones: what lies behind cuts. -/
namespace Go.SL
open Go
variable {E:Env} {H:Hp}
def zDD (B : List Bs) (ss : List zF) (k : Nat) : Bool :=
 !(!(B.getD k [] == []) && (sD ss k).type != 1 && !(!(B.getD k [] == []) && (sD ss k).name == B.getD k [])) &&
 !((!(B.getD k [] == []) && (sD ss k).name == B.getD k []) && (sD ss k).type != 1 && (sD ss k).type != 2 && (sD ss k).type != 6 && (sD ss k).type != 8) &&
 !((sD ss k).type == 6 && !(!(B.getD k [] == []) && (sD ss k).name == B.getD k []))
def zHv (apex:Bs) (ss:List zF):Bool:=zO (zDD (vV apex ss) ss) ss.length
set_option maxRecDepth 4000 in
set_option maxHeartbeats 2000000 in
theorem yYN (h4 : xH E) (apex : Bs) {v : Value} {ss : List zF} (hss : xL H v ss) (hn : ss.length ≤ 1000000000) (hz : SzS ss) :
  yD E 204 [.agg #[S apex,v]] H (.bool (zHv apex ss)):=by
 have hbeh:=ySQ h4 apex hss hn hz
 obtain⟨d,g,⟨a,cap,rfl,hsp,hr⟩,hdeep⟩:=hss
 refine Fn.of_vks h4.c204 (by simp [zMX]) ?_
 simp only [zMX,zYK,zYf,zUn,yBz,zVf,zVh,zZo,zYU,yCF,zQa,zQl,zPU,yAe,zNR]
 obtain⟨q0,hq0⟩:∃ y,y=zHv apex ss:=⟨_,rfl⟩
 rw [← hq0]
 unfold zHv at hq0
 simp only [go_sem,Nat.reduceBEq,Nat.reduceAdd,reduceCtorEq]
 refine zP ?_ hbeh ?_
 ·simp only [go_sem,Nat.reduceEqDiff]
 rintro w H1 ⟨hC,hle1⟩
 have hBl:=zHK apex ss
 obtain⟨C,hCC⟩:∃ C,C=vV apex ss:=⟨_,rfl⟩
 rw [← hCC] at hC hBl hq0
 obtain⟨a1,c1,rfl⟩:=hC.sl
 simp only [go_sem,Nat.reduceEqDiff,Nat.reduceBEq]
 refine zS ss.length 0 (fun k=>[(1,⟨true,.box [S apex,.slice a ss.length cap]⟩),(3,⟨true,.val (.slice a1 C.length c1)⟩),(4,⟨true,.val (.int .i64 k)⟩)]) (fun k=>zO (zDD C ss) k=true) (Nat.zero_le _) rfl rfl ?_
 intro k hk hP
 by_cases hlt:k < ss.length
 ·have hdl:decide ((k:Int) < (ss.length:Int))=true:=by simpa using hlt
  obtain⟨b,o,vs,c,wr,ha,hb,hi⟩:=hr (by omega)
  subst ha
  have hb1:=hle1 _ _ hb
  have hi1:=(hi k hlt).1
  have hi2:=qF (hi k hlt).2 0 4 (by omega)
  have hd1:=zG.one (hdeep k hlt).1
  obtain⟨s,hs⟩:∃ s,s=sD ss k:=⟨_,rfl⟩
  have hs':ss.getD k default=s:=hs.symm
  simp only [xA,hs',List.drop_zero,List.take_succ_cons,List.take_zero,Nat.add_zero] at hi2
  obtain⟨b2,o2,c2,cap2,vs2,wr2,hsl,hb2,hv,hvl⟩:=hC.str (k:=k) (by omega)
  cases hsl
  have hg:=zH (j:=0) hv (by omega)
  rw [Nat.mul_one,Nat.add_zero,List.getD_cons_zero] at hg
  rw [Nat.mul_one] at hvl
  obtain⟨x,hx⟩:∃ x,x=C.getD k []:=⟨_,rfl⟩
  have hat:zDD C ss k=(!(!(x == []) && s.type != 1 && !(!(x == []) && s.name == x)) && !((!(x == []) && s.name == x) && s.type != 1 && s.type != 2 && s.type != 6 && s.type != 8) && !(s.type == 6 && !(!(x == []) && s.name == x))):=by rw [hs,hx]; rfl
  rw [← hx] at hg
  have hbad:zDD C ss k=false→q0=false:=fun h=>by rw [hq0]; exact zY hlt h
  have hgood:zDD C ss k=true→zO (zDD C ss) (k + 1)=true:=fun h=>yJ hP h
  rw [hat] at hbad hgood
  simp only [hdl,hb1,hi2,hd1,hb2,hg,Nat.mul_one,go_sem,Nat.reduceLeDiff,Nat.reduceEqDiff,Nat.reduceBEq,Nat.reduceAdd,zC]
  refine⟨⟨by omega,by omega⟩,by omega,⟨by omega,by omega⟩,by omega,fun h=>⟨h,h,by omega,by omega⟩,fun h=>⟨h,by omega⟩,fun h=>⟨h,h⟩,⟨by omega,by omega⟩,by omega,fun h=>?_,fun h=>⟨fun h2=>?_,fun h2=>⟨fun h3=>?_,fun h3=>?_⟩⟩⟩
  ·exact⟨(hbad (by rw [h]; rfl)).symm,hle1⟩
  ·exact⟨(hbad (by rw [h,h2]; rfl)).symm,hle1⟩
  ·exact⟨(hbad (by rw [h,h2,h3]; rfl)).symm,hle1⟩
  ·exact⟨hlt,zQ (by omega),hgood (by rw [h,h2,h3]; rfl)⟩
 ·have hdl:decide ((k:Int) < (ss.length:Int))=false:=by simpa using hlt
  have:k=ss.length:=by omega
  subst this
  rw [hP] at hq0
  simp only [hdl,hq0,go_sem,Nat.reduceEqDiff,Nat.reduceBEq,Nat.reduceAdd,reduceCtorEq,zC]
  exact hle1
end Go.SL
/- Contracts: the reference's valid zones. -/
namespace Go.SL
open Go
variable {E:Env} {H:Hp}
def zCR (O:List Bool) (apex:Bs) (ss:List zF) (k:Nat):Bool:=!(!zFz (sD ss k).sigs apex || (!O.getD k false && decide ((sD ss k).sigs.length > 0)))
def zEA (apex:Bs) (ss:List zF):Bool:=zO (zCR (zFI apex ss) apex ss) ss.length
theorem zG.boolAt {v : Value} {l : List Bool} (h : zG H 1 v l.length (rB l)) {k : Nat} (hk : k < l.length) : ∃ b o c cap vs wr, v = .slice (some ⟨b, o, none⟩) l.length cap ∧ H b = some (.row vs c wr) ∧ (vs.drop (o + k * 1)).take 1 = [.bool (l.getD k false)] ∧ o + k * 1 + 1 ≤ vs.length := by
 obtain⟨a,cap,rfl,hsp,hr⟩:=h
 obtain⟨b,o,vs,c,wr,rfl,hb,hi⟩:=hr (by omega)
 exact⟨b,o,c,cap,vs,wr,rfl,hb,(hi k hk).2,(hi k hk).1⟩
set_option maxRecDepth 4000 in
set_option maxHeartbeats 2000000 in
theorem yXr (h4 : xH E) (apex : Bs) {v : Value} {ss : List zF} (hss : xL H v ss) (hn : ss.length ≤ 1000000000) (hz : SzS ss) :
  yD E 205 [.agg #[S apex,v]] H (.bool (zEA apex ss)):=by
 have hown:=yXn h4 apex hss hn hz
 obtain⟨d,g,⟨a,cap,rfl,hsp,hr⟩,hdeep⟩:=hss
 refine Fn.of_vks h4.c205 (by simp [zNa]) ?_
 simp only [zNa,yBx,zSV,zYy,yDB,zTN,yEf,yBK,yAf]
 obtain⟨q0,hq0⟩:∃ y,y=zEA apex ss:=⟨_,rfl⟩
 rw [← hq0]
 unfold zEA at hq0
 simp only [go_sem,Nat.reduceBEq,Nat.reduceAdd,reduceCtorEq]
 refine zP ?_ hown ?_
 ·simp only [go_sem,Nat.reduceEqDiff]
 rintro w H1 ⟨hC,hle1⟩
 have hBl:=ySo apex ss
 obtain⟨C,hCC⟩:∃ C,C=zFI apex ss:=⟨_,rfl⟩
 rw [← hCC] at hC hBl hq0
 obtain⟨a1,c1,rfl⟩:=hC.sl
 simp only [go_sem,Nat.reduceEqDiff,Nat.reduceBEq]
 refine zS ss.length 0 (fun k=>[(1,⟨true,.box [S apex,.slice a ss.length cap]⟩),(3,⟨true,.val (.slice a1 C.length c1)⟩),(4,⟨true,.val (.int .i64 k)⟩)]) (fun k=>zO (zCR C apex ss) k=true) (Nat.zero_le _) rfl rfl ?_
 intro k hk hP
 by_cases hlt:k < ss.length
 ·have hdl:decide ((k:Int) < (ss.length:Int))=true:=by simpa using hlt
  obtain⟨b,o,vs,c,wr,ha,hb,hi⟩:=hr (by omega)
  subst ha
  have hb1:=hle1 _ _ hb
  have hi1:=(hi k hlt).1
  have hg1:=(hdeep k hlt).2.mono hle1
  obtain⟨ga,gc,hgv⟩:=zG.sl hg1
  have v4:=zH (hi k hlt).2 (j:=4) (by omega)
  simp only [xA,hgv,List.getD_cons_zero,List.getD_cons_succ] at v4
  rw [hgv] at hg1
  obtain⟨gs,hgs⟩:∃ gs,gs=(sD ss k).sigs:=⟨_,rfl⟩
  have hgs':(ss.getD k default).sigs=gs:=hgs.symm
  rw [hgs'] at hg1 v4
  obtain⟨b2,o2,c2,cap2,vs2,wr2,hsl,hb2,hv,hvl⟩:=hC.boolAt (k:=k) (by omega)
  cases hsl
  have hg:=zH (j:=0) hv (by omega)
  rw [Nat.mul_one,Nat.add_zero,List.getD_cons_zero] at hg
  rw [Nat.mul_one] at hvl
  obtain⟨x,hx⟩:∃ x,x=C.getD k false:=⟨_,rfl⟩
  rw [← hx] at hg
  have hat:zCR C apex ss k = !(!zFz gs apex || (!x && decide (gs.length > 0))):=by rw [hgs,hx]; rfl
  have hbad:zCR C apex ss k=false→q0=false:=fun h=>by rw [hq0]; exact zY hlt h
  have hgood:zCR C apex ss k=true→zO (zCR C apex ss) (k + 1)=true:=fun h=>yJ hP h
  have e0:decide ((gs.length:Int) > 0)=decide (gs.length > 0):=by rw [Bool.eq_iff_iff,decide_eq_true_eq,decide_eq_true_eq]; omega
  simp only [hdl,hb1,v4,toNat_ofNat',go_sem,Nat.reduceLeDiff,Nat.reduceEqDiff,Nat.reduceBEq,Nat.reduceAdd,zC]
  refine⟨⟨by omega,by omega⟩,by omega,?_⟩
  refine yV _ (by simp only [go_sem]) (fun _=>⟨by simp only [go_sem,Nat.reduceEqDiff],yWy h4 apex hg1⟩) ?_ ?_
  ·simp only [hb1,v4,go_sem,Nat.reduceLeDiff,Nat.reduceEqDiff,Nat.reduceBEq,Nat.reduceAdd]
  cases hq:zFz gs apex
  ·have hf:=hbad (by rw [hat,hq]; rfl)
   simp only [hb1,v4,hb2,hg,hf,Nat.mul_one,toNat_ofNat',↓yQ,go_sem,Nat.reduceEqDiff,Nat.reduceBEq,Nat.reduceAdd,zC]
   try exact hle1
  ·cases hxx:x
   ·cases hl:decide (gs.length > 0)
    ·have ht:=hgood (by rw [hat,hq,hxx,hl]; rfl)
     simp only [hxx,e0,hl,hb1,v4,hb2,hg,ht,Nat.mul_one,toNat_ofNat',go_sem,Nat.reduceEqDiff,Nat.reduceBEq,Nat.reduceAdd,zC]
     exact⟨⟨by omega,by omega⟩,by omega,⟨by omega,by omega⟩,by omega,hlt,zQ (by omega)⟩
    ·have hf:=hbad (by rw [hat,hq,hxx,hl]; rfl)
     simp only [hxx,e0,hl,hb1,v4,hb2,hg,hf,Nat.mul_one,toNat_ofNat',go_sem,Nat.reduceEqDiff,Nat.reduceBEq,Nat.reduceAdd,zC]
     exact⟨⟨by omega,by omega⟩,by omega,⟨by omega,by omega⟩,by omega,hle1⟩
   ·have ht:=hgood (by rw [hat,hq,hxx]; rfl)
    simp only [hxx,hb1,v4,hb2,hg,ht,Nat.mul_one,toNat_ofNat',↓yB,go_sem,Nat.reduceEqDiff,Nat.reduceBEq,Nat.reduceAdd,zC]
    exact⟨⟨by omega,by omega⟩,by omega,hlt,zQ (by omega)⟩
 ·have hdl:decide ((k:Int) < (ss.length:Int))=false:=by simpa using hlt
  have:k=ss.length:=by omega
  subst this
  rw [hP] at hq0
  simp only [hdl,hq0,go_sem,Nat.reduceEqDiff,Nat.reduceBEq,Nat.reduceAdd,zC]
  exact hle1
def zFS (apex:Bs) (ss:List zF):Bool:=zDM apex ss && zKe apex ss && zFp ss && zHv apex ss && zEA apex ss
theorem zDu {apex : Bs} {ss : List zF} (h : zDM apex ss = true) : SzS ss ∧ ss.length ≤ 1000000000 := by
 rw [zIB] at h
 simp only [Bool.and_eq_true,decide_eq_true_eq] at h
 refine⟨fun s hs=>?_,by omega⟩
 obtain⟨i,hi,he⟩:=List.mem_iff_getElem.1 hs
 have h1:=yH.1 h.2 i hi
 have h2:sD ss i=s:=by unfold sD; rw [List.getD_eq_getElem?_getD,List.getElem?_eq_getElem hi]; exact he
 unfold zCA at h1
 rw [h2,Bool.and_eq_true,Bool.and_eq_true] at h1
 exact zQh h1.1.1
set_option maxHeartbeats 1000000 in
theorem yWP (h4 : xH E) (apex : Bs) {v : Value} {ss : List zF} (hss : xL H v ss) :
  yD E 194 [.agg #[S apex,v]] H (.bool (zFS apex ss)):=by
 have f1:=yYV h4 apex hss
 have f2:=fun h:zDM apex ss=true=>yXv h4 apex hss (zDu h).2
 have f3:=fun h:zDM apex ss=true=>yXJ h4 apex hss (zDu h).2
 have f4:=fun h:zDM apex ss=true=>yYN h4 apex hss (zDu h).2 (zDu h).1
 have f5:=fun h:zDM apex ss=true=>yXr h4 apex hss (zDu h).2 (zDu h).1
 have o1:yW v=true:=by obtain⟨d,g,h,_⟩:=hss; exact zG.one h
 obtain⟨a,c,rfl⟩:∃ a c,v = .slice a ss.length c:=by obtain⟨d,g,h,_⟩:=hss; exact h.sl
 refine Fn.of_vks h4.c194 (by simp [zMM]) ?_
 simp only [zMM,zXv,zWn]
 unfold zFS
 simp only [go_sem,Nat.reduceBEq,Nat.reduceAdd,reduceCtorEq]
 refine zE _ (by simp only [go_sem]) (fun _=>⟨by simp only [go_sem,Nat.reduceEqDiff],f1⟩) ?_
 simp only [go_sem,Nat.reduceEqDiff,Nat.reduceBEq,Nat.reduceAdd]
 refine zE _ (by simp only [go_sem,Nat.reduceEqDiff]) (fun hg=>⟨by simp only [go_sem,Nat.reduceEqDiff] at hg ⊢; exact hg,f2 (by simpa only [go_sem,Nat.reduceLT,Nat.reduceLeDiff,Nat.reduceEqDiff,Nat.reduceBEq,Nat.reduceAdd,Nat.reduceMul,Nat.reduceSub,reduceIte,reduceCtorEq,Int.reduceToNat,Int.reduceLE,Int.reduceEq,Int.reduceNe,Int.reduceLT,Int.reduceAdd,Int.reduceSub] using hg)⟩) ?_
 simp only [go_sem,Nat.reduceEqDiff,Nat.reduceBEq,Nat.reduceAdd]
 refine zE _ (by simp only [go_sem,Nat.reduceEqDiff]) (fun hg=>⟨by simp only [go_sem,Nat.reduceEqDiff] at hg ⊢; exact hg,f3 (by simp only [go_sem,Nat.reduceEqDiff,Bool.and_eq_true] at hg; exact hg.1)⟩) ?_
 simp only [go_sem,Nat.reduceEqDiff,Nat.reduceBEq,Nat.reduceAdd]
 refine zE _ (by simp only [go_sem,Nat.reduceEqDiff]) (fun hg=>⟨by simp only [go_sem,Nat.reduceEqDiff] at hg ⊢; exact hg,f4 (by simp only [go_sem,Nat.reduceEqDiff,Bool.and_eq_true] at hg; exact hg.1.1)⟩) ?_
 simp only [go_sem,Nat.reduceEqDiff,Nat.reduceBEq,Nat.reduceAdd]
 refine zE _ (by simp only [go_sem,Nat.reduceEqDiff]) (fun hg=>⟨by simp only [go_sem,Nat.reduceEqDiff] at hg ⊢; exact hg,f5 (by simp only [go_sem,Nat.reduceEqDiff,Bool.and_eq_true] at hg; exact hg.1.1.1)⟩) ?_
 simp only [go_sem,Nat.reduceEqDiff,Nat.reduceBEq]
theorem yGK {apex : Bs} {ss : List zF} (h : zFS apex ss = true) : apex.length ≤ 1000000 := by
 unfold zFS at h
 simp only [Bool.and_eq_true] at h
 have h1:=h.1.1.1.1
 rw [zIB] at h1
 simp only [Bool.and_eq_true] at h1
 exact Nat.le_trans (zBA h1.1.1.1) (by omega)
end Go.SL
