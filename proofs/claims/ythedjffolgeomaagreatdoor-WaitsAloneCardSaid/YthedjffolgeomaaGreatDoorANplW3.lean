/- Plain law: the longest wait of a zone whose copies end at a time. -/
import Derived.Test.YthedjffolgeomaaGreatDoorANplV1
import Derived.Test.YthedjffolgeomaaGreatDoorANplV3
import Derived.Test.YthedjffolgeomaaGreatDoorANplQ
import Derived.Test.YthedjffolgeomaaGreatDoorANplO
namespace Go.SL
open Go
abbrev yR:=List (Bs × (zF × List zO))
instance:Inhabited (Bs × (zF × List zO)):=⟨([],(default,[]))⟩
def pM (sp : zO) (G : yR) (s : zF) : yR := xV (xK s) (match yI (xK s) G with
 | some e=>(e.1,e.2 ++ [sp])
 | none=>(s,[sp])) G
def uS (sp : zO) (G : yR) (ss : List zF) : Nat → yR
 | 0=>G
 | k + 1=>pM sp (uS sp G ss k) (ss.getD k default)
def kW (fs : List yE) : Nat → yR
 | 0=>[]
 | k + 1=>uS (xR (fs.getD k default)) (kW fs k) (fs.getD k default).sets (fs.getD k default).sets.length
def wC (d : Int) (s : zF) (e : Int) : Int := max e (match s.sigs with
 | []=>e - 1 + max s.life 1 + 2 * d
 | g :: _=>min (e - 1 + max s.life 1 + 2 * d) (g.till + d + 1))
def jZ (d:Int) (s:zF) (sp:zO):zO:=⟨sp.from_,wC d s sp.till⟩
def kO (d:Int) (s:zF) (fresh:List zO):List zO:=yC (fresh.map (jZ d s))
theorem yHi (d:Int) (s:zF) (e:Int):e≤wC d s e:=by unfold wC; omega
structure zOT (fs : List yE) (G : yR) : Prop where
 key:∀ e∈G,e.1=xK e.2.1
 set:∀ e∈G,∃ c∈fs,e.2.1∈c.sets
 spans:∀ e∈G,∀ sp∈e.2.2,∃ c∈fs,sp=xR c∧∃ s∈c.sets,xK s=e.1
theorem zSl {fs : List yE} {G : yR} {c : yE} {s : zF} (hc : c ∈ fs) (hs : s ∈ c.sets) (h : zOT fs G) : zOT fs (pM (xR c) G s) := by
 unfold pM
 cases hg:yI (xK s) G with
 | none =>
  refine⟨fun e he=>?_,fun e he=>?_,fun e he sp hsp=>?_⟩
  ·rcases qX he with rfl | he
   ·rfl
   ·exact h.key e he
  ·rcases qX he with rfl | he
   ·exact⟨c,hc,hs⟩
   ·exact h.set e he
  ·rcases qX he with rfl | he
   ·simp at hsp; subst hsp; exact⟨c,hc,rfl,s,hs,rfl⟩
   ·exact h.spans e he sp hsp
 | some e0 =>
  have hm:=zAp hg
  refine⟨fun e he=>?_,fun e he=>?_,fun e he sp hsp=>?_⟩
  ·rcases qX he with rfl | he
   ·exact h.key (xK s,e0) hm
   ·exact h.key e he
  ·rcases qX he with rfl | he
   ·exact h.set (xK s,e0) hm
   ·exact h.set e he
  ·rcases qX he with rfl | he
   ·simp only at hsp
    rcases List.mem_append.1 hsp with hsp | hsp
    ·exact h.spans (xK s,e0) hm sp hsp
    ·simp at hsp; subst hsp; exact⟨c,hc,rfl,s,hs,rfl⟩
   ·exact h.spans e he sp hsp
theorem zHM {fs : List yE} {c : yE} (hc : c ∈ fs) {G : yR} (h : zOT fs G) : ∀ k, k ≤ c.sets.length → zOT fs (uS (xR c) G c.sets k)
 | 0,_=>h
 | k + 1,hk=>zSl hc (yN (by omega)) (zHM hc h k (by omega))
theorem zDG (fs : List yE) : ∀ k, k ≤ fs.length → zOT fs (kW fs k)
 | 0,_=>⟨fun e h=>(by cases h),fun e h=>(by cases h),fun e h=>(by cases h)⟩
 | k + 1,hk=>zHM (yN (by omega)) (zDG fs k (by omega)) _ (Nat.le_refl _)
def zAX (d e : Int) (ss : List zF) (a : Int) : Nat → Int
 | 0=>a
 | k + 1=>max (zAX d e ss a k) (wC d (ss.getD k default) e)
def uW (cs : List yE) (zone : Bs) (t d : Int) : Nat → Int
 | 0=>t
 | k + 1 => if (cs.getD k default).apex = zone ∧ (cs.getD k default).from_ < t then
   zAX d (min (cs.getD k default).till t) (cs.getD k default).sets (uW cs zone t d k) (cs.getD k default).sets.length else uW cs zone t d k
theorem zQh (d e : Int) (ss : List zF) (a : Int) : ∀ k, a ≤ zAX d e ss a k ∧ (∀ i, i < k → wC d (ss.getD i default) e ≤ zAX d e ss a k) ∧ (zAX d e ss a k = a ∨ ∃ i, i < k ∧ zAX d e ss a k = wC d (ss.getD i default) e)
 | 0=>⟨Int.le_refl _,fun i h=>by omega,.inl rfl⟩
 | k + 1 => by
  obtain⟨h1,h2,h3⟩:=zQh d e ss a k
  simp only [zAX]
  refine⟨by omega,fun i hi=>?_,?_⟩
  ·by_cases e':i=k
   ·subst e'; omega
   ·have:=h2 i (by omega); omega
  ·rcases Int.le_total (wC d (ss.getD k default) e) (zAX d e ss a k) with hle | hle
   ·rw [Int.max_eq_left hle]
    rcases h3 with h3 | ⟨i,hi,h3⟩
    ·exact .inl h3
    ·exact .inr ⟨i,by omega,h3⟩
   ·rw [Int.max_eq_right hle]
    exact .inr ⟨k,by omega,rfl⟩
theorem zBZ (cs : List yE) (zone : Bs) (t d : Int) : ∀ k, t ≤ uW cs zone t d k ∧
  (∀ i,i < k→(cs.getD i default).apex=zone→(cs.getD i default).from_ < t→∀ s∈(cs.getD i default).sets,wC d s (min (cs.getD i default).till t)≤uW cs zone t d k) ∧
  (uW cs zone t d k=t∨∃ i,i < k∧(cs.getD i default).apex=zone∧(cs.getD i default).from_ < t∧∃ s∈(cs.getD i default).sets,uW cs zone t d k=wC d s (min (cs.getD i default).till t))
 | 0=>⟨Int.le_refl _,fun i h=>by omega,.inl rfl⟩
 | k + 1 => by
  obtain⟨h1,h2,h3⟩:=zBZ cs zone t d k
  simp only [uW]
  split
  ·rename_i hc
   obtain⟨g1,g2,g3⟩:=zQh d (min (cs.getD k default).till t) (cs.getD k default).sets (uW cs zone t d k) (cs.getD k default).sets.length
   refine⟨by omega,fun i hi ha hf s hs=>?_,?_⟩
   ·by_cases e:i=k
    ·subst e
     obtain⟨j,hj,rfl⟩:=uO hs
     exact g2 j hj
    ·have:=h2 i (by omega) ha hf s hs; omega
   ·rcases g3 with g3 | ⟨j,hj,g3⟩
    ·rcases h3 with h3 | ⟨i,hi,ha,hf,s,hs,h3⟩
     ·exact .inl (g3.trans h3)
     ·exact .inr ⟨i,by omega,ha,hf,s,hs,g3.trans h3⟩
    ·exact .inr ⟨k,by omega,hc.1,hc.2,_,yN hj,g3⟩
  ·rename_i hc
   refine⟨h1,fun i hi ha hf s hs=>?_,?_⟩
   ·by_cases e:i=k
    ·subst e; exact absurd ⟨ha,hf⟩ hc
    ·exact h2 i (by omega) ha hf s hs
   ·rcases h3 with h3 | ⟨i,hi,h3⟩
    ·exact .inl h3
    ·exact .inr ⟨i,by omega,h3⟩
end Go.SL
/- Contracts: package span's Normal; when a set may be used. -/
namespace Go.SL
open Go
variable {E:Env} {H:Hp}
def qR (H : Hp) (v : Value) (L : List zO) : Option Nat → Prop
 | none=>v = .slice none 0 0∧L = []
 | some b=>L≠[]∧∃ cap,v = .slice (some ⟨b,0,none⟩) L.length cap∧H b=some (.row (flat L.length (yM L)) (cap * 2) true)
theorem qR.at {v : Value} {L : List zO} {ob : Option Nat} (h : qR H v L ob) : wR H v L := by
 cases ob with
 | none=>obtain⟨rfl,rfl⟩:=h; exact zG.nil
 | some b=>obtain⟨_,cap,rfl,hb⟩:=h; exact zG.ofRow (fun i _=>rfl) hb
theorem qR.sl {v:Value} {L:List zO} {ob:Option Nat} (h:qR H v L ob):∃ a c,v = .slice a L.length c:=zG.sl h.at
theorem qR.keep {H' : Hp} {v : Value} {L : List zO} {ob : Option Nat} (h : qR H v L ob) (hk : ∀ b, ob = some b → H' b = H b) : qR H' v L ob := by
 cases ob with
 | none=>exact h
 | some b=>obtain⟨h0,cap,rfl,hb⟩:=h; exact⟨h0,cap,rfl,(hk b rfl).trans hb⟩
section
variable {fr:Fr} {Q:X→Fr→Hp→Prop} {k:List Item} {d:Option Nat} {r:List zA} {live:List Nat}
theorem zDa {zero : List Value} {s x : Arg} {v : Value} {L : List zO} {ob : Option Nat} {bs : Nat} (p : zO) (h1 : vok fr s) (h2 : vok fr x) (hs : vo E fr s = v) (hx : vo E fr x = .slice (some ⟨bs, 0, none⟩) 1 1)
  (hb:H bs=some (.row [.int .i64 p.from_,.int .i64 p.till] 2 true)) (hB:qR H v L ob) (hn:L.length≤2199023255552)
  (h:∀ v' H' b',qR H' v' (L ++ [p]) (some b')→(∀ c o,H c=some o→some c≠ob→H' c=some o)→(H b'=none∨some b'=ob)→zS E (.ops r live :: k) (setD fr d ⟨true,.val v'⟩) H' Q) :
  zS E (.ops (⟨d,.app 2 16 zero s x,none⟩ :: r) live :: k) fr H Q:=by
 have e1:pG H 2 (vo E fr x):=by rw [hx]; exact .inr ⟨rfl,by rw [hb]; simp⟩
 have e2:zN H 2 (vo E fr x) = [.int .i64 p.from_,.int .i64 p.till]:=by rw [hx]; simp [zN,hb]
 have e3:zV (vo E fr x)=1:=by rw [hx]; rfl
 have e4:(zN H 2 (vo E fr x)).all yV=true:=by rw [e2]; rfl
 have hfp:=zGa L p
 cases ob with
 | none =>
  obtain⟨rfl,rfl⟩:=hB
  refine zDy h1 h2 e1 e4 hs (by rw [e3]; omega) (by rw [e3]; omega) (fun h0=>by rw [e3] at h0; cases h0) fun _ b cap hbn=>?_
  rw [e2,e3]
  refine h _ _ b ⟨by simp,cap,rfl,?_⟩ (fun c o hc _=>zJ hbn _ _ _ hc) (.inl hbn)
  rw [Hp.put_same]
  exact congrArg (fun l=>some (xI.row l (cap * 2) true)) hfp
 | some b0 =>
  obtain⟨_,cap,rfl,hH⟩:=hB
  refine zAl h1 h2 e1 e4 hs (by rw [e3]; omega) (by rw [e3]; omega) hH (xS fun i _=>rfl) rfl fun b cap' hbn=>?_
  rw [e2,e3]
  refine h _ _ b ⟨by simp,cap',by simp,?_⟩ (fun c o hc hne=>?_) ?_
  ·rw [Hp.put_same]
   exact congrArg (fun l=>some (xI.row l (cap' * 2) true)) hfp
  ·refine zJ hbn _ _ _ ?_
   rw [Hp.del_ne _ (by rintro rfl; exact hne rfl)]; exact hc
  ·by_cases e:b=b0
   ·exact .inr (by rw [e])
   ·exact .inl (by rw [Hp.del_ne _ e] at hbn; exact hbn)
end
theorem yYc (h3 : yW E) (s : zO) : yB E 141 [kF s] H (.bool (decide (s.from_ < s.till))) := by
 unfold kF
 refine Fn.of_vks h3.c141 (by simp [zMq]) ?_
 simp only [zMq,yAd,yEw]
 simp only [go_sem,Nat.reduceLeDiff,Nat.reduceEqDiff,Nat.reduceBEq,Nat.reduceAdd,reduceCtorEq,zC]
theorem yZU (hE : zX E) (h3 : yW E) (a b : zO) : yB E 143 [kF a, kF b] H (.int .i64 (kQ a b)) := by
 unfold kF kQ
 refine Fn.of_vks h3.c143 (by simp [zLA]) ?_
 simp only [zLA,yBr,zWa]
 simp only [go_sem,Nat.reduceLeDiff,Nat.reduceEqDiff,Nat.reduceBEq,Nat.reduceAdd,reduceCtorEq]
 refine zE _ ?_ (fun _=>⟨?_,zOq hE a.from_ b.from_⟩) ?_<;>simp only [go_sem,Nat.reduceEqDiff,Nat.reduceBEq]
theorem yVO (hE : zX E) (h3 : yW E) : zFS E (.func (.func (E.fn 143)) #[] #[]) kF kQ := fun _G a b =>
 yP h3.e143 (Fn.same (yZU hE h3 a b))
theorem yHB {l : List zO} {k : Nat} (hk : k < l.length) : vF (l.take (k + 1)) = vF (l.take k) ++ (if (l.getD k default).from_ < (l.getD k default).till then [l.getD k default] else []) := by
 rw [take_getDs hk]
 unfold vF
 rw [List.filter_append]
 congr 1
 by_cases e:(l.getD k default).from_ < (l.getD k default).till
 ·rw [if_pos e,List.filter_cons_of_pos (by simpa using e)]; rfl
 ·rw [if_neg e,List.filter_cons_of_neg (by simpa using e)]; rfl
where
 take_getDs {l : List zO} {k : Nat} (hk : k < l.length) : l.take (k + 1) = l.take k ++ [l.getD k default] := by
  rw [List.take_add_one,List.getElem?_eq_getElem hk,List.getD_eq_getElem?_getD,List.getElem?_eq_getElem hk]; rfl
theorem zIo (l:List zO):(vF l).length≤l.length:=List.length_filter_le _ _
set_option maxHeartbeats 1000000 in
theorem yYS (h3 : yW E) {v : Value} {l : List zO} (hl : wR H v l) (hn : l.length ≤ 1000000) :
  Fn E.P (E.fn 142) [v,.func (.func (E.fn 141)) #[] #[]] H (fun u H'=>∃ ob,qR H' u (vF l) ob∧H.le H'∧∀ b,ob=some b→H b=none):=by
 obtain⟨a,cap,rfl,hsp,hr⟩:=hl
 refine Fn.of_vks h3.c142 (by simp [zMc]) ?_
 simp only [zMc,yFo,yFi,yDi,yCZ,yCp,yGq,yDO,yES,yEh]
 simp only [go_sem,Nat.reduceEqDiff,Nat.reduceBEq,reduceCtorEq]
 refine yK l.length 0 (fun k fr' H' => ∃ u ob, fr' = [(1, ⟨true, .val (.func (.func (E.fn 141)) #[] #[])⟩), (5, ⟨true, .val u⟩), (8, ⟨true, .val (.slice a l.length cap)⟩), (9, ⟨true, .val (.int .i64 l.length)⟩), (10, ⟨true, .val (.int .i64 k)⟩)] ∧
  qR H' u (vF (l.take k)) ob∧H.le H'∧∀ b,ob=some b→H b=none) (Nat.zero_le _) ⟨_,none,rfl,⟨rfl,rfl⟩,Hp.le.refl _,fun b h=>by cases h⟩ ?_
 rintro k fr' H' hk ⟨u,ob,rfl,hO,hle,hob⟩
 obtain⟨au,cu,hu⟩:=hO.sl
 by_cases hlt:k < l.length
 ·have hd:decide ((k:Int) < (l.length:Int))=true:=by simpa using hlt
  have hr':=hr (by omega)
  obtain⟨b,o,vs,c,wr,ha,hb,hi⟩:=hr'
  subst ha
  have hb1:=hle _ _ hb
  have hi1:=(hi k hlt).1
  have hi2:=(hi k hlt).2
  have hsucc:=yHB hlt
  have hlen:=zIo (l.take k)
  have hlen2:(l.take k).length≤l.length:=by rw [List.length_take]; omega
  obtain⟨x,hx⟩:∃ y,l.getD k default=y:=⟨_,rfl⟩
  rw [hx] at hsucc
  simp only [hd,hb1,hi2,yM,hx,go_sem,Nat.reduceEqDiff,Nat.reduceBEq,Nat.reduceAdd,zC]
  refine⟨⟨by omega,by omega⟩,hi1,?_⟩
  refine xA ?_ ?_ (yP h3.e141 (Fn.same (yYc h3 x))) ?_
  ·simp only [go_sem,Nat.reduceEqDiff]
  ·simp only [go_sem,Nat.reduceEqDiff]
  rintro w H'' ⟨rfl,rfl⟩
  simp only [go_sem,Nat.reduceEqDiff,Nat.reduceBEq,Nat.reduceAdd,zC]
  refine⟨fun hc=>?_,fun hc=>?_⟩
  ·have hc':x.from_ < x.till:=by simpa using hc
   rw [if_pos hc'] at hsucc
   intro bs hbs
   have hO2 : qR (H''.put bs (.row [.int .i64 x.from_, .int .i64 x.till] 2 true)) u (vF (l.take k)) ob := hO.keep fun b hb => by
    rw [Hp.put_ne]
    rintro rfl
    subst hb
    obtain⟨_,_,_,hbb⟩:=hO
    rw [hbb] at hbs; cases hbs
   refine zDa x ?_ ?_ ?_ ?_ (Hp.put_same ..) hO2 (by omega) ?_
   ·simp only [go_sem,Nat.reduceEqDiff]
   ·simp only [go_sem,Nat.reduceEqDiff]
   ·simp only [go_sem,Nat.reduceEqDiff]
   ·simp only [go_sem,Nat.reduceEqDiff]
   intro v' H3 b' hO3 hkeep hb'
   simp only [go_sem,Nat.reduceEqDiff,Nat.reduceBEq,zC]
   have hHbs : H bs = none := by
    cases hq:H bs with
    | none=>rfl
    | some o=>rw [hle _ _ hq] at hbs; cases hbs
   refine⟨hlt,v',some b',⟨rfl,zR (by omega)⟩,by rw [hsucc]; exact hO3,fun c o hc=>?_,?_⟩
   ·refine hkeep c o ?_ (fun e=>by rw [hob c e.symm] at hc; cases hc)
    exact zJ hbs _ _ _ (hle _ _ hc)
   ·intro b2 e
    cases e
    rcases hb' with h | h
    ·cases hq:H b' with
     | none=>rfl
     | some o=>rw [zJ hbs _ _ _ (hle _ _ hq)] at h; cases h
    ·exact hob b' h.symm
  ·have hc':¬ x.from_ < x.till:=by simpa using hc
   rw [if_neg hc',List.append_nil] at hsucc
   refine⟨hlt,u,ob,⟨rfl,zR (by omega)⟩,by rw [hsucc]; exact hO,hle,hob⟩
 ·have hd:decide ((k:Int) < (l.length:Int))=false:=by simpa using hlt
  have:k=l.length:=by omega
  subst this
  rw [List.take_length] at hO
  simp only [hd,go_sem,Nat.reduceEqDiff,Nat.reduceBEq,Nat.reduceAdd,zC]
  exact⟨ob,hO,hle,hob⟩
theorem yQc {L : List zO} (h : L ≠ []) (s : zO) : zBS L s = if s.from_ ≤ (L.getD (L.length - 1) default).till then L.set (L.length - 1) ⟨(L.getD (L.length - 1) default).from_, max (L.getD (L.length - 1) default).till s.till⟩ else L ++ [s] := by
 obtain⟨L',p,rfl⟩:∃ L' p,L=L' ++ [p]:=⟨L.dropLast,L.getLast h,(List.dropLast_concat_getLast h).symm⟩
 have e1:(L' ++ [p]).length - 1=L'.length:=by simp
 have e2:(L' ++ [p]).getD L'.length default=p:=by simp
 have e3:(L' ++ [p]).getLast? = some p:=by simp
 rw [e1,e2]
 simp only [zBS,e3]
 split
 ·simp
 ·rfl
theorem zEE (l : List zO) : ∀ k, (uQ l k).length ≤ k
 | 0=>Nat.le_refl _
 | k + 1 => by
  have ih:=zEE l k
  simp only [uQ,zBS]
  split
  ·split<;>simp<;>omega
  ·simp
theorem yIb (L : List zO) {i : Nat} (hi : i < L.length) (x : Int) : flat L.length (fun i' => if i' = i then (yM L i).set 1 (.int .i64 x) else yM L i') = flat L.length (yM (L.set i ⟨(L.getD i default).from_, x⟩)) := by
 apply xW
 intro j hj
 rw [zKP L hi]
 split<;>rfl
set_option maxHeartbeats 1000000 in
theorem yZu (h3 : yW E) {v : Value} {l : List zO} (hl : wR H v l) (hn : l.length ≤ 1000000) :
  Fn E.P (E.fn 144) [v] H (fun u H'=>∃ ob,qR H' u (zKs l) ob∧H.le H'∧∀ b,ob=some b→H b=none):=by
 obtain⟨a,cap,rfl,hsp,hr⟩:=hl
 refine Fn.of_vks h3.c144 (by simp [zLP]) ?_
 simp only [zLP,yEF,zVg,zYu,yFe,zYn,zXh,yCA,yEv,yCz,zZq,zRm]
 simp only [go_sem,Nat.reduceEqDiff,Nat.reduceBEq,reduceCtorEq]
 refine yK l.length 0 (fun k fr' H' => ∃ u ob, fr' = [(3, ⟨true, .val u⟩), (7, ⟨true, .val (.slice a l.length cap)⟩), (8, ⟨true, .val (.int .i64 l.length)⟩), (9, ⟨true, .val (.int .i64 k)⟩)] ∧
  qR H' u (uQ l k) ob∧H.le H'∧∀ b,ob=some b→H b=none) (Nat.zero_le _) ⟨_,none,rfl,⟨rfl,rfl⟩,Hp.le.refl _,fun b h=>by cases h⟩ ?_
 rintro k fr' H' hk ⟨u,ob,rfl,hO,hle,hob⟩
 by_cases hlt:k < l.length
 ·have hd:decide ((k:Int) < (l.length:Int))=true:=by simpa using hlt
  have hr':=hr (by omega)
  obtain⟨b,o,vs,c,wr,ha,hb,hi⟩:=hr'
  subst ha
  have hb1:=hle _ _ hb
  have hi1:=(hi k hlt).1
  have hi2:=(hi k hlt).2
  have hsucc:uQ l (k + 1)=zBS (uQ l k) (l.getD k default):=rfl
  have hlen:=zEE l k
  obtain⟨x,hx⟩:∃ y,l.getD k default=y:=⟨_,rfl⟩
  rw [hx] at hsucc
  have push : ∀ (fin : uQ l (k + 1) = uQ l k ++ [x]) (bs : Nat), H' bs = none → qR (H'.put bs (.row [.int .i64 x.from_, .int .i64 x.till] 2 true)) u (uQ l k) ob ∧ H bs = none := by
   intro fin bs hbs
   refine⟨hO.keep fun b hb=>?_,?_⟩
   ·rw [Hp.put_ne]
    rintro rfl
    subst hb
    obtain⟨_,_,_,hbb⟩:=hO
    rw [hbb] at hbs; cases hbs
   ·cases hq:H bs with
    | none=>rfl
    | some o=>rw [hle _ _ hq] at hbs; cases hbs
  cases ob with
  | none =>
   obtain⟨rfl,hnil⟩:=hO
   have hfin:uQ l (k + 1)=uQ l k ++ [x]:=by rw [hsucc,hnil]; rfl
   have d0:decide ((0:Int) > 0)=false:=by decide
   have cN:((0:Nat):Int)=0:=rfl
   simp only [hd,hb1,hi2,yM,hx,undef,cN,d0,go_sem,Nat.reduceLeDiff,Nat.reduceEqDiff,Nat.reduceBEq,Nat.reduceAdd,Int.reduceSub,zC]
   refine⟨⟨by omega,by omega⟩,hi1,?_⟩
   intro bs hbs
   have hp:=push hfin bs hbs
   refine zDa x ?_ ?_ ?_ ?_ (Hp.put_same ..) hp.1 (by omega) ?_
   ·simp only [go_sem,Nat.reduceEqDiff]
   ·simp only [go_sem,Nat.reduceEqDiff]
   ·simp only [go_sem,Nat.reduceEqDiff]
   ·simp only [go_sem,Nat.reduceEqDiff]
   intro v' H3 b' hO3 hkeep hb'
   simp only [go_sem,Nat.reduceEqDiff,Nat.reduceBEq,zC]
   refine⟨hlt,v',some b',⟨rfl,zR (by omega)⟩,by rw [hfin]; exact hO3,fun c o hc=>hkeep c o (zJ hbs _ _ _ (hle _ _ hc)) (by simp),?_⟩
   intro b2 e
   cases e
   rcases hb' with h | h
   ·cases hq:H b' with
    | none=>rfl
    | some o=>rw [zJ hbs _ _ _ (hle _ _ hq)] at h; cases h
   ·cases h
  | some b0 =>
   have hO':=hO
   obtain⟨hne,cp,rfl,hrow⟩:=hO'
   have hsucc':=hsucc
   rw [yQc hne] at hsucc'
   obtain⟨L,hL⟩:∃ y,y=uQ l k:=⟨_,rfl⟩
   rw [← hL] at hne hrow hsucc' hlen hO push
   rw [← hL]
   have hpos:0 < L.length:=List.length_pos_iff.2 hne
   have d0:decide ((L.length:Int) > 0)=true:=by rw [decide_eq_true_eq]; omega
   have e1:IntKind.i64.wrap ((L.length:Int) - 1)=((L.length - 1:Nat):Int):=by rw [yZ]<;>omega
   have hfl:(flat L.length (yM L)).length=L.length * 2:=xS fun i _=>rfl
   have hr0:=pK (n:=L.length) (sz:=2) (row:=yM L) (fun i _=>rfl) (L.length - 1) (by omega)
   have v1:=zK (o:=(L.length - 1) * 2) (sz:=2) (j:=1) hr0 (by omega)
   simp only [yM,List.getD_cons_zero,List.getD_cons_succ] at v1
   obtain⟨p,hp⟩:∃ y,y=L.getD (L.length - 1) default:=⟨_,rfl⟩
   rw [← hp] at v1 hsucc'
   simp only [hd,hb1,hi2,yM,hx,d0,e1,hrow,hfl,v1,go_sem,Nat.reduceLeDiff,Nat.reduceEqDiff,Nat.reduceBEq,Nat.reduceAdd,zC]
   refine⟨⟨by omega,by omega⟩,hi1,⟨by omega,by omega⟩,by omega,fun hc=>?_,fun hc=>?_⟩
   ·have hc':x.from_≤p.till:=by simpa using hc
    rw [if_pos hc'] at hsucc'
    have hs:=zAQ (n:=L.length) (sz:=2) (row:=yM L) (fun i _=>rfl) (i:=L.length - 1) (j:=1) (by omega) (by omega) (.int .i64 (max p.till x.till))
    rw [yIb L (by omega),← hp] at hs
    refine⟨⟨by omega,by omega⟩,by omega,⟨by omega,by omega⟩,?_⟩
    simp only [hrow,hfl,jW,go_sem,Nat.reduceEqDiff,Nat.reduceBEq,Nat.reduceAdd,zC]
    rw [hs]
    refine⟨by omega,hlt,_,some b0,⟨rfl,zR (by omega)⟩,?_,zH hle (hob b0 rfl) _,hob⟩
    rw [hsucc']
    refine⟨fun h=>hne (List.length_eq_zero_iff.1 (by rw [← List.length_set (as:=L),h]; rfl)),cp,by rw [List.length_set],?_⟩
    rw [Hp.put_same,List.length_set]
   ·have hc':¬ x.from_≤p.till:=by simpa using hc
    rw [if_neg hc'] at hsucc'
    intro bs hbs
    have hpp:=push hsucc' bs hbs
    refine zDa x ?_ ?_ ?_ ?_ (Hp.put_same ..) hpp.1 (by omega) ?_
    ·simp only [go_sem,Nat.reduceEqDiff]
    ·simp only [go_sem,Nat.reduceEqDiff]
    ·simp only [go_sem,Nat.reduceEqDiff]
    ·simp only [go_sem,Nat.reduceEqDiff]
    intro v' H3 b' hO3 hkeep hb'
    simp only [go_sem,Nat.reduceEqDiff,Nat.reduceBEq,zC]
    refine⟨hlt,v',some b',⟨rfl,zR (by omega)⟩,by rw [hsucc']; exact hO3,fun c o hc=>hkeep c o (zJ hbs _ _ _ (hle _ _ hc)) (fun e=>by rw [hob c e.symm] at hc; cases hc),?_⟩
    intro b2 e
    cases e
    rcases hb' with h | h
    ·cases hq:H b' with
     | none=>rfl
     | some o=>rw [zJ hbs _ _ _ (hle _ _ hq)] at h; cases h
    ·exact hob b' h.symm
 ·have hd:decide ((k:Int) < (l.length:Int))=false:=by simpa using hlt
  have:k=l.length:=by omega
  subst this
  simp only [hd,go_sem,Nat.reduceEqDiff,Nat.reduceBEq,Nat.reduceAdd,zC]
  exact⟨ob,hO,hle,hob⟩
end Go.SL
/- Plain law: when a history is valid; the history whose copies of a zone end at a time is valid. -/
namespace Go.SL
open Go
def zCr (a b:zO):Prop:=a.till≤b.from_∨b.till≤a.from_
theorem zCr.symm {a b:zO} (h:zCr a b):zCr b a:=h.elim .inr .inl
def zIQ (cs:List yE):Prop:=cs.Pairwise fun c c'=>c.key=c'.key→zCr (xR c) (xR c')
theorem ySg {l : List zO} (hv : ∀ s ∈ l, s.from_ < s.till) (ho : yHP (fun s : zO => s.from_) l l.length) :
  zIC l=true↔l.Pairwise zCr:=by
 unfold zIC
 rw [yG,List.pairwise_iff_getElem]
 have hget:∀ i (hi:i < l.length),l.getD i default=l[i]:=fun i hi=>by rw [List.getD_eq_getElem?_getD,List.getElem?_eq_getElem hi]; rfl
 constructor
 ·intro h
  have hadj : ∀ i, (hi : i + 1 < l.length) → (l[i]'(by omega)).till ≤ (l[i + 1]).from_ := by
   intro i hi
   have:=h i (by omega)
   rw [hget (i + 1) hi,hget i (by omega)] at this
   simp at this
   exact this
  have key : ∀ n i (hi : i + n + 1 < l.length), (l[i]'(by omega)).till ≤ (l[i + n + 1]).from_ := by
   intro n
   induction n with
   | zero=>intro i hi; exact hadj i hi
   | succ n ih =>
    intro i hi
    have h1:=ih i (by omega)
    have h2:=hadj (i + n + 1) (by omega)
    have h3:=hv _ (List.getElem_mem (show i + n + 1 < l.length by omega))
    have:(l[i + (n + 1) + 1]).from_=(l[i + n + 1 + 1]'(by omega)).from_:=by congr 1
    omega
  intro i j hi hj hij
  have:=key (j - i - 1) i (by omega)
  refine .inl ?_
  have e:i + (j - i - 1) + 1=j:=by omega
  simp only [e] at this
  exact this
 ·intro h i hi
  have h1:=h i (i + 1) (by omega) (by omega) (by omega)
  have h2:(l.getD i default).from_≤(l.getD (i + 1) default).from_:=ho i (by omega)
  rw [hget (i + 1) (by omega),hget i (by omega)] at h2 ⊢
  have h3:=hv _ (List.getElem_mem (show i + 1 < l.length by omega))
  simp only [Bool.not_eq_true',decide_eq_false_iff_not]
  rcases h1 with h1 | h1<;>omega
theorem zLf {l : List zO} (hv : ∀ s ∈ l, s.from_ < s.till) : kR l = true ↔ l.Pairwise zCr := by
 have hp:=zBP vD l.length l (Nat.le_refl _)
 unfold kR
 rw [ySg (fun s hs=>hv s (hp.mem_iff.1 hs)) (yOR l)]
 exact hp.pairwise_iff zCr.symm
theorem zDl {κ ν : Type} [DecidableEq κ] {k : κ} {v : ν} : ∀ {l : List (κ × ν)}, (l.map (·.1)).Nodup → ((xV k v l).map (·.1)).Nodup
 | [],_=>by simp [xV]
 | (k', v') :: r, h => by
  simp only [List.map_cons,List.nodup_cons] at h
  simp only [xV]
  split
  ·rename_i e; subst e; simpa using h
  ·rename_i e
   simp only [List.map_cons,List.nodup_cons]
   refine⟨fun hm=>?_,zDl h.2⟩
   obtain⟨x,hx,hx2⟩:=List.mem_map.1 hm
   rcases qX hx with rfl | hx
   ·exact e hx2
   ·exact h.1 (List.mem_map.2 ⟨x,hx,hx2⟩)
theorem zHO {κ ν : Type} [DecidableEq κ] {k : κ} {v : ν} {e : κ × ν} : ∀ {l : List (κ × ν)}, (l.map (·.1)).Nodup → e ∈ xV k v l → e = (k, v) ∨ (e ∈ l ∧ e.1 ≠ k)
 | [],_,h=>.inl (by simpa [xV] using h)
 | (k', v') :: r, hn, h => by
  simp only [List.map_cons,List.nodup_cons] at hn
  simp only [xV] at h
  split at h
  ·rename_i e'; subst e'
   rcases List.mem_cons.1 h with h | h
   ·exact .inl h
   ·exact .inr ⟨List.mem_cons_of_mem _ h,fun he=>hn.1 (List.mem_map.2 ⟨e,h,he⟩)⟩
  ·rename_i e'
   rcases List.mem_cons.1 h with h | h
   ·exact .inr ⟨by rw [h]; exact List.mem_cons_self,by rw [h]; exact Ne.symm e'⟩
   ·rcases zHO hn.2 h with h | h
    ·exact .inl h
    ·exact .inr ⟨List.mem_cons_of_mem _ h.1,h.2⟩
theorem zGm (cs : List yE) : ∀ k, ((yD cs k).map (·.1)).Nodup
 | 0=>by simp [yD]
 | k + 1=>zDl (zGm cs k)
def jB (cs:List yE) (p:zBy):List zO:=(cs.filter fun c=>decide (c.key=p)).map xR
theorem yJK {cs : List yE} {k : Nat} (hk : k < cs.length) : cs.take (k + 1) = cs.take k ++ [cs.getD k default] := by
 rw [List.take_add_one,List.getElem?_eq_getElem hk,List.getD_eq_getElem?_getD,List.getElem?_eq_getElem hk]; rfl
theorem zHw (cs : List yE) : ∀ k, k ≤ cs.length → (∀ p, (yI p (yD cs k)).getD [] = jB (cs.take k) p) ∧ (∀ e ∈ yD cs k, e.2 = jB (cs.take k) e.1)
 | 0,_=>⟨fun p=>(by simp [yD,yI,jB]),fun e h=>by cases h⟩
 | k + 1, hk => by
  obtain⟨h1,h2⟩:=zHw cs k (by omega)
  have ht:=yJK (cs:=cs) (k:=k) (by omega)
  have hsp : ∀ p, jB (cs.take (k + 1)) p = jB (cs.take k) p ++ (if (cs.getD k default).key = p then [xR (cs.getD k default)] else []) := by
   intro p
   rw [ht]
   unfold jB
   rw [List.filter_append,List.map_append]
   congr 1
   by_cases e:(cs.getD k default).key=p
   ·rw [if_pos e,List.filter_cons_of_pos (by simpa using e)]; rfl
   ·rw [if_neg e,List.filter_cons_of_neg (by simpa using e)]; rfl
  refine⟨fun p=>?_,fun e he=>?_⟩
  ·simp only [yD]
   rw [zAg,hsp]
   by_cases e:p=(cs.getD k default).key
   ·subst e
    rw [if_pos rfl,if_pos rfl,Option.getD_some,h1]
   ·rw [if_neg e,if_neg (Ne.symm e),List.append_nil,h1]
  ·simp only [yD] at he
   rw [hsp]
   rcases zHO (zGm cs k) he with rfl | ⟨he,hne⟩
   ·rw [if_pos rfl,h1]
   ·rw [if_neg (Ne.symm hne),List.append_nil]; exact h2 e he
theorem zIU (cs : List yE) : ∀ k i, i < k → ∃ e ∈ yD cs k, e.1 = (cs.getD i default).key
 | 0,i,h=>by omega
 | k + 1, i, h => by
  have hg : ∀ p, (yI p (yD cs (k + 1))).isSome = true → ∃ e ∈ yD cs (k + 1), e.1 = p := by
   intro p hp
   cases hm:yI p (yD cs (k + 1)) with
   | none=>rw [hm] at hp; cases hp
   | some v=>exact⟨_,zAp hm,rfl⟩
  by_cases e:i=k
  ·subst e
   apply hg
   simp only [yD]
   rw [zAg,if_pos rfl]; rfl
  ·obtain⟨e0,he0,hk0⟩:=zIU cs k i (by omega)
   apply hg
   simp only [yD]
   rw [zAg]
   split
   ·rfl
   ·rw [← hk0]
    have:=mget_some_of_mem he0
    exact this
where
 mget_some_of_mem {κ ν : Type} [DecidableEq κ] {l : List (κ × ν)} {e : κ × ν} (h : e ∈ l) : (yI e.1 l).isSome = true := by
  induction l with
  | nil=>cases h
  | cons x r ih =>
   obtain⟨k',v'⟩:=x
   simp only [yI]
   split
   ·rfl
   ·rename_i hne
    rcases List.mem_cons.1 h with rfl | h
    ·exact absurd rfl hne
    ·exact ih h
theorem zGe (cs : List yE) : zIQ cs ↔ ∀ p, (jB cs p).Pairwise zCr := by
 unfold zIQ jB
 constructor
 ·intro h p
  rw [List.pairwise_map]
  have:=List.Pairwise.filter (fun c=>decide (c.key=p)) h
  refine List.Pairwise.imp_of_mem ?_ this
  intro a b ha hb hab
  have ha':=of_decide_eq_true (List.mem_filter.1 ha).2
  have hb':=of_decide_eq_true (List.mem_filter.1 hb).2
  exact hab (ha'.trans hb'.symm)
 ·intro h
  induction cs with
  | nil=>exact List.Pairwise.nil
  | cons c cs ih =>
   refine List.pairwise_cons.2 ⟨fun c' hc' hk=>?_,ih fun p=>?_⟩
   ·have:=h c.key
    rw [List.filter_cons_of_pos (by simp),List.map_cons,List.pairwise_cons] at this
    exact this.1 _ (List.mem_map.2 ⟨c',List.mem_filter.2 ⟨hc',by simp [hk]⟩,rfl⟩)
   ·have:=h p
    by_cases e:c.key=p
    ·rw [List.filter_cons_of_pos (by simp [e]),List.map_cons,List.pairwise_cons] at this
     exact this.2
    ·rw [List.filter_cons_of_neg (by simp [e])] at this
     exact this
theorem zIv {cs : List yE} (hv : ∀ c ∈ cs, c.from_ < c.till) : zP (fun i => kR ((yD cs cs.length).getD i default).2) (yD cs cs.length).length = true ↔ zIQ cs := by
 have hs:=zHw cs cs.length (Nat.le_refl _)
 rw [List.take_length] at hs
 have hvs : ∀ p, ∀ s ∈ jB cs p, s.from_ < s.till := by
  intro p s hsp
  obtain⟨c,hc,rfl⟩:=List.mem_map.1 hsp
  exact hv c (List.mem_filter.1 hc).1
 rw [zGe,yG]
 constructor
 ·intro h p
  by_cases hp:∃ c∈cs,c.key=p
  ·obtain⟨c,hc,rfl⟩:=hp
   obtain⟨i,hi,rfl⟩:=uO hc
   obtain⟨e,he,hek⟩:=zIU cs cs.length i hi
   obtain⟨j,hj,hje⟩:=uO he
   have:=h j hj
   rw [hje,hs.2 e he,zLf (hvs _),hek] at this
   exact this
  ·have : jB cs p = [] := by
    unfold jB
    rw [List.filter_eq_nil_iff.2]
    ·rfl
    ·intro c hc hk
     exact hp ⟨c,hc,of_decide_eq_true hk⟩
   rw [this]; exact List.Pairwise.nil
 ·intro h j hj
  have hm:=yN hj
  rw [hs.2 _ hm,zLf (hvs _)]
  exact h _
theorem zLl {κ : Type} [DecidableEq κ] (f : Nat → κ) : ∀ k, (jK f k).length ≤ k
 | 0=>Nat.le_refl _
 | k + 1=>by simp only [jK]; have:=zIn (f k) true (jK f k); have:=zLl f k; omega
structure zIz (h : yO) : Prop where
 end1:1≤h.end_
 end2:h.end_≤10000000
 drift1:0≤h.drift
 drift2:h.drift≤1000
 num:h.copies.length≤4000
 hosts:zAC (zBu h)=true
 copy:∀ c∈h.copies,0≤c.host∧c.host < (h.hosts.length:Int)∧0≤c.from_∧c.from_ < c.till∧c.till≤h.end_∧xB c.apex c.sets=true
 disj:zIQ h.copies
 apexes:(xJ h.copies h.copies.length).length≤500
theorem zHR {nh e : Int} {c : yE} : kZ nh e c = true ↔ 0 ≤ c.host ∧ c.host < nh ∧ 0 ≤ c.from_ ∧ c.from_ < c.till ∧ c.till ≤ e ∧ xB c.apex c.sets = true := by
 unfold kZ zId
 simp only [Bool.and_eq_true,Bool.not_eq_true',Bool.or_eq_false_iff,decide_eq_false_iff_not]
 constructor
 ·rintro⟨⟨⟨⟨⟨h1,h2⟩,h3⟩,h4⟩,h5⟩,h6⟩
  exact⟨by omega,by omega,by omega,by omega,by omega,h6⟩
 ·rintro⟨h1,h2,h3,h4,h5,h6⟩
  exact⟨⟨⟨⟨⟨by omega,by omega⟩,by omega⟩,by omega⟩,by omega⟩,h6⟩
theorem qW {h : yO} : yS h = true ↔ zIz h := by
 unfold yS zEN
 simp only [Bool.and_eq_true,Bool.not_eq_true',Bool.or_eq_false_iff,decide_eq_false_iff_not,decide_eq_true_eq]
 constructor
 ·rintro⟨⟨⟨⟨⟨h1,h2⟩,h3⟩,h4⟩,h5⟩,h6,h7,h8,h9⟩
  have hc : ∀ c ∈ h.copies, 0 ≤ c.host ∧ c.host < (h.hosts.length : Int) ∧ 0 ≤ c.from_ ∧ c.from_ < c.till ∧ c.till ≤ h.end_ ∧ xB c.apex c.sets = true := by
   intro c hc
   obtain⟨i,hi,rfl⟩:=uO hc
   exact zHR.1 (yG.1 h7 i hi)
  exact⟨by omega,by omega,by omega,by omega,by omega,h6,hc,(zIv fun c hm=>(hc c hm).2.2.2.1).1 h8,h9⟩
 ·intro ho
  refine⟨⟨⟨⟨⟨?_,?_⟩,?_⟩,?_⟩,?_⟩,ho.hosts,yG.2 fun i hi=>zHR.2 (ho.copy _ (yN hi)),(zIv fun c hm=>(ho.copy c hm).2.2.2.1).2 ho.disj,ho.apexes⟩
  ·have:=ho.end1; omega
  ·have:=ho.end2; omega
  ·have:=ho.drift1; omega
  ·have:=ho.drift2; omega
  ·have:=ho.num; omega
end Go.SL
