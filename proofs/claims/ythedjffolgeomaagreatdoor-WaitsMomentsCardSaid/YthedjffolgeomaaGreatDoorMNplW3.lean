/- Plain law: the longest wait of a zone whose copies end at a time. -/
import Derived.Test.YthedjffolgeomaaGreatDoorMNplW2
import Derived.Test.YthedjffolgeomaaGreatDoorMNplT29
import Derived.Test.YthedjffolgeomaaGreatDoorMNplQ
import Derived.Test.YthedjffolgeomaaGreatDoorMNplO
namespace Go.SL
open Go
abbrev yU:=List (Bs × (zF × List zN))
instance:Inhabited (Bs × (zF × List zN)):=⟨([],(default,[]))⟩
def pG (sp : zN) (G : yU) (s : zF) : yU := xU (xW s) (match yK (xW s) G with
 | some e=>(e.1,e.2 ++ [sp])
 | none=>(s,[sp])) G
def qA (sp : zN) (G : yU) (ss : List zF) : Nat → yU
 | 0=>G
 | k + 1=>pG sp (qA sp G ss k) (ss.getD k default)
def jL (fs : List yE) : Nat → yU
 | 0=>[]
 | k + 1=>qA (xX (fs.getD k default)) (jL fs k) (fs.getD k default).sets (fs.getD k default).sets.length
def wM (d : Int) (s : zF) (e : Int) : Int := max e (match s.sigs with
 | []=>e - 1 + max s.life 1 + 2 * d
 | g :: _=>min (e - 1 + max s.life 1 + 2 * d) (g.till + d + 1))
def zAC (d:Int) (s:zF) (sp:zN):zN:=⟨sp.from_,wM d s sp.till⟩
def zEw (d:Int) (s:zF) (fresh:List zN):List zN:=yC (fresh.map (zAC d s))
theorem yGM (d:Int) (s:zF) (e:Int):e≤wM d s e:=by unfold wM; omega
structure zRn (fs : List yE) (G : yU) : Prop where
 key:∀ e∈G,e.1=xW e.2.1
 set:∀ e∈G,∃ c∈fs,e.2.1∈c.sets
 spans:∀ e∈G,∀ sp∈e.2.2,∃ c∈fs,sp=xX c∧∃ s∈c.sets,xW s=e.1
theorem zRY {fs : List yE} {G : yU} {c : yE} {s : zF} (hc : c ∈ fs) (hs : s ∈ c.sets) (h : zRn fs G) : zRn fs (pG (xX c) G s) := by
 unfold pG
 cases hg:yK (xW s) G with
 | none =>
  refine⟨fun e he=>?_,fun e he=>?_,fun e he sp hsp=>?_⟩
  ·rcases pM he with rfl | he
   ·rfl
   ·exact h.key e he
  ·rcases pM he with rfl | he
   ·exact⟨c,hc,hs⟩
   ·exact h.set e he
  ·rcases pM he with rfl | he
   ·simp at hsp; subst hsp; exact⟨c,hc,rfl,s,hs,rfl⟩
   ·exact h.spans e he sp hsp
 | some e0 =>
  have hm:=zBf hg
  refine⟨fun e he=>?_,fun e he=>?_,fun e he sp hsp=>?_⟩
  ·rcases pM he with rfl | he
   ·exact h.key (xW s,e0) hm
   ·exact h.key e he
  ·rcases pM he with rfl | he
   ·exact h.set (xW s,e0) hm
   ·exact h.set e he
  ·rcases pM he with rfl | he
   ·simp only at hsp
    rcases List.mem_append.1 hsp with hsp | hsp
    ·exact h.spans (xW s,e0) hm sp hsp
    ·simp at hsp; subst hsp; exact⟨c,hc,rfl,s,hs,rfl⟩
   ·exact h.spans e he sp hsp
theorem zHM {fs : List yE} {c : yE} (hc : c ∈ fs) {G : yU} (h : zRn fs G) : ∀ k, k ≤ c.sets.length → zRn fs (qA (xX c) G c.sets k)
 | 0,_=>h
 | k + 1,hk=>zRY hc (yY (by omega)) (zHM hc h k (by omega))
theorem zPv (fs : List yE) : ∀ k, k ≤ fs.length → zRn fs (jL fs k)
 | 0,_=>⟨fun e h=>(by cases h),fun e h=>(by cases h),fun e h=>(by cases h)⟩
 | k + 1,hk=>zHM (yY (by omega)) (zPv fs k (by omega)) _ (Nat.le_refl _)
def zAZ (d e : Int) (ss : List zF) (a : Int) : Nat → Int
 | 0=>a
 | k + 1=>max (zAZ d e ss a k) (wM d (ss.getD k default) e)
def kC (cs : List yE) (zone : Bs) (t d : Int) : Nat → Int
 | 0=>t
 | k + 1 => if (cs.getD k default).apex = zone ∧ (cs.getD k default).from_ < t then
   zAZ d (min (cs.getD k default).till t) (cs.getD k default).sets (kC cs zone t d k) (cs.getD k default).sets.length else kC cs zone t d k
theorem zQC (d e : Int) (ss : List zF) (a : Int) : ∀ k, a ≤ zAZ d e ss a k ∧ (∀ i, i < k → wM d (ss.getD i default) e ≤ zAZ d e ss a k) ∧ (zAZ d e ss a k = a ∨ ∃ i, i < k ∧ zAZ d e ss a k = wM d (ss.getD i default) e)
 | 0=>⟨Int.le_refl _,fun i h=>by omega,.inl rfl⟩
 | k + 1 => by
  obtain⟨h1,h2,h3⟩:=zQC d e ss a k
  simp only [zAZ]
  refine⟨by omega,fun i hi=>?_,?_⟩
  ·by_cases e':i=k
   ·subst e'; omega
   ·have:=h2 i (by omega); omega
  ·rcases Int.le_total (wM d (ss.getD k default) e) (zAZ d e ss a k) with hle | hle
   ·rw [Int.max_eq_left hle]
    rcases h3 with h3 | ⟨i,hi,h3⟩
    ·exact .inl h3
    ·exact .inr ⟨i,by omega,h3⟩
   ·rw [Int.max_eq_right hle]
    exact .inr ⟨k,by omega,rfl⟩
theorem zIn (cs : List yE) (zone : Bs) (t d : Int) : ∀ k, t ≤ kC cs zone t d k ∧
  (∀ i,i < k→(cs.getD i default).apex=zone→(cs.getD i default).from_ < t→∀ s∈(cs.getD i default).sets,wM d s (min (cs.getD i default).till t)≤kC cs zone t d k) ∧
  (kC cs zone t d k=t∨∃ i,i < k∧(cs.getD i default).apex=zone∧(cs.getD i default).from_ < t∧∃ s∈(cs.getD i default).sets,kC cs zone t d k=wM d s (min (cs.getD i default).till t))
 | 0=>⟨Int.le_refl _,fun i h=>by omega,.inl rfl⟩
 | k + 1 => by
  obtain⟨h1,h2,h3⟩:=zIn cs zone t d k
  simp only [kC]
  split
  ·rename_i hc
   obtain⟨g1,g2,g3⟩:=zQC d (min (cs.getD k default).till t) (cs.getD k default).sets (kC cs zone t d k) (cs.getD k default).sets.length
   refine⟨by omega,fun i hi ha hf s hs=>?_,?_⟩
   ·by_cases e:i=k
    ·subst e
     obtain⟨j,hj,rfl⟩:=qR hs
     exact g2 j hj
    ·have:=h2 i (by omega) ha hf s hs; omega
   ·rcases g3 with g3 | ⟨j,hj,g3⟩
    ·rcases h3 with h3 | ⟨i,hi,ha,hf,s,hs,h3⟩
     ·exact .inl (g3.trans h3)
     ·exact .inr ⟨i,by omega,ha,hf,s,hs,g3.trans h3⟩
    ·exact .inr ⟨k,by omega,hc.1,hc.2,_,yY hj,g3⟩
  ·rename_i hc
   refine⟨h1,fun i hi ha hf s hs=>?_,?_⟩
   ·by_cases e:i=k
    ·subst e; exact absurd ⟨ha,hf⟩ hc
    ·exact h2 i (by omega) ha hf s hs
   ·rcases h3 with h3 | ⟨i,hi,h3⟩
    ·exact .inl h3
    ·exact .inr ⟨i,by omega,h3⟩
end Go.SL
/- Contracts: package span's Normal; when a set may be used. -/
namespace Go.SL
open Go
variable {E:Env} {H:Hp}
def qK (H : Hp) (v : Value) (L : List zN) : Option Nat → Prop
 | none=>v = .slice none 0 0∧L = []
 | some b=>L≠[]∧∃ cap,v = .slice (some ⟨b,0,none⟩) L.length cap∧H b=some (.row (flat L.length (yN L)) (cap * 2) true)
theorem qK.at {v : Value} {L : List zN} {ob : Option Nat} (h : qK H v L ob) : wP H v L := by
 cases ob with
 | none=>obtain⟨rfl,rfl⟩:=h; exact zG.nil
 | some b=>obtain⟨_,cap,rfl,hb⟩:=h; exact zG.ofRow (fun i _=>rfl) hb
theorem qK.sl {v:Value} {L:List zN} {ob:Option Nat} (h:qK H v L ob):∃ a c,v = .slice a L.length c:=zG.sl h.at
theorem qK.keep {H' : Hp} {v : Value} {L : List zN} {ob : Option Nat} (h : qK H v L ob) (hk : ∀ b, ob = some b → H' b = H b) : qK H' v L ob := by
 cases ob with
 | none=>exact h
 | some b=>obtain⟨h0,cap,rfl,hb⟩:=h; exact⟨h0,cap,rfl,(hk b rfl).trans hb⟩
section
variable {fr:Fr} {Q:X→Fr→Hp→Prop} {k:List Item} {d:Option Nat} {r:List zA} {live:List Nat}
theorem zDo {zero : List Value} {s x : Arg} {v : Value} {L : List zN} {ob : Option Nat} {bs : Nat} (p : zN) (h1 : vok fr s) (h2 : vok fr x) (hs : vo E fr s = v) (hx : vo E fr x = .slice (some ⟨bs, 0, none⟩) 1 1)
  (hb:H bs=some (.row [.int .i64 p.from_,.int .i64 p.till] 2 true)) (hB:qK H v L ob) (hn:L.length≤2199023255552)
  (h:∀ v' H' b',qK H' v' (L ++ [p]) (some b')→(∀ c o,H c=some o→some c≠ob→H' c=some o)→(H b'=none∨some b'=ob)→zT E (.ops r live :: k) (setD fr d ⟨true,.val v'⟩) H' Q) :
  zT E (.ops (⟨d,.app 2 16 zero s x,none⟩ :: r) live :: k) fr H Q:=by
 have e1:qY H 2 (vo E fr x):=by rw [hx]; exact .inr ⟨rfl,by rw [hb]; simp⟩
 have e2:zL H 2 (vo E fr x) = [.int .i64 p.from_,.int .i64 p.till]:=by rw [hx]; simp [zL,hb]
 have e3:zU (vo E fr x)=1:=by rw [hx]; rfl
 have e4:(zL H 2 (vo E fr x)).all yW=true:=by rw [e2]; rfl
 have hfp:=zGe L p
 cases ob with
 | none =>
  obtain⟨rfl,rfl⟩:=hB
  refine zDK h1 h2 e1 e4 hs (by rw [e3]; omega) (by rw [e3]; omega) (fun h0=>by rw [e3] at h0; cases h0) fun _ b cap hbn=>?_
  rw [e2,e3]
  refine h _ _ b ⟨by simp,cap,rfl,?_⟩ (fun c o hc _=>zM hbn _ _ _ hc) (.inl hbn)
  rw [Hp.put_same]
  exact congrArg (fun l=>some (xD.row l (cap * 2) true)) hfp
 | some b0 =>
  obtain⟨_,cap,rfl,hH⟩:=hB
  refine kJ h1 h2 e1 e4 hs (by rw [e3]; omega) (by rw [e3]; omega) hH (xR fun i _=>rfl) rfl fun b cap' hbn=>?_
  rw [e2,e3]
  refine h _ _ b ⟨by simp,cap',by simp,?_⟩ (fun c o hc hne=>?_) ?_
  ·rw [Hp.put_same]
   exact congrArg (fun l=>some (xD.row l (cap' * 2) true)) hfp
  ·refine zM hbn _ _ _ ?_
   rw [Hp.del_ne _ (by rintro rfl; exact hne rfl)]; exact hc
  ·by_cases e:b=b0
   ·exact .inr (by rw [e])
   ·exact .inl (by rw [Hp.del_ne _ e] at hbn; exact hbn)
end
theorem yWE (h3 : yZ E) (s : zN) : yD E 141 [pR s] H (.bool (decide (s.from_ < s.till))) := by
 unfold pR
 refine Fn.of_vks h3.c141 (by simp [zMz]) ?_
 simp only [zMz,zXU,yBl]
 simp only [go_sem,Nat.reduceLeDiff,Nat.reduceEqDiff,Nat.reduceBEq,Nat.reduceAdd,reduceCtorEq,zC]
theorem yZj (hE : zV E) (h3 : yZ E) (a b : zN) : yD E 143 [pR a, pR b] H (.int .i64 (jG a b)) := by
 unfold pR jG
 refine Fn.of_vks h3.c143 (by simp [zMx]) ?_
 simp only [zMx,yEU,zYk]
 simp only [go_sem,Nat.reduceLeDiff,Nat.reduceEqDiff,Nat.reduceBEq,Nat.reduceAdd,reduceCtorEq]
 refine zE _ ?_ (fun _=>⟨?_,zPi hE a.from_ b.from_⟩) ?_<;>simp only [go_sem,Nat.reduceEqDiff,Nat.reduceBEq]
theorem yVq (hE : zV E) (h3 : yZ E) : zFD E (.func (.func (E.fn 143)) #[] #[]) pR jG := fun _G a b =>
 wE h3.e143 (Fn.same (yZj hE h3 a b))
theorem yGy {l : List zN} {k : Nat} (hk : k < l.length) : vH (l.take (k + 1)) = vH (l.take k) ++ (if (l.getD k default).from_ < (l.getD k default).till then [l.getD k default] else []) := by
 rw [take_getDs hk]
 unfold vH
 rw [List.filter_append]
 congr 1
 by_cases e:(l.getD k default).from_ < (l.getD k default).till
 ·rw [if_pos e,List.filter_cons_of_pos (by simpa using e)]; rfl
 ·rw [if_neg e,List.filter_cons_of_neg (by simpa using e)]; rfl
where
 take_getDs {l : List zN} {k : Nat} (hk : k < l.length) : l.take (k + 1) = l.take k ++ [l.getD k default] := by
  rw [List.take_add_one,List.getElem?_eq_getElem hk,List.getD_eq_getElem?_getD,List.getElem?_eq_getElem hk]; rfl
theorem zIk (l:List zN):(vH l).length≤l.length:=List.length_filter_le _ _
set_option maxHeartbeats 1000000 in
theorem yXi (h3 : yZ E) {v : Value} {l : List zN} (hl : wP H v l) (hn : l.length ≤ 1000000) :
  Fn E.P (E.fn 142) [v,.func (.func (E.fn 141)) #[] #[]] H (fun u H'=>∃ ob,qK H' u (vH l) ob∧H.le H'∧∀ b,ob=some b→H b=none):=by
 obtain⟨a,cap,rfl,hsp,hr⟩:=hl
 refine Fn.of_vks h3.c142 (by simp [zNu]) ?_
 simp only [zNu,yBs,yAt,yCw,zXh,zXo,yED,yCW,zUh,zVS]
 simp only [go_sem,Nat.reduceEqDiff,Nat.reduceBEq,reduceCtorEq]
 refine yP l.length 0 (fun k fr' H' => ∃ u ob, fr' = [(1, ⟨true, .val (.func (.func (E.fn 141)) #[] #[])⟩), (5, ⟨true, .val u⟩), (8, ⟨true, .val (.slice a l.length cap)⟩), (9, ⟨true, .val (.int .i64 l.length)⟩), (10, ⟨true, .val (.int .i64 k)⟩)] ∧
  qK H' u (vH (l.take k)) ob∧H.le H'∧∀ b,ob=some b→H b=none) (Nat.zero_le _) ⟨_,none,rfl,⟨rfl,rfl⟩,Hp.le.refl _,fun b h=>by cases h⟩ ?_
 rintro k fr' H' hk ⟨u,ob,rfl,hO,hle,hob⟩
 obtain⟨au,cu,hu⟩:=hO.sl
 by_cases hlt:k < l.length
 ·have hd:decide ((k:Int) < (l.length:Int))=true:=by simpa using hlt
  have hr':=hr (by omega)
  obtain⟨b,o,vs,c,wr,ha,hb,hi⟩:=hr'
  subst ha
  have hb1:=hle _ _ hb
  have hi1:=(hi k hlt).1
  have hi2:=(hi k hlt).2
  have hsucc:=yGy hlt
  have hlen:=zIk (l.take k)
  have hlen2:(l.take k).length≤l.length:=by rw [List.length_take]; omega
  obtain⟨x,hx⟩:∃ y,l.getD k default=y:=⟨_,rfl⟩
  rw [hx] at hsucc
  simp only [hd,hb1,hi2,yN,hx,go_sem,Nat.reduceEqDiff,Nat.reduceBEq,Nat.reduceAdd,zC]
  refine⟨⟨by omega,by omega⟩,hi1,?_⟩
  refine wU ?_ ?_ (wE h3.e141 (Fn.same (yWE h3 x))) ?_
  ·simp only [go_sem,Nat.reduceEqDiff]
  ·simp only [go_sem,Nat.reduceEqDiff]
  rintro w H'' ⟨rfl,rfl⟩
  simp only [go_sem,Nat.reduceEqDiff,Nat.reduceBEq,Nat.reduceAdd,zC]
  refine⟨fun hc=>?_,fun hc=>?_⟩
  ·have hc':x.from_ < x.till:=by simpa using hc
   rw [if_pos hc'] at hsucc
   intro bs hbs
   have hO2 : qK (H''.put bs (.row [.int .i64 x.from_, .int .i64 x.till] 2 true)) u (vH (l.take k)) ob := hO.keep fun b hb => by
    rw [Hp.put_ne]
    rintro rfl
    subst hb
    obtain⟨_,_,_,hbb⟩:=hO
    rw [hbb] at hbs; cases hbs
   refine zDo x ?_ ?_ ?_ ?_ (Hp.put_same ..) hO2 (by omega) ?_
   ·simp only [go_sem,Nat.reduceEqDiff]
   ·simp only [go_sem,Nat.reduceEqDiff]
   ·simp only [go_sem,Nat.reduceEqDiff]
   ·simp only [go_sem,Nat.reduceEqDiff]
   intro v' H3 b' hO3 hkeep hb'
   simp only [go_sem,Nat.reduceEqDiff,Nat.reduceBEq,zC]
   have hHbs : H bs = none := by
    cases hq:H bs with
    | none=>rfl
    | some o=>rw [hle _ _ hq] at hbs; cases hbs
   refine⟨hlt,v',some b',⟨rfl,zQ (by omega)⟩,by rw [hsucc]; exact hO3,fun c o hc=>?_,?_⟩
   ·refine hkeep c o ?_ (fun e=>by rw [hob c e.symm] at hc; cases hc)
    exact zM hbs _ _ _ (hle _ _ hc)
   ·intro b2 e
    cases e
    rcases hb' with h | h
    ·cases hq:H b' with
     | none=>rfl
     | some o=>rw [zM hbs _ _ _ (hle _ _ hq)] at h; cases h
    ·exact hob b' h.symm
  ·have hc':¬ x.from_ < x.till:=by simpa using hc
   rw [if_neg hc',List.append_nil] at hsucc
   refine⟨hlt,u,ob,⟨rfl,zQ (by omega)⟩,by rw [hsucc]; exact hO,hle,hob⟩
 ·have hd:decide ((k:Int) < (l.length:Int))=false:=by simpa using hlt
  have:k=l.length:=by omega
  subst this
  rw [List.take_length] at hO
  simp only [hd,go_sem,Nat.reduceEqDiff,Nat.reduceBEq,Nat.reduceAdd,zC]
  exact⟨ob,hO,hle,hob⟩
theorem yNc {L : List zN} (h : L ≠ []) (s : zN) : zBG L s = if s.from_ ≤ (L.getD (L.length - 1) default).till then L.set (L.length - 1) ⟨(L.getD (L.length - 1) default).from_, max (L.getD (L.length - 1) default).till s.till⟩ else L ++ [s] := by
 obtain⟨L',p,rfl⟩:∃ L' p,L=L' ++ [p]:=⟨L.dropLast,L.getLast h,(List.dropLast_concat_getLast h).symm⟩
 have e1:(L' ++ [p]).length - 1=L'.length:=by simp
 have e2:(L' ++ [p]).getD L'.length default=p:=by simp
 have e3:(L' ++ [p]).getLast? = some p:=by simp
 rw [e1,e2]
 simp only [zBG,e3]
 split
 ·simp
 ·rfl
theorem zES (l : List zN) : ∀ k, (uK l k).length ≤ k
 | 0=>Nat.le_refl _
 | k + 1 => by
  have ih:=zES l k
  simp only [uK,zBG]
  split
  ·split<;>simp<;>omega
  ·simp
theorem yFG (L : List zN) {i : Nat} (hi : i < L.length) (x : Int) : flat L.length (fun i' => if i' = i then (yN L i).set 1 (.int .i64 x) else yN L i') = flat L.length (yN (L.set i ⟨(L.getD i default).from_, x⟩)) := by
 apply xZ
 intro j hj
 rw [zLE L hi]
 split<;>rfl
set_option maxHeartbeats 1000000 in
theorem yZf (h3 : yZ E) {v : Value} {l : List zN} (hl : wP H v l) (hn : l.length ≤ 1000000) :
  Fn E.P (E.fn 144) [v] H (fun u H'=>∃ ob,qK H' u (zJZ l) ob∧H.le H'∧∀ b,ob=some b→H b=none):=by
 obtain⟨a,cap,rfl,hsp,hr⟩:=hl
 refine Fn.of_vks h3.c144 (by simp [zMO]) ?_
 simp only [zMO,yCg,zZa,yAs,zZE,yEG,yBT,zZl,yCh,yCx,zXs,zOV]
 simp only [go_sem,Nat.reduceEqDiff,Nat.reduceBEq,reduceCtorEq]
 refine yP l.length 0 (fun k fr' H' => ∃ u ob, fr' = [(3, ⟨true, .val u⟩), (7, ⟨true, .val (.slice a l.length cap)⟩), (8, ⟨true, .val (.int .i64 l.length)⟩), (9, ⟨true, .val (.int .i64 k)⟩)] ∧
  qK H' u (uK l k) ob∧H.le H'∧∀ b,ob=some b→H b=none) (Nat.zero_le _) ⟨_,none,rfl,⟨rfl,rfl⟩,Hp.le.refl _,fun b h=>by cases h⟩ ?_
 rintro k fr' H' hk ⟨u,ob,rfl,hO,hle,hob⟩
 by_cases hlt:k < l.length
 ·have hd:decide ((k:Int) < (l.length:Int))=true:=by simpa using hlt
  have hr':=hr (by omega)
  obtain⟨b,o,vs,c,wr,ha,hb,hi⟩:=hr'
  subst ha
  have hb1:=hle _ _ hb
  have hi1:=(hi k hlt).1
  have hi2:=(hi k hlt).2
  have hsucc:uK l (k + 1)=zBG (uK l k) (l.getD k default):=rfl
  have hlen:=zES l k
  obtain⟨x,hx⟩:∃ y,l.getD k default=y:=⟨_,rfl⟩
  rw [hx] at hsucc
  have push : ∀ (fin : uK l (k + 1) = uK l k ++ [x]) (bs : Nat), H' bs = none → qK (H'.put bs (.row [.int .i64 x.from_, .int .i64 x.till] 2 true)) u (uK l k) ob ∧ H bs = none := by
   intro fin bs hbs
   refine⟨hO.keep fun b hb=>?_,?_⟩
   ·rw [Hp.put_ne]
    rintro rfl
    subst hb
    obtain⟨_,_,_,hbb⟩:=hO
    rw [hbb] at hbs; cases hbs
   ·cases hq:H bs with
    | none=>rfl
    | some o=>rw [hle _ _ hq] at hbs; cases hbs
  cases ob with
  | none =>
   obtain⟨rfl,hnil⟩:=hO
   have hfin:uK l (k + 1)=uK l k ++ [x]:=by rw [hsucc,hnil]; rfl
   have d0:decide ((0:Int) > 0)=false:=by decide
   have cN:((0:Nat):Int)=0:=rfl
   simp only [hd,hb1,hi2,yN,hx,undef,cN,d0,go_sem,Nat.reduceLeDiff,Nat.reduceEqDiff,Nat.reduceBEq,Nat.reduceAdd,Int.reduceSub,zC]
   refine⟨⟨by omega,by omega⟩,hi1,?_⟩
   intro bs hbs
   have hp:=push hfin bs hbs
   refine zDo x ?_ ?_ ?_ ?_ (Hp.put_same ..) hp.1 (by omega) ?_
   ·simp only [go_sem,Nat.reduceEqDiff]
   ·simp only [go_sem,Nat.reduceEqDiff]
   ·simp only [go_sem,Nat.reduceEqDiff]
   ·simp only [go_sem,Nat.reduceEqDiff]
   intro v' H3 b' hO3 hkeep hb'
   simp only [go_sem,Nat.reduceEqDiff,Nat.reduceBEq,zC]
   refine⟨hlt,v',some b',⟨rfl,zQ (by omega)⟩,by rw [hfin]; exact hO3,fun c o hc=>hkeep c o (zM hbs _ _ _ (hle _ _ hc)) (by simp),?_⟩
   intro b2 e
   cases e
   rcases hb' with h | h
   ·cases hq:H b' with
    | none=>rfl
    | some o=>rw [zM hbs _ _ _ (hle _ _ hq)] at h; cases h
   ·cases h
  | some b0 =>
   have hO':=hO
   obtain⟨hne,cp,rfl,hrow⟩:=hO'
   have hsucc':=hsucc
   rw [yNc hne] at hsucc'
   obtain⟨L,hL⟩:∃ y,y=uK l k:=⟨_,rfl⟩
   rw [← hL] at hne hrow hsucc' hlen hO push
   rw [← hL]
   have hpos:0 < L.length:=List.length_pos_iff.2 hne
   have d0:decide ((L.length:Int) > 0)=true:=by rw [decide_eq_true_eq]; omega
   have e1:IntKind.i64.wrap ((L.length:Int) - 1)=((L.length - 1:Nat):Int):=by rw [yX]<;>omega
   have hfl:(flat L.length (yN L)).length=L.length * 2:=xR fun i _=>rfl
   have hr0:=pE (n:=L.length) (sz:=2) (row:=yN L) (fun i _=>rfl) (L.length - 1) (by omega)
   have v1:=zH (o:=(L.length - 1) * 2) (sz:=2) (j:=1) hr0 (by omega)
   simp only [yN,List.getD_cons_zero,List.getD_cons_succ] at v1
   obtain⟨p,hp⟩:∃ y,y=L.getD (L.length - 1) default:=⟨_,rfl⟩
   rw [← hp] at v1 hsucc'
   simp only [hd,hb1,hi2,yN,hx,d0,e1,hrow,hfl,v1,go_sem,Nat.reduceLeDiff,Nat.reduceEqDiff,Nat.reduceBEq,Nat.reduceAdd,zC]
   refine⟨⟨by omega,by omega⟩,hi1,⟨by omega,by omega⟩,by omega,fun hc=>?_,fun hc=>?_⟩
   ·have hc':x.from_≤p.till:=by simpa using hc
    rw [if_pos hc'] at hsucc'
    have hs:=zAW (n:=L.length) (sz:=2) (row:=yN L) (fun i _=>rfl) (i:=L.length - 1) (j:=1) (by omega) (by omega) (.int .i64 (max p.till x.till))
    rw [yFG L (by omega),← hp] at hs
    refine⟨⟨by omega,by omega⟩,by omega,⟨by omega,by omega⟩,?_⟩
    simp only [hrow,hfl,jA,go_sem,Nat.reduceEqDiff,Nat.reduceBEq,Nat.reduceAdd,zC]
    rw [hs]
    refine⟨by omega,hlt,_,some b0,⟨rfl,zQ (by omega)⟩,?_,zI hle (hob b0 rfl) _,hob⟩
    rw [hsucc']
    refine⟨fun h=>hne (List.length_eq_zero_iff.1 (by rw [← List.length_set (as:=L),h]; rfl)),cp,by rw [List.length_set],?_⟩
    rw [Hp.put_same,List.length_set]
   ·have hc':¬ x.from_≤p.till:=by simpa using hc
    rw [if_neg hc'] at hsucc'
    intro bs hbs
    have hpp:=push hsucc' bs hbs
    refine zDo x ?_ ?_ ?_ ?_ (Hp.put_same ..) hpp.1 (by omega) ?_
    ·simp only [go_sem,Nat.reduceEqDiff]
    ·simp only [go_sem,Nat.reduceEqDiff]
    ·simp only [go_sem,Nat.reduceEqDiff]
    ·simp only [go_sem,Nat.reduceEqDiff]
    intro v' H3 b' hO3 hkeep hb'
    simp only [go_sem,Nat.reduceEqDiff,Nat.reduceBEq,zC]
    refine⟨hlt,v',some b',⟨rfl,zQ (by omega)⟩,by rw [hsucc']; exact hO3,fun c o hc=>hkeep c o (zM hbs _ _ _ (hle _ _ hc)) (fun e=>by rw [hob c e.symm] at hc; cases hc),?_⟩
    intro b2 e
    cases e
    rcases hb' with h | h
    ·cases hq:H b' with
     | none=>rfl
     | some o=>rw [zM hbs _ _ _ (hle _ _ hq)] at h; cases h
    ·exact hob b' h.symm
 ·have hd:decide ((k:Int) < (l.length:Int))=false:=by simpa using hlt
  have:k=l.length:=by omega
  subst this
  simp only [hd,go_sem,Nat.reduceEqDiff,Nat.reduceBEq,Nat.reduceAdd,zC]
  exact⟨ob,hO,hle,hob⟩
end Go.SL
/- Plain law: when a history is valid; the history whose copies of a zone end at a time is valid. -/
namespace Go.SL
open Go
def zBR (a b:zN):Prop:=a.till≤b.from_∨b.till≤a.from_
theorem zBR.symm {a b:zN} (h:zBR a b):zBR b a:=h.elim .inr .inl
def zHi (cs:List yE):Prop:=cs.Pairwise fun c c'=>c.key=c'.key→zBR (xX c) (xX c')
theorem yQl {l : List zN} (hv : ∀ s ∈ l, s.from_ < s.till) (ho : yFr (fun s : zN => s.from_) l l.length) :
  zJn l=true↔l.Pairwise zBR:=by
 unfold zJn
 rw [yH,List.pairwise_iff_getElem]
 have hget:∀ i (hi:i < l.length),l.getD i default=l[i]:=fun i hi=>by rw [List.getD_eq_getElem?_getD,List.getElem?_eq_getElem hi]; rfl
 constructor
 ·intro h
  have hadj : ∀ i, (hi : i + 1 < l.length) → (l[i]'(by omega)).till ≤ (l[i + 1]).from_ := by
   intro i hi
   have:=h i (by omega)
   rw [hget (i + 1) hi,hget i (by omega)] at this
   simp at this
   exact this
  have key : ∀ n i (hi : i + n + 1 < l.length), (l[i]'(by omega)).till ≤ (l[i + n + 1]).from_ := by
   intro n
   induction n with
   | zero=>intro i hi; exact hadj i hi
   | succ n ih =>
    intro i hi
    have h1:=ih i (by omega)
    have h2:=hadj (i + n + 1) (by omega)
    have h3:=hv _ (List.getElem_mem (show i + n + 1 < l.length by omega))
    have:(l[i + (n + 1) + 1]).from_=(l[i + n + 1 + 1]'(by omega)).from_:=by congr 1
    omega
  intro i j hi hj hij
  have:=key (j - i - 1) i (by omega)
  refine .inl ?_
  have e:i + (j - i - 1) + 1=j:=by omega
  simp only [e] at this
  exact this
 ·intro h i hi
  have h1:=h i (i + 1) (by omega) (by omega) (by omega)
  have h2:(l.getD i default).from_≤(l.getD (i + 1) default).from_:=ho i (by omega)
  rw [hget (i + 1) (by omega),hget i (by omega)] at h2 ⊢
  have h3:=hv _ (List.getElem_mem (show i + 1 < l.length by omega))
  simp only [Bool.not_eq_true',decide_eq_false_iff_not]
  rcases h1 with h1 | h1<;>omega
theorem zLn {l : List zN} (hv : ∀ s ∈ l, s.from_ < s.till) : jB l = true ↔ l.Pairwise zBR := by
 have hp:=zBK vF l.length l (Nat.le_refl _)
 unfold jB
 rw [yQl (fun s hs=>hv s (hp.mem_iff.1 hs)) (yJq l)]
 exact hp.pairwise_iff zBR.symm
theorem zDk {κ ν : Type} [DecidableEq κ] {k : κ} {v : ν} : ∀ {l : List (κ × ν)}, (l.map (·.1)).Nodup → ((xU k v l).map (·.1)).Nodup
 | [],_=>by simp [xU]
 | (k', v') :: r, h => by
  simp only [List.map_cons,List.nodup_cons] at h
  simp only [xU]
  split
  ·rename_i e; subst e; simpa using h
  ·rename_i e
   simp only [List.map_cons,List.nodup_cons]
   refine⟨fun hm=>?_,zDk h.2⟩
   obtain⟨x,hx,hx2⟩:=List.mem_map.1 hm
   rcases pM hx with rfl | hx
   ·exact e hx2
   ·exact h.1 (List.mem_map.2 ⟨x,hx,hx2⟩)
theorem zHS {κ ν : Type} [DecidableEq κ] {k : κ} {v : ν} {e : κ × ν} : ∀ {l : List (κ × ν)}, (l.map (·.1)).Nodup → e ∈ xU k v l → e = (k, v) ∨ (e ∈ l ∧ e.1 ≠ k)
 | [],_,h=>.inl (by simpa [xU] using h)
 | (k', v') :: r, hn, h => by
  simp only [List.map_cons,List.nodup_cons] at hn
  simp only [xU] at h
  split at h
  ·rename_i e'; subst e'
   rcases List.mem_cons.1 h with h | h
   ·exact .inl h
   ·exact .inr ⟨List.mem_cons_of_mem _ h,fun he=>hn.1 (List.mem_map.2 ⟨e,h,he⟩)⟩
  ·rename_i e'
   rcases List.mem_cons.1 h with h | h
   ·exact .inr ⟨by rw [h]; exact List.mem_cons_self,by rw [h]; exact Ne.symm e'⟩
   ·rcases zHS hn.2 h with h | h
    ·exact .inl h
    ·exact .inr ⟨List.mem_cons_of_mem _ h.1,h.2⟩
theorem zGD (cs : List yE) : ∀ k, ((yF cs k).map (·.1)).Nodup
 | 0=>by simp [yF]
 | k + 1=>zDk (zGD cs k)
def kQ (cs:List yE) (p:zBY):List zN:=(cs.filter fun c=>decide (c.key=p)).map xX
theorem yJd {cs : List yE} {k : Nat} (hk : k < cs.length) : cs.take (k + 1) = cs.take k ++ [cs.getD k default] := by
 rw [List.take_add_one,List.getElem?_eq_getElem hk,List.getD_eq_getElem?_getD,List.getElem?_eq_getElem hk]; rfl
theorem zHT (cs : List yE) : ∀ k, k ≤ cs.length → (∀ p, (yK p (yF cs k)).getD [] = kQ (cs.take k) p) ∧ (∀ e ∈ yF cs k, e.2 = kQ (cs.take k) e.1)
 | 0,_=>⟨fun p=>(by simp [yF,yK,kQ]),fun e h=>by cases h⟩
 | k + 1, hk => by
  obtain⟨h1,h2⟩:=zHT cs k (by omega)
  have ht:=yJd (cs:=cs) (k:=k) (by omega)
  have hsp : ∀ p, kQ (cs.take (k + 1)) p = kQ (cs.take k) p ++ (if (cs.getD k default).key = p then [xX (cs.getD k default)] else []) := by
   intro p
   rw [ht]
   unfold kQ
   rw [List.filter_append,List.map_append]
   congr 1
   by_cases e:(cs.getD k default).key=p
   ·rw [if_pos e,List.filter_cons_of_pos (by simpa using e)]; rfl
   ·rw [if_neg e,List.filter_cons_of_neg (by simpa using e)]; rfl
  refine⟨fun p=>?_,fun e he=>?_⟩
  ·simp only [yF]
   rw [zAq,hsp]
   by_cases e:p=(cs.getD k default).key
   ·subst e
    rw [if_pos rfl,if_pos rfl,Option.getD_some,h1]
   ·rw [if_neg e,if_neg (Ne.symm e),List.append_nil,h1]
  ·simp only [yF] at he
   rw [hsp]
   rcases zHS (zGD cs k) he with rfl | ⟨he,hne⟩
   ·rw [if_pos rfl,h1]
   ·rw [if_neg (Ne.symm hne),List.append_nil]; exact h2 e he
theorem zIU (cs : List yE) : ∀ k i, i < k → ∃ e ∈ yF cs k, e.1 = (cs.getD i default).key
 | 0,i,h=>by omega
 | k + 1, i, h => by
  have hg : ∀ p, (yK p (yF cs (k + 1))).isSome = true → ∃ e ∈ yF cs (k + 1), e.1 = p := by
   intro p hp
   cases hm:yK p (yF cs (k + 1)) with
   | none=>rw [hm] at hp; cases hp
   | some v=>exact⟨_,zBf hm,rfl⟩
  by_cases e:i=k
  ·subst e
   apply hg
   simp only [yF]
   rw [zAq,if_pos rfl]; rfl
  ·obtain⟨e0,he0,hk0⟩:=zIU cs k i (by omega)
   apply hg
   simp only [yF]
   rw [zAq]
   split
   ·rfl
   ·rw [← hk0]
    have:=mget_some_of_mem he0
    exact this
where
 mget_some_of_mem {κ ν : Type} [DecidableEq κ] {l : List (κ × ν)} {e : κ × ν} (h : e ∈ l) : (yK e.1 l).isSome = true := by
  induction l with
  | nil=>cases h
  | cons x r ih =>
   obtain⟨k',v'⟩:=x
   simp only [yK]
   split
   ·rfl
   ·rename_i hne
    rcases List.mem_cons.1 h with rfl | h
    ·exact absurd rfl hne
    ·exact ih h
theorem zGi (cs : List yE) : zHi cs ↔ ∀ p, (kQ cs p).Pairwise zBR := by
 unfold zHi kQ
 constructor
 ·intro h p
  rw [List.pairwise_map]
  have:=List.Pairwise.filter (fun c=>decide (c.key=p)) h
  refine List.Pairwise.imp_of_mem ?_ this
  intro a b ha hb hab
  have ha':=of_decide_eq_true (List.mem_filter.1 ha).2
  have hb':=of_decide_eq_true (List.mem_filter.1 hb).2
  exact hab (ha'.trans hb'.symm)
 ·intro h
  induction cs with
  | nil=>exact List.Pairwise.nil
  | cons c cs ih =>
   refine List.pairwise_cons.2 ⟨fun c' hc' hk=>?_,ih fun p=>?_⟩
   ·have:=h c.key
    rw [List.filter_cons_of_pos (by simp),List.map_cons,List.pairwise_cons] at this
    exact this.1 _ (List.mem_map.2 ⟨c',List.mem_filter.2 ⟨hc',by simp [hk]⟩,rfl⟩)
   ·have:=h p
    by_cases e:c.key=p
    ·rw [List.filter_cons_of_pos (by simp [e]),List.map_cons,List.pairwise_cons] at this
     exact this.2
    ·rw [List.filter_cons_of_neg (by simp [e])] at this
     exact this
theorem zJs {cs : List yE} (hv : ∀ c ∈ cs, c.from_ < c.till) : zO (fun i => jB ((yF cs cs.length).getD i default).2) (yF cs cs.length).length = true ↔ zHi cs := by
 have hs:=zHT cs cs.length (Nat.le_refl _)
 rw [List.take_length] at hs
 have hvs : ∀ p, ∀ s ∈ kQ cs p, s.from_ < s.till := by
  intro p s hsp
  obtain⟨c,hc,rfl⟩:=List.mem_map.1 hsp
  exact hv c (List.mem_filter.1 hc).1
 rw [zGi,yH]
 constructor
 ·intro h p
  by_cases hp:∃ c∈cs,c.key=p
  ·obtain⟨c,hc,rfl⟩:=hp
   obtain⟨i,hi,rfl⟩:=qR hc
   obtain⟨e,he,hek⟩:=zIU cs cs.length i hi
   obtain⟨j,hj,hje⟩:=qR he
   have:=h j hj
   rw [hje,hs.2 e he,zLn (hvs _),hek] at this
   exact this
  ·have : kQ cs p = [] := by
    unfold kQ
    rw [List.filter_eq_nil_iff.2]
    ·rfl
    ·intro c hc hk
     exact hp ⟨c,hc,of_decide_eq_true hk⟩
   rw [this]; exact List.Pairwise.nil
 ·intro h j hj
  have hm:=yY hj
  rw [hs.2 _ hm,zLn (hvs _)]
  exact h _
theorem zLb {κ : Type} [DecidableEq κ] (f : Nat → κ) : ∀ k, (jU f k).length ≤ k
 | 0=>Nat.le_refl _
 | k + 1=>by simp only [jU]; have:=zGd (f k) true (jU f k); have:=zLb f k; omega
structure zPB (h : yA) : Prop where
 end1:1≤h.end_
 end2:h.end_≤10000000
 drift1:0≤h.drift
 drift2:h.drift≤1000
 num:h.copies.length≤4000
 hosts:zAG (zBr h)=true
 copy:∀ c∈h.copies,0≤c.host∧c.host < (h.hosts.length:Int)∧0≤c.from_∧c.from_ < c.till∧c.till≤h.end_∧xG c.apex c.sets=true
 disj:zHi h.copies
 apexes:(xK h.copies h.copies.length).length≤500
theorem zHR {nh e : Int} {c : yE} : jF nh e c = true ↔ 0 ≤ c.host ∧ c.host < nh ∧ 0 ≤ c.from_ ∧ c.from_ < c.till ∧ c.till ≤ e ∧ xG c.apex c.sets = true := by
 unfold jF zIo
 simp only [Bool.and_eq_true,Bool.not_eq_true',Bool.or_eq_false_iff,decide_eq_false_iff_not]
 constructor
 ·rintro⟨⟨⟨⟨⟨h1,h2⟩,h3⟩,h4⟩,h5⟩,h6⟩
  exact⟨by omega,by omega,by omega,by omega,by omega,h6⟩
 ·rintro⟨h1,h2,h3,h4,h5,h6⟩
  exact⟨⟨⟨⟨⟨by omega,by omega⟩,by omega⟩,by omega⟩,by omega⟩,h6⟩
theorem qQ {h : yA} : yO h = true ↔ zPB h := by
 unfold yO zFm
 simp only [Bool.and_eq_true,Bool.not_eq_true',Bool.or_eq_false_iff,decide_eq_false_iff_not,decide_eq_true_eq]
 constructor
 ·rintro⟨⟨⟨⟨⟨h1,h2⟩,h3⟩,h4⟩,h5⟩,h6,h7,h8,h9⟩
  have hc : ∀ c ∈ h.copies, 0 ≤ c.host ∧ c.host < (h.hosts.length : Int) ∧ 0 ≤ c.from_ ∧ c.from_ < c.till ∧ c.till ≤ h.end_ ∧ xG c.apex c.sets = true := by
   intro c hc
   obtain⟨i,hi,rfl⟩:=qR hc
   exact zHR.1 (yH.1 h7 i hi)
  exact⟨by omega,by omega,by omega,by omega,by omega,h6,hc,(zJs fun c hm=>(hc c hm).2.2.2.1).1 h8,h9⟩
 ·intro ho
  refine⟨⟨⟨⟨⟨?_,?_⟩,?_⟩,?_⟩,?_⟩,ho.hosts,yH.2 fun i hi=>zHR.2 (ho.copy _ (yY hi)),(zJs fun c hm=>(ho.copy c hm).2.2.2.1).2 ho.disj,ho.apexes⟩
  ·have:=ho.end1; omega
  ·have:=ho.end2; omega
  ·have:=ho.drift1; omega
  ·have:=ho.drift2; omega
  ·have:=ho.num; omega
end Go.SL
