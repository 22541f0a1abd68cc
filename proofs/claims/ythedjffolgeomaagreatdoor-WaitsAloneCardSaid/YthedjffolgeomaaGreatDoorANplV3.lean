/- Contract: history.Valid of a history of at most twelve copies. -/
import Derived.Test.YthedjffolgeomaaGreatDoorANplQ
import Derived.Test.YthedjffolgeomaaGreatDoorANplV1
import Derived.Test.YthedjffolgeomaaGreatDoorANplT28
namespace Go.SL
open Go
variable {E:Env} {H:Hp}
def xR (c:yE):zO:=⟨c.from_,c.till⟩
def yE.key (c:yE):zBy:=(c.host,c.apex)
def yD (cs : List yE) : Nat → List (zBy × List zO)
 | 0=>[]
 | k + 1=>xV (cs.getD k default).key (((yI (cs.getD k default).key (yD cs k)).getD []) ++ [xR (cs.getD k default)]) (yD cs k)
def zId (nh e:Int) (c:yE):Bool:=decide (c.host < 0) || decide (c.host≥nh) || decide (c.from_ < 0) || decide (c.from_≥c.till) || decide (c.till > e)
def kZ (nh e:Int) (c:yE):Bool:=!zId nh e c && xB c.apex c.sets
def zIC (l:List zO):Bool:=zP (fun i=>!decide ((l.getD (i + 1) default).from_ < (l.getD i default).till)) (l.length - 1)
def kR (l:List zO):Bool:=zIC (xG vD l.length l)
def zEN (h:yO):Bool:=decide (h.end_ < 1) || decide (h.end_ > 10000000) || decide (h.drift < 0) || decide (h.drift > 1000) || decide ((h.copies.length:Int) > 4000)
def zBu (h:yO):zGG:=⟨h.hosts,[],h.aname,h.atype,h.alife,h.adata,h.hints⟩
def yS (h : yO) : Bool := !zEN h && (zAC (zBu h) && (zP (fun i => kZ h.hosts.length h.end_ (h.copies.getD i default)) h.copies.length &&
 (zP (fun i=>kR ((yD h.copies h.copies.length).getD i default).2) (yD h.copies h.copies.length).length && decide ((xJ h.copies h.copies.length).length≤500))))
theorem zKX {α : Type} {p q : α → Bool} : ∀ {l : List α}, (∀ x, q x = true → p x = true) → ∀ {a}, a ∈ l → p a = true → q a = false → l.countP q < l.countP p
 | [],_,_,h,_,_=>by cases h
 | y :: l, hpq, a, h, hp, hq => by
  have hm:l.countP q≤l.countP p:=List.countP_mono_left fun x _=>hpq x
  simp only [List.countP_cons]
  rcases List.mem_cons.1 h with rfl | h'
  ·simp [hp,hq]; omega
  ·have ih:=zKX hpq h' hp hq
   have h1 : (if q y = true then 1 else 0) ≤ (if p y = true then 1 else 0) := by
    cases hqy:q y with
    | true=>simp [hpq y hqy]
    | false=>simp
   omega
def zCB (n:Nat) (seen:Array Nat):Nat:=(List.range n).countP fun i=>!seen.contains i
theorem pN (s : Array Nat) (i j : Nat) : (s.push i).contains j = (s.contains j || j == i) := by
 rw [Bool.eq_iff_iff]; simp
theorem zHv {n : Nat} {seen : Array Nat} {i : Nat} (hi : i < n) (hs : seen.contains i = false) : zCB n (seen.push i) < zCB n seen := by
 refine zKX (fun x hx=>?_) (List.mem_range.2 hi) (by rw [hs]; rfl) (by rw [pN]; simp)
 rw [pN] at hx
 simp at hx ⊢
 exact hx.1
theorem jU.mono {H G G' : Hp} {b3 : Nat} {es : Array MapEntry} {blk cp : Nat → Nat} {L : List (zBy × List zO)} {out : Nat → Prop} (h : jU H G b3 es blk cp L out) (hl : G.le G') : jU H G' b3 es blk cp L out :=
 ⟨hl _ _ h.map,h.size,h.ent,h.old,h.ne3,fun i hi ho=>hl _ _ (h.row i hi ho),h.inj⟩
theorem zIn {κ ν : Type} [DecidableEq κ] (k : κ) (v : ν) : ∀ l : List (κ × ν), (xV k v l).length ≤ l.length + 1
 | []=>by simp [xV]
 | (k', v') :: r => by
  simp only [xV]
  split
  ·simp
  ·have:=zIn k v r; simp; omega
theorem qX {κ ν : Type} [DecidableEq κ] {k : κ} {v : ν} {e : κ × ν} : ∀ {l : List (κ × ν)}, e ∈ xV k v l → e = (k, v) ∨ e ∈ l
 | [],h=>by simpa [xV] using h
 | (k', v') :: r, h => by
  simp only [xV] at h
  split at h
  ·rcases List.mem_cons.1 h with h | h
   ·exact .inl h
   ·exact .inr (List.mem_cons_of_mem _ h)
  ·rcases List.mem_cons.1 h with h | h
   ·exact .inr (by rw [h]; exact List.mem_cons_self)
   ·rcases qX h with h | h
    ·exact .inl h
    ·exact .inr (List.mem_cons_of_mem _ h)
theorem zAp {κ ν : Type} [DecidableEq κ] {k : κ} {v : ν} : ∀ {l : List (κ × ν)}, yI k l = some v → (k, v) ∈ l
 | [],h=>by cases h
 | (k', v') :: r, h => by
  simp only [yI] at h
  split at h
  ·rename_i e; cases h; rw [e]; exact List.mem_cons_self
  ·exact List.mem_cons_of_mem _ (zAp h)
theorem zEn (cs : List yE) : ∀ k, ∀ e ∈ yD cs k, e.2.length ≤ k
 | 0,e,h=>by cases h
 | k + 1, e, h => by
  simp only [yD] at h
  rcases qX h with rfl | h
  ·simp only [List.length_append,List.length_singleton]
   cases hg:yI (cs.getD k default).key (yD cs k) with
   | none=>simp
   | some l=>simp only [Option.getD_some]; have:=zEn cs k _ (zAp hg); simp at this; omega
  ·have:=zEn cs k e h; omega
set_option maxHeartbeats 2000000 in
set_option maxRecDepth 100000 in
theorem zHg (hE : zX E) (h2 : xZ E) (hB : qU E H) {v : Value} {h : yO} (hh : vV H v h) (hn : h.copies.length ≤ 12) : yB E 48 [v] H (.bool (yS h)) := by
 obtain⟨vh,vc,vd,vi,rfl,g1,g2,g3,g4⟩:=hh
 have hh1:=zG.one g1
 have hd1:=zG.one g3
 have hi1:=zG.one g4
 have hc1:=qD.one g2
 have g2':=g2
 obtain⟨z,⟨a,cap,rfl,hsp,hr⟩,hdeep⟩:=g2'
 have hvh:=qN.sl g1
 obtain⟨ah,ch,rfl⟩:=hvh
 have hvd:=zG.sl g3
 obtain⟨ad,cd,rfl⟩:=hvd
 have hvi:=zG.sl g4
 obtain⟨ai,ci,rfl⟩:=hvi
 have hWA:zFd H (.agg #[.slice ah h.hosts.length ch,.slice none 0 0,S h.aname,.int .i64 h.atype,.int .i64 h.alife,.slice ad h.adata.length cd,.slice ai h.hints.length ci]) (zBu h):=⟨_,_,_,_,rfl,g1,pS.nil0,g3,g4⟩
 have hfw:=xCp hE hB hWA
 obtain⟨cs,hcs⟩:∃ x,x=h.copies:=⟨_,rfl⟩
 have hval : yS h = (!zEN h && (zAC (zBu h) && (zP (fun i => kZ h.hosts.length h.end_ (cs.getD i default)) cs.length &&
  (zP (fun i=>kR ((yD cs cs.length).getD i default).2) (yD cs cs.length).length && decide ((xJ cs cs.length).length≤500))))):=by rw [hcs]; rfl
 have hhb:zEN h=(decide (h.end_ < 1) || decide (h.end_ > 10000000) || decide (h.drift < 0) || decide (h.drift > 1000) || decide ((cs.length:Int) > 4000)):=by rw [hcs]; rfl
 rw [← hcs] at g2 hr hdeep hn hsp
 rw [← hcs]
 refine Fn.of_vks h2.c48 (by simp [yGN]) ?_
 simp only [yGN,yJz,yMs,yPn,yLQ,yKa,yOm,yLz,yMf,yNI,yPA,zZv,yGk,yFs,zTr,yFw,zZe,zUb,yCX,zZR,yFa,zWg,zVx,zVT,zTR,yGg,yEb]
 simp only [go_sem,Nat.reduceLeDiff,Nat.reduceEqDiff,Nat.reduceBEq,Nat.reduceAdd,reduceCtorEq,zC]
 refine⟨fun hq=>?_,fun hq=>?_⟩
 ·rw [hval,hhb,hq]; rfl
 have hq1:zEN h=false:=by rw [hhb]; exact hq
 refine zE (.bool (zAC (zBu h))) ?_ (fun _=>⟨?_,hfw⟩) ?_<;>simp only [go_sem,Nat.reduceLeDiff,Nat.reduceEqDiff,Nat.reduceBEq,Nat.reduceAdd]
 refine⟨fun hq=>?_,fun hq2=>?_⟩
 ·rw [hval,hq1,hq]; rfl
 intro b3 hb3
 have hPS:=fun k=>zP (fun i=>kZ h.hosts.length h.end_ (cs.getD i default)) k=true
 refine yK cs.length 0 (fun k fr' G => fr' = [(1, ⟨true, .box [.slice ah h.hosts.length ch, .slice a cs.length cap, S h.aname, .int .i64 h.atype, .int .i64 h.alife, .slice ad h.adata.length cd, .slice ai h.hints.length ci, .int .i64 h.drift, .int .i64 h.end_]⟩), (3, ⟨true, .val (.map (some b3))⟩), (45, ⟨true, .val (.slice a cs.length cap)⟩), (46, ⟨true, .val (.int .i64 cs.length)⟩), (47, ⟨true, .val (.int .i64 k)⟩)] ∧
   H.le G∧zP (fun i=>kZ h.hosts.length h.end_ (cs.getD i default)) k=true∧∃ es blk cp,jU H G b3 es blk cp (yD cs k) (fun _=>False)) (Nat.zero_le _)
   ⟨rfl,zJ hb3 _,rfl,#[],fun _=>0,fun _=>0,Hp.put_same ..,rfl,fun i hi=>by simp at hi,fun i hi=>by simp [yD] at hi,fun i hi=>by simp [yD] at hi,fun i hi=>by simp [yD] at hi,fun i j hi=>by simp [yD] at hi⟩ ?_
 rintro k fr' G hk ⟨rfl,hle,hok,es,blk,cp,hT⟩
 by_cases hlt:k < cs.length
 ·have hd:decide ((k:Int) < (cs.length:Int))=true:=by simpa using hlt
  have hr':=hr (by omega)
  obtain⟨b,o,vs,c,wr,ha,hb,hi⟩:=hr'
  subst ha
  have hb1:=hle _ _ hb
  have k1:=(hi k hlt).1
  have k2:=(hi k hlt).2
  have hz0:=hdeep k hlt
  have hz1:yV (z k)=true:=by obtain⟨d,g,h,_⟩:=hz0; exact zG.one h
  have hF:=fun hx=>zY (P:=fun i=>kZ h.hosts.length h.end_ (cs.getD i default)) hlt hx
  have hS:=fun hx=>yJ (P:=fun i=>kZ h.hosts.length h.end_ (cs.getD i default)) hok hx
  have hnext:yD cs (k + 1)=xV (cs.getD k default).key (((yI (cs.getD k default).key (yD cs k)).getD []) ++ [xR (cs.getD k default)]) (yD cs k):=rfl
  obtain⟨x,hx⟩:∃ y,cs.getD k default=y:=⟨_,rfl⟩
  have hfz:=yRX hE (hB.mono hle) (cs.getD k default).apex (hz0.mono hle)
  rw [hx] at hfz hF hS hnext
  have hbad:zId h.hosts.length h.end_ x=(decide (x.host < 0) || decide (x.host≥(h.hosts.length:Int)) || decide (x.from_ < 0) || decide (x.from_≥x.till) || decide (x.till > h.end_)):=rfl
  simp only [hd,hb1,k2,jY,hx,hz1,go_sem,Nat.reduceLeDiff,Nat.reduceEqDiff,Nat.reduceBEq,Nat.reduceAdd,zC]
  refine⟨⟨by omega,by omega⟩,k1,fun h=>⟨h,h⟩,fun h=>⟨h,h⟩,fun h=>⟨h,h⟩,fun hq=>?_,fun hq=>?_⟩
  ·have:=hF (by simp only [kZ,hbad,hq]; rfl)
   rw [hval,hq1,hq2,this]; exact⟨rfl,hle⟩
  refine zE (.bool (xB x.apex x.sets)) ?_ (fun _=>⟨?_,hfz⟩) ?_<;>simp only [go_sem,Nat.reduceLeDiff,Nat.reduceEqDiff,Nat.reduceBEq,Nat.reduceAdd]
  refine⟨fun hq'=>?_,fun hq'=>?_⟩
  ·have:=hF (by simp only [kZ,hq']; simp)
   rw [hval,hq1,hq2,this]; exact⟨rfl,hle⟩
  have hokx:=hS (by simp only [kZ,hbad,hq,hq']; rfl)
  intro bx hbx
  have hbx3:bx≠b3:=by rintro rfl; rw [hT.map] at hbx; cases hbx
  have hHbx : H bx = none := by
   cases hq:H bx with
   | none=>rfl
   | some o=>rw [hle _ _ hq] at hbx; cases hbx
  obtain⟨G0,hG0⟩:∃ y,y=G.put bx (.row [.int .i64 x.from_,.int .i64 x.till] 2 true):=⟨_,rfl⟩
  have hGx:G0 bx=some (.row [.int .i64 x.from_,.int .i64 x.till] 2 true):=by rw [hG0,Hp.put_same]
  have hGle:H.le G0:=by rw [hG0]; exact hle.trans (zJ hbx _)
  have hT0:jU H G0 b3 es blk cp (yD cs k) (fun _=>False):=by rw [hG0]; exact hT.mono (zJ hbx _)
  have hnebx:∀ i,i < (yD cs k).length→blk i≠bx:=by rintro i hi rfl; rw [hT.row i hi (fun h=>h)] at hbx; cases hbx
  rw [← hG0]
  have hmf:=zLa (ag:=true) (ks:=[.i,.s]) (enc:=fun p:zBy=>.agg #[.int .i64 p.1,S p.2]) zOy x.key es.toList (yD cs k) 0 hT0.keys
  have hkey:(Value.agg #[.int .i64 x.host,S x.apex])=(fun p:zBy=>(.agg #[.int .i64 p.1,S p.2]:Value)) x.key:=rfl
  refine qO (by intro x h; cases h) (by intro f a h; cases h) ?_
  cases hg:yI x.key (yD cs k) with
  | none =>
   have hm:=hmf.1 hg
   rw [hg] at hnext
   rw [Option.getD_none,List.nil_append,zAt hg] at hnext
   refine⟨?_,?_,?_,b3,es,es.size,?_,hT0.map,.inr ⟨?_,?_⟩⟩
   ·simp only [go_sem,Nat.reduceEqDiff]
   ·simp only [go_sem,Nat.reduceEqDiff]
   ·simp only [go_sem,Nat.reduceEqDiff,Nat.reduceAdd,zBb]
   ·simp only [go_sem,Nat.reduceEqDiff]
   ·simp only [go_sem,Nat.reduceEqDiff]; exact hm
   simp only [go_sem,Nat.reduceLT,Nat.reduceEqDiff,Nat.reduceBEq,Nat.reduceAdd]
   obtain⟨G1,hG1⟩:∃ y,y=G0.put b3 (.obj (.map (es.push { key:=.agg #[.int .i64 x.host,S x.apex],val:=.slice none 0 0,born:=es.size }) (es.size + 1))):=⟨_,rfl⟩
   rw [← hG1]
   have hG1x:G1 bx=some (.row [.int .i64 x.from_,.int .i64 x.till] 2 true):=by rw [hG1,Hp.put_ne _ _ hbx3]; exact hGx
   have hG13:G1 b3=some (.obj (.map (es.push { key:=.agg #[.int .i64 x.host,S x.apex],val:=.slice none 0 0,born:=es.size }) (es.size + 1))):=by rw [hG1,Hp.put_same]
   have hG1le:H.le G1:=by rw [hG1]; exact zH hGle hb3 _
   have hsO:pG G1 2 (.slice (some ⟨bx,0,none⟩) 1 1):=.inr ⟨rfl,by rw [hG1x]; simp⟩
   have hsC:zN G1 2 (.slice (some ⟨bx,0,none⟩) 1 1) = [.int .i64 x.from_,.int .i64 x.till]:=by simp [zN,hG1x]
   refine zDy ?_ ?_ hsO (by show(zN G1 2 (.slice (some ⟨bx,0,none⟩) 1 1)).all yV=true; rw [hsC]; rfl) ?_ (by show 1 * 16≤_; omega) (by show 1≤_; omega) (fun h=>by cases h) ?_
   ·simp only [go_sem,Nat.reduceEqDiff]
   ·simp only [go_sem,Nat.reduceEqDiff]
   ·simp only [go_sem,Nat.reduceEqDiff]
   intro _ by_ cpn hby
   simp only [zV,hsC,go_sem,Nat.reduceLT,Nat.reduceEqDiff,Nat.reduceBEq,Nat.reduceAdd]
   have hby3:by_≠b3:=by rintro rfl; rw [hG13] at hby; cases hby
   have hHby : H by_ = none := by
    cases hq:H by_ with
    | none=>rfl
    | some o=>rw [hG1le _ _ hq] at hby; cases hby
   have hrows : ∀ i, i < (yD cs k).length → G1 (blk i) = some (.row (flat ((yD cs k).getD i default).2.length (yM ((yD cs k).getD i default).2)) (cp i * 2) true) := fun i hi => by
    rw [hG1,Hp.put_ne _ _ (hT.ne3 i hi)]; exact hT0.row i hi (fun h=>h)
   have hneby:∀ i,i < (yD cs k).length→blk i≠by_:=by rintro i hi rfl; rw [hrows i hi] at hby; cases hby
   obtain⟨G2,hG2⟩:∃ y,y=G1.put by_ (.row [.int .i64 x.from_,.int .i64 x.till] (cpn * 2) true):=⟨_,rfl⟩
   rw [← hG2]
   have hG23:G2 b3=some (.obj (.map (es.push { key:=.agg #[.int .i64 x.host,S x.apex],val:=.slice none 0 0,born:=es.size }) (es.size + 1))):=by rw [hG2,Hp.put_ne _ _ (Ne.symm hby3)]; exact hG13
   have hG2le:H.le G2:=by rw [hG2]; exact hG1le.trans (zJ hby _)
   refine qO (by intro x h; cases h) (by intro f a h; cases h) ?_
   have hbp : ∀ i (hi : i < (es.push { key := .agg #[.int .i64 x.host, S x.apex], val := .slice none 0 0, born := es.size }).size), ((es.push { key := .agg #[.int .i64 x.host, S x.apex], val := .slice none 0 0, born := es.size })[i]'hi).born = i := by
    intro i hi
    rw [Array.getElem_push]
    split
    ·exact hT.born i (by assumption)
    ·simp at hi; simp; omega
   refine⟨?_,?_,?_,b3,.i64,((es.size:Nat):Int),_,es.size + 1,es.size,?_,?_,hG23,zPK hbp (by simp),?_⟩
   ·simp only [go_sem,Nat.reduceEqDiff]
   ·simp only [go_sem,Nat.reduceEqDiff]
   ·simp only [go_sem,Nat.reduceEqDiff]
   ·simp only [go_sem,Nat.reduceEqDiff]
   ·simp only [go_sem,Nat.reduceEqDiff]
   simp only [go_sem,Nat.reduceEqDiff,Nat.reduceBEq,zC]
   have hsz:(yD cs (k + 1)).length=(yD cs k).length + 1:=by rw [hnext]; simp
   refine⟨hlt,zR (by omega),zH hG2le hb3 _,hokx,(es.push { key:=.agg #[.int .i64 x.host,S x.apex],val:=.slice none 0 0,born:=es.size }).modify es.size (fun e=>{ e with val:=.slice (some ⟨by_,0,none⟩) 1 cpn }),upN blk es.size by_,upN cp es.size cpn,?_⟩
   refine⟨?_,?_,?_,?_,?_,?_,?_⟩
   ·rw [Hp.put_same]; simp
   ·rw [hsz]; simp [hT.size]
   ·intro i hi
    simp at hi
    rw [hnext,Array.getElem_modify,Array.getElem_push]
    by_cases e:i=es.size
    ·subst e
     simp [hT.size,upN,yE.key]
    ·have hi':i < es.size:=by omega
     have hi2:i < (yD cs k).length:=by rw [← hT.size]; exact hi'
     rw [if_neg (Ne.symm e),dif_pos hi',hT.ent i hi']
     simp [upN,e,List.getElem?_append_left hi2]
   ·intro i hi
    simp only [upN]
    split
    ·exact hHby
    ·exact hT.old i (by have:=hT.size; omega)
   ·intro i hi
    simp only [upN]
    split
    ·exact hby3
    ·exact hT.ne3 i (by have:=hT.size; omega)
   ·intro i hi _
    simp only [upN]
    by_cases e:i=es.size
    ·rw [if_pos e,if_pos e,Hp.put_ne _ _ hby3,hG2,Hp.put_same,hnext,e,hT.size]
     simp [xR,flat,yM]
    ·have hi2:i < (yD cs k).length:=by have:=hT.size; omega
     rw [if_neg e,if_neg e,Hp.put_ne _ _ (hT.ne3 i hi2),hG2,Hp.put_ne _ _ (hneby i hi2),hrows i hi2,hnext]
     simp [List.getElem?_append_left hi2]
   ·intro i j hi hji
    have:=hT.size
    simp only [upN]
    rw [if_neg (show j≠es.size by omega)]
    split
    ·exact hneby j (by omega)
    ·exact hT.inj i j (by omega) hji
  | some l =>
   obtain⟨i0,hi0,hgi,hm,hput⟩:=hmf.2 l hg
   rw [hg] at hnext
   rw [Option.getD_some,hput] at hnext
   have hi0s:i0 < es.size:=by rw [hT.size]; exact hi0
   have hent:=hT.ent i0 hi0s
   rw [hgi] at hent
   have hval0 : (es.toList.getD i0 default).val = .slice (some ⟨blk i0, 0, none⟩) l.length (cp i0) := by
    simp [List.getD_eq_getElem?_getD,hi0s,hent]
   rw [hval0,Nat.zero_add] at hm
   have hborn:((es[i0]?).map (·.born)).getD 0=i0:=by simp [hi0s,hent]
   have hborn':(Option.map (fun x=>(x.born:Int)) es[i0]?).getD 0=(i0:Int):=by simp [hi0s,hent]
   refine⟨?_,?_,?_,b3,es,es.size,?_,hT0.map,.inl ⟨i0,.slice (some ⟨blk i0,0,none⟩) l.length (cp i0),?_,?_⟩⟩
   ·simp only [go_sem,Nat.reduceEqDiff]
   ·simp only [go_sem,Nat.reduceEqDiff]
   ·simp only [go_sem,Nat.reduceEqDiff,Nat.reduceAdd,zBb]
   ·simp only [go_sem,Nat.reduceEqDiff]
   ·simp only [go_sem,Nat.reduceEqDiff]; exact hm
   simp only [go_sem,Nat.reduceLT,Nat.reduceEqDiff,Nat.reduceBEq,Nat.reduceAdd]
   obtain⟨em,hem⟩:∃ y,y=es.modify i0 (fun e=>{ e with key:=.agg #[.int .i64 x.host,S x.apex] }):=⟨_,rfl⟩
   rw [← hem]
   have hem0 : em = es := by
    rw [hem]
    apply Array.ext
    ·simp
    ·intro i h1 h2
     rw [Array.getElem_modify]
     split
     ·rename_i e; subst e; rw [hent]; rfl
     ·rfl
   rw [hem0]
   rw [zDV hT0.map]
   have hrow0:=hT0.row i0 hi0 (fun h=>h)
   rw [hgi] at hrow0
   have hll:=zEn cs k _ (zAp hg)
   simp only at hll hrow0
   have hsO:pG G0 2 (.slice (some ⟨bx,0,none⟩) 1 1):=.inr ⟨rfl,by rw [hGx]; simp⟩
   have hsC:zN G0 2 (.slice (some ⟨bx,0,none⟩) 1 1) = [.int .i64 x.from_,.int .i64 x.till]:=by simp [zN,hGx]
   refine zAl (b0:=blk i0) (n:=l.length) (cap0:=cp i0) (capc:=cp i0 * 2) (vs:=flat l.length (yM l)) ?_ ?_ hsO (by show(zN G0 2 (.slice (some ⟨bx,0,none⟩) 1 1)).all yV=true; rw [hsC]; rfl) ?_ (by show(l.length + 1) * 16≤_; omega) (by show l.length + 1≤_; omega) hrow0 (xS fun i _=>rfl) rfl ?_
   ·simp only [go_sem,Nat.reduceEqDiff]
   ·simp only [go_sem,Nat.reduceEqDiff]
   ·simp only [go_sem,Nat.reduceEqDiff]
   intro by_ cpn hby
   simp only [zV,hsC,go_sem,Nat.reduceLT,Nat.reduceEqDiff,Nat.reduceBEq,Nat.reduceAdd]
   have hG0d3:(G0.del (blk i0)) b3=some (.obj (.map es es.size)):=by rw [Hp.del_ne _ (Ne.symm (hT.ne3 i0 hi0))]; exact hT0.map
   have hby3:by_≠b3:=by rintro rfl; rw [hG0d3] at hby; cases hby
   have hdle:H.le (G0.del (blk i0)):=zEO (hT.old i0 hi0) hGle
   have hHby : H by_ = none := by
    cases hq:H by_ with
    | none=>rfl
    | some o=>rw [hdle _ _ hq] at hby; cases hby
   have hneq : ∀ i, i < (yD cs k).length → i ≠ i0 → blk i ≠ blk i0 := by
    intro i hi hne
    rcases Nat.lt_or_gt_of_ne hne with h | h
    ·exact hT.inj i0 i hi0 h
    ·exact Ne.symm (hT.inj i i0 hi h)
   have hrows : ∀ i, i < (yD cs k).length → i ≠ i0 → (G0.del (blk i0)) (blk i) = some (.row (flat ((yD cs k).getD i default).2.length (yM ((yD cs k).getD i default).2)) (cp i * 2) true) := fun i hi hne => by
    rw [Hp.del_ne _ (hneq i hi hne)]; exact hT0.row i hi (fun h=>h)
   have hneby:∀ i,i < (yD cs k).length→i≠i0→blk i≠by_:=by rintro i hi hne rfl; rw [hrows i hi hne] at hby; cases hby
   have hfp:=zGa l (xR x)
   simp only [xR] at hfp
   obtain⟨G2,hG2⟩:∃ y,y=(G0.del (blk i0)).put by_ (.row (flat l.length (yM l) ++ [.int .i64 x.from_,.int .i64 x.till]) (cpn * 2) true):=⟨_,rfl⟩
   rw [← hG2]
   have hG23:G2 b3=some (.obj (.map es es.size)):=by rw [hG2,Hp.put_ne _ _ (Ne.symm hby3)]; exact hG0d3
   have hG2le:H.le G2:=by rw [hG2]; exact hdle.trans (zJ hby _)
   refine qO (by intro x h; cases h) (by intro f a h; cases h) ?_
   refine⟨?_,?_,?_,b3,.i64,((i0:Nat):Int),_,es.size,i0,?_,?_,hG23,zPK hT.born hi0s,?_⟩
   ·simp only [go_sem,Nat.reduceEqDiff]
   ·simp only [go_sem,Nat.reduceEqDiff]
   ·simp only [go_sem,Nat.reduceEqDiff]
   ·simp only [go_sem,Nat.reduceEqDiff]
   ·simp only [hborn',go_sem,Nat.reduceEqDiff]
   simp only [go_sem,Nat.reduceEqDiff,Nat.reduceBEq,zC]
   have hsz:(yD cs (k + 1)).length=(yD cs k).length:=by rw [hnext]; simp
   refine⟨hlt,zR (by omega),zH hG2le hb3 _,hokx,es.modify i0 (fun e=>{ e with val:=.slice (some ⟨by_,0,none⟩) (l.length + 1) cpn }),upN blk i0 by_,upN cp i0 cpn,?_⟩
   refine⟨?_,?_,?_,?_,?_,?_,?_⟩
   ·rw [Hp.put_same]; simp
   ·rw [hsz]; simp [hT.size]
   ·intro i hi
    simp at hi
    have hi2:i < (yD cs k).length:=by rw [← hT.size]; exact hi
    rw [hnext,Array.getElem_modify]
    by_cases e:i=i0
    ·subst e
     rw [if_pos rfl,hent]
     simp [upN,hi2,yE.key]
    ·rw [if_neg (Ne.symm e),hT.ent i hi]
     simp [upN,e,Ne.symm e]
   ·intro i hi
    simp only [upN]
    split
    ·exact hHby
    ·exact hT.old i (by omega)
   ·intro i hi
    simp only [upN]
    split
    ·exact hby3
    ·exact hT.ne3 i (by omega)
   ·intro i hi _
    simp only [upN]
    by_cases e:i=i0
    ·subst e
     rw [if_pos rfl,if_pos rfl,Hp.put_ne _ _ hby3,hG2,Hp.put_same,hfp,hnext]
     simp [hi0,xR]
    ·have hi2:i < (yD cs k).length:=by omega
     rw [if_neg e,if_neg e,Hp.put_ne _ _ (hT.ne3 i hi2),hG2,Hp.put_ne _ _ (hneby i hi2 e),hrows i hi2 e,hnext]
     simp [Ne.symm e]
   ·intro i j hi hji
    have hi2:i < (yD cs k).length:=by omega
    simp only [upN]
    by_cases e:i=i0
    ·rw [if_pos e,if_neg (show j≠i0 by omega)]
     exact hneby j (by omega) (by omega)
    ·rw [if_neg e]
     by_cases e2:j=i0
     ·rw [if_pos e2]; exact Ne.symm (hneby i hi2 e)
     ·rw [if_neg e2]; exact hT.inj i j hi2 hji
 ·have hd:decide ((k:Int) < (cs.length:Int))=false:=by simpa using hlt
  have:k=cs.length:=by omega
  subst this
  simp only [hd,go_sem,Nat.reduceEqDiff,Nat.reduceBEq,Nat.reduceAdd,zC]
  refine qO (by intro x h; cases h) (by intro f a h; cases h) ?_
  refine⟨?_,b3,_,es.size,?_,hT.map,?_⟩
  ·simp only [go_sem,Nat.reduceEqDiff]
  ·simp only [go_sem,Nat.reduceEqDiff]
  intro b9 hb9
  simp only [go_sem,Nat.reduceEqDiff,Nat.reduceBEq]
  have h93:b9≠b3:=by rintro rfl; rw [hT.map] at hb9; cases hb9
  have hHb9 : H b9 = none := by
   cases hq:H b9 with
   | none=>rfl
   | some o=>rw [hle _ _ hq] at hb9; cases hb9
  have hne9:∀ i,i < (yD cs cs.length).length→blk i≠b9:=by rintro i hi rfl; rw [hT.row i hi (fun h=>h)] at hb9; cases hb9
  refine pZ (fun m fr' G => fr' = [(1, ⟨true, .box [.slice ah h.hosts.length ch, .slice a cs.length cap, S h.aname, .int .i64 h.atype, .int .i64 h.alife, .slice ad h.adata.length cd, .slice ai h.hints.length ci, .int .i64 h.drift, .int .i64 h.end_]⟩), (105, ⟨true, .val (.pointer (some ⟨b9, 0, none⟩))⟩)] ∧
   ∃ seen : Array Nat, m = zCB es.size seen ∧ H.le G ∧ G b9 = some (.obj (.mapIter (some b3) es.size seen es.size)) ∧ jU H G b3 es blk cp (yD cs cs.length) (fun i => seen.contains i = true) ∧
    ∀ i,i < (yD cs cs.length).length→seen.contains i=true→kR ((yD cs cs.length).getD i default).2=true) (zCB es.size #[]) ⟨rfl,#[],rfl,hle.trans (zJ hb9 _),Hp.put_same ..,?_,fun i _ h=>by simp at h⟩ ?_
  ·have:=hT.mono (zJ hb9 (.obj (.mapIter (some b3) es.size #[] es.size)))
   exact⟨this.map,this.size,this.ent,this.old,this.ne3,fun i hi _=>this.row i hi (fun h=>h),this.inj⟩
  rintro m fr' G' ⟨rfl,seen,rfl,hl,m9,hT',hseen⟩
  simp only [go_sem]
  refine qO (by intro x h; cases h) (by intro f a h; cases h) ?_
  refine⟨?_,b9,b3,es.size,seen,es.size,es,es.size,?_,m9,hT'.map,Nat.le_refl _,?_,?_,?_⟩
  ·simp only [go_sem,Nat.reduceEqDiff]
  ·simp only [go_sem,Nat.reduceEqDiff]
  ·intro e he
   obtain⟨i,hi,rfl⟩:=Array.getElem_of_mem he
   rw [hT.born i hi]; exact hi
  ·intro hall
   have hpl : zP (fun i => kR ((yD cs cs.length).getD i default).2) (yD cs cs.length).length = true := by
    rw [yG]
    intro i hi
    have hi':i < es.size:=by rw [hT.size]; exact hi
    have:=hall _ (Array.getElem_mem hi')
    rw [hT.born i hi'] at this
    exact hseen i hi this
   simp only [go_sem,Nat.reduceLT,Nat.reduceLeDiff,Nat.reduceEqDiff,Nat.reduceBEq,Nat.reduceAdd]
   refine zM ?_ (yXV h2 (g2.mono hl) (by omega)) ?_
   ·simp only [go_sem,Nat.reduceEqDiff]
   rintro u G3 ⟨hle3,hu⟩
   have hus:=zG.sl hu
   obtain⟨au,cu,rfl⟩:=hus
   simp only [go_sem,Nat.reduceEqDiff,Nat.reduceBEq,zC]
   refine⟨?_,hl.trans hle3⟩
   have e:decide ((((xJ cs cs.length).length:Nat):Int)≤500)=decide ((xJ cs cs.length).length≤500):=by rw [Bool.eq_iff_iff,decide_eq_true_eq,decide_eq_true_eq]; omega
   rw [hval,hq1,hq2,hok,hpl,e]; rfl
  ·intro e he hs
   obtain⟨i,hi,rfl⟩:=Array.getElem_of_mem he
   rw [hT.born i hi] at hs
   have hiL:i < (yD cs cs.length).length:=by rw [← hT.size]; exact hi
   obtain⟨G1,hG1⟩:∃ x,x=G'.put b9 (.obj (.mapIter (some b3) es.size (seen.push i) es.size)):=⟨_,rfl⟩
   have hG1le:H.le G1:=by rw [hG1]; exact zH hl hHb9 _
   have hG19:G1 b9=some (.obj (.mapIter (some b3) es.size (seen.push i) es.size)):=by rw [hG1,Hp.put_same]
   have hG13:G1 b3=some (.obj (.map es es.size)):=by rw [hG1,Hp.put_ne _ _ (Ne.symm h93)]; exact hT'.map
   have hrow : G1 (blk i) = some (.row (flat ((yD cs cs.length).getD i default).2.length (yM ((yD cs cs.length).getD i default).2)) (cp i * 2) true) := by
    rw [hG1,Hp.put_ne _ _ (hne9 i hiL)]; exact hT'.row i hiL (fun h=>by rw [hs] at h; cases h)
   rw [hT.born i hi,← hG1]
   simp only [go_sem,Nat.reduceLT,Nat.reduceLeDiff,Nat.reduceEqDiff,Nat.reduceBEq,Nat.reduceAdd]
   refine qO (by intro x h; cases h) (by intro f a h; cases h) ?_
   refine⟨?_,b9,b3,es.size,seen.push i,es,es.size,i,es[i],?_,hG19,hG13,by simp,zKL hT.born hi,?_⟩
   ·simp only [go_sem,Nat.reduceEqDiff]
   ·simp only [go_sem,Nat.reduceEqDiff]
   rw [hT.ent i hi]
   obtain⟨l,hl0⟩:∃ y,((yD cs cs.length).getD i default).2=y:=⟨_,rfl⟩
   have hll : l.length ≤ 12 := by
    have hmem : (yD cs cs.length).getD i default ∈ yD cs cs.length := by
     rw [List.getD_eq_getElem?_getD,List.getElem?_eq_getElem hiL]; exact List.getElem_mem _
    have:=zEn cs cs.length _ hmem
    rw [hl0] at this; omega
   rw [hl0] at hrow
   simp only [hl0,go_sem,Nat.reduceLT,Nat.reduceEqDiff,Nat.reduceBEq,Nat.reduceAdd]
   refine zM ?_ (yTq hE h2 (yWd hE h2) l hll hrow) ?_
   ·simp only [go_sem,Nat.reduceEqDiff]
   rintro u G2 rfl
   have hsl:(xG vD l.length l).length=l.length:=vB _ _ _
   have hpo:kR l=zP (fun i=>!decide (((xG vD l.length l).getD (i + 1) default).from_ < ((xG vD l.length l).getD i default).till)) (l.length - 1):=by simp only [kR,zIC,hsl]
   obtain⟨q,hq⟩:∃ y,y=xG vD l.length l:=⟨_,rfl⟩
   rw [← hq] at hsl hpo
   rw [← hq]
   obtain⟨G2,hG2⟩:∃ y,y=G1.put (blk i) (.row (flat l.length (yM q)) (cp i * 2) true):=⟨_,rfl⟩
   rw [← hG2]
   have hG2le:H.le G2:=by rw [hG2]; exact zH hG1le (hT.old i hiL) _
   have hG2i:G2 (blk i)=some (.row (flat l.length (yM q)) (cp i * 2) true):=by rw [hG2,Hp.put_same]
   have hfl:(flat l.length (yM q)).length=l.length * 2:=xS fun i _=>rfl
   simp only [go_sem,Nat.reduceEqDiff,Nat.reduceBEq]
   refine zT (l.length - 1) 0 (fun j => [(1, ⟨true, .box [.slice ah h.hosts.length ch, .slice a cs.length cap, S h.aname, .int .i64 h.atype, .int .i64 h.alife, .slice ad h.adata.length cd, .slice ai h.hints.length ci, .int .i64 h.drift, .int .i64 h.end_]⟩), (8, ⟨true, .val (.slice (some ⟨blk i, 0, none⟩) l.length (cp i))⟩), (9, ⟨true, .val (.int .i64 ((j + 1 : Nat) : Int))⟩), (105, ⟨true, .val (.pointer (some ⟨b9, 0, none⟩))⟩)])
    (fun j=>zP (fun i=>!decide ((q.getD (i + 1) default).from_ < (q.getD i default).till)) j=true) (Nat.zero_le _) rfl rfl ?_
   intro j hj hPj
   by_cases hjl:j + 1 < l.length
   ·have hdj:decide (((j + 1:Nat):Int) < (l.length:Int))=true:=by rw [decide_eq_true_eq]; omega
    have e1:IntKind.i64.wrap (((j + 1:Nat):Int) - 1)=(j:Int):=by rw [yZ]<;>omega
    have hr1:=pK (n:=l.length) (sz:=2) (row:=yM q) (fun i _=>rfl) (j + 1) hjl
    have hr0:=pK (n:=l.length) (sz:=2) (row:=yM q) (fun i _=>rfl) j (by omega)
    have v1:=zK (o:=(j + 1) * 2) (sz:=2) (j:=0) hr1 (by omega)
    have v0:=zK (o:=j * 2) (sz:=2) (j:=1) hr0 (by omega)
    simp only [yM,List.getD_cons_zero,List.getD_cons_succ,Nat.add_zero] at v1 v0
    simp only [hdj,e1,hG2i,hfl,v1,v0,go_sem,Nat.reduceLeDiff,Nat.reduceEqDiff,Nat.reduceBEq,Nat.reduceAdd,zC]
    refine⟨⟨by omega,by omega⟩,by omega,⟨by omega,by omega⟩,by omega,fun hc=>?_,fun hc=>⟨by omega,zR (by omega),yJ hPj (by rw [hc]; rfl)⟩⟩
    have hp:kR l=false:=by rw [hpo]; exact zY (k:=j) (by omega) (by rw [hc]; rfl)
    have hpl:zP (fun i=>kR ((yD cs cs.length).getD i default).2) (yD cs cs.length).length=false:=zY (k:=i) hiL (by rw [hl0]; exact hp)
    rw [hval,hq1,hq2,hok,hpl]
    exact⟨rfl,hG2le⟩
   ·have hdj:decide (((j + 1:Nat):Int) < (l.length:Int))=false:=by rw [decide_eq_false_iff_not]; omega
    simp only [hdj,go_sem,Nat.reduceLeDiff,Nat.reduceEqDiff,Nat.reduceBEq,Nat.reduceAdd,zC]
    have hj':j=l.length - 1:=by omega
    subst hj'
    refine⟨zCB es.size (seen.push i),zHv hi hs,seen.push i,rfl,hG2le,?_,?_,?_⟩
    ·rw [hG2,Hp.put_ne _ _ (Ne.symm (hne9 i hiL))]; exact hG19
    ·refine⟨?_,hT.size,hT.ent,hT.old,hT.ne3,?_,hT.inj⟩
     ·rw [hG2,Hp.put_ne _ _ (Ne.symm (hT.ne3 i hiL))]; exact hG13
     ·intro i' hi' hns
      rw [pN] at hns
      have hne:i'≠i:=by rintro rfl; simp at hns
      have hns':¬ seen.contains i'=true:=fun h=>hns (by rw [h]; rfl)
      have hnb : blk i' ≠ blk i := by
       rcases Nat.lt_or_gt_of_ne hne with h | h
       ·exact hT.inj i i' hiL h
       ·exact Ne.symm (hT.inj i' i hi' h)
      rw [hG2,Hp.put_ne _ _ hnb,hG1,Hp.put_ne _ _ (hne9 i' hi')]
      exact hT'.row i' hi' hns'
    ·intro i' hi' hc
     rw [pN] at hc
     by_cases hne:i'=i
     ·subst hne; rw [hl0,hpo]; exact hPj
     ·exact hseen i' hi' (by simpa [hne] using hc)
end Go.SL
