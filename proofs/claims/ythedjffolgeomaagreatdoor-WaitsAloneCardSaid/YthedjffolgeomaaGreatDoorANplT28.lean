/- Contracts: world.validRoot, validCopies, Valid. -/
import Derived.Test.YthedjffolgeomaaGreatDoorANplQ
import Derived.Test.YthedjffolgeomaaGreatDoorANplT10
import Derived.Test.YthedjffolgeomaaGreatDoorANplO
namespace Go.SL
open Go
variable {E:Env} {H:Hp}
theorem xAJ (hE : zX E) (x : Int) : yB E 55 [.int .i64 x] H (.bool (!kY x)) := by
 refine Fn.of_vks hE.c55 (by simp [yHr]) ?_
 simp only [yHr,yOU,yOd]
 simp only [go_sem,Nat.reduceBEq,reduceCtorEq]
 refine zE _ ?_ (fun _=>⟨?_,yVj hE x⟩) ?_<;>simp only [go_sem,Nat.reduceEqDiff,Nat.reduceBEq,reduceCtorEq]
theorem xBP (hE : zX E) {f v : Value} {ns : List Int} (p : Int → Bool) (h : wH H v ns) (hf : ∀ x, FnV E f [.int .i64 x] H (fun u H' => u = .bool (p x) ∧ H' = H)) (hn : ns.length ≤ 1099511627775) :
  yB E 79 [v,f] H (.int .i64 (qK (fun i=>p (ns.getD i 0)) ns.length)):=by
 obtain⟨a,cap,rfl,hs,hr⟩:=h
 refine Fn.of_vks hE.c79 (by simp [yGW]) ?_
 simp only [yGW,yLF,yOC,yQw,yNi,yNS,yPv,yKs,yMD]
 simp only [go_sem,Nat.reduceEqDiff,Nat.reduceBEq,reduceCtorEq]
 refine zT ns.length 0 (fun k=>[(0,⟨true,.val (.slice a ns.length cap)⟩),(1,⟨true,.val f⟩),(7,⟨true,.val (.int .i64 ns.length)⟩),(8,⟨true,.val (.int .i64 k)⟩)]) (fun k=>qK (fun i=>p (ns.getD i 0)) k = -1) (Nat.zero_le _) rfl rfl ?_
 intro k hk hP
 by_cases hlt:k < ns.length
 ·have hd:decide ((k:Int) < (ns.length:Int))=true:=by simpa using hlt
  have hr':=hr (by omega)
  obtain⟨b,o,vs,c,wr,ha,hb,hi⟩:=hr'
  subst ha
  have hi1:=(hi k hlt).1
  have hi2:=zK (hi k hlt).2 (j:=0) (by omega)
  simp only [Nat.mul_one,Nat.add_zero] at hi1 hi2
  simp only [hd,hb,hi2,vP,go_sem,Nat.reduceEqDiff,Nat.reduceBEq,reduceCtorEq,zC,Nat.mul_one]
  refine⟨⟨by omega,by omega⟩,hi1,?_⟩
  refine xA ?_ ?_ (hf (ns.getD k 0)) ?_
  ·simp only [go_sem,Nat.reduceEqDiff,reduceCtorEq]
  ·simp only [go_sem,Nat.reduceEqDiff,reduceCtorEq]
  rintro v H' ⟨rfl,rfl⟩
  simp only [go_sem,Nat.reduceEqDiff,Nat.reduceBEq,reduceCtorEq,zC]
  exact⟨fun h1=>(zSI hP h1 hlt).symm,fun h1=>⟨hlt,zR (by omega),zSn hP h1⟩⟩
 ·have hd:decide ((k:Int) < (ns.length:Int))=false:=by simpa using hlt
  have:k=ns.length:=by omega
  simp only [hd,go_sem,Nat.reduceEqDiff,Nat.reduceBEq,reduceCtorEq,zC]
  rw [← this]; exact hP.symm
theorem xBe (hE : zX E) {f v : Value} {ns : List Int} (p : Int → Bool) (h : wH H v ns) (hf : ∀ x, FnV E f [.int .i64 x] H (fun u H' => u = .bool (p x) ∧ H' = H)) (hn : ns.length ≤ 1099511627775) :
  yB E 56 [v,f] H (.bool (wM (fun i=>p (ns.getD i 0)) ns.length)):=by
 refine Fn.of_vks hE.c56 (by simp [yHn]) ?_
 simp only [yHn,yQI,yJe]
 simp only [go_sem,Nat.reduceEqDiff,Nat.reduceBEq,reduceCtorEq]
 refine zE _ ?_ (fun _=>⟨?_,xBP hE p h hf hn⟩) ?_<;>simp only [go_sem,Nat.reduceEqDiff,Nat.reduceBEq,reduceCtorEq,zC]
 exact yIa _ _
theorem xCh (hE : zX E) (hB : qU E H) (name : Bs) (ty life : Int) {v w : Value} {ds : List xO} {ns : List Int} (hd : xF H v ds) (hw : wH H w ns) : yB E 42 [.agg #[S name, .int .i64 ty, .int .i64 life, v], w] H (.bool (zBl name ty life ds ns)) := by
 have hv1:=zG.one hd
 obtain⟨aw,cw,hwe,_⟩:=id hw
 refine Fn.of_vks hE.c42 (by simp [yGL]) ?_
 simp only [yGL,yQK,yPq,yMr,yJT,yMA,yNJ]
 simp only [hwe,go_sem,Nat.reduceEqDiff,Nat.reduceBEq,Nat.reduceAdd,reduceCtorEq]
 rw [hwe] at hw
 refine zE _ ?_ (fun _=>⟨?_,yVY hE hB name ty life hd⟩) ?_<;>simp only [go_sem,Nat.reduceLeDiff,Nat.reduceEqDiff,Nat.reduceBEq,Nat.reduceAdd,zC]
 have c1:decide ((ns.length:Int) < 1) = !decide (1≤ns.length):=by rw [Bool.eq_iff_iff,Bool.not_eq_true',decide_eq_true_eq,decide_eq_false_iff_not]; omega
 have c2:decide ((ns.length:Int) > 8) = !decide (ns.length≤8):=by rw [Bool.eq_iff_iff,Bool.not_eq_true',decide_eq_true_eq,decide_eq_false_iff_not]; omega
 rw [c1,c2]
 have hrv : zBl name ty life ds ns = (!(!wK name ty life ds || ty != 6 || !(name == [46])) && !(!decide (1 ≤ ns.length) || !decide (ns.length ≤ 8)) && zP (fun i => kY (ns.getD i 0)) ns.length) := by
  simp only [zBl,Bool.not_or,Bool.not_not,bne]
  cases wK name ty life ds<;>cases (ty == 6)<;>cases (name == [46])<;>simp
 refine⟨fun h=>?_,fun h=>⟨fun h2=>?_,fun h2=>?_⟩⟩
 ·rw [hrv,h]; rfl
 ·rw [hrv,h2,Bool.not_true,Bool.and_false,Bool.false_and]
 ·have hn:ns.length≤8:=by simp at h2; omega
  refine zE _ ?_ (fun _=>⟨?_,xBe hE (fun x=>!kY x) hw (fun x=>yP hE.e55 (Fn.same (xAJ hE x))) (by omega)⟩) ?_<;>simp only [go_sem,Nat.reduceEqDiff,Nat.reduceBEq]
  rw [hrv,h,h2,yTc]; rfl
abbrev zGw (k:zBy):Value:=.agg #[.int .i64 k.1,S k.2]
theorem zJg (k:zBy):zBb true [.i,.s] (zGw k):=by simp [zBb]
set_option maxHeartbeats 1000000 in
set_option maxRecDepth 100000 in
theorem xBa (hE : zX E) (hB : qU E H) {vh vz vd vi : Value} (an : Bs) (at_ al : Int) {hs : List qT} {zs : List wG} (hh : qN H vh hs) (hz : pS H vz zs) : yB E 41 [.agg #[vh, vz, S an, .int .i64 at_, .int .i64 al, vd, vi]] H (.bool (zAU hs.length zs)) := by
 obtain⟨z,⟨a,cap,rfl,hsp,hr⟩,hdeep⟩:=hz
 obtain⟨ah,ch,rfl,_⟩:=hh
 refine Fn.of_vks hE.c41 (by simp [yIi]) ?_
 simp only [yIi,yMh,yJV,yLJ,yNA,yKn,yJo,yKi,yQG,yMG,yQn,yEC,yDp,yFv,yAe,zTo]
 simp only [go_sem,Nat.reduceLeDiff,Nat.reduceEqDiff,Nat.reduceBEq,Nat.reduceAdd,reduceCtorEq,zC]
 have hc:decide ((zs.length:Int) > 4000) = !decide (zs.length≤4000):=by rw [Bool.eq_iff_iff,Bool.not_eq_true',decide_eq_true_eq,decide_eq_false_iff_not]; omega
 rw [hc]
 refine⟨fun h=>?_,fun h=>?_⟩
 ·rw [Bool.not_eq_true'] at h; simp only [zAU,h,Bool.false_and]
 have hn:zs.length≤4000:=by simpa using h
 have ho:zAU hs.length zs=(zP (zCE hs.length zs) zs.length && decide ((zFi zs zs.length).length≤500)):=by simp only [zAU,hn,decide_true,Bool.true_and]
 rw [ho]
 intro b3 hb3 b4 hb4
 have h43:b4≠b3:=by rintro rfl; simp [yL] at hb4
 have hb40:H b4=none:=by simpa [yL,h43] using hb4
 refine yK zs.length 0 (fun k fr' H' => fr' = [(1, ⟨true, .box [.slice ah hs.length ch, .slice a zs.length cap, S an, .int .i64 at_, .int .i64 al, vd, vi]⟩), (3, ⟨true, .val (.map (some b3))⟩), (4, ⟨true, .val (.map (some b4))⟩), (15, ⟨true, .val (.slice a zs.length cap)⟩), (16, ⟨true, .val (.int .i64 zs.length)⟩), (17, ⟨true, .val (.int .i64 k)⟩)] ∧
   zP (zCE hs.length zs) k=true∧∃ o3 o4,H'=(H.put b3 o3).put b4 o4∧(∀ H0:Hp,uI (H0.put b3 o3) b3 ((qJ zs k).map fun e=>(zGw e.1,.bool e.2)))∧(∀ H0:Hp,uI (H0.put b4 o4) b4 ((zFi zs k).map fun e=>(S e.1,.bool e.2)))) (Nat.zero_le _) ⟨rfl,rfl,_,_,rfl,(fun H0=>⟨#[],0,Hp.put_same ..,rfl⟩),fun H0=>⟨#[],0,Hp.put_same ..,rfl⟩⟩ ?_
 rintro k fr' H' hk ⟨rfl,hP,o3,o4,rfl,hM3,hM4⟩
 have hle:H.le ((H.put b3 o3).put b4 o4):=zH (zJ hb3 _) hb40 _
 have hMA : uI ((H.put b3 o3).put b4 o4) b3 ((qJ zs k).map fun e => (zGw e.1, .bool e.2)) := by
  obtain⟨es,cl,e1,e2⟩:=hM3 H
  exact⟨es,cl,by rw [yL,if_neg h43.symm]; exact e1,e2⟩
 by_cases hlt:k < zs.length
 ·have hd:decide ((k:Int) < (zs.length:Int))=true:=by simpa using hlt
  have hF:zCE hs.length zs k=false→false=(zP (zCE hs.length zs) zs.length && decide ((zFi zs zs.length).length≤500)):=fun h=>by rw [zY hlt h]; rfl
  have hS:zCE hs.length zs k=true→zP (zCE hs.length zs) (k + 1)=true:=fun h=>yJ hP h
  have hr':=hr (by omega)
  obtain⟨b,o,vs,c,wr,ha,hb,hi⟩:=hr'
  subst ha
  have hb1:=hle _ _ hb
  have hi1:=(hi k hlt).1
  have hi2:=(hi k hlt).2
  have hzk:=(hdeep k hlt).mono hle
  have hz1:yV (z k)=true:=by obtain⟨d,g,h,_⟩:=hzk; exact zG.one h
  obtain⟨x,hx⟩:∃ y,zs.getD k default=y:=⟨_,rfl⟩
  rw [hx] at hzk
  have hok:zCE hs.length zs k = !(decide (x.host < 0) || decide (x.host≥hs.length) || (yI x.key (qJ zs k)).getD false || !xB x.apex x.sets):=by rw [← hx]; rfl
  simp only [hd,hb1,hi2,zDn,hx,hz1,go_sem,Nat.reduceLeDiff,Nat.reduceEqDiff,Nat.reduceBEq,Nat.reduceAdd,zC]
  refine⟨⟨by omega,by omega⟩,hi1,?_⟩
  refine⟨fun h=>⟨h,h⟩,?_⟩
  have hzv:yB E 43 [.agg #[S x.apex,z k]] ((H.put b3 o3).put b4 o4) (.bool (xB x.apex x.sets)):=yRX hE (hB.mono hle) x.apex hzk
  obtain⟨q,hq⟩:∃ q,(decide (x.host < 0) || decide (x.host≥(hs.length:Int)))=q:=⟨_,rfl⟩
  rw [hq] at hok ⊢
  cases q with
  | true =>
   refine zBw (by intro x h; cases h) (by intro f a h; cases h) ?_ ?_ ?_
   ·simp only [go_sem,Nat.reduceEqDiff]
   ·simp only [go_sem,Nat.reduceEqDiff]
   simp only [go_sem,Nat.reduceEqDiff,Nat.reduceBEq,Nat.reduceAdd,↓yQ]
   refine zE (.bool (xB x.apex x.sets)) ?_ (fun hg=>absurd hg ?_) ?_<;>simp only [go_sem,Nat.reduceEqDiff,Nat.reduceBEq,Nat.reduceAdd,↓yQ]
   ·simp
   ·exact⟨hF hok,hle⟩
  | false =>
   rw [Bool.false_or] at hok
   refine zAr (by intro x h; cases h) (by intro f a h; cases h) ?_ ?_ ?_
   ·simp only [go_sem,Nat.reduceEqDiff]
   ·simp only [go_sem,Nat.reduceEqDiff]
   refine zAd (enc:=zGw) (encv:=fun b=>.bool b) (l:=qJ zs k) (b:=b3) x.key zOy (zJg _) ?_ ?_ ?_ ?_ hMA ?_
   ·simp only [go_sem,Nat.reduceEqDiff]
   ·simp only [go_sem,Nat.reduceEqDiff]
   ·simp only [go_sem,Nat.reduceEqDiff]
   ·simp only [go_sem,Nat.reduceEqDiff]; rfl
   have hv : ((yI x.key (qJ zs k)).map (fun b => Value.bool b)).getD (.bool false) = .bool ((yI x.key (qJ zs k)).getD false) := by
    cases yI x.key (qJ zs k)<;>rfl
   rw [hv]
   simp only [go_sem,Nat.reduceEqDiff,Nat.reduceBEq,Nat.reduceAdd]
   refine zE _ ?_ (fun hg=>⟨?_,hzv⟩) ?_<;>simp only [go_sem,Nat.reduceEqDiff,Nat.reduceBEq,Nat.reduceAdd]
   ·simp only [go_sem,Nat.reduceEqDiff] at hg ⊢; exact hg
   refine⟨fun h1=>⟨hF ?_,hle⟩,fun h1=>?_⟩
   ·rw [hok,h1]; rfl
   rw [h1] at hok
   refine zBv (enc:=zGw) (encv:=fun b=>.bool b) (l:=qJ zs k) (b:=b3) x.key true zOy (zJg _) ?_ ?_ ?_ ?_ ?_ ?_ hMA ?_
   ·simp only [go_sem,Nat.reduceEqDiff]
   ·simp only [go_sem,Nat.reduceEqDiff]
   ·simp only [go_sem]
   ·simp only [go_sem,Nat.reduceEqDiff]
   ·simp only [go_sem,Nat.reduceEqDiff]; rfl
   ·simp only [go_sem]
   intro o3' hM3'
   rw [yQQ _ _ _ _ h43.symm]
   simp only [go_sem,Nat.reduceLeDiff,Nat.reduceEqDiff,Nat.reduceBEq,Nat.reduceAdd]
   refine zBv (enc:=fun x=>S x) (encv:=fun b=>.bool b) (l:=zFi zs k) (b:=b4) x.apex true zEH trivial ?_ ?_ ?_ ?_ ?_ ?_ (hM4 _) ?_
   ·simp only [go_sem,Nat.reduceEqDiff]
   ·simp only [go_sem,Nat.reduceEqDiff]
   ·simp only [go_sem]
   ·simp only [go_sem,Nat.reduceEqDiff]
   ·simp only [go_sem,Nat.reduceEqDiff]
   ·simp only [go_sem]
   intro o4' hM4'
   simp only [go_sem,Nat.reduceEqDiff,Nat.reduceBEq,zC]
   refine⟨hlt,zR (by omega),hS hok,o3',o4',rfl,fun H0=>?_,fun H0=>?_⟩
   ·have:=hM3' H0; rw [← hx] at this; exact this
   ·have:=hM4' H0; rw [← hx] at this; exact this
 ·have hd:decide ((k:Int) < (zs.length:Int))=false:=by simpa using hlt
  have:k=zs.length:=by omega
  subst this
  simp only [hd,go_sem,Nat.reduceLeDiff,Nat.reduceEqDiff,Nat.reduceBEq,Nat.reduceAdd,zC]
  refine yOV ?_ ?_ (hM4 _) ?_
  ·simp only [go_sem,Nat.reduceEqDiff]
  ·simp only [go_sem,Nat.reduceEqDiff]
  simp only [go_sem,Nat.reduceEqDiff,Nat.reduceBEq,zC]
  refine⟨?_,hle⟩
  rw [hP,Bool.true_and,List.length_map]
  rw [Bool.eq_iff_iff,decide_eq_true_eq,decide_eq_true_eq]; omega
def zFd (H:Hp) (v:Value) (w:zGG):Prop:=∃ vh vz vd vi,v = .agg #[vh,vz,S w.aname,.int .i64 w.atype,.int .i64 w.alife,vd,vi]∧qN H vh w.hosts∧pS H vz w.zones∧xF H vd w.adata∧wH H vi w.hints
theorem zFd.mono {H H' : Hp} {v : Value} {w : zGG} (h : zFd H v w) (hl : H.le H') : zFd H' v w := by
 obtain⟨vh,vz,vd,vi,h0,h1,h2,h3,h4⟩:=h
 exact⟨vh,vz,vd,vi,h0,h1.mono hl,h2.mono hl,h3.mono hl,h4.mono hl⟩
theorem xCp (hE : zX E) (hB : qU E H) {v : Value} {w : zGG} (hw : zFd H v w) : yB E 14 [v] H (.bool (zAC w)) := by
 obtain⟨vh,vz,vd,vi,rfl,h1,h2,h3,h4⟩:=hw
 refine Fn.of_vks hE.c14 (by simp [yGF]) ?_
 simp only [yGF,yKB,yQH]
 simp only [go_sem,Nat.reduceLeDiff,Nat.reduceEqDiff,Nat.reduceBEq,Nat.reduceAdd,reduceCtorEq]
 refine zE _ ?_ (fun _=>⟨?_,xCa hE h1⟩) ?_<;>simp only [go_sem,Nat.reduceEqDiff,Nat.reduceBEq,Nat.reduceAdd]
 refine zE _ ?_ (fun hg=>⟨?_,xBa hE hB w.aname w.atype w.alife h1 h2⟩) ?_<;>simp only [go_sem,Nat.reduceLeDiff,Nat.reduceEqDiff,Nat.reduceBEq,Nat.reduceAdd]
 ·simp only [go_sem,Nat.reduceEqDiff] at hg ⊢; exact hg
 refine zE _ ?_ (fun hg=>⟨?_,xCh hE hB w.aname w.atype w.alife h3 h4⟩) ?_<;>simp only [go_sem,Nat.reduceEqDiff,Nat.reduceBEq]
 ·simp only [go_sem,Nat.reduceEqDiff] at hg ⊢; exact⟨hg,hg⟩
 rfl
end Go.SL
/- Histories and steps in memory; contracts of small functions over copies. -/
namespace Go.SL
open Go
variable {E:Env} {H:Hp}
structure yE where
 host:Int
 from_:Int
 till:Int
 apex:Bs
 sets:List zF
 deriving DecidableEq,Inhabited
structure yO where
 hosts:List qT
 copies:List yE
 aname:Bs
 atype:Int
 alife:Int
 adata:List xO
 hints:List Int
 drift:Int
 end_:Int
 deriving DecidableEq,Inhabited
structure zCX where
 at_:Int
 puts:List wG
 deriving DecidableEq,Inhabited
def jY (cs:List yE) (z:Nat→Value) (i:Nat):List Value:=[.int .i64 (cs.getD i default).host,.int .i64 (cs.getD i default).from_,.int .i64 (cs.getD i default).till,S (cs.getD i default).apex,z i]
def yTo (l:List zCX) (z:Nat→Value) (i:Nat):List Value:=[.int .i64 (l.getD i default).at_,z i]
def qD (H:Hp) (v:Value) (cs:List yE):Prop:=∃ z,zG H 5 v cs.length (jY cs z)∧∀ i,i < cs.length→xT H (z i) (cs.getD i default).sets
def zBs (H:Hp) (v:Value) (l:List zCX):Prop:=∃ z,zG H 2 v l.length (yTo l z)∧∀ i,i < l.length→pS H (z i) (l.getD i default).puts
def vV (H:Hp) (v:Value) (h:yO):Prop:=∃ vh vc vd vi,v = .agg #[vh,vc,S h.aname,.int .i64 h.atype,.int .i64 h.alife,vd,vi,.int .i64 h.drift,.int .i64 h.end_]∧qN H vh h.hosts∧qD H vc h.copies∧xF H vd h.adata∧wH H vi h.hints
theorem qD.mono {H H' : Hp} {v : Value} {cs : List yE} (h : qD H v cs) (hl : H.le H') : qD H' v cs := by
 obtain⟨z,h1,h2⟩:=h
 exact⟨z,h1.mono hl,fun i hi=>(h2 i hi).mono hl⟩
theorem zBs.mono {H H' : Hp} {v : Value} {l : List zCX} (h : zBs H v l) (hl : H.le H') : zBs H' v l := by
 obtain⟨z,h1,h2⟩:=h
 exact⟨z,h1.mono hl,fun i hi=>(h2 i hi).mono hl⟩
theorem vV.mono {H H' : Hp} {v : Value} {h : yO} (hh : vV H v h) (hl : H.le H') : vV H' v h := by
 obtain⟨vh,vc,vd,vi,rfl,h1,h2,h3,h4⟩:=hh
 exact⟨vh,vc,vd,vi,rfl,h1.mono hl,h2.mono hl,h3.mono hl,h4.mono hl⟩
theorem qD.one {v:Value} {cs:List yE} (h:qD H v cs):yV v=true:=by obtain⟨z,h,_⟩:=h; exact zG.one h
theorem zBs.one {v:Value} {l:List zCX} (h:zBs H v l):yV v=true:=by obtain⟨z,h,_⟩:=h; exact zG.one h
def xJ (cs:List yE):Nat→List (Bs × Bool):=jK fun k=>(cs.getD k default).apex
theorem yZQ (h2 : xZ E) (h f t : Int) (a : Bs) (z : Value) (_hz : yV z = true) : yB E 120 [.agg #[.int .i64 h, .int .i64 f, .int .i64 t, S a, z]] H (S a) := by
 refine Fn.of_vks h2.c120 (by simp [zLT]) ?_
 simp only [zLT,zWq,zZi]
 simp only [go_sem,Nat.reduceLeDiff,Nat.reduceEqDiff,Nat.reduceBEq,Nat.reduceAdd,reduceCtorEq]
theorem uI.of {H' : Hp} {b : Nat} {o : xI} {l : List (Value × Value)} (h : ∀ H0 : Hp, uI (H0.put b o) b l) (hx : H' b = some o) : uI H' b l := by
 obtain⟨es,cl,h1,h2⟩:=h H'
 rw [Hp.put_same] at h1
 exact⟨es,cl,hx.trans h1,h2⟩
theorem zEk {κ ν : Type} [DecidableEq κ] {k : κ} {v : ν} : ∀ {l : List (κ × ν)}, yI k l = some v → xV k v l = l
 | [],h=>by cases h
 | (k', v') :: r, h => by
  simp only [yI] at h
  simp only [xV]
  split at h
  ·rename_i e; cases h; rw [if_pos e,e]
  ·rename_i e; rw [if_neg e,zEk h]
theorem zAt {κ ν : Type} [DecidableEq κ] {k : κ} {v : ν} : ∀ {l : List (κ × ν)}, yI k l = none → xV k v l = l ++ [(k, v)]
 | [],_=>rfl
 | (k', v') :: r, h => by
  simp only [yI] at h
  simp only [xV]
  split at h
  ·cases h
  ·rename_i e; rw [if_neg e,zAt h]; rfl
theorem zEJ {κ : Type} [DecidableEq κ] {f : Nat → κ} {k : κ} {v : Bool} : ∀ {n : Nat}, yI k (jK f n) = some v → v = true
 | 0,h=>by cases h
 | n + 1, h => by
  simp only [jK] at h
  rw [zAg] at h
  split at h
  ·cases h; rfl
  ·exact zEJ h
theorem yTS (L : List (Bs × Bool)) (i : Nat) (hi : i < L.length) : i * 1 + 1 ≤ (L.map fun e => S e.1).length ∧ ((L.map fun e => S e.1).drop (i * 1)).take 1 = [S (L.getD i default).1] := by
 refine⟨by simp; omega,?_⟩
 rw [Nat.mul_one,List.drop_eq_getElem_cons (by simpa using hi)]
 simp [hi]
set_option maxHeartbeats 1000000 in
theorem yIL (h2 : xZ E) {vz : Value} {zs : List yE} (hz : qD H vz zs) (hn : zs.length ≤ 1099511627) :
  Fn E.P (E.fn 119) [vz,.func (.func (E.fn 120)) #[] #[]] H (fun u H'=>H.le H'∧((u = .slice none 0 0∧xJ zs zs.length = [])∨∃ b cp,H b=none∧u = .slice (some ⟨b,0,none⟩) (xJ zs zs.length).length cp∧H' b=some (.row ((xJ zs zs.length).map fun e=>S e.1) (cp * 1) true))):=by
 obtain⟨z,⟨a,cap,rfl,hsp,hr⟩,hdeep⟩:=hz
 refine Fn.of_vks h2.c119 (by simp [zLJ]) ?_
 simp only [zLJ,zVH,zYr,yFx,yAZ,zUi,yBV,yEl,zUQ,zUx,zVP,zOK,zQg]
 simp only [go_sem,Nat.reduceEqDiff,Nat.reduceBEq,reduceCtorEq]
 intro b3 hb3
 have hlen : ∀ k, (xJ zs k).length ≤ k := by
  intro k
  induction k with
  | zero=>exact Nat.le_refl _
  | succ k ih =>
   have e:xJ zs (k + 1)=xV (zs.getD k default).apex true (xJ zs k):=rfl
   rw [e]
   cases hg:yI (zs.getD k default).apex (xJ zs k) with
   | none=>rw [zAt hg]; simp; exact ih
   | some v=>rw [show v=true from zEJ hg] at hg; rw [zEk hg]; omega
 refine yK zs.length 0 (fun k fr' H' => ∃ vs o3, fr' = [(1, ⟨true, .val (.func (.func (E.fn 120)) #[] #[])⟩), (5, ⟨true, .val (.map (some b3))⟩), (6, ⟨true, .val vs⟩), (11, ⟨true, .val (.slice a zs.length cap)⟩), (12, ⟨true, .val (.int .i64 zs.length)⟩), (13, ⟨true, .val (.int .i64 k)⟩)] ∧
   H.le H' ∧ H' b3 = some o3 ∧ (∀ H0 : Hp, uI (H0.put b3 o3) b3 ((xJ zs k).map fun e => (S e.1, .bool e.2))) ∧
    ((vs = .slice none 0 0∧xJ zs k = [])∨∃ b cp,H b=none∧b≠b3∧vs = .slice (some ⟨b,0,none⟩) (xJ zs k).length cp∧H' b=some (.row ((xJ zs k).map fun e=>S e.1) (cp * 1) true))) (Nat.zero_le _) ⟨_,_,rfl,zJ hb3 _,Hp.put_same ..,fun H0=>⟨#[],0,Hp.put_same ..,rfl⟩,.inl ⟨rfl,rfl⟩⟩ ?_
 rintro k fr' H' hk ⟨vs,o3,rfl,hle,ho3,hM3,hcase⟩
 have hvs : ∃ p n c, vs = .slice p n c := by
  rcases hcase with⟨rfl,_⟩ | ⟨b,cp,_,_,rfl,_⟩<;>exact⟨_,_,_,rfl⟩
 by_cases hlt:k < zs.length
 ·have hd:decide ((k:Int) < (zs.length:Int))=true:=by simpa using hlt
  have hr':=hr (by omega)
  obtain⟨b,o,rs,c,wr,ha,hb,hi⟩:=hr'
  subst ha
  have hb1:=hle _ _ hb
  have hi1:=(hi k hlt).1
  have hi2:=(hi k hlt).2
  have hz1:yV (z k)=true:=by obtain⟨d,g,h,_⟩:=hdeep k hlt; exact zG.one h
  obtain⟨x,hx⟩:∃ y,zs.getD k default=y:=⟨_,rfl⟩
  have hnx:xJ zs (k + 1)=xV x.apex true (xJ zs k):=by rw [← hx]; rfl
  have hlk:=hlen k
  simp only [hd,hb1,hi2,jY,hx,hz1,go_sem,Nat.reduceEqDiff,Nat.reduceBEq,Nat.reduceAdd,zC]
  refine⟨⟨by omega,by omega⟩,hi1,?_⟩
  refine xA ?_ ?_ (yP h2.e120 (Fn.same (yZQ h2 x.host x.from_ x.till x.apex (z k) hz1))) ?_
  ·simp only [go_sem,Nat.reduceEqDiff]
  ·simp only [go_sem,Nat.reduceEqDiff]
  rintro v H'' ⟨rfl,rfl⟩
  simp only [go_sem,Nat.reduceEqDiff,Nat.reduceBEq]
  refine zAd (enc:=fun x=>S x) (encv:=fun b=>.bool b) (l:=xJ zs k) (b:=b3) x.apex zEH trivial ?_ ?_ ?_ ?_ (uI.of hM3 ho3) ?_
  ·simp only [go_sem,Nat.reduceEqDiff]
  ·simp only [go_sem,Nat.reduceEqDiff]
  ·simp only [go_sem,Nat.reduceEqDiff]
  ·simp only [go_sem,Nat.reduceEqDiff]
  cases hg:yI x.apex (xJ zs k) with
  | some q =>
   have hq:q=true:=zEJ hg
   subst hq
   simp only [Option.map_some,go_sem,Nat.reduceEqDiff,Nat.reduceBEq,zC]
   refine⟨hlt,vs,o3,⟨rfl,zR (by omega)⟩,hle,ho3,?_,?_⟩
   ·rw [hnx,zEk hg]; exact hM3
   ·rw [hnx,zEk hg]; exact hcase
  | none =>
   simp only [Option.map_none,go_sem,Nat.reduceEqDiff,Nat.reduceBEq,zC]
   refine zBv (enc:=fun x=>S x) (encv:=fun b=>.bool b) (l:=xJ zs k) (b:=b3) x.apex true zEH trivial ?_ ?_ ?_ ?_ ?_ ?_ (uI.of hM3 ho3) ?_
   ·simp only [go_sem,Nat.reduceEqDiff]
   ·simp only [go_sem,Nat.reduceEqDiff]
   ·simp only [go_sem]
   ·simp only [go_sem,Nat.reduceEqDiff]
   ·simp only [go_sem,Nat.reduceEqDiff]
   ·simp only [go_sem]
   intro o3' hM3'
   simp only [go_sem,Nat.reduceEqDiff,Nat.reduceBEq]
   intro bs hbs
   obtain⟨G,hG⟩:∃ G,G=(H''.put b3 o3').put bs (.row [S x.apex] 1 true):=⟨_,rfl⟩
   have hbs3:bs≠b3:=by rintro rfl; rw [Hp.put_same] at hbs; cases hbs
   have hGb3:G b3=some o3':=by rw [hG,Hp.put_ne _ _ (Ne.symm hbs3),Hp.put_same]
   have hGbs:G bs=some (.row [S x.apex] 1 true):=by rw [hG,Hp.put_same]
   have hH'bs:H'' bs=none:=by rw [Hp.put_ne _ _ hbs3] at hbs; exact hbs
   have hGle:H.le G:=by rw [hG]; exact(zH hle hb3 _).trans (zJ hbs _)
   have hsrcO:pG G 1 (.slice (some ⟨bs,0,none⟩) 1 1):=.inr ⟨rfl,by rw [hGbs]; simp⟩
   have hsrcC:zN G 1 (.slice (some ⟨bs,0,none⟩) 1 1) = [S x.apex]:=by simp [zN,hGbs]
   rw [← hG]
   rcases hcase with⟨rfl,hnil⟩ | ⟨b0,cp,hHb0,hb03,rfl,hH'b0⟩
   ·refine zDy ?_ ?_ hsrcO (by show(zN G 1 (.slice (some ⟨bs,0,none⟩) 1 1)).all yV=true; rw [hsrcC]; rfl) ?_ (by show 1 * 16≤_; omega) (by show 1≤_; omega) (fun h=>by cases h) ?_
    ·simp only [go_sem,Nat.reduceEqDiff]
    ·simp only [go_sem,Nat.reduceEqDiff]
    ·simp only [go_sem,Nat.reduceEqDiff]
    intro _ b1 cp1 hb1'
    have e1:zN G 1 (.slice (some ⟨bs,0,none⟩) 1 1) = [S x.apex]:=hsrcC
    simp only [zV,e1,go_sem,Nat.reduceEqDiff,Nat.reduceBEq,zC]
    have hb13:b1≠b3:=by rintro rfl; rw [hGb3] at hb1'; cases hb1'
    have hHb1 : H b1 = none := by
     cases hq:H b1 with
     | none=>rfl
     | some o=>rw [hGle _ _ hq] at hb1'; cases hb1'
    refine⟨hlt,_,o3',⟨rfl,zR (by omega)⟩,hGle.trans (zJ hb1' _),by rw [Hp.put_ne _ _ (Ne.symm hb13)]; exact hGb3,by rw [hnx]; exact hM3',.inr ⟨b1,cp1,hHb1,hb13,?_,?_⟩⟩
    ·rw [hnx,hnil]; rfl
    ·rw [hnx,hnil,Hp.put_same]; rfl
   ·have hb0s:b0≠bs:=by rintro rfl; rw [hH'bs] at hH'b0; cases hH'b0
    have hGb0:G b0=some (.row ((xJ zs k).map fun e=>S e.1) (cp * 1) true):=by rw [hG,Hp.put_ne _ _ hb0s,Hp.put_ne _ _ hb03]; exact hH'b0
    refine zAl (b0:=b0) (n:=(xJ zs k).length) (cap0:=cp) (capc:=cp * 1) (vs:=(xJ zs k).map fun e=>S e.1) ?_ ?_ hsrcO (by show(zN G 1 (.slice (some ⟨bs,0,none⟩) 1 1)).all yV=true; rw [hsrcC]; rfl) ?_ (by show((xJ zs k).length + 1) * 16≤_; omega) (by show(xJ zs k).length + 1≤_; omega) hGb0 (by simp) rfl ?_
    ·simp only [go_sem,Nat.reduceEqDiff]
    ·simp only [go_sem,Nat.reduceEqDiff]
    ·simp only [go_sem,Nat.reduceEqDiff]
    intro b1 cp1 hb1'
    have e1:zN G 1 (.slice (some ⟨bs,0,none⟩) 1 1) = [S x.apex]:=hsrcC
    simp only [zV,e1,go_sem,Nat.reduceEqDiff,Nat.reduceBEq,zC]
    have hdle:H.le (G.del b0):=zEO hHb0 hGle
    have hdb3:(G.del b0) b3=some o3':=by rw [Hp.del_ne _ (Ne.symm hb03)]; exact hGb3
    have hb13:b1≠b3:=by rintro rfl; rw [hdb3] at hb1'; cases hb1'
    have hHb1 : H b1 = none := by
     cases hq:H b1 with
     | none=>rfl
     | some o=>rw [hdle _ _ hq] at hb1'; cases hb1'
    refine⟨hlt,_,o3',⟨rfl,zR (by omega)⟩,hdle.trans (zJ hb1' _),by rw [Hp.put_ne _ _ (Ne.symm hb13)]; exact hdb3,by rw [hnx]; exact hM3',.inr ⟨b1,cp1,hHb1,hb13,?_,?_⟩⟩
    ·rw [hnx,zAt hg]; simp
    ·rw [hnx,zAt hg,Hp.put_same]; simp
 ·have hd:decide ((k:Int) < (zs.length:Int))=false:=by simpa using hlt
  have:k=zs.length:=by omega
  subst this
  simp only [hd,go_sem,Nat.reduceEqDiff,Nat.reduceBEq,Nat.reduceAdd,zC]
  refine⟨hle,?_⟩
  rcases hcase with⟨rfl,hnil⟩ | ⟨b,cp,hb,_,rfl,hH⟩
  ·exact .inl ⟨rfl,hnil⟩
  ·exact .inr ⟨b,cp,hb,rfl,hH⟩
theorem yXV (h2 : xZ E) {vz : Value} {zs : List yE} (hz : qD H vz zs) (hn : zs.length ≤ 1099511627) :
  Fn E.P (E.fn 119) [vz,.func (.func (E.fn 120)) #[] #[]] H (fun u H'=>H.le H'∧zG H' 1 u (xJ zs zs.length).length (fun i=>[S ((xJ zs zs.length).getD i default).1])):=by
 refine Fn.mono (yIL h2 hz hn) ?_
 rintro u H' ⟨hle,hcase⟩
 refine⟨hle,?_⟩
 rcases hcase with⟨rfl,hnil⟩ | ⟨b,cp,_,rfl,hH⟩
 ·rw [hnil]; exact zG.nil
 ·exact zG.lit hH (yTS _)
end Go.SL
/- Contracts: sorting one span. -/
namespace Go.SL
open Go
variable {E:Env} {H:Hp}
theorem q1:decide ((1:Int)≥4294967296)=false:=by decide
theorem q2:decide ((1:Int)≥65536)=false:=by decide
theorem q3:decide ((1:Int)≥256)=false:=by decide
theorem q4:decide ((1:Int) < 1)=false:=by decide
theorem q5:decide ((1:Int)≤12)=true:=by decide
end Go.SL
/- Contracts: stages and steps are valid. -/
namespace Go.SL
open Go
variable {E:Env} {H:Hp}
theorem xCC (hE : zX E) {v : Value} (p : wG) (hv : xT H v p.sets) : yB E 17 [.agg #[S p.apex, v]] H (.bool (zFc p)) := by
 obtain⟨d,g,⟨a,cap,rfl,hs,hr⟩,hdeep⟩:=hv
 refine Fn.of_vks hE.c17 (by simp [yHt]) ?_
 simp only [yHt,yMM,yLT,yJH]
 simp only [go_sem,Nat.reduceLeDiff,Nat.reduceEqDiff,Nat.reduceBEq,Nat.reduceAdd,reduceCtorEq,zC]
 refine zE _ ?_ (fun hg=>⟨?_,yRf hE p.apex [42,46]⟩) ?_<;>simp only [go_sem,Nat.reduceLeDiff,Nat.reduceEqDiff,Nat.reduceBEq,Nat.reduceAdd,zC]
 ·simp only [go_sem,Nat.reduceEqDiff] at hg ⊢; exact hg
 refine zE _ ?_ (fun hg=>⟨?_,zFy hE p.apex⟩) ?_<;>simp only [go_sem,Nat.reduceEqDiff,Nat.reduceBEq]
 ·simp only [go_sem,Nat.reduceEqDiff] at hg ⊢; exact hg
 have e:((p.sets.length:Int) == 0)=(p.sets.length == 0):=by rw [Bool.eq_iff_iff,beq_iff_eq,beq_iff_eq]; omega
 rw [e]; rfl
set_option maxHeartbeats 1000000 in
set_option maxRecDepth 100000 in
theorem xAV (hE : zX E) (hB : qU E H) {vz : Value} {zs : List wG} (nh : Int) (hz : pS H vz zs) : yB E 15 [.agg #[vz], .int .i64 nh] H (.bool (zCj zs nh)) := by
 obtain⟨z,⟨a,cap,rfl,hsp,hr⟩,hdeep⟩:=hz
 refine Fn.of_vks hE.c15 (by simp [yIo]) ?_
 simp only [yIo,yMR,yII,yJJ,yNT,yKD,yOZ,yQx,yKT,yPR,yPT,yFV,yDy,yFI]
 simp only [go_sem,Nat.reduceEqDiff,Nat.reduceBEq,reduceCtorEq,zC]
 have hc:decide ((zs.length:Int) > 500) = !decide (zs.length≤500):=by rw [Bool.eq_iff_iff,Bool.not_eq_true',decide_eq_true_eq,decide_eq_false_iff_not]; omega
 rw [hc]
 refine⟨fun h=>?_,fun h=>?_⟩
 ·rw [Bool.not_eq_true'] at h; simp only [zCj,h,Bool.false_and]
 have hn:zs.length≤500:=by simpa using h
 have ho:zCj zs nh=zP (zEm nh zs) zs.length:=by simp only [zCj,hn,decide_true,Bool.true_and]
 rw [ho]
 intro b3 hb3
 refine yK zs.length 0 (fun k fr' H' => fr' = [(1, ⟨true, .val (.int .i64 nh)⟩), (5, ⟨true, .val (.map (some b3))⟩), (15, ⟨true, .val (.slice a zs.length cap)⟩), (16, ⟨true, .val (.int .i64 zs.length)⟩), (17, ⟨true, .val (.int .i64 k)⟩)] ∧
   zP (zEm nh zs) k=true∧∃ o3,H'=H.put b3 o3∧(∀ H0:Hp,uI (H0.put b3 o3) b3 ((qJ zs k).map fun e=>(zGw e.1,.bool e.2)))) (Nat.zero_le _) ⟨rfl,rfl,_,rfl,fun H0=>⟨#[],0,Hp.put_same ..,rfl⟩⟩ ?_
 rintro k fr' H' hk ⟨rfl,hP,o3,rfl,hM3⟩
 have hle:H.le (H.put b3 o3):=zJ hb3 _
 by_cases hlt:k < zs.length
 ·have hd:decide ((k:Int) < (zs.length:Int))=true:=by simpa using hlt
  have hF:zEm nh zs k=false→false=zP (zEm nh zs) zs.length:=fun h=>(zY hlt h).symm
  have hS:zEm nh zs k=true→zP (zEm nh zs) (k + 1)=true:=fun h=>yJ hP h
  have hr':=hr (by omega)
  obtain⟨b,o,vs,c,wr,ha,hb,hi⟩:=hr'
  subst ha
  have hb1:=hle _ _ hb
  have hi1:=(hi k hlt).1
  have hi2:=(hi k hlt).2
  have hzk:=(hdeep k hlt).mono hle
  have hz1:yV (z k)=true:=by obtain⟨d,g,h,_⟩:=hzk; exact zG.one h
  obtain⟨x,hx⟩:∃ y,zs.getD k default=y:=⟨_,rfl⟩
  rw [hx] at hzk
  have hok:zEm nh zs k = !(decide (x.host < 0) || decide (x.host≥nh) || (yI x.key (qJ zs k)).getD false || (!zFc x && !xB x.apex x.sets)):=by rw [← hx]; rfl
  simp only [hd,hb1,hi2,zDn,hx,hz1,go_sem,Nat.reduceLeDiff,Nat.reduceEqDiff,Nat.reduceBEq,Nat.reduceAdd,zC]
  refine⟨⟨by omega,by omega⟩,hi1,fun h=>⟨h,h⟩,?_⟩
  have hzv:yB E 43 [.agg #[S x.apex,z k]] (H.put b3 o3) (.bool (xB x.apex x.sets)):=yRX hE (hB.mono hle) x.apex hzk
  have hst:yB E 17 [.agg #[S x.apex,z k]] (H.put b3 o3) (.bool (zFc x)):=xCC hE x hzk
  obtain⟨q,hq⟩:∃ q,(decide (x.host < 0) || decide (x.host≥nh))=q:=⟨_,rfl⟩
  rw [hq] at hok ⊢
  cases q with
  | true =>
   refine zBw (by intro x h; cases h) (by intro f a h; cases h) ?_ ?_ ?_
   ·simp only [go_sem,Nat.reduceEqDiff]
   ·simp only [go_sem,Nat.reduceEqDiff]
   simp only [go_sem,Nat.reduceEqDiff,Nat.reduceBEq,Nat.reduceAdd,↓yQ]
   refine zE (.bool (zFc x)) ?_ (fun hg=>absurd hg ?_) ?_<;>simp only [go_sem,Nat.reduceEqDiff,Nat.reduceBEq,Nat.reduceAdd]
   ·simp
   refine zE (.bool (xB x.apex x.sets)) ?_ (fun hg=>absurd hg ?_) ?_<;>simp only [go_sem,Nat.reduceEqDiff,Nat.reduceBEq,Nat.reduceAdd,↓yQ]
   ·simp
   ·exact⟨hF hok,hle⟩
  | false =>
   rw [Bool.false_or] at hok
   refine zAr (by intro x h; cases h) (by intro f a h; cases h) ?_ ?_ ?_
   ·simp only [go_sem,Nat.reduceEqDiff]
   ·simp only [go_sem,Nat.reduceEqDiff]
   refine zAd (enc:=zGw) (encv:=fun b=>.bool b) (l:=qJ zs k) (b:=b3) x.key zOy (zJg _) ?_ ?_ ?_ ?_ (hM3 H) ?_
   ·simp only [go_sem,Nat.reduceEqDiff]
   ·simp only [go_sem,Nat.reduceEqDiff]
   ·simp only [go_sem,Nat.reduceEqDiff]
   ·simp only [go_sem,Nat.reduceEqDiff]; rfl
   have hv : ((yI x.key (qJ zs k)).map (fun b => Value.bool b)).getD (.bool false) = .bool ((yI x.key (qJ zs k)).getD false) := by
    cases yI x.key (qJ zs k)<;>rfl
   rw [hv]
   simp only [go_sem,Nat.reduceEqDiff,Nat.reduceBEq,Nat.reduceAdd]
   refine zE _ ?_ (fun hg=>⟨?_,hst⟩) ?_<;>simp only [go_sem,Nat.reduceEqDiff,Nat.reduceBEq,Nat.reduceAdd]
   ·simp only [go_sem,Nat.reduceEqDiff] at hg ⊢; exact hg
   refine zE _ ?_ (fun hg=>⟨?_,hzv⟩) ?_<;>simp only [go_sem,Nat.reduceEqDiff,Nat.reduceBEq,Nat.reduceAdd]
   ·simp only [go_sem,Nat.reduceEqDiff] at hg ⊢; exact hg
   refine⟨fun h1=>⟨h1,fun h2=>by rw [h1,h2]; rfl⟩,fun h1=>⟨hF ?_,hle⟩,fun h1=>?_⟩
   ·rw [hok,h1]; rfl
   rw [h1] at hok
   refine zBv (enc:=zGw) (encv:=fun b=>.bool b) (l:=qJ zs k) (b:=b3) x.key true zOy (zJg _) ?_ ?_ ?_ ?_ ?_ ?_ (hM3 H) ?_
   ·simp only [go_sem,Nat.reduceEqDiff]
   ·simp only [go_sem,Nat.reduceEqDiff]
   ·simp only [go_sem]
   ·simp only [go_sem,Nat.reduceEqDiff]
   ·simp only [go_sem,Nat.reduceEqDiff]; rfl
   ·simp only [go_sem]
   intro o3' hM3'
   simp only [go_sem,Nat.reduceEqDiff,Nat.reduceBEq,zC]
   refine⟨hlt,zR (by omega),hS hok,o3',rfl,fun H0=>?_⟩
   have:=hM3' H0; rw [← hx] at this; exact this
 ·have hd:decide ((k:Int) < (zs.length:Int))=false:=by simpa using hlt
  have:k=zs.length:=by omega
  subst this
  simp only [hd,go_sem,Nat.reduceLeDiff,Nat.reduceEqDiff,Nat.reduceBEq,Nat.reduceAdd,zC]
  exact⟨hP.symm,hle⟩
def zIT (l : List zCX) : Nat → Int
 | 0=>-1
 | k + 1=>(l.getD k default).at_
def zGh (e nh:Int) (l:List zCX) (i:Nat):Bool:=!(decide ((l.getD i default).at_≤zIT l i) || decide ((l.getD i default).at_≥e) || !zCj (l.getD i default).puts nh)
def zCb (e nh:Int) (l:List zCX):Bool:=decide (l.length≤400) && zP (zGh e nh l) l.length
set_option maxHeartbeats 1000000 in
theorem xBt (hE : zX E) (hB : qU E H) {v vl : Value} {h : yO} {l : List zCX} (hh : vV H v h) (hl : zBs H vl l) : yB E 49 [v, vl] H (.bool (zCb h.end_ h.hosts.length l)) := by
 obtain⟨vh,vc,vd,vi,rfl,g1,g2,g3,g4⟩:=hh
 have hh1:=zG.one g1
 have hc1:=qD.one g2
 have hd1:=zG.one g3
 have hi1:=zG.one g4
 have hvh:=qN.sl g1
 obtain⟨ah,ch,rfl⟩:=hvh
 obtain⟨z,⟨a,cap,rfl,hsp,hr⟩,hdeep⟩:=hl
 refine Fn.of_vks hE.c49 (by simp [yHV]) ?_
 simp only [yHV,yLc,yLw,yON,yOg,yMJ,yPC,yQl,yJr,yMN,yQi,yAn,zXm]
 simp only [go_sem,Nat.reduceEqDiff,Nat.reduceBEq,reduceCtorEq,zC]
 have hc:decide ((l.length:Int) > 400) = !decide (l.length≤400):=by rw [Bool.eq_iff_iff,Bool.not_eq_true',decide_eq_true_eq,decide_eq_false_iff_not]; omega
 rw [hc]
 refine⟨fun hq=>?_,fun hq=>?_⟩
 ·rw [Bool.not_eq_true'] at hq; simp only [zCb,hq,Bool.false_and]
 have hn:l.length≤400:=by simpa using hq
 have ho:∀ e nh,zCb e nh l=zP (zGh e nh l) l.length:=by intro e nh; simp only [zCb,hn,decide_true,Bool.true_and]
 rw [ho]
 refine zT l.length 0 (fun k=>[(2,⟨true,.box [.slice ah h.hosts.length ch,vc,S h.aname,.int .i64 h.atype,.int .i64 h.alife,vd,vi,.int .i64 h.drift,.int .i64 h.end_]⟩),(5,⟨true,.val (.int .i64 (zIT l k))⟩),(11,⟨true,.val (.slice a l.length cap)⟩),(12,⟨true,.val (.int .i64 l.length)⟩),(13,⟨true,.val (.int .i64 k)⟩)]) (fun k=>zP (zGh h.end_ h.hosts.length l) k=true) (Nat.zero_le _) rfl rfl ?_
 intro k hk hP
 by_cases hlt:k < l.length
 ·have hd:decide ((k:Int) < (l.length:Int))=true:=by simpa using hlt
  have hF:=fun hx=>(zY (P:=zGh h.end_ h.hosts.length l) hlt hx).symm
  have hS:=fun hx=>yJ hP hx
  have hr':=hr (by omega)
  obtain⟨b,o,vs,c,wr,ha,hb,hi⟩:=hr'
  subst ha
  have hi1':=(hi k hlt).1
  have hi2:=(hi k hlt).2
  have hzk:=hdeep k hlt
  have hz1:yV (z k)=true:=pS.one hzk
  have hok:∀ e nh,zGh e nh l k = !(decide ((l.getD k default).at_≤zIT l k) || decide ((l.getD k default).at_≥e) || !zCj (l.getD k default).puts nh):=fun _ _=>rfl
  have hla:zIT l (k + 1)=(l.getD k default).at_:=rfl
  obtain⟨x,hx⟩:∃ y,l.getD k default=y:=⟨_,rfl⟩
  rw [hx] at hzk hok hla
  simp only [hd,hb,hi2,yTo,hx,hz1,go_sem,Nat.reduceLeDiff,Nat.reduceEqDiff,Nat.reduceBEq,Nat.reduceAdd,zC]
  refine⟨⟨by omega,by omega⟩,hi1',fun h=>⟨h,h⟩,?_⟩
  refine zE _ ?_ (fun hg=>⟨?_,xAV hE hB (h.hosts.length:Int) hzk⟩) ?_<;>simp only [go_sem,Nat.reduceLeDiff,Nat.reduceEqDiff,Nat.reduceBEq,Nat.reduceAdd,zC]
  ·simp only [go_sem,Nat.reduceEqDiff] at hg ⊢; exact⟨hg,hg⟩
  refine⟨fun h1=>hF (by rw [hok,h1]; rfl),fun h1=>⟨hlt,⟨hla.symm,zR (by omega)⟩,hS (by rw [hok,h1]; rfl)⟩⟩
 ·have hd:decide ((k:Int) < (l.length:Int))=false:=by simpa using hlt
  have:k=l.length:=by omega
  subst this
  simp only [hd,go_sem,Nat.reduceEqDiff,Nat.reduceBEq,Nat.reduceAdd,zC]
  exact hP.symm
theorem xAI (hE : zX E) (hB : qU E H) {v vl : Value} {h : yO} {l : List zCX} {q : Bool} (hh : vV H v h) (hl : zBs H vl l) (h48 : yB E 48 [v] H (.bool q)) :
  yB E 28 [v,vl] H (.bool (q && zCb h.end_ h.hosts.length l)):=by
 have hf:=xBt hE hB hh hl
 obtain⟨vh,vc,vd,vi,rfl,g1,g2,g3,g4⟩:=hh
 have hh1:=zG.one g1
 have hc1:=qD.one g2
 have hd1:=zG.one g3
 have hi1:=zG.one g4
 refine Fn.of_vks hE.c28 (by simp [yGx]) ?_
 simp only [yGx,yLk,yOr]
 simp only [go_sem,Nat.reduceEqDiff,Nat.reduceBEq,Nat.reduceAdd,reduceCtorEq]
 refine zE _ ?_ (fun _=>⟨?_,h48⟩) ?_<;>simp only [go_sem,Nat.reduceEqDiff,Nat.reduceBEq,Nat.reduceAdd]
 refine zE _ ?_ (fun hg=>⟨?_,hf⟩) ?_<;>simp only [go_sem,Nat.reduceEqDiff,Nat.reduceBEq]
 ·simp only [go_sem,Nat.reduceEqDiff] at hg ⊢; exact⟨hg,hg⟩
end Go.SL
/- Contracts: comparing signed sets. -/
namespace Go.SL
open Go
variable {E:Env} {H:Hp}
theorem yQF (x y : xO) : (x.text == y.text && (x.n == y.n && x.m == y.m)) = decide (x = y) := by
 obtain⟨a,b,c⟩:=x
 obtain⟨a',b',c'⟩:=y
 rw [Bool.eq_iff_iff]
 simp
theorem yTY (x y : kI) : (x.zone == y.zone && (x.key == y.key && (x.alg == y.alg && (x.from_ == y.from_ && (x.till == y.till && x.sum == y.sum))))) = decide (x = y) := by
 obtain⟨a,b,c,d,e,f⟩:=x
 obtain⟨a',b',c',d',e',f'⟩:=y
 rw [Bool.eq_iff_iff]
 simp
theorem zGg {α : Type} [Inhabited α] {l l' : List α} {k : Nat} (h : l.take k = l'.take k) (hk : k < l.length) (hk' : k < l'.length) (he : l.getD k default = l'.getD k default) : l.take (k + 1) = l'.take (k + 1) := by
 rw [List.take_add_one,List.take_add_one,h,List.getElem?_eq_getElem hk,List.getElem?_eq_getElem hk']
 rw [List.getD_eq_getElem?_getD,List.getD_eq_getElem?_getD,List.getElem?_eq_getElem hk,List.getElem?_eq_getElem hk'] at he
 simp only [Option.getD_some] at he
 rw [he]
set_option maxHeartbeats 1000000 in
theorem yWY (hE : zX E) (n1 n2 : Bs) (t1 l1 t2 l2 : Int) {va vb : Value} {d1 d2 : List xO} (ha : xF H va d1) (hb : xF H vb d2) (hn : d1.length ≤ 1099511627775) :
  yB E 46 [.agg #[S n1,.int .i64 t1,.int .i64 l1,va],.agg #[S n2,.int .i64 t2,.int .i64 l2,vb]] H (.bool ((n1 == n2) && ((t1 == t2) && ((l1 == l2) && decide (d1=d2))))):=by
 obtain⟨aa,ca,rfl,_,hra⟩:=ha
 obtain⟨ab,cb,rfl,_,hrb⟩:=hb
 refine Fn.of_vks hE.c46 (by simp [yHk]) ?_
 simp only [yHk,yMi,yLi,yLG,yMn,yKJ,yJN,yQA,yJq,yOD]
 simp only [bne,go_sem,Nat.reduceLeDiff,Nat.reduceEqDiff,Nat.reduceBEq,Nat.reduceAdd,reduceCtorEq,zC]
 cases f1:(n1 == n2)
 ·simp only [Bool.false_and,go_sem]
 cases f2:(t1 == t2)
 ·simp only [Bool.false_and,Bool.true_and,go_sem]
 cases f3:(l1 == l2)
 ·simp only [Bool.false_and,Bool.true_and,go_sem]
 by_cases f4:d1.length=d2.length
 rotate_left
 ·have e1 : ((d1.length : Int) == (d2.length : Int)) = false := by
   rw [beq_eq_false_iff_ne]; omega
  have e2 : decide (d1 = d2) = false := by
   rw [decide_eq_false_iff_not]
   intro h; rw [h] at f4; exact f4 rfl
  simp only [e1,e2,Bool.true_and,go_sem]
 have e1 : ((d1.length : Int) == (d2.length : Int)) = true := by
  rw [beq_iff_eq]; omega
 obtain⟨q,hq⟩:∃ y,y=decide (d1=d2):=⟨_,rfl⟩
 rw [← hq]
 simp only [e1,Bool.true_and,go_sem]
 refine zT d1.length 0 (fun k=>[(2,⟨true,.box [S n1,.int .i64 t1,.int .i64 l1,.slice aa d1.length ca]⟩),(3,⟨true,.box [S n2,.int .i64 t2,.int .i64 l2,.slice ab d2.length cb]⟩),(5,⟨true,.val (.int .i64 k)⟩)]) (fun k=>d1.take k=d2.take k) (Nat.zero_le _) rfl rfl ?_
 intro k hk hP
 by_cases hlt:k < d1.length
 ·have hd:decide ((k:Int) < (d1.length:Int))=true:=by simpa using hlt
  have hrA':=hra (by omega)
  obtain⟨bA,oA,vsA,cA,wrA,haA,hbA,hiA⟩:=hrA'
  subst haA
  have hiA1:=(hiA k hlt).1
  have hiA2:=(hiA k hlt).2
  have hrB':=hrb (by omega)
  obtain⟨bB,oB,vsB,cB,wrB,haB,hbB,hiB⟩:=hrB'
  subst haB
  have hiB1:=(hiB k (by omega)).1
  have hiB2:=(hiB k (by omega)).2
  have hxy:=yQF (d1.getD k default) (d2.getD k default)
  have hst:=zGg hP hlt (by omega)
  obtain⟨x,hx⟩:∃ x,x=d1.getD k default:=⟨_,rfl⟩
  obtain⟨y,hy⟩:∃ y,y=d2.getD k default:=⟨_,rfl⟩
  rw [← hx,← hy] at hxy hst
  simp only [pR,← hx] at hiA2
  simp only [pR,← hy] at hiB2
  by_cases hxe:x=y
  ·have he:decide (x=y)=true:=by simpa using hxe
   simp only [hd,hbA,hbB,hiA2,hiB2,zBG,allEq,pA,Bool.and_true,hxy,he,Bool.xor_true,go_sem,Nat.reduceEqDiff,Nat.reduceBEq,Nat.reduceAdd,zC]
   exact⟨⟨by omega,by omega⟩,hiA1,⟨by omega,by omega⟩,hiB1,hlt,zR (by omega),hst hxe⟩
  ·have he:decide (x=y)=false:=by simpa using hxe
   have hqf : q = false := by
    rw [hq,decide_eq_false_iff_not]
    intro h
    apply hxe
    rw [hx,hy,h]
   simp only [hd,hbA,hbB,hiA2,hiB2,zBG,allEq,pA,Bool.and_true,hxy,he,hqf,Bool.xor_true,go_sem,Nat.reduceEqDiff,Nat.reduceBEq,Nat.reduceAdd,zC]
   exact⟨⟨by omega,by omega⟩,hiA1,⟨by omega,by omega⟩,hiB1⟩
 ·have hd:decide ((k:Int) < (d1.length:Int))=false:=by simpa using hlt
  have:k=d1.length:=by omega
  subst this
  have hqt : q = true := by
   rw [hq,decide_eq_true_eq]
   rw [List.take_of_length_le (Nat.le_refl _),List.take_of_length_le (by omega)] at hP
   exact hP
  simp only [hd,hqt,go_sem,Nat.reduceEqDiff,Nat.reduceBEq,Nat.reduceAdd,zC]
set_option maxHeartbeats 1000000 in
theorem yYH (hE : zX E) (n1 n2 : Bs) (t1 l1 t2 l2 : Int) {va vb wa wb : Value} {x1 x2 : List xO} {d1 d2 : List kI} (ha : xF H va x1) (hb : xF H vb x2) (ga : xL H wa d1) (gb : xL H wb d2) (hn : x1.length ≤ 1099511627775) (hm : d1.length ≤ 1099511627775) :
  yB E 47 [.agg #[S n1,.int .i64 t1,.int .i64 l1,va,wa],.agg #[S n2,.int .i64 t2,.int .i64 l2,vb,wb]] H (.bool (((n1 == n2) && ((t1 == t2) && ((l1 == l2) && decide (x1=x2)))) && decide (d1=d2))):=by
 have f46:=yWY hE n1 n2 t1 l1 t2 l2 ha hb hn
 obtain⟨p,hp⟩:∃ y,y=((n1 == n2) && ((t1 == t2) && ((l1 == l2) && decide (x1=x2)))):=⟨_,rfl⟩
 rw [← hp] at f46 ⊢
 obtain⟨aa,ca,rfl,_,hra⟩:=ga
 obtain⟨ab,cb,rfl,_,hrb⟩:=gb
 have o1:=zG.one ha
 have o2:=zG.one hb
 refine Fn.of_vks hE.c47 (by simp [yHG]) ?_
 simp only [yHG,yPL,yPf,yLj,yMF,yOu,yQJ,yOS,yPi,yNF]
 simp only [go_sem,Nat.reduceLeDiff,Nat.reduceEqDiff,Nat.reduceBEq,Nat.reduceAdd,reduceCtorEq]
 refine zE _ (by simp only [go_sem]) (fun _=>⟨by simp only [go_sem,Nat.reduceEqDiff],f46⟩) ?_
 cases p
 ·simp only [↓yQ,Bool.false_and,go_sem,Nat.reduceEqDiff,Nat.reduceBEq,Nat.reduceAdd,zC]
 by_cases f4:d1.length=d2.length
 rotate_left
 ·have e1 : ((d1.length : Int) == (d2.length : Int)) = false := by
   rw [beq_eq_false_iff_ne]; omega
  have e2 : decide (d1 = d2) = false := by
   rw [decide_eq_false_iff_not]
   intro h; rw [h] at f4; exact f4 rfl
  simp only [bne,e1,e2,Bool.true_and,go_sem,Nat.reduceEqDiff,Nat.reduceBEq,Nat.reduceAdd,zC]
 have e1 : ((d1.length : Int) == (d2.length : Int)) = true := by
  rw [beq_iff_eq]; omega
 obtain⟨q,hq⟩:∃ y,y=decide (d1=d2):=⟨_,rfl⟩
 rw [← hq]
 simp only [bne,e1,Bool.true_and,go_sem,Nat.reduceEqDiff,Nat.reduceBEq,Nat.reduceAdd,zC]
 refine zT d1.length 0 (fun k=>[(2,⟨true,.box [S n1,.int .i64 t1,.int .i64 l1,va,.slice aa d1.length ca]⟩),(3,⟨true,.box [S n2,.int .i64 t2,.int .i64 l2,vb,.slice ab d2.length cb]⟩),(5,⟨true,.val (.int .i64 k)⟩)]) (fun k=>d1.take k=d2.take k) (Nat.zero_le _) rfl rfl ?_
 intro k hk hP
 by_cases hlt:k < d1.length
 ·have hd:decide ((k:Int) < (d1.length:Int))=true:=by simpa using hlt
  have hrA':=hra (by omega)
  obtain⟨bA,oA,vsA,cA,wrA,haA,hbA,hiA⟩:=hrA'
  subst haA
  have hiA1:=(hiA k hlt).1
  have hiA2:=(hiA k hlt).2
  have hrB':=hrb (by omega)
  obtain⟨bB,oB,vsB,cB,wrB,haB,hbB,hiB⟩:=hrB'
  subst haB
  have hiB1:=(hiB k (by omega)).1
  have hiB2:=(hiB k (by omega)).2
  have hxy:=yTY (d1.getD k default) (d2.getD k default)
  have hst:=zGg hP hlt (by omega)
  obtain⟨x,hx⟩:∃ x,x=d1.getD k default:=⟨_,rfl⟩
  obtain⟨y,hy⟩:∃ y,y=d2.getD k default:=⟨_,rfl⟩
  rw [← hx,← hy] at hxy hst
  simp only [zAf,← hx] at hiA2
  simp only [zAf,← hy] at hiB2
  by_cases hxe:x=y
  ·have he:decide (x=y)=true:=by simpa using hxe
   simp only [hd,hbA,hbB,hiA2,hiB2,zBG,allEq,pA,Bool.and_true,hxy,he,Bool.xor_true,go_sem,Nat.reduceEqDiff,Nat.reduceBEq,Nat.reduceAdd,zC]
   exact⟨⟨by omega,by omega⟩,hiA1,⟨by omega,by omega⟩,hiB1,hlt,zR (by omega),hst hxe⟩
  ·have he:decide (x=y)=false:=by simpa using hxe
   have hqf : q = false := by
    rw [hq,decide_eq_false_iff_not]
    intro h
    apply hxe
    rw [hx,hy,h]
   simp only [hd,hbA,hbB,hiA2,hiB2,zBG,allEq,pA,Bool.and_true,hxy,he,hqf,Bool.xor_true,go_sem,Nat.reduceEqDiff,Nat.reduceBEq,Nat.reduceAdd,zC]
   exact⟨⟨by omega,by omega⟩,hiA1,⟨by omega,by omega⟩,hiB1⟩
 ·have hd:decide ((k:Int) < (d1.length:Int))=false:=by simpa using hlt
  have:k=d1.length:=by omega
  subst this
  have hqt : q = true := by
   rw [hq,decide_eq_true_eq]
   rw [List.take_of_length_le (Nat.le_refl _),List.take_of_length_le (by omega)] at hP
   exact hP
  simp only [hd,hqt,go_sem,Nat.reduceEqDiff,Nat.reduceBEq,Nat.reduceAdd,zC]
theorem yTx (hE : zX E) (s1 s2 : zF) {va vb wa wb : Value} (ha : xF H va s1.data) (hb : xF H vb s2.data) (ga : xL H wa s1.sigs) (gb : xL H wb s2.sigs) (hn : s1.data.length ≤ 1099511627775) (hm : s1.sigs.length ≤ 1099511627775) :
  yB E 47 [.agg #[S s1.name,.int .i64 s1.type,.int .i64 s1.life,va,wa],.agg #[S s2.name,.int .i64 s2.type,.int .i64 s2.life,vb,wb]] H (.bool (decide (s1=s2))):=by
 have f:=yYH hE s1.name s2.name s1.type s1.life s2.type s2.life ha hb ga gb hn hm
 have hsame : (((s1.name == s2.name) && ((s1.type == s2.type) && ((s1.life == s2.life) && decide (s1.data = s2.data)))) && decide (s1.sigs = s2.sigs)) = decide (s1 = s2) := by
  obtain⟨a,b,c,d,e⟩:=s1
  obtain⟨a',b',c',d',e'⟩:=s2
  rw [Bool.eq_iff_iff]
  simp [and_assoc]
 rw [hsame] at f
 exact f
end Go.SL
