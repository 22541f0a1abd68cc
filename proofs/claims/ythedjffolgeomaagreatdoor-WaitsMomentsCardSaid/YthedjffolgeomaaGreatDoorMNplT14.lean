/- Contracts: world.validRoot, validCopies, Valid. -/
import Derived.Test.YthedjffolgeomaaGreatDoorMNplQ
import Derived.Test.YthedjffolgeomaaGreatDoorMNplT10
import Derived.Test.YthedjffolgeomaaGreatDoorMNplO
namespace Go.SL
open Go
variable {E:Env} {H:Hp}
theorem xBC (hE : zV E) (x : Int) : yD E 55 [.int .i64 x] H (.bool (!kW x)) := by
 refine Fn.of_vks hE.c55 (by simp [yGU]) ?_
 simp only [yGU,yMy,yOk]
 simp only [go_sem,Nat.reduceBEq,reduceCtorEq]
 refine zE _ ?_ (fun _=>⟨?_,yWa hE x⟩) ?_<;>simp only [go_sem,Nat.reduceEqDiff,Nat.reduceBEq,reduceCtorEq]
theorem xAk (hE : zV E) {f v : Value} {ns : List Int} (p : Int → Bool) (h : xE H v ns) (hf : ∀ x, FnV E f [.int .i64 x] H (fun u H' => u = .bool (p x) ∧ H' = H)) (hn : ns.length ≤ 1099511627775) :
  yD E 79 [v,f] H (.int .i64 (qE (fun i=>p (ns.getD i 0)) ns.length)):=by
 obtain⟨a,cap,rfl,hs,hr⟩:=h
 refine Fn.of_vks hE.c79 (by simp [yHg]) ?_
 simp only [yHg,yJB,yIk,yIH,yMR,yQj,yQf,yKj,yJW]
 simp only [go_sem,Nat.reduceEqDiff,Nat.reduceBEq,reduceCtorEq]
 refine zS ns.length 0 (fun k=>[(0,⟨true,.val (.slice a ns.length cap)⟩),(1,⟨true,.val f⟩),(7,⟨true,.val (.int .i64 ns.length)⟩),(8,⟨true,.val (.int .i64 k)⟩)]) (fun k=>qE (fun i=>p (ns.getD i 0)) k = -1) (Nat.zero_le _) rfl rfl ?_
 intro k hk hP
 by_cases hlt:k < ns.length
 ·have hd:decide ((k:Int) < (ns.length:Int))=true:=by simpa using hlt
  have hr':=hr (by omega)
  obtain⟨b,o,vs,c,wr,ha,hb,hi⟩:=hr'
  subst ha
  have hi1:=(hi k hlt).1
  have hi2:=zH (hi k hlt).2 (j:=0) (by omega)
  simp only [Nat.mul_one,Nat.add_zero] at hi1 hi2
  simp only [hd,hb,hi2,wH,go_sem,Nat.reduceEqDiff,Nat.reduceBEq,reduceCtorEq,zC,Nat.mul_one]
  refine⟨⟨by omega,by omega⟩,hi1,?_⟩
  refine wU ?_ ?_ (hf (ns.getD k 0)) ?_
  ·simp only [go_sem,Nat.reduceEqDiff,reduceCtorEq]
  ·simp only [go_sem,Nat.reduceEqDiff,reduceCtorEq]
  rintro v H' ⟨rfl,rfl⟩
  simp only [go_sem,Nat.reduceEqDiff,Nat.reduceBEq,reduceCtorEq,zC]
  exact⟨fun h1=>(zRW hP h1 hlt).symm,fun h1=>⟨hlt,zQ (by omega),zSs hP h1⟩⟩
 ·have hd:decide ((k:Int) < (ns.length:Int))=false:=by simpa using hlt
  have:k=ns.length:=by omega
  simp only [hd,go_sem,Nat.reduceEqDiff,Nat.reduceBEq,reduceCtorEq,zC]
  rw [← this]; exact hP.symm
theorem yZT (hE : zV E) {f v : Value} {ns : List Int} (p : Int → Bool) (h : xE H v ns) (hf : ∀ x, FnV E f [.int .i64 x] H (fun u H' => u = .bool (p x) ∧ H' = H)) (hn : ns.length ≤ 1099511627775) :
  yD E 56 [v,f] H (.bool (vA (fun i=>p (ns.getD i 0)) ns.length)):=by
 refine Fn.of_vks hE.c56 (by simp [yFD]) ?_
 simp only [yFD,yPS,yOz]
 simp only [go_sem,Nat.reduceEqDiff,Nat.reduceBEq,reduceCtorEq]
 refine zE _ ?_ (fun _=>⟨?_,xAk hE p h hf hn⟩) ?_<;>simp only [go_sem,Nat.reduceEqDiff,Nat.reduceBEq,reduceCtorEq,zC]
 exact yFI _ _
theorem xBM (hE : zV E) (hB : qT E H) (name : Bs) (ty life : Int) {v w : Value} {ds : List xN} {ns : List Int} (hd : xC H v ds) (hw : xE H w ns) : yD E 42 [.agg #[S name, .int .i64 ty, .int .i64 life, v], w] H (.bool (zBz name ty life ds ns)) := by
 have hv1:=zG.one hd
 obtain⟨aw,cw,hwe,_⟩:=id hw
 refine Fn.of_vks hE.c42 (by simp [yFL]) ?_
 simp only [yFL,yMK,yKr,yNk,yMd,yHB,yJc]
 simp only [hwe,go_sem,Nat.reduceEqDiff,Nat.reduceBEq,Nat.reduceAdd,reduceCtorEq]
 rw [hwe] at hw
 refine zE _ ?_ (fun _=>⟨?_,yWe hE hB name ty life hd⟩) ?_<;>simp only [go_sem,Nat.reduceLeDiff,Nat.reduceEqDiff,Nat.reduceBEq,Nat.reduceAdd,zC]
 have c1:decide ((ns.length:Int) < 1) = !decide (1≤ns.length):=by rw [Bool.eq_iff_iff,Bool.not_eq_true',decide_eq_true_eq,decide_eq_false_iff_not]; omega
 have c2:decide ((ns.length:Int) > 8) = !decide (ns.length≤8):=by rw [Bool.eq_iff_iff,Bool.not_eq_true',decide_eq_true_eq,decide_eq_false_iff_not]; omega
 rw [c1,c2]
 have hrv : zBz name ty life ds ns = (!(!wQ name ty life ds || ty != 6 || !(name == [46])) && !(!decide (1 ≤ ns.length) || !decide (ns.length ≤ 8)) && zO (fun i => kW (ns.getD i 0)) ns.length) := by
  simp only [zBz,Bool.not_or,Bool.not_not,bne]
  cases wQ name ty life ds<;>cases (ty == 6)<;>cases (name == [46])<;>simp
 refine⟨fun h=>?_,fun h=>⟨fun h2=>?_,fun h2=>?_⟩⟩
 ·rw [hrv,h]; rfl
 ·rw [hrv,h2,Bool.not_true,Bool.and_false,Bool.false_and]
 ·have hn:ns.length≤8:=by simp at h2; omega
  refine zE _ ?_ (fun _=>⟨?_,yZT hE (fun x=>!kW x) hw (fun x=>wE hE.e55 (Fn.same (xBC hE x))) (by omega)⟩) ?_<;>simp only [go_sem,Nat.reduceEqDiff,Nat.reduceBEq]
  rw [hrv,h,h2,ySe]; rfl
abbrev zGV (k:zBY):Value:=.agg #[.int .i64 k.1,S k.2]
theorem zJb (k:zBY):zBd true [.i,.s] (zGV k):=by simp [zBd]
set_option maxHeartbeats 1000000 in
set_option maxRecDepth 100000 in
theorem xAA (hE : zV E) (hB : qT E H) {vh vz vd vi : Value} (an : Bs) (at_ al : Int) {hs : List uP} {zs : List xO} (hh : xV H vh hs) (hz : pL H vz zs) : yD E 41 [.agg #[vh, vz, S an, .int .i64 at_, .int .i64 al, vd, vi]] H (.bool (zAV hs.length zs)) := by
 obtain⟨z,⟨a,cap,rfl,hsp,hr⟩,hdeep⟩:=hz
 obtain⟨ah,ch,rfl,_⟩:=hh
 refine Fn.of_vks hE.c41 (by simp [yFy]) ?_
 simp only [yFy,yMC,yJi,yPa,yIx,yPc,yOZ,yKn,yIg,yLR,yJR,yBN,yBu,yAx,zWk,yDL]
 simp only [go_sem,Nat.reduceLeDiff,Nat.reduceEqDiff,Nat.reduceBEq,Nat.reduceAdd,reduceCtorEq,zC]
 have hc:decide ((zs.length:Int) > 4000) = !decide (zs.length≤4000):=by rw [Bool.eq_iff_iff,Bool.not_eq_true',decide_eq_true_eq,decide_eq_false_iff_not]; omega
 rw [hc]
 refine⟨fun h=>?_,fun h=>?_⟩
 ·rw [Bool.not_eq_true'] at h; simp only [zAV,h,Bool.false_and]
 have hn:zs.length≤4000:=by simpa using h
 have ho:zAV hs.length zs=(zO (zCG hs.length zs) zs.length && decide ((zFo zs zs.length).length≤500)):=by simp only [zAV,hn,decide_true,Bool.true_and]
 rw [ho]
 intro b3 hb3 b4 hb4
 have h43:b4≠b3:=by rintro rfl; simp [yL] at hb4
 have hb40:H b4=none:=by simpa [yL,h43] using hb4
 refine yP zs.length 0 (fun k fr' H' => fr' = [(1, ⟨true, .box [.slice ah hs.length ch, .slice a zs.length cap, S an, .int .i64 at_, .int .i64 al, vd, vi]⟩), (3, ⟨true, .val (.map (some b3))⟩), (4, ⟨true, .val (.map (some b4))⟩), (15, ⟨true, .val (.slice a zs.length cap)⟩), (16, ⟨true, .val (.int .i64 zs.length)⟩), (17, ⟨true, .val (.int .i64 k)⟩)] ∧
   zO (zCG hs.length zs) k=true∧∃ o3 o4,H'=(H.put b3 o3).put b4 o4∧(∀ H0:Hp,uR (H0.put b3 o3) b3 ((qG zs k).map fun e=>(zGV e.1,.bool e.2)))∧(∀ H0:Hp,uR (H0.put b4 o4) b4 ((zFo zs k).map fun e=>(S e.1,.bool e.2)))) (Nat.zero_le _) ⟨rfl,rfl,_,_,rfl,(fun H0=>⟨#[],0,Hp.put_same ..,rfl⟩),fun H0=>⟨#[],0,Hp.put_same ..,rfl⟩⟩ ?_
 rintro k fr' H' hk ⟨rfl,hP,o3,o4,rfl,hM3,hM4⟩
 have hle:H.le ((H.put b3 o3).put b4 o4):=zI (zM hb3 _) hb40 _
 have hMA : uR ((H.put b3 o3).put b4 o4) b3 ((qG zs k).map fun e => (zGV e.1, .bool e.2)) := by
  obtain⟨es,cl,e1,e2⟩:=hM3 H
  exact⟨es,cl,by rw [yL,if_neg h43.symm]; exact e1,e2⟩
 by_cases hlt:k < zs.length
 ·have hd:decide ((k:Int) < (zs.length:Int))=true:=by simpa using hlt
  have hF:zCG hs.length zs k=false→false=(zO (zCG hs.length zs) zs.length && decide ((zFo zs zs.length).length≤500)):=fun h=>by rw [zY hlt h]; rfl
  have hS:zCG hs.length zs k=true→zO (zCG hs.length zs) (k + 1)=true:=fun h=>yJ hP h
  have hr':=hr (by omega)
  obtain⟨b,o,vs,c,wr,ha,hb,hi⟩:=hr'
  subst ha
  have hb1:=hle _ _ hb
  have hi1:=(hi k hlt).1
  have hi2:=(hi k hlt).2
  have hzk:=(hdeep k hlt).mono hle
  have hz1:yW (z k)=true:=by obtain⟨d,g,h,_⟩:=hzk; exact zG.one h
  obtain⟨x,hx⟩:∃ y,zs.getD k default=y:=⟨_,rfl⟩
  rw [hx] at hzk
  have hok:zCG hs.length zs k = !(decide (x.host < 0) || decide (x.host≥hs.length) || (yK x.key (qG zs k)).getD false || !xG x.apex x.sets):=by rw [← hx]; rfl
  simp only [hd,hb1,hi2,vW,hx,hz1,go_sem,Nat.reduceLeDiff,Nat.reduceEqDiff,Nat.reduceBEq,Nat.reduceAdd,zC]
  refine⟨⟨by omega,by omega⟩,hi1,?_⟩
  refine⟨fun h=>⟨h,h⟩,?_⟩
  have hzv:yD E 43 [.agg #[S x.apex,z k]] ((H.put b3 o3).put b4 o4) (.bool (xG x.apex x.sets)):=yRp hE (hB.mono hle) x.apex hzk
  obtain⟨q,hq⟩:∃ q,(decide (x.host < 0) || decide (x.host≥(hs.length:Int)))=q:=⟨_,rfl⟩
  rw [hq] at hok ⊢
  cases q with
  | true =>
   refine zCJ (by intro x h; cases h) (by intro f a h; cases h) ?_ ?_ ?_
   ·simp only [go_sem,Nat.reduceEqDiff]
   ·simp only [go_sem,Nat.reduceEqDiff]
   simp only [go_sem,Nat.reduceEqDiff,Nat.reduceBEq,Nat.reduceAdd,↓yQ]
   refine zE (.bool (xG x.apex x.sets)) ?_ (fun hg=>absurd hg ?_) ?_<;>simp only [go_sem,Nat.reduceEqDiff,Nat.reduceBEq,Nat.reduceAdd,↓yQ]
   ·simp
   ·exact⟨hF hok,hle⟩
  | false =>
   rw [Bool.false_or] at hok
   refine zBg (by intro x h; cases h) (by intro f a h; cases h) ?_ ?_ ?_
   ·simp only [go_sem,Nat.reduceEqDiff]
   ·simp only [go_sem,Nat.reduceEqDiff]
   refine zBe (enc:=zGV) (encv:=fun b=>.bool b) (l:=qG zs k) (b:=b3) x.key zOo (zJb _) ?_ ?_ ?_ ?_ hMA ?_
   ·simp only [go_sem,Nat.reduceEqDiff]
   ·simp only [go_sem,Nat.reduceEqDiff]
   ·simp only [go_sem,Nat.reduceEqDiff]
   ·simp only [go_sem,Nat.reduceEqDiff]; rfl
   have hv : ((yK x.key (qG zs k)).map (fun b => Value.bool b)).getD (.bool false) = .bool ((yK x.key (qG zs k)).getD false) := by
    cases yK x.key (qG zs k)<;>rfl
   rw [hv]
   simp only [go_sem,Nat.reduceEqDiff,Nat.reduceBEq,Nat.reduceAdd]
   refine zE _ ?_ (fun hg=>⟨?_,hzv⟩) ?_<;>simp only [go_sem,Nat.reduceEqDiff,Nat.reduceBEq,Nat.reduceAdd]
   ·simp only [go_sem,Nat.reduceEqDiff] at hg ⊢; exact hg
   refine⟨fun h1=>⟨hF ?_,hle⟩,fun h1=>?_⟩
   ·rw [hok,h1]; rfl
   rw [h1] at hok
   refine zCq (enc:=zGV) (encv:=fun b=>.bool b) (l:=qG zs k) (b:=b3) x.key true zOo (zJb _) ?_ ?_ ?_ ?_ ?_ ?_ hMA ?_
   ·simp only [go_sem,Nat.reduceEqDiff]
   ·simp only [go_sem,Nat.reduceEqDiff]
   ·simp only [go_sem]
   ·simp only [go_sem,Nat.reduceEqDiff]
   ·simp only [go_sem,Nat.reduceEqDiff]; rfl
   ·simp only [go_sem]
   intro o3' hM3'
   rw [yRA _ _ _ _ h43.symm]
   simp only [go_sem,Nat.reduceLeDiff,Nat.reduceEqDiff,Nat.reduceBEq,Nat.reduceAdd]
   refine zCq (enc:=fun x=>S x) (encv:=fun b=>.bool b) (l:=zFo zs k) (b:=b4) x.apex true zGv trivial ?_ ?_ ?_ ?_ ?_ ?_ (hM4 _) ?_
   ·simp only [go_sem,Nat.reduceEqDiff]
   ·simp only [go_sem,Nat.reduceEqDiff]
   ·simp only [go_sem]
   ·simp only [go_sem,Nat.reduceEqDiff]
   ·simp only [go_sem,Nat.reduceEqDiff]
   ·simp only [go_sem]
   intro o4' hM4'
   simp only [go_sem,Nat.reduceEqDiff,Nat.reduceBEq,zC]
   refine⟨hlt,zQ (by omega),hS hok,o3',o4',rfl,fun H0=>?_,fun H0=>?_⟩
   ·have:=hM3' H0; rw [← hx] at this; exact this
   ·have:=hM4' H0; rw [← hx] at this; exact this
 ·have hd:decide ((k:Int) < (zs.length:Int))=false:=by simpa using hlt
  have:k=zs.length:=by omega
  subst this
  simp only [hd,go_sem,Nat.reduceLeDiff,Nat.reduceEqDiff,Nat.reduceBEq,Nat.reduceAdd,zC]
  refine yNh ?_ ?_ (hM4 _) ?_
  ·simp only [go_sem,Nat.reduceEqDiff]
  ·simp only [go_sem,Nat.reduceEqDiff]
  simp only [go_sem,Nat.reduceEqDiff,Nat.reduceBEq,zC]
  refine⟨?_,hle⟩
  rw [hP,Bool.true_and,List.length_map]
  rw [Bool.eq_iff_iff,decide_eq_true_eq,decide_eq_true_eq]; omega
def zBv (H:Hp) (v:Value) (w:zCI):Prop:=∃ vh vz vd vi,v = .agg #[vh,vz,S w.aname,.int .i64 w.atype,.int .i64 w.alife,vd,vi]∧xV H vh w.hosts∧pL H vz w.zones∧xC H vd w.adata∧xE H vi w.hints
theorem zBv.mono {H H' : Hp} {v : Value} {w : zCI} (h : zBv H v w) (hl : H.le H') : zBv H' v w := by
 obtain⟨vh,vz,vd,vi,h0,h1,h2,h3,h4⟩:=h
 exact⟨vh,vz,vd,vi,h0,h1.mono hl,h2.mono hl,h3.mono hl,h4.mono hl⟩
theorem xBU (hE : zV E) (hB : qT E H) {v : Value} {w : zCI} (hw : zBv H v w) : yD E 14 [v] H (.bool (zAG w)) := by
 obtain⟨vh,vz,vd,vi,rfl,h1,h2,h3,h4⟩:=hw
 refine Fn.of_vks hE.c14 (by simp [yFp]) ?_
 simp only [yFp,yJr,yPA]
 simp only [go_sem,Nat.reduceLeDiff,Nat.reduceEqDiff,Nat.reduceBEq,Nat.reduceAdd,reduceCtorEq]
 refine zE _ ?_ (fun _=>⟨?_,xBE hE h1⟩) ?_<;>simp only [go_sem,Nat.reduceEqDiff,Nat.reduceBEq,Nat.reduceAdd]
 refine zE _ ?_ (fun hg=>⟨?_,xAA hE hB w.aname w.atype w.alife h1 h2⟩) ?_<;>simp only [go_sem,Nat.reduceLeDiff,Nat.reduceEqDiff,Nat.reduceBEq,Nat.reduceAdd]
 ·simp only [go_sem,Nat.reduceEqDiff] at hg ⊢; exact hg
 refine zE _ ?_ (fun hg=>⟨?_,xBM hE hB w.aname w.atype w.alife h3 h4⟩) ?_<;>simp only [go_sem,Nat.reduceEqDiff,Nat.reduceBEq]
 ·simp only [go_sem,Nat.reduceEqDiff] at hg ⊢; exact⟨hg,hg⟩
 rfl
end Go.SL
/- Histories and steps in memory; contracts of small functions over copies. -/
namespace Go.SL
open Go
variable {E:Env} {H:Hp}
structure yE where
 host:Int
 from_:Int
 till:Int
 apex:Bs
 sets:List zF
 deriving DecidableEq,Inhabited
structure yA where
 hosts:List uP
 copies:List yE
 aname:Bs
 atype:Int
 alife:Int
 adata:List xN
 hints:List Int
 drift:Int
 end_:Int
 deriving DecidableEq,Inhabited
structure zDh where
 at_:Int
 puts:List xO
 deriving DecidableEq,Inhabited
def zAf (cs:List yE) (z:Nat→Value) (i:Nat):List Value:=[.int .i64 (cs.getD i default).host,.int .i64 (cs.getD i default).from_,.int .i64 (cs.getD i default).till,S (cs.getD i default).apex,z i]
def ySS (l:List zDh) (z:Nat→Value) (i:Nat):List Value:=[.int .i64 (l.getD i default).at_,z i]
def uZ (H:Hp) (v:Value) (cs:List yE):Prop:=∃ z,zG H 5 v cs.length (zAf cs z)∧∀ i,i < cs.length→xL H (z i) (cs.getD i default).sets
def zBt (H:Hp) (v:Value) (l:List zDh):Prop:=∃ z,zG H 2 v l.length (ySS l z)∧∀ i,i < l.length→pL H (z i) (l.getD i default).puts
def vS (H:Hp) (v:Value) (h:yA):Prop:=∃ vh vc vd vi,v = .agg #[vh,vc,S h.aname,.int .i64 h.atype,.int .i64 h.alife,vd,vi,.int .i64 h.drift,.int .i64 h.end_]∧xV H vh h.hosts∧uZ H vc h.copies∧xC H vd h.adata∧xE H vi h.hints
theorem uZ.mono {H H' : Hp} {v : Value} {cs : List yE} (h : uZ H v cs) (hl : H.le H') : uZ H' v cs := by
 obtain⟨z,h1,h2⟩:=h
 exact⟨z,h1.mono hl,fun i hi=>(h2 i hi).mono hl⟩
theorem zBt.mono {H H' : Hp} {v : Value} {l : List zDh} (h : zBt H v l) (hl : H.le H') : zBt H' v l := by
 obtain⟨z,h1,h2⟩:=h
 exact⟨z,h1.mono hl,fun i hi=>(h2 i hi).mono hl⟩
theorem vS.mono {H H' : Hp} {v : Value} {h : yA} (hh : vS H v h) (hl : H.le H') : vS H' v h := by
 obtain⟨vh,vc,vd,vi,rfl,h1,h2,h3,h4⟩:=hh
 exact⟨vh,vc,vd,vi,rfl,h1.mono hl,h2.mono hl,h3.mono hl,h4.mono hl⟩
theorem uZ.one {v:Value} {cs:List yE} (h:uZ H v cs):yW v=true:=by obtain⟨z,h,_⟩:=h; exact zG.one h
theorem zBt.one {v:Value} {l:List zDh} (h:zBt H v l):yW v=true:=by obtain⟨z,h,_⟩:=h; exact zG.one h
def xK (cs:List yE):Nat→List (Bs × Bool):=jU fun k=>(cs.getD k default).apex
theorem yYo (h2 : wC E) (h f t : Int) (a : Bs) (z : Value) (_hz : yW z = true) : yD E 120 [.agg #[.int .i64 h, .int .i64 f, .int .i64 t, S a, z]] H (S a) := by
 refine Fn.of_vks h2.c120 (by simp [zLQ]) ?_
 simp only [zLQ,zXt,yDG]
 simp only [go_sem,Nat.reduceLeDiff,Nat.reduceEqDiff,Nat.reduceBEq,Nat.reduceAdd,reduceCtorEq]
theorem uR.of {H' : Hp} {b : Nat} {o : xD} {l : List (Value × Value)} (h : ∀ H0 : Hp, uR (H0.put b o) b l) (hx : H' b = some o) : uR H' b l := by
 obtain⟨es,cl,h1,h2⟩:=h H'
 rw [Hp.put_same] at h1
 exact⟨es,cl,hx.trans h1,h2⟩
theorem zEj {κ ν : Type} [DecidableEq κ] {k : κ} {v : ν} : ∀ {l : List (κ × ν)}, yK k l = some v → xU k v l = l
 | [],h=>by cases h
 | (k', v') :: r, h => by
  simp only [yK] at h
  simp only [xU]
  split at h
  ·rename_i e; cases h; rw [if_pos e,e]
  ·rename_i e; rw [if_neg e,zEj h]
theorem zAy {κ ν : Type} [DecidableEq κ] {k : κ} {v : ν} : ∀ {l : List (κ × ν)}, yK k l = none → xU k v l = l ++ [(k, v)]
 | [],_=>rfl
 | (k', v') :: r, h => by
  simp only [yK] at h
  simp only [xU]
  split at h
  ·cases h
  ·rename_i e; rw [if_neg e,zAy h]; rfl
theorem zEK {κ : Type} [DecidableEq κ] {f : Nat → κ} {k : κ} {v : Bool} : ∀ {n : Nat}, yK k (jU f n) = some v → v = true
 | 0,h=>by cases h
 | n + 1, h => by
  simp only [jU] at h
  rw [zAq] at h
  split at h
  ·cases h; rfl
  ·exact zEK h
theorem yTB (L : List (Bs × Bool)) (i : Nat) (hi : i < L.length) : i * 1 + 1 ≤ (L.map fun e => S e.1).length ∧ ((L.map fun e => S e.1).drop (i * 1)).take 1 = [S (L.getD i default).1] := by
 refine⟨by simp; omega,?_⟩
 rw [Nat.mul_one,List.drop_eq_getElem_cons (by simpa using hi)]
 simp [hi]
set_option maxHeartbeats 1000000 in
theorem yOm (h2 : wC E) {vz : Value} {zs : List yE} (hz : uZ H vz zs) (hn : zs.length ≤ 1099511627) :
  Fn E.P (E.fn 119) [vz,.func (.func (E.fn 120)) #[] #[]] H (fun u H'=>H.le H'∧((u = .slice none 0 0∧xK zs zs.length = [])∨∃ b cp,H b=none∧u = .slice (some ⟨b,0,none⟩) (xK zs zs.length).length cp∧H' b=some (.row ((xK zs zs.length).map fun e=>S e.1) (cp * 1) true))):=by
 obtain⟨z,⟨a,cap,rfl,hsp,hr⟩,hdeep⟩:=hz
 refine Fn.of_vks h2.c119 (by simp [zMI]) ?_
 simp only [zMI,yEM,yDR,yEq,yAF,zYY,zYP,yDP,yEH,zXw,zYo,zPb,zNJ]
 simp only [go_sem,Nat.reduceEqDiff,Nat.reduceBEq,reduceCtorEq]
 intro b3 hb3
 have hlen : ∀ k, (xK zs k).length ≤ k := by
  intro k
  induction k with
  | zero=>exact Nat.le_refl _
  | succ k ih =>
   have e:xK zs (k + 1)=xU (zs.getD k default).apex true (xK zs k):=rfl
   rw [e]
   cases hg:yK (zs.getD k default).apex (xK zs k) with
   | none=>rw [zAy hg]; simp; exact ih
   | some v=>rw [show v=true from zEK hg] at hg; rw [zEj hg]; omega
 refine yP zs.length 0 (fun k fr' H' => ∃ vs o3, fr' = [(1, ⟨true, .val (.func (.func (E.fn 120)) #[] #[])⟩), (5, ⟨true, .val (.map (some b3))⟩), (6, ⟨true, .val vs⟩), (11, ⟨true, .val (.slice a zs.length cap)⟩), (12, ⟨true, .val (.int .i64 zs.length)⟩), (13, ⟨true, .val (.int .i64 k)⟩)] ∧
   H.le H' ∧ H' b3 = some o3 ∧ (∀ H0 : Hp, uR (H0.put b3 o3) b3 ((xK zs k).map fun e => (S e.1, .bool e.2))) ∧
    ((vs = .slice none 0 0∧xK zs k = [])∨∃ b cp,H b=none∧b≠b3∧vs = .slice (some ⟨b,0,none⟩) (xK zs k).length cp∧H' b=some (.row ((xK zs k).map fun e=>S e.1) (cp * 1) true))) (Nat.zero_le _) ⟨_,_,rfl,zM hb3 _,Hp.put_same ..,fun H0=>⟨#[],0,Hp.put_same ..,rfl⟩,.inl ⟨rfl,rfl⟩⟩ ?_
 rintro k fr' H' hk ⟨vs,o3,rfl,hle,ho3,hM3,hcase⟩
 have hvs : ∃ p n c, vs = .slice p n c := by
  rcases hcase with⟨rfl,_⟩ | ⟨b,cp,_,_,rfl,_⟩<;>exact⟨_,_,_,rfl⟩
 by_cases hlt:k < zs.length
 ·have hd:decide ((k:Int) < (zs.length:Int))=true:=by simpa using hlt
  have hr':=hr (by omega)
  obtain⟨b,o,rs,c,wr,ha,hb,hi⟩:=hr'
  subst ha
  have hb1:=hle _ _ hb
  have hi1:=(hi k hlt).1
  have hi2:=(hi k hlt).2
  have hz1:yW (z k)=true:=by obtain⟨d,g,h,_⟩:=hdeep k hlt; exact zG.one h
  obtain⟨x,hx⟩:∃ y,zs.getD k default=y:=⟨_,rfl⟩
  have hnx:xK zs (k + 1)=xU x.apex true (xK zs k):=by rw [← hx]; rfl
  have hlk:=hlen k
  simp only [hd,hb1,hi2,zAf,hx,hz1,go_sem,Nat.reduceEqDiff,Nat.reduceBEq,Nat.reduceAdd,zC]
  refine⟨⟨by omega,by omega⟩,hi1,?_⟩
  refine wU ?_ ?_ (wE h2.e120 (Fn.same (yYo h2 x.host x.from_ x.till x.apex (z k) hz1))) ?_
  ·simp only [go_sem,Nat.reduceEqDiff]
  ·simp only [go_sem,Nat.reduceEqDiff]
  rintro v H'' ⟨rfl,rfl⟩
  simp only [go_sem,Nat.reduceEqDiff,Nat.reduceBEq]
  refine zBe (enc:=fun x=>S x) (encv:=fun b=>.bool b) (l:=xK zs k) (b:=b3) x.apex zGv trivial ?_ ?_ ?_ ?_ (uR.of hM3 ho3) ?_
  ·simp only [go_sem,Nat.reduceEqDiff]
  ·simp only [go_sem,Nat.reduceEqDiff]
  ·simp only [go_sem,Nat.reduceEqDiff]
  ·simp only [go_sem,Nat.reduceEqDiff]
  cases hg:yK x.apex (xK zs k) with
  | some q =>
   have hq:q=true:=zEK hg
   subst hq
   simp only [Option.map_some,go_sem,Nat.reduceEqDiff,Nat.reduceBEq,zC]
   refine⟨hlt,vs,o3,⟨rfl,zQ (by omega)⟩,hle,ho3,?_,?_⟩
   ·rw [hnx,zEj hg]; exact hM3
   ·rw [hnx,zEj hg]; exact hcase
  | none =>
   simp only [Option.map_none,go_sem,Nat.reduceEqDiff,Nat.reduceBEq,zC]
   refine zCq (enc:=fun x=>S x) (encv:=fun b=>.bool b) (l:=xK zs k) (b:=b3) x.apex true zGv trivial ?_ ?_ ?_ ?_ ?_ ?_ (uR.of hM3 ho3) ?_
   ·simp only [go_sem,Nat.reduceEqDiff]
   ·simp only [go_sem,Nat.reduceEqDiff]
   ·simp only [go_sem]
   ·simp only [go_sem,Nat.reduceEqDiff]
   ·simp only [go_sem,Nat.reduceEqDiff]
   ·simp only [go_sem]
   intro o3' hM3'
   simp only [go_sem,Nat.reduceEqDiff,Nat.reduceBEq]
   intro bs hbs
   obtain⟨G,hG⟩:∃ G,G=(H''.put b3 o3').put bs (.row [S x.apex] 1 true):=⟨_,rfl⟩
   have hbs3:bs≠b3:=by rintro rfl; rw [Hp.put_same] at hbs; cases hbs
   have hGb3:G b3=some o3':=by rw [hG,Hp.put_ne _ _ (Ne.symm hbs3),Hp.put_same]
   have hGbs:G bs=some (.row [S x.apex] 1 true):=by rw [hG,Hp.put_same]
   have hH'bs:H'' bs=none:=by rw [Hp.put_ne _ _ hbs3] at hbs; exact hbs
   have hGle:H.le G:=by rw [hG]; exact(zI hle hb3 _).trans (zM hbs _)
   have hsrcO:qY G 1 (.slice (some ⟨bs,0,none⟩) 1 1):=.inr ⟨rfl,by rw [hGbs]; simp⟩
   have hsrcC:zL G 1 (.slice (some ⟨bs,0,none⟩) 1 1) = [S x.apex]:=by simp [zL,hGbs]
   rw [← hG]
   rcases hcase with⟨rfl,hnil⟩ | ⟨b0,cp,hHb0,hb03,rfl,hH'b0⟩
   ·refine zDK ?_ ?_ hsrcO (by show(zL G 1 (.slice (some ⟨bs,0,none⟩) 1 1)).all yW=true; rw [hsrcC]; rfl) ?_ (by show 1 * 16≤_; omega) (by show 1≤_; omega) (fun h=>by cases h) ?_
    ·simp only [go_sem,Nat.reduceEqDiff]
    ·simp only [go_sem,Nat.reduceEqDiff]
    ·simp only [go_sem,Nat.reduceEqDiff]
    intro _ b1 cp1 hb1'
    have e1:zL G 1 (.slice (some ⟨bs,0,none⟩) 1 1) = [S x.apex]:=hsrcC
    simp only [zU,e1,go_sem,Nat.reduceEqDiff,Nat.reduceBEq,zC]
    have hb13:b1≠b3:=by rintro rfl; rw [hGb3] at hb1'; cases hb1'
    have hHb1 : H b1 = none := by
     cases hq:H b1 with
     | none=>rfl
     | some o=>rw [hGle _ _ hq] at hb1'; cases hb1'
    refine⟨hlt,_,o3',⟨rfl,zQ (by omega)⟩,hGle.trans (zM hb1' _),by rw [Hp.put_ne _ _ (Ne.symm hb13)]; exact hGb3,by rw [hnx]; exact hM3',.inr ⟨b1,cp1,hHb1,hb13,?_,?_⟩⟩
    ·rw [hnx,hnil]; rfl
    ·rw [hnx,hnil,Hp.put_same]; rfl
   ·have hb0s:b0≠bs:=by rintro rfl; rw [hH'bs] at hH'b0; cases hH'b0
    have hGb0:G b0=some (.row ((xK zs k).map fun e=>S e.1) (cp * 1) true):=by rw [hG,Hp.put_ne _ _ hb0s,Hp.put_ne _ _ hb03]; exact hH'b0
    refine kJ (b0:=b0) (n:=(xK zs k).length) (cap0:=cp) (capc:=cp * 1) (vs:=(xK zs k).map fun e=>S e.1) ?_ ?_ hsrcO (by show(zL G 1 (.slice (some ⟨bs,0,none⟩) 1 1)).all yW=true; rw [hsrcC]; rfl) ?_ (by show((xK zs k).length + 1) * 16≤_; omega) (by show(xK zs k).length + 1≤_; omega) hGb0 (by simp) rfl ?_
    ·simp only [go_sem,Nat.reduceEqDiff]
    ·simp only [go_sem,Nat.reduceEqDiff]
    ·simp only [go_sem,Nat.reduceEqDiff]
    intro b1 cp1 hb1'
    have e1:zL G 1 (.slice (some ⟨bs,0,none⟩) 1 1) = [S x.apex]:=hsrcC
    simp only [zU,e1,go_sem,Nat.reduceEqDiff,Nat.reduceBEq,zC]
    have hdle:H.le (G.del b0):=zIW hHb0 hGle
    have hdb3:(G.del b0) b3=some o3':=by rw [Hp.del_ne _ (Ne.symm hb03)]; exact hGb3
    have hb13:b1≠b3:=by rintro rfl; rw [hdb3] at hb1'; cases hb1'
    have hHb1 : H b1 = none := by
     cases hq:H b1 with
     | none=>rfl
     | some o=>rw [hdle _ _ hq] at hb1'; cases hb1'
    refine⟨hlt,_,o3',⟨rfl,zQ (by omega)⟩,hdle.trans (zM hb1' _),by rw [Hp.put_ne _ _ (Ne.symm hb13)]; exact hdb3,by rw [hnx]; exact hM3',.inr ⟨b1,cp1,hHb1,hb13,?_,?_⟩⟩
    ·rw [hnx,zAy hg]; simp
    ·rw [hnx,zAy hg,Hp.put_same]; simp
 ·have hd:decide ((k:Int) < (zs.length:Int))=false:=by simpa using hlt
  have:k=zs.length:=by omega
  subst this
  simp only [hd,go_sem,Nat.reduceEqDiff,Nat.reduceBEq,Nat.reduceAdd,zC]
  refine⟨hle,?_⟩
  rcases hcase with⟨rfl,hnil⟩ | ⟨b,cp,hb,_,rfl,hH⟩
  ·exact .inl ⟨rfl,hnil⟩
  ·exact .inr ⟨b,cp,hb,rfl,hH⟩
theorem yWB (h2 : wC E) {vz : Value} {zs : List yE} (hz : uZ H vz zs) (hn : zs.length ≤ 1099511627) :
  Fn E.P (E.fn 119) [vz,.func (.func (E.fn 120)) #[] #[]] H (fun u H'=>H.le H'∧zG H' 1 u (xK zs zs.length).length (fun i=>[S ((xK zs zs.length).getD i default).1])):=by
 refine Fn.mono (yOm h2 hz hn) ?_
 rintro u H' ⟨hle,hcase⟩
 refine⟨hle,?_⟩
 rcases hcase with⟨rfl,hnil⟩ | ⟨b,cp,_,rfl,hH⟩
 ·rw [hnil]; exact zG.nil
 ·exact zG.lit hH (yTB _)
end Go.SL
/- Contracts: stages and steps are valid. -/
namespace Go.SL
open Go
variable {E:Env} {H:Hp}
theorem xAp (hE : zV E) {v : Value} (p : xO) (hv : xL H v p.sets) : yD E 17 [.agg #[S p.apex, v]] H (.bool (zFa p)) := by
 obtain⟨d,g,⟨a,cap,rfl,hs,hr⟩,hdeep⟩:=hv
 refine Fn.of_vks hE.c17 (by simp [yGh]) ?_
 simp only [yGh,yMM,yLL,yPM]
 simp only [go_sem,Nat.reduceLeDiff,Nat.reduceEqDiff,Nat.reduceBEq,Nat.reduceAdd,reduceCtorEq,zC]
 refine zE _ ?_ (fun hg=>⟨?_,yQN hE p.apex [42,46]⟩) ?_<;>simp only [go_sem,Nat.reduceLeDiff,Nat.reduceEqDiff,Nat.reduceBEq,Nat.reduceAdd,zC]
 ·simp only [go_sem,Nat.reduceEqDiff] at hg ⊢; exact hg
 refine zE _ ?_ (fun hg=>⟨?_,zGR hE p.apex⟩) ?_<;>simp only [go_sem,Nat.reduceEqDiff,Nat.reduceBEq]
 ·simp only [go_sem,Nat.reduceEqDiff] at hg ⊢; exact hg
 have e:((p.sets.length:Int) == 0)=(p.sets.length == 0):=by rw [Bool.eq_iff_iff,beq_iff_eq,beq_iff_eq]; omega
 rw [e]; rfl
set_option maxHeartbeats 1000000 in
set_option maxRecDepth 100000 in
theorem yZM (hE : zV E) (hB : qT E H) {vz : Value} {zs : List xO} (nh : Int) (hz : pL H vz zs) : yD E 15 [.agg #[vz], .int .i64 nh] H (.bool (zCm zs nh)) := by
 obtain⟨z,⟨a,cap,rfl,hsp,hr⟩,hdeep⟩:=hz
 refine Fn.of_vks hE.c15 (by simp [yFn]) ?_
 simp only [yFn,yMX,yJy,yOw,yHC,yNZ,yIn,yQc,yPG,yPl,yKb,zYJ,zXK,zWP]
 simp only [go_sem,Nat.reduceEqDiff,Nat.reduceBEq,reduceCtorEq,zC]
 have hc:decide ((zs.length:Int) > 500) = !decide (zs.length≤500):=by rw [Bool.eq_iff_iff,Bool.not_eq_true',decide_eq_true_eq,decide_eq_false_iff_not]; omega
 rw [hc]
 refine⟨fun h=>?_,fun h=>?_⟩
 ·rw [Bool.not_eq_true'] at h; simp only [zCm,h,Bool.false_and]
 have hn:zs.length≤500:=by simpa using h
 have ho:zCm zs nh=zO (zEy nh zs) zs.length:=by simp only [zCm,hn,decide_true,Bool.true_and]
 rw [ho]
 intro b3 hb3
 refine yP zs.length 0 (fun k fr' H' => fr' = [(1, ⟨true, .val (.int .i64 nh)⟩), (5, ⟨true, .val (.map (some b3))⟩), (15, ⟨true, .val (.slice a zs.length cap)⟩), (16, ⟨true, .val (.int .i64 zs.length)⟩), (17, ⟨true, .val (.int .i64 k)⟩)] ∧
   zO (zEy nh zs) k=true∧∃ o3,H'=H.put b3 o3∧(∀ H0:Hp,uR (H0.put b3 o3) b3 ((qG zs k).map fun e=>(zGV e.1,.bool e.2)))) (Nat.zero_le _) ⟨rfl,rfl,_,rfl,fun H0=>⟨#[],0,Hp.put_same ..,rfl⟩⟩ ?_
 rintro k fr' H' hk ⟨rfl,hP,o3,rfl,hM3⟩
 have hle:H.le (H.put b3 o3):=zM hb3 _
 by_cases hlt:k < zs.length
 ·have hd:decide ((k:Int) < (zs.length:Int))=true:=by simpa using hlt
  have hF:zEy nh zs k=false→false=zO (zEy nh zs) zs.length:=fun h=>(zY hlt h).symm
  have hS:zEy nh zs k=true→zO (zEy nh zs) (k + 1)=true:=fun h=>yJ hP h
  have hr':=hr (by omega)
  obtain⟨b,o,vs,c,wr,ha,hb,hi⟩:=hr'
  subst ha
  have hb1:=hle _ _ hb
  have hi1:=(hi k hlt).1
  have hi2:=(hi k hlt).2
  have hzk:=(hdeep k hlt).mono hle
  have hz1:yW (z k)=true:=by obtain⟨d,g,h,_⟩:=hzk; exact zG.one h
  obtain⟨x,hx⟩:∃ y,zs.getD k default=y:=⟨_,rfl⟩
  rw [hx] at hzk
  have hok:zEy nh zs k = !(decide (x.host < 0) || decide (x.host≥nh) || (yK x.key (qG zs k)).getD false || (!zFa x && !xG x.apex x.sets)):=by rw [← hx]; rfl
  simp only [hd,hb1,hi2,vW,hx,hz1,go_sem,Nat.reduceLeDiff,Nat.reduceEqDiff,Nat.reduceBEq,Nat.reduceAdd,zC]
  refine⟨⟨by omega,by omega⟩,hi1,fun h=>⟨h,h⟩,?_⟩
  have hzv:yD E 43 [.agg #[S x.apex,z k]] (H.put b3 o3) (.bool (xG x.apex x.sets)):=yRp hE (hB.mono hle) x.apex hzk
  have hst:yD E 17 [.agg #[S x.apex,z k]] (H.put b3 o3) (.bool (zFa x)):=xAp hE x hzk
  obtain⟨q,hq⟩:∃ q,(decide (x.host < 0) || decide (x.host≥nh))=q:=⟨_,rfl⟩
  rw [hq] at hok ⊢
  cases q with
  | true =>
   refine zCJ (by intro x h; cases h) (by intro f a h; cases h) ?_ ?_ ?_
   ·simp only [go_sem,Nat.reduceEqDiff]
   ·simp only [go_sem,Nat.reduceEqDiff]
   simp only [go_sem,Nat.reduceEqDiff,Nat.reduceBEq,Nat.reduceAdd,↓yQ]
   refine zE (.bool (zFa x)) ?_ (fun hg=>absurd hg ?_) ?_<;>simp only [go_sem,Nat.reduceEqDiff,Nat.reduceBEq,Nat.reduceAdd]
   ·simp
   refine zE (.bool (xG x.apex x.sets)) ?_ (fun hg=>absurd hg ?_) ?_<;>simp only [go_sem,Nat.reduceEqDiff,Nat.reduceBEq,Nat.reduceAdd,↓yQ]
   ·simp
   ·exact⟨hF hok,hle⟩
  | false =>
   rw [Bool.false_or] at hok
   refine zBg (by intro x h; cases h) (by intro f a h; cases h) ?_ ?_ ?_
   ·simp only [go_sem,Nat.reduceEqDiff]
   ·simp only [go_sem,Nat.reduceEqDiff]
   refine zBe (enc:=zGV) (encv:=fun b=>.bool b) (l:=qG zs k) (b:=b3) x.key zOo (zJb _) ?_ ?_ ?_ ?_ (hM3 H) ?_
   ·simp only [go_sem,Nat.reduceEqDiff]
   ·simp only [go_sem,Nat.reduceEqDiff]
   ·simp only [go_sem,Nat.reduceEqDiff]
   ·simp only [go_sem,Nat.reduceEqDiff]; rfl
   have hv : ((yK x.key (qG zs k)).map (fun b => Value.bool b)).getD (.bool false) = .bool ((yK x.key (qG zs k)).getD false) := by
    cases yK x.key (qG zs k)<;>rfl
   rw [hv]
   simp only [go_sem,Nat.reduceEqDiff,Nat.reduceBEq,Nat.reduceAdd]
   refine zE _ ?_ (fun hg=>⟨?_,hst⟩) ?_<;>simp only [go_sem,Nat.reduceEqDiff,Nat.reduceBEq,Nat.reduceAdd]
   ·simp only [go_sem,Nat.reduceEqDiff] at hg ⊢; exact hg
   refine zE _ ?_ (fun hg=>⟨?_,hzv⟩) ?_<;>simp only [go_sem,Nat.reduceEqDiff,Nat.reduceBEq,Nat.reduceAdd]
   ·simp only [go_sem,Nat.reduceEqDiff] at hg ⊢; exact hg
   refine⟨fun h1=>⟨h1,fun h2=>by rw [h1,h2]; rfl⟩,fun h1=>⟨hF ?_,hle⟩,fun h1=>?_⟩
   ·rw [hok,h1]; rfl
   rw [h1] at hok
   refine zCq (enc:=zGV) (encv:=fun b=>.bool b) (l:=qG zs k) (b:=b3) x.key true zOo (zJb _) ?_ ?_ ?_ ?_ ?_ ?_ (hM3 H) ?_
   ·simp only [go_sem,Nat.reduceEqDiff]
   ·simp only [go_sem,Nat.reduceEqDiff]
   ·simp only [go_sem]
   ·simp only [go_sem,Nat.reduceEqDiff]
   ·simp only [go_sem,Nat.reduceEqDiff]; rfl
   ·simp only [go_sem]
   intro o3' hM3'
   simp only [go_sem,Nat.reduceEqDiff,Nat.reduceBEq,zC]
   refine⟨hlt,zQ (by omega),hS hok,o3',rfl,fun H0=>?_⟩
   have:=hM3' H0; rw [← hx] at this; exact this
 ·have hd:decide ((k:Int) < (zs.length:Int))=false:=by simpa using hlt
  have:k=zs.length:=by omega
  subst this
  simp only [hd,go_sem,Nat.reduceLeDiff,Nat.reduceEqDiff,Nat.reduceBEq,Nat.reduceAdd,zC]
  exact⟨hP.symm,hle⟩
def zJj (l : List zDh) : Nat → Int
 | 0=>-1
 | k + 1=>(l.getD k default).at_
def zGt (e nh:Int) (l:List zDh) (i:Nat):Bool:=!(decide ((l.getD i default).at_≤zJj l i) || decide ((l.getD i default).at_≥e) || !zCm (l.getD i default).puts nh)
def zCi (e nh:Int) (l:List zDh):Bool:=decide (l.length≤400) && zO (zGt e nh l) l.length
set_option maxHeartbeats 1000000 in
theorem xAN (hE : zV E) (hB : qT E H) {v vl : Value} {h : yA} {l : List zDh} (hh : vS H v h) (hl : zBt H vl l) : yD E 49 [v, vl] H (.bool (zCi h.end_ h.hosts.length l)) := by
 obtain⟨vh,vc,vd,vi,rfl,g1,g2,g3,g4⟩:=hh
 have hh1:=zG.one g1
 have hc1:=uZ.one g2
 have hd1:=zG.one g3
 have hi1:=zG.one g4
 have hvh:=xV.sl g1
 obtain⟨ah,ch,rfl⟩:=hvh
 obtain⟨z,⟨a,cap,rfl,hsp,hr⟩,hdeep⟩:=hl
 refine Fn.of_vks hE.c49 (by simp [yGl]) ?_
 simp only [yGl,yMV,yLi,yHY,yLB,yOY,yKi,yLt,yMF,yIp,yKk,zYa,yEa]
 simp only [go_sem,Nat.reduceEqDiff,Nat.reduceBEq,reduceCtorEq,zC]
 have hc:decide ((l.length:Int) > 400) = !decide (l.length≤400):=by rw [Bool.eq_iff_iff,Bool.not_eq_true',decide_eq_true_eq,decide_eq_false_iff_not]; omega
 rw [hc]
 refine⟨fun hq=>?_,fun hq=>?_⟩
 ·rw [Bool.not_eq_true'] at hq; simp only [zCi,hq,Bool.false_and]
 have hn:l.length≤400:=by simpa using hq
 have ho:∀ e nh,zCi e nh l=zO (zGt e nh l) l.length:=by intro e nh; simp only [zCi,hn,decide_true,Bool.true_and]
 rw [ho]
 refine zS l.length 0 (fun k=>[(2,⟨true,.box [.slice ah h.hosts.length ch,vc,S h.aname,.int .i64 h.atype,.int .i64 h.alife,vd,vi,.int .i64 h.drift,.int .i64 h.end_]⟩),(5,⟨true,.val (.int .i64 (zJj l k))⟩),(11,⟨true,.val (.slice a l.length cap)⟩),(12,⟨true,.val (.int .i64 l.length)⟩),(13,⟨true,.val (.int .i64 k)⟩)]) (fun k=>zO (zGt h.end_ h.hosts.length l) k=true) (Nat.zero_le _) rfl rfl ?_
 intro k hk hP
 by_cases hlt:k < l.length
 ·have hd:decide ((k:Int) < (l.length:Int))=true:=by simpa using hlt
  have hF:=fun hx=>(zY (P:=zGt h.end_ h.hosts.length l) hlt hx).symm
  have hS:=fun hx=>yJ hP hx
  have hr':=hr (by omega)
  obtain⟨b,o,vs,c,wr,ha,hb,hi⟩:=hr'
  subst ha
  have hi1':=(hi k hlt).1
  have hi2:=(hi k hlt).2
  have hzk:=hdeep k hlt
  have hz1:yW (z k)=true:=pL.one hzk
  have hok:∀ e nh,zGt e nh l k = !(decide ((l.getD k default).at_≤zJj l k) || decide ((l.getD k default).at_≥e) || !zCm (l.getD k default).puts nh):=fun _ _=>rfl
  have hla:zJj l (k + 1)=(l.getD k default).at_:=rfl
  obtain⟨x,hx⟩:∃ y,l.getD k default=y:=⟨_,rfl⟩
  rw [hx] at hzk hok hla
  simp only [hd,hb,hi2,ySS,hx,hz1,go_sem,Nat.reduceLeDiff,Nat.reduceEqDiff,Nat.reduceBEq,Nat.reduceAdd,zC]
  refine⟨⟨by omega,by omega⟩,hi1',fun h=>⟨h,h⟩,?_⟩
  refine zE _ ?_ (fun hg=>⟨?_,yZM hE hB (h.hosts.length:Int) hzk⟩) ?_<;>simp only [go_sem,Nat.reduceLeDiff,Nat.reduceEqDiff,Nat.reduceBEq,Nat.reduceAdd,zC]
  ·simp only [go_sem,Nat.reduceEqDiff] at hg ⊢; exact⟨hg,hg⟩
  refine⟨fun h1=>hF (by rw [hok,h1]; rfl),fun h1=>⟨hlt,⟨hla.symm,zQ (by omega)⟩,hS (by rw [hok,h1]; rfl)⟩⟩
 ·have hd:decide ((k:Int) < (l.length:Int))=false:=by simpa using hlt
  have:k=l.length:=by omega
  subst this
  simp only [hd,go_sem,Nat.reduceEqDiff,Nat.reduceBEq,Nat.reduceAdd,zC]
  exact hP.symm
theorem yZX (hE : zV E) (hB : qT E H) {v vl : Value} {h : yA} {l : List zDh} {q : Bool} (hh : vS H v h) (hl : zBt H vl l) (h48 : yD E 48 [v] H (.bool q)) :
  yD E 28 [v,vl] H (.bool (q && zCi h.end_ h.hosts.length l)):=by
 have hf:=xAN hE hB hh hl
 obtain⟨vh,vc,vd,vi,rfl,g1,g2,g3,g4⟩:=hh
 have hh1:=zG.one g1
 have hc1:=uZ.one g2
 have hd1:=zG.one g3
 have hi1:=zG.one g4
 refine Fn.of_vks hE.c28 (by simp [yGQ]) ?_
 simp only [yGQ,yNM,yKC]
 simp only [go_sem,Nat.reduceEqDiff,Nat.reduceBEq,Nat.reduceAdd,reduceCtorEq]
 refine zE _ ?_ (fun _=>⟨?_,h48⟩) ?_<;>simp only [go_sem,Nat.reduceEqDiff,Nat.reduceBEq,Nat.reduceAdd]
 refine zE _ ?_ (fun hg=>⟨?_,hf⟩) ?_<;>simp only [go_sem,Nat.reduceEqDiff,Nat.reduceBEq]
 ·simp only [go_sem,Nat.reduceEqDiff] at hg ⊢; exact⟨hg,hg⟩
end Go.SL
