/- Contracts: world.validRoot, validCopies, Valid. -/
import Derived.Test.YtloknibdaldffaaGreatDoorNplQ
import Derived.Test.YtloknibdaldffaaGreatDoorNplT10
import Derived.Test.YtloknibdaldffaaGreatDoorNplO
import Derived.Test.YtloknibdaldffaaGreatDoorNplO7
namespace Go.SL
open Go
variable {E : Env} {H : Hp}
theorem fn55 (hE : Codes E) (x : Int) : FnP E 55 [.int .i64 x] H (.bool (!addrOk x)) := by
 refine Fn.of_vks hE.c55 (by simp [cf55]) ?_
 simp only [cf55,cf55_0,cf55_1]
 simp only [go_sem,Nat.reduceBEq,reduceCtorEq]
 refine vks_callp _ ?_ (fun _ => ⟨?_,fn53 hE x⟩) ?_ <;> simp only [go_sem,Nat.reduceEqDiff,Nat.reduceBEq,reduceCtorEq]
theorem fn79 (hE : Codes E) {f v : Value} {ns : List Int} (p : Int → Bool) (h : IntsAt H v ns) (hf : ∀ x, FnV E f [.int .i64 x] H (fun u H' => u = .bool (p x) ∧ H' = H)) (hn : ns.length ≤ 1099511627775) :
  FnP E 79 [v,f] H (.int .i64 (firstN (fun i => p (ns.getD i 0)) ns.length)) := by
 obtain ⟨a,cap,rfl,hs,hr⟩ := h
 refine Fn.of_vks hE.c79 (by simp [cf79]) ?_
 simp only [cf79,cf79_0,cf79_1,cf79_2,cf79_3,cf79_4,cf79_5,cf79_6,cf79_7]
 simp only [go_sem,Nat.reduceEqDiff,Nat.reduceBEq,reduceCtorEq]
 refine vks_loopN ns.length 0 (fun k => [(0,⟨true,.val (.slice a ns.length cap)⟩),(1,⟨true,.val f⟩),(7,⟨true,.val (.int .i64 ns.length)⟩),(8,⟨true,.val (.int .i64 k)⟩)]) (fun k => firstN (fun i => p (ns.getD i 0)) k = -1) (Nat.zero_le _) rfl rfl ?_
 intro k hk hP
 by_cases hlt : k < ns.length
 ·have hd : decide ((k : Int) < (ns.length : Int)) = true := by simpa using hlt
  have hr' := hr (by omega)
  obtain ⟨b,o,vs,c,wr,ha,hb,hi⟩ := hr'
  subst ha
  have hi1 := (hi k hlt).1
  have hi2 := getD_of_take (hi k hlt).2 (j := 0) (by omega)
  simp only [Nat.mul_one,Nat.add_zero] at hi1 hi2
  simp only [hd,hb,hi2,rInt,go_sem,Nat.reduceEqDiff,Nat.reduceBEq,reduceCtorEq,binO,Nat.mul_one]
  refine ⟨⟨by omega,by omega⟩,hi1,?_⟩
  refine vks_callv ?_ ?_ (hf (ns.getD k 0)) ?_
  ·simp only [go_sem,Nat.reduceEqDiff,reduceCtorEq]
  ·simp only [go_sem,Nat.reduceEqDiff,reduceCtorEq]
  rintro v H' ⟨rfl,rfl⟩
  simp only [go_sem,Nat.reduceEqDiff,Nat.reduceBEq,reduceCtorEq,binO]
  exact ⟨fun h1 => (firstN_stop hP h1 hlt).symm,fun h1 => ⟨hlt,wrapS (by omega),firstN_next hP h1⟩⟩
 ·have hd : decide ((k : Int) < (ns.length : Int)) = false := by simpa using hlt
  have : k = ns.length := by omega
  simp only [hd,go_sem,Nat.reduceEqDiff,Nat.reduceBEq,reduceCtorEq,binO]
  rw [← this]; exact hP.symm
theorem fn56 (hE : Codes E) {f v : Value} {ns : List Int} (p : Int → Bool) (h : IntsAt H v ns) (hf : ∀ x, FnV E f [.int .i64 x] H (fun u H' => u = .bool (p x) ∧ H' = H)) (hn : ns.length ≤ 1099511627775) :
  FnP E 56 [v,f] H (.bool (anyN (fun i => p (ns.getD i 0)) ns.length)) := by
 refine Fn.of_vks hE.c56 (by simp [cf56]) ?_
 simp only [cf56,cf56_0,cf56_1]
 simp only [go_sem,Nat.reduceEqDiff,Nat.reduceBEq,reduceCtorEq]
 refine vks_callp _ ?_ (fun _ => ⟨?_,fn79 hE p h hf hn⟩) ?_ <;> simp only [go_sem,Nat.reduceEqDiff,Nat.reduceBEq,reduceCtorEq,binO]
 exact firstN_any _ _
theorem fn42 (hE : Codes E) (hB : Base E H) (name : Bs) (ty life : Int) {v w : Value} {ds : List DatumD} {ns : List Int} (hd : DataAt H v ds) (hw : IntsAt H w ns) : FnP E 42 [.agg #[S name, .int .i64 ty, .int .i64 life, v], w] H (.bool (rootValid name ty life ds ns)) := by
 have hv1 := SlAt.one hd
 obtain ⟨aw,cw,hwe,_⟩ := id hw
 refine Fn.of_vks hE.c42 (by simp [cf42]) ?_
 simp only [cf42,cf42_0,cf42_1,cf42_2,cf42_3,cf42_4,cf42_5]
 simp only [hwe,go_sem,Nat.reduceEqDiff,Nat.reduceBEq,Nat.reduceAdd,reduceCtorEq]
 rw [hwe] at hw
 refine vks_callp _ ?_ (fun _ => ⟨?_,fn54 hE hB name ty life hd⟩) ?_ <;> simp only [go_sem,Nat.reduceLeDiff,Nat.reduceEqDiff,Nat.reduceBEq,Nat.reduceAdd,binO]
 have c1 : decide ((ns.length : Int) < 1) = !decide (1 ≤ ns.length) := by rw [Bool.eq_iff_iff,Bool.not_eq_true',decide_eq_true_eq,decide_eq_false_iff_not]; omega
 have c2 : decide ((ns.length : Int) > 8) = !decide (ns.length ≤ 8) := by rw [Bool.eq_iff_iff,Bool.not_eq_true',decide_eq_true_eq,decide_eq_false_iff_not]; omega
 rw [c1,c2]
 have hrv : rootValid name ty life ds ns = (!(!recValid name ty life ds || ty != 6 || !(name == [46])) && !(!decide (1 ≤ ns.length) || !decide (ns.length ≤ 8)) && allN (fun i => addrOk (ns.getD i 0)) ns.length) := by
  simp only [rootValid,Bool.not_or,Bool.not_not,bne]
  cases recValid name ty life ds <;> cases (ty == 6) <;> cases (name == [46]) <;> simp
 refine ⟨fun h => ?_,fun h => ⟨fun h2 => ?_,fun h2 => ?_⟩⟩
 ·rw [hrv,h]; rfl
 ·rw [hrv,h2,Bool.not_true,Bool.and_false,Bool.false_and]
 ·have hn : ns.length ≤ 8 := by simp at h2; omega
  refine vks_callp _ ?_ (fun _ => ⟨?_,fn56 hE (fun x => !addrOk x) hw (fun x => FnV_of_Fn hE.e55 (Fn.same (fn55 hE x))) (by omega)⟩) ?_ <;> simp only [go_sem,Nat.reduceEqDiff,Nat.reduceBEq]
  rw [hrv,h,h2,anyN_not]; rfl
abbrev encP (k : Pair) : Value := .agg #[.int .i64 k.1,S k.2]
theorem keyIsP (k : Pair) : keyIs true [.i,.s] (encP k) := by simp [keyIs]
set_option maxHeartbeats 1000000 in
set_option maxRecDepth 100000 in
theorem fn41 (hE : Codes E) (hB : Base E H) {vh vz vd vi : Value} (an : Bs) (at_ al : Int) {hs : List HostD} {zs : List PlacedD} (hh : HostsAt H vh hs) (hz : PutsAt H vz zs) : FnP E 41 [.agg #[vh, vz, S an, .int .i64 at_, .int .i64 al, vd, vi]] H (.bool (copiesValid hs.length zs)) := by
 obtain ⟨z,⟨a,cap,rfl,hsp,hr⟩,hdeep⟩ := hz
 obtain ⟨ah,ch,rfl,_⟩ := hh
 refine Fn.of_vks hE.c41 (by simp [cf41]) ?_
 simp only [cf41,cf41_0,cf41_1,cf41_2,cf41_3,cf41_4,cf41_5,cf41_6,cf41_7,cf41_8,cf41_9,cf41_10,cf41_11,cf41_12,cf41_13,cf41_14]
 simp only [go_sem,Nat.reduceLeDiff,Nat.reduceEqDiff,Nat.reduceBEq,Nat.reduceAdd,reduceCtorEq,binO]
 have hc : decide ((zs.length : Int) > 4000) = !decide (zs.length ≤ 4000) := by rw [Bool.eq_iff_iff,Bool.not_eq_true',decide_eq_true_eq,decide_eq_false_iff_not]; omega
 rw [hc]
 refine ⟨fun h => ?_,fun h => ?_⟩
 ·rw [Bool.not_eq_true'] at h; simp only [copiesValid,h,Bool.false_and]
 have hn : zs.length ≤ 4000 := by simpa using h
 have ho : copiesValid hs.length zs = (allN (copyOk hs.length zs) zs.length && decide ((apexesN zs zs.length).length ≤ 500)) := by simp only [copiesValid,hn,decide_true,Bool.true_and]
 rw [ho]
 intro b3 hb3 b4 hb4
 have h43 : b4 ≠ b3 := by rintro rfl; simp [put_get] at hb4
 have hb40 : H b4 = none := by simpa [put_get,h43] using hb4
 refine vks_loopP zs.length 0 (fun k fr' H' => fr' = [(1, ⟨true, .box [.slice ah hs.length ch, .slice a zs.length cap, S an, .int .i64 at_, .int .i64 al, vd, vi]⟩), (3, ⟨true, .val (.map (some b3))⟩), (4, ⟨true, .val (.map (some b4))⟩), (15, ⟨true, .val (.slice a zs.length cap)⟩), (16, ⟨true, .val (.int .i64 zs.length)⟩), (17, ⟨true, .val (.int .i64 k)⟩)] ∧
   allN (copyOk hs.length zs) k = true ∧ ∃ o3 o4,H' = (H.put b3 o3).put b4 o4 ∧ (∀ H0 : Hp,MapAt (H0.put b3 o3) b3 ((pairsN zs k).map fun e => (encP e.1,.bool e.2))) ∧ (∀ H0 : Hp,MapAt (H0.put b4 o4) b4 ((apexesN zs k).map fun e => (S e.1,.bool e.2)))) (Nat.zero_le _) ⟨rfl,rfl,_,_,rfl,(fun H0 => ⟨#[],0,Hp.put_same ..,rfl⟩),fun H0 => ⟨#[],0,Hp.put_same ..,rfl⟩⟩ ?_
 rintro k fr' H' hk ⟨rfl,hP,o3,o4,rfl,hM3,hM4⟩
 have hle : H.le ((H.put b3 o3).put b4 o4) := le_put_of_le (le_put hb3 _) hb40 _
 have hMA : MapAt ((H.put b3 o3).put b4 o4) b3 ((pairsN zs k).map fun e => (encP e.1, .bool e.2)) := by
  obtain ⟨es,cl,e1,e2⟩ := hM3 H
  exact ⟨es,cl,by rw [put_get,if_neg h43.symm]; exact e1,e2⟩
 by_cases hlt : k < zs.length
 ·have hd : decide ((k : Int) < (zs.length : Int)) = true := by simpa using hlt
  have hF : copyOk hs.length zs k = false → false = (allN (copyOk hs.length zs) zs.length && decide ((apexesN zs zs.length).length ≤ 500)) := fun h => by rw [allN_false hlt h]; rfl
  have hS : copyOk hs.length zs k = true → allN (copyOk hs.length zs) (k + 1) = true := fun h => allN_succ hP h
  have hr' := hr (by omega)
  obtain ⟨b,o,vs,c,wr,ha,hb,hi⟩ := hr'
  subst ha
  have hb1 := hle _ _ hb
  have hi1 := (hi k hlt).1
  have hi2 := (hi k hlt).2
  have hzk := (hdeep k hlt).mono hle
  have hz1 : one1 (z k) = true := by obtain ⟨d,g,h,_⟩ := hzk; exact SlAt.one h
  obtain ⟨x,hx⟩ : ∃ y,zs.getD k default = y := ⟨_,rfl⟩
  rw [hx] at hzk
  have hok : copyOk hs.length zs k = !(decide (x.host < 0) || decide (x.host ≥ hs.length) || (mget x.key (pairsN zs k)).getD false || !zoneValid x.apex x.sets) := by rw [← hx]; rfl
  simp only [hd,hb1,hi2,rPlaced,hx,hz1,go_sem,Nat.reduceLeDiff,Nat.reduceEqDiff,Nat.reduceBEq,Nat.reduceAdd,binO]
  refine ⟨⟨by omega,by omega⟩,hi1,?_⟩
  refine ⟨fun h => ⟨h,h⟩,?_⟩
  have hzv : FnP E 43 [.agg #[S x.apex,z k]] ((H.put b3 o3).put b4 o4) (.bool (zoneValid x.apex x.sets)) := fn43 hE (hB.mono hle) x.apex hzk
  obtain ⟨q,hq⟩ : ∃ q,(decide (x.host < 0) || decide (x.host ≥ (hs.length : Int))) = q := ⟨_,rfl⟩
  rw [hq] at hok ⊢
  cases q with
  | true =>
   refine vks_skipB (by intro x h; cases h) (by intro f a h; cases h) ?_ ?_ ?_
   ·simp only [go_sem,Nat.reduceEqDiff]
   ·simp only [go_sem,Nat.reduceEqDiff]
   simp only [go_sem,Nat.reduceEqDiff,Nat.reduceBEq,Nat.reduceAdd,↓simT_pick_t]
   refine vks_callp (.bool (zoneValid x.apex x.sets)) ?_ (fun hg => absurd hg ?_) ?_ <;> simp only [go_sem,Nat.reduceEqDiff,Nat.reduceBEq,Nat.reduceAdd,↓simT_pick_t]
   ·simp
   ·exact ⟨hF hok,hle⟩
  | false =>
   rw [Bool.false_or] at hok
   refine vks_useB (by intro x h; cases h) (by intro f a h; cases h) ?_ ?_ ?_
   ·simp only [go_sem,Nat.reduceEqDiff]
   ·simp only [go_sem,Nat.reduceEqDiff]
   refine vks_look (enc := encP) (encv := fun b => .bool b) (l := pairsN zs k) (b := b3) x.key keyP (keyIsP _) ?_ ?_ ?_ ?_ hMA ?_
   ·simp only [go_sem,Nat.reduceEqDiff]
   ·simp only [go_sem,Nat.reduceEqDiff]
   ·simp only [go_sem,Nat.reduceEqDiff]
   ·simp only [go_sem,Nat.reduceEqDiff]; rfl
   have hv : ((mget x.key (pairsN zs k)).map (fun b => Value.bool b)).getD (.bool false) = .bool ((mget x.key (pairsN zs k)).getD false) := by
    cases mget x.key (pairsN zs k) <;> rfl
   rw [hv]
   simp only [go_sem,Nat.reduceEqDiff,Nat.reduceBEq,Nat.reduceAdd]
   refine vks_callp _ ?_ (fun hg => ⟨?_,hzv⟩) ?_ <;> simp only [go_sem,Nat.reduceEqDiff,Nat.reduceBEq,Nat.reduceAdd]
   ·simp only [go_sem,Nat.reduceEqDiff] at hg ⊢; exact hg
   refine ⟨fun h1 => ⟨hF ?_,hle⟩,fun h1 => ?_⟩
   ·rw [hok,h1]; rfl
   rw [h1] at hok
   refine vks_upd (enc := encP) (encv := fun b => .bool b) (l := pairsN zs k) (b := b3) x.key true keyP (keyIsP _) ?_ ?_ ?_ ?_ ?_ ?_ hMA ?_
   ·simp only [go_sem,Nat.reduceEqDiff]
   ·simp only [go_sem,Nat.reduceEqDiff]
   ·simp only [go_sem]
   ·simp only [go_sem,Nat.reduceEqDiff]
   ·simp only [go_sem,Nat.reduceEqDiff]; rfl
   ·simp only [go_sem]
   intro o3' hM3'
   rw [put_swap _ _ _ _ h43.symm]
   simp only [go_sem,Nat.reduceLeDiff,Nat.reduceEqDiff,Nat.reduceBEq,Nat.reduceAdd]
   refine vks_upd (enc := fun x => S x) (encv := fun b => .bool b) (l := apexesN zs k) (b := b4) x.apex true keyS trivial ?_ ?_ ?_ ?_ ?_ ?_ (hM4 _) ?_
   ·simp only [go_sem,Nat.reduceEqDiff]
   ·simp only [go_sem,Nat.reduceEqDiff]
   ·simp only [go_sem]
   ·simp only [go_sem,Nat.reduceEqDiff]
   ·simp only [go_sem,Nat.reduceEqDiff]
   ·simp only [go_sem]
   intro o4' hM4'
   simp only [go_sem,Nat.reduceEqDiff,Nat.reduceBEq,binO]
   refine ⟨hlt,wrapS (by omega),hS hok,o3',o4',rfl,fun H0 => ?_,fun H0 => ?_⟩
   ·have := hM3' H0; rw [← hx] at this; exact this
   ·have := hM4' H0; rw [← hx] at this; exact this
 ·have hd : decide ((k : Int) < (zs.length : Int)) = false := by simpa using hlt
  have : k = zs.length := by omega
  subst this
  simp only [hd,go_sem,Nat.reduceLeDiff,Nat.reduceEqDiff,Nat.reduceBEq,Nat.reduceAdd,binO]
  refine vks_mlenM ?_ ?_ (hM4 _) ?_
  ·simp only [go_sem,Nat.reduceEqDiff]
  ·simp only [go_sem,Nat.reduceEqDiff]
  simp only [go_sem,Nat.reduceEqDiff,Nat.reduceBEq,binO]
  refine ⟨?_,hle⟩
  rw [hP,Bool.true_and,List.length_map]
  rw [Bool.eq_iff_iff,decide_eq_true_eq,decide_eq_true_eq]; omega
def WorldAt (H : Hp) (v : Value) (w : WorldD) : Prop := ∃ vh vz vd vi,v = .agg #[vh,vz,S w.aname,.int .i64 w.atype,.int .i64 w.alife,vd,vi] ∧ HostsAt H vh w.hosts ∧ PutsAt H vz w.zones ∧ DataAt H vd w.adata ∧ IntsAt H vi w.hints
theorem WorldAt.mono {H H' : Hp} {v : Value} {w : WorldD} (h : WorldAt H v w) (hl : H.le H') : WorldAt H' v w := by
 obtain ⟨vh,vz,vd,vi,h0,h1,h2,h3,h4⟩ := h
 exact ⟨vh,vz,vd,vi,h0,h1.mono hl,h2.mono hl,h3.mono hl,h4.mono hl⟩
theorem fn14 (hE : Codes E) (hB : Base E H) {v : Value} {w : WorldD} (hw : WorldAt H v w) : FnP E 14 [v] H (.bool (worldValid w)) := by
 obtain ⟨vh,vz,vd,vi,rfl,h1,h2,h3,h4⟩ := hw
 refine Fn.of_vks hE.c14 (by simp [cf14]) ?_
 simp only [cf14,cf14_0,cf14_1]
 simp only [go_sem,Nat.reduceLeDiff,Nat.reduceEqDiff,Nat.reduceBEq,Nat.reduceAdd,reduceCtorEq]
 refine vks_callp _ ?_ (fun _ => ⟨?_,fn40 hE h1⟩) ?_ <;> simp only [go_sem,Nat.reduceEqDiff,Nat.reduceBEq,Nat.reduceAdd]
 refine vks_callp _ ?_ (fun hg => ⟨?_,fn41 hE hB w.aname w.atype w.alife h1 h2⟩) ?_ <;> simp only [go_sem,Nat.reduceLeDiff,Nat.reduceEqDiff,Nat.reduceBEq,Nat.reduceAdd]
 ·simp only [go_sem,Nat.reduceEqDiff] at hg ⊢; exact hg
 refine vks_callp _ ?_ (fun hg => ⟨?_,fn42 hE hB w.aname w.atype w.alife h3 h4⟩) ?_ <;> simp only [go_sem,Nat.reduceEqDiff,Nat.reduceBEq]
 ·simp only [go_sem,Nat.reduceEqDiff] at hg ⊢; exact ⟨hg,hg⟩
 rfl
end Go.SL
/- Histories and steps in memory; contracts of small functions over copies. -/
namespace Go.SL
open Go
variable {E : Env} {H : Hp}
structure CopyD where
 host : Int
 from_ : Int
 till : Int
 apex : Bs
 sets : List SignedD
 deriving DecidableEq,Inhabited
structure HistD where
 hosts : List HostD
 copies : List CopyD
 aname : Bs
 atype : Int
 alife : Int
 adata : List DatumD
 hints : List Int
 drift : Int
 end_ : Int
 deriving DecidableEq,Inhabited
structure StepD where
 at_ : Int
 puts : List PlacedD
 deriving DecidableEq,Inhabited
def rCopy (cs : List CopyD) (z : Nat → Value) (i : Nat) : List Value := [.int .i64 (cs.getD i default).host,.int .i64 (cs.getD i default).from_,.int .i64 (cs.getD i default).till,S (cs.getD i default).apex,z i]
def rStep (l : List StepD) (z : Nat → Value) (i : Nat) : List Value := [.int .i64 (l.getD i default).at_,z i]
def CopiesAt (H : Hp) (v : Value) (cs : List CopyD) : Prop := ∃ z,SlAt H 5 v cs.length (rCopy cs z) ∧ ∀ i,i < cs.length → SetsAt H (z i) (cs.getD i default).sets
def StepsAt (H : Hp) (v : Value) (l : List StepD) : Prop := ∃ z,SlAt H 2 v l.length (rStep l z) ∧ ∀ i,i < l.length → PutsAt H (z i) (l.getD i default).puts
def HistAt (H : Hp) (v : Value) (h : HistD) : Prop := ∃ vh vc vd vi,v = .agg #[vh,vc,S h.aname,.int .i64 h.atype,.int .i64 h.alife,vd,vi,.int .i64 h.drift,.int .i64 h.end_] ∧ HostsAt H vh h.hosts ∧ CopiesAt H vc h.copies ∧ DataAt H vd h.adata ∧ IntsAt H vi h.hints
theorem CopiesAt.mono {H H' : Hp} {v : Value} {cs : List CopyD} (h : CopiesAt H v cs) (hl : H.le H') : CopiesAt H' v cs := by
 obtain ⟨z,h1,h2⟩ := h
 exact ⟨z,h1.mono hl,fun i hi => (h2 i hi).mono hl⟩
theorem StepsAt.mono {H H' : Hp} {v : Value} {l : List StepD} (h : StepsAt H v l) (hl : H.le H') : StepsAt H' v l := by
 obtain ⟨z,h1,h2⟩ := h
 exact ⟨z,h1.mono hl,fun i hi => (h2 i hi).mono hl⟩
theorem HistAt.mono {H H' : Hp} {v : Value} {h : HistD} (hh : HistAt H v h) (hl : H.le H') : HistAt H' v h := by
 obtain ⟨vh,vc,vd,vi,rfl,h1,h2,h3,h4⟩ := hh
 exact ⟨vh,vc,vd,vi,rfl,h1.mono hl,h2.mono hl,h3.mono hl,h4.mono hl⟩
theorem CopiesAt.one {v : Value} {cs : List CopyD} (h : CopiesAt H v cs) : one1 v = true := by obtain ⟨z,h,_⟩ := h; exact SlAt.one h
theorem StepsAt.one {v : Value} {l : List StepD} (h : StepsAt H v l) : one1 v = true := by obtain ⟨z,h,_⟩ := h; exact SlAt.one h
def apexesC (cs : List CopyD) : Nat → List (Bs × Bool) := keysN fun k => (cs.getD k default).apex
theorem fn120 (h2 : Codes2 E) (h f t : Int) (a : Bs) (z : Value) (_hz : one1 z = true) : FnP E 120 [.agg #[.int .i64 h, .int .i64 f, .int .i64 t, S a, z]] H (S a) := by
 refine Fn.of_vks h2.c120 (by simp [cf120]) ?_
 simp only [cf120,cf120_0,cf120_1]
 simp only [go_sem,Nat.reduceLeDiff,Nat.reduceEqDiff,Nat.reduceBEq,Nat.reduceAdd,reduceCtorEq]
theorem MapAt.of {H' : Hp} {b : Nat} {o : AObj} {l : List (Value × Value)} (h : ∀ H0 : Hp, MapAt (H0.put b o) b l) (hx : H' b = some o) : MapAt H' b l := by
 obtain ⟨es,cl,h1,h2⟩ := h H'
 rw [Hp.put_same] at h1
 exact ⟨es,cl,hx.trans h1,h2⟩
theorem mput_same {κ ν : Type} [DecidableEq κ] {k : κ} {v : ν} : ∀ {l : List (κ × ν)}, mget k l = some v → mput k v l = l
 | [],h => by cases h
 | (k', v') :: r, h => by
  simp only [mget] at h
  simp only [mput]
  split at h
  ·rename_i e; cases h; rw [if_pos e,e]
  ·rename_i e; rw [if_neg e,mput_same h]
theorem mput_new {κ ν : Type} [DecidableEq κ] {k : κ} {v : ν} : ∀ {l : List (κ × ν)}, mget k l = none → mput k v l = l ++ [(k, v)]
 | [],_ => rfl
 | (k', v') :: r, h => by
  simp only [mget] at h
  simp only [mput]
  split at h
  ·cases h
  ·rename_i e; rw [if_neg e,mput_new h]; rfl
theorem mget_keysN' {κ : Type} [DecidableEq κ] {f : Nat → κ} {k : κ} {v : Bool} : ∀ {n : Nat}, mget k (keysN f n) = some v → v = true
 | 0,h => by cases h
 | n + 1, h => by
  simp only [keysN] at h
  rw [mget_mput] at h
  split at h
  ·cases h; rfl
  ·exact mget_keysN' h
theorem rowS_at (L : List (Bs × Bool)) (i : Nat) (hi : i < L.length) : i * 1 + 1 ≤ (L.map fun e => S e.1).length ∧ ((L.map fun e => S e.1).drop (i * 1)).take 1 = [S (L.getD i default).1] := by
 refine ⟨by simp; omega,?_⟩
 rw [Nat.mul_one,List.drop_eq_getElem_cons (by simpa using hi)]
 simp [hi]
set_option maxHeartbeats 1000000 in
theorem fn119o (h2 : Codes2 E) {vz : Value} {zs : List CopyD} (hz : CopiesAt H vz zs) (hn : zs.length ≤ 1099511627) :
  Fn E.P (E.fn 119) [vz,.func (.func (E.fn 120)) #[] #[]] H (fun u H' => H.le H' ∧ ((u = .slice none 0 0 ∧ apexesC zs zs.length = []) ∨ ∃ b cp,H b = none ∧ u = .slice (some ⟨b,0,none⟩) (apexesC zs zs.length).length cp ∧ H' b = some (.row ((apexesC zs zs.length).map fun e => S e.1) (cp * 1) true))) := by
 obtain ⟨z,⟨a,cap,rfl,hsp,hr⟩,hdeep⟩ := hz
 refine Fn.of_vks h2.c119 (by simp [cf119]) ?_
 simp only [cf119,cf119_0,cf119_1,cf119_2,cf119_3,cf119_4,cf119_5,cf119_6,cf119_7,cf119_8,cf119_9,cf119_10,cf119_11]
 simp only [go_sem,Nat.reduceEqDiff,Nat.reduceBEq,reduceCtorEq]
 intro b3 hb3
 have hlen : ∀ k, (apexesC zs k).length ≤ k := by
  intro k
  induction k with
  | zero => exact Nat.le_refl _
  | succ k ih =>
   have e : apexesC zs (k + 1) = mput (zs.getD k default).apex true (apexesC zs k) := rfl
   rw [e]
   cases hg : mget (zs.getD k default).apex (apexesC zs k) with
   | none => rw [mput_new hg]; simp; exact ih
   | some v => rw [show v = true from mget_keysN' hg] at hg; rw [mput_same hg]; omega
 refine vks_loopP zs.length 0 (fun k fr' H' => ∃ vs o3, fr' = [(1, ⟨true, .val (.func (.func (E.fn 120)) #[] #[])⟩), (5, ⟨true, .val (.map (some b3))⟩), (6, ⟨true, .val vs⟩), (11, ⟨true, .val (.slice a zs.length cap)⟩), (12, ⟨true, .val (.int .i64 zs.length)⟩), (13, ⟨true, .val (.int .i64 k)⟩)] ∧
   H.le H' ∧ H' b3 = some o3 ∧ (∀ H0 : Hp, MapAt (H0.put b3 o3) b3 ((apexesC zs k).map fun e => (S e.1, .bool e.2))) ∧
    ((vs = .slice none 0 0 ∧ apexesC zs k = []) ∨ ∃ b cp,H b = none ∧ b ≠ b3 ∧ vs = .slice (some ⟨b,0,none⟩) (apexesC zs k).length cp ∧ H' b = some (.row ((apexesC zs k).map fun e => S e.1) (cp * 1) true))) (Nat.zero_le _) ⟨_,_,rfl,le_put hb3 _,Hp.put_same ..,fun H0 => ⟨#[],0,Hp.put_same ..,rfl⟩,.inl ⟨rfl,rfl⟩⟩ ?_
 rintro k fr' H' hk ⟨vs,o3,rfl,hle,ho3,hM3,hcase⟩
 have hvs : ∃ p n c, vs = .slice p n c := by
  rcases hcase with ⟨rfl,_⟩ | ⟨b,cp,_,_,rfl,_⟩ <;> exact ⟨_,_,_,rfl⟩
 by_cases hlt : k < zs.length
 ·have hd : decide ((k : Int) < (zs.length : Int)) = true := by simpa using hlt
  have hr' := hr (by omega)
  obtain ⟨b,o,rs,c,wr,ha,hb,hi⟩ := hr'
  subst ha
  have hb1 := hle _ _ hb
  have hi1 := (hi k hlt).1
  have hi2 := (hi k hlt).2
  have hz1 : one1 (z k) = true := by obtain ⟨d,g,h,_⟩ := hdeep k hlt; exact SlAt.one h
  obtain ⟨x,hx⟩ : ∃ y,zs.getD k default = y := ⟨_,rfl⟩
  have hnx : apexesC zs (k + 1) = mput x.apex true (apexesC zs k) := by rw [← hx]; rfl
  have hlk := hlen k
  simp only [hd,hb1,hi2,rCopy,hx,hz1,go_sem,Nat.reduceEqDiff,Nat.reduceBEq,Nat.reduceAdd,binO]
  refine ⟨⟨by omega,by omega⟩,hi1,?_⟩
  refine vks_callv ?_ ?_ (FnV_of_Fn h2.e120 (Fn.same (fn120 h2 x.host x.from_ x.till x.apex (z k) hz1))) ?_
  ·simp only [go_sem,Nat.reduceEqDiff]
  ·simp only [go_sem,Nat.reduceEqDiff]
  rintro v H'' ⟨rfl,rfl⟩
  simp only [go_sem,Nat.reduceEqDiff,Nat.reduceBEq]
  refine vks_look (enc := fun x => S x) (encv := fun b => .bool b) (l := apexesC zs k) (b := b3) x.apex keyS trivial ?_ ?_ ?_ ?_ (MapAt.of hM3 ho3) ?_
  ·simp only [go_sem,Nat.reduceEqDiff]
  ·simp only [go_sem,Nat.reduceEqDiff]
  ·simp only [go_sem,Nat.reduceEqDiff]
  ·simp only [go_sem,Nat.reduceEqDiff]
  cases hg : mget x.apex (apexesC zs k) with
  | some q =>
   have hq : q = true := mget_keysN' hg
   subst hq
   simp only [Option.map_some,go_sem,Nat.reduceEqDiff,Nat.reduceBEq,binO]
   refine ⟨hlt,vs,o3,⟨rfl,wrapS (by omega)⟩,hle,ho3,?_,?_⟩
   ·rw [hnx,mput_same hg]; exact hM3
   ·rw [hnx,mput_same hg]; exact hcase
  | none =>
   simp only [Option.map_none,go_sem,Nat.reduceEqDiff,Nat.reduceBEq,binO]
   refine vks_upd (enc := fun x => S x) (encv := fun b => .bool b) (l := apexesC zs k) (b := b3) x.apex true keyS trivial ?_ ?_ ?_ ?_ ?_ ?_ (MapAt.of hM3 ho3) ?_
   ·simp only [go_sem,Nat.reduceEqDiff]
   ·simp only [go_sem,Nat.reduceEqDiff]
   ·simp only [go_sem]
   ·simp only [go_sem,Nat.reduceEqDiff]
   ·simp only [go_sem,Nat.reduceEqDiff]
   ·simp only [go_sem]
   intro o3' hM3'
   simp only [go_sem,Nat.reduceEqDiff,Nat.reduceBEq]
   intro bs hbs
   obtain ⟨G,hG⟩ : ∃ G,G = (H''.put b3 o3').put bs (.row [S x.apex] 1 true) := ⟨_,rfl⟩
   have hbs3 : bs ≠ b3 := by rintro rfl; rw [Hp.put_same] at hbs; cases hbs
   have hGb3 : G b3 = some o3' := by rw [hG,Hp.put_ne _ _ (Ne.symm hbs3),Hp.put_same]
   have hGbs : G bs = some (.row [S x.apex] 1 true) := by rw [hG,Hp.put_same]
   have hH'bs : H'' bs = none := by rw [Hp.put_ne _ _ hbs3] at hbs; exact hbs
   have hGle : H.le G := by rw [hG]; exact (le_put_of_le hle hb3 _).trans (le_put hbs _)
   have hsrcO : srcOk G 1 (.slice (some ⟨bs,0,none⟩) 1 1) := .inr ⟨rfl,by rw [hGbs]; simp⟩
   have hsrcC : srcCells G 1 (.slice (some ⟨bs,0,none⟩) 1 1) = [S x.apex] := by simp [srcCells,hGbs]
   rw [← hG]
   rcases hcase with ⟨rfl,hnil⟩ | ⟨b0,cp,hHb0,hb03,rfl,hH'b0⟩
   ·refine vks_app0 ?_ ?_ hsrcO (by show (srcCells G 1 (.slice (some ⟨bs,0,none⟩) 1 1)).all one1 = true; rw [hsrcC]; rfl) ?_ (by show 1 * 16 ≤ _; omega) (by show 1 ≤ _; omega) (fun h => by cases h) ?_
    ·simp only [go_sem,Nat.reduceEqDiff]
    ·simp only [go_sem,Nat.reduceEqDiff]
    ·simp only [go_sem,Nat.reduceEqDiff]
    intro _ b1 cp1 hb1'
    have e1 : srcCells G 1 (.slice (some ⟨bs,0,none⟩) 1 1) = [S x.apex] := hsrcC
    simp only [srcLen,e1,go_sem,Nat.reduceEqDiff,Nat.reduceBEq,binO]
    have hb13 : b1 ≠ b3 := by rintro rfl; rw [hGb3] at hb1'; cases hb1'
    have hHb1 : H b1 = none := by
     cases hq : H b1 with
     | none => rfl
     | some o => rw [hGle _ _ hq] at hb1'; cases hb1'
    refine ⟨hlt,_,o3',⟨rfl,wrapS (by omega)⟩,hGle.trans (le_put hb1' _),by rw [Hp.put_ne _ _ (Ne.symm hb13)]; exact hGb3,by rw [hnx]; exact hM3',.inr ⟨b1,cp1,hHb1,hb13,?_,?_⟩⟩
    ·rw [hnx,hnil]; rfl
    ·rw [hnx,hnil,Hp.put_same]; rfl
   ·have hb0s : b0 ≠ bs := by rintro rfl; rw [hH'bs] at hH'b0; cases hH'b0
    have hGb0 : G b0 = some (.row ((apexesC zs k).map fun e => S e.1) (cp * 1) true) := by rw [hG,Hp.put_ne _ _ hb0s,Hp.put_ne _ _ hb03]; exact hH'b0
    refine vks_appS (b0 := b0) (n := (apexesC zs k).length) (cap0 := cp) (capc := cp * 1) (vs := (apexesC zs k).map fun e => S e.1) ?_ ?_ hsrcO (by show (srcCells G 1 (.slice (some ⟨bs,0,none⟩) 1 1)).all one1 = true; rw [hsrcC]; rfl) ?_ (by show ((apexesC zs k).length + 1) * 16 ≤ _; omega) (by show (apexesC zs k).length + 1 ≤ _; omega) hGb0 (by simp) rfl ?_
    ·simp only [go_sem,Nat.reduceEqDiff]
    ·simp only [go_sem,Nat.reduceEqDiff]
    ·simp only [go_sem,Nat.reduceEqDiff]
    intro b1 cp1 hb1'
    have e1 : srcCells G 1 (.slice (some ⟨bs,0,none⟩) 1 1) = [S x.apex] := hsrcC
    simp only [srcLen,e1,go_sem,Nat.reduceEqDiff,Nat.reduceBEq,binO]
    have hdle : H.le (G.del b0) := le_del hHb0 hGle
    have hdb3 : (G.del b0) b3 = some o3' := by rw [Hp.del_ne _ (Ne.symm hb03)]; exact hGb3
    have hb13 : b1 ≠ b3 := by rintro rfl; rw [hdb3] at hb1'; cases hb1'
    have hHb1 : H b1 = none := by
     cases hq : H b1 with
     | none => rfl
     | some o => rw [hdle _ _ hq] at hb1'; cases hb1'
    refine ⟨hlt,_,o3',⟨rfl,wrapS (by omega)⟩,hdle.trans (le_put hb1' _),by rw [Hp.put_ne _ _ (Ne.symm hb13)]; exact hdb3,by rw [hnx]; exact hM3',.inr ⟨b1,cp1,hHb1,hb13,?_,?_⟩⟩
    ·rw [hnx,mput_new hg]; simp
    ·rw [hnx,mput_new hg,Hp.put_same]; simp
 ·have hd : decide ((k : Int) < (zs.length : Int)) = false := by simpa using hlt
  have : k = zs.length := by omega
  subst this
  simp only [hd,go_sem,Nat.reduceEqDiff,Nat.reduceBEq,Nat.reduceAdd,binO]
  refine ⟨hle,?_⟩
  rcases hcase with ⟨rfl,hnil⟩ | ⟨b,cp,hb,_,rfl,hH⟩
  ·exact .inl ⟨rfl,hnil⟩
  ·exact .inr ⟨b,cp,hb,rfl,hH⟩
theorem fn119 (h2 : Codes2 E) {vz : Value} {zs : List CopyD} (hz : CopiesAt H vz zs) (hn : zs.length ≤ 1099511627) :
  Fn E.P (E.fn 119) [vz,.func (.func (E.fn 120)) #[] #[]] H (fun u H' => H.le H' ∧ SlAt H' 1 u (apexesC zs zs.length).length (fun i => [S ((apexesC zs zs.length).getD i default).1])) := by
 refine Fn.mono (fn119o h2 hz hn) ?_
 rintro u H' ⟨hle,hcase⟩
 refine ⟨hle,?_⟩
 rcases hcase with ⟨rfl,hnil⟩ | ⟨b,cp,_,rfl,hH⟩
 ·rw [hnil]; exact SlAt.nil
 ·exact SlAt.lit hH (rowS_at _)
end Go.SL
/- Contracts: stages and steps are valid. -/
namespace Go.SL
open Go
variable {E : Env} {H : Hp}
theorem fn17 (hE : Codes E) {v : Value} (p : PlacedD) (hv : SetsAt H v p.sets) : FnP E 17 [.agg #[S p.apex, v]] H (.bool (isStopB p)) := by
 obtain ⟨d,g,⟨a,cap,rfl,hs,hr⟩,hdeep⟩ := hv
 refine Fn.of_vks hE.c17 (by simp [cf17]) ?_
 simp only [cf17,cf17_0,cf17_1,cf17_2]
 simp only [go_sem,Nat.reduceLeDiff,Nat.reduceEqDiff,Nat.reduceBEq,Nat.reduceAdd,reduceCtorEq,binO]
 refine vks_callp _ ?_ (fun hg => ⟨?_,fn44 hE p.apex [42,46]⟩) ?_ <;> simp only [go_sem,Nat.reduceLeDiff,Nat.reduceEqDiff,Nat.reduceBEq,Nat.reduceAdd,binO]
 ·simp only [go_sem,Nat.reduceEqDiff] at hg ⊢; exact hg
 refine vks_callp _ ?_ (fun hg => ⟨?_,fn45 hE p.apex⟩) ?_ <;> simp only [go_sem,Nat.reduceEqDiff,Nat.reduceBEq]
 ·simp only [go_sem,Nat.reduceEqDiff] at hg ⊢; exact hg
 have e : ((p.sets.length : Int) == 0) = (p.sets.length == 0) := by rw [Bool.eq_iff_iff,beq_iff_eq,beq_iff_eq]; omega
 rw [e]; rfl
set_option maxHeartbeats 1000000 in
set_option maxRecDepth 100000 in
theorem fn15 (hE : Codes E) (hB : Base E H) {vz : Value} {zs : List PlacedD} (nh : Int) (hz : PutsAt H vz zs) : FnP E 15 [.agg #[vz], .int .i64 nh] H (.bool (stageOKB zs nh)) := by
 obtain ⟨z,⟨a,cap,rfl,hsp,hr⟩,hdeep⟩ := hz
 refine Fn.of_vks hE.c15 (by simp [cf15]) ?_
 simp only [cf15,cf15_0,cf15_1,cf15_2,cf15_3,cf15_4,cf15_5,cf15_6,cf15_7,cf15_8,cf15_9,cf15_10,cf15_11,cf15_12]
 simp only [go_sem,Nat.reduceEqDiff,Nat.reduceBEq,reduceCtorEq,binO]
 have hc : decide ((zs.length : Int) > 500) = !decide (zs.length ≤ 500) := by rw [Bool.eq_iff_iff,Bool.not_eq_true',decide_eq_true_eq,decide_eq_false_iff_not]; omega
 rw [hc]
 refine ⟨fun h => ?_,fun h => ?_⟩
 ·rw [Bool.not_eq_true'] at h; simp only [stageOKB,h,Bool.false_and]
 have hn : zs.length ≤ 500 := by simpa using h
 have ho : stageOKB zs nh = allN (putOk nh zs) zs.length := by simp only [stageOKB,hn,decide_true,Bool.true_and]
 rw [ho]
 intro b3 hb3
 refine vks_loopP zs.length 0 (fun k fr' H' => fr' = [(1, ⟨true, .val (.int .i64 nh)⟩), (5, ⟨true, .val (.map (some b3))⟩), (15, ⟨true, .val (.slice a zs.length cap)⟩), (16, ⟨true, .val (.int .i64 zs.length)⟩), (17, ⟨true, .val (.int .i64 k)⟩)] ∧
   allN (putOk nh zs) k = true ∧ ∃ o3,H' = H.put b3 o3 ∧ (∀ H0 : Hp,MapAt (H0.put b3 o3) b3 ((pairsN zs k).map fun e => (encP e.1,.bool e.2)))) (Nat.zero_le _) ⟨rfl,rfl,_,rfl,fun H0 => ⟨#[],0,Hp.put_same ..,rfl⟩⟩ ?_
 rintro k fr' H' hk ⟨rfl,hP,o3,rfl,hM3⟩
 have hle : H.le (H.put b3 o3) := le_put hb3 _
 by_cases hlt : k < zs.length
 ·have hd : decide ((k : Int) < (zs.length : Int)) = true := by simpa using hlt
  have hF : putOk nh zs k = false → false = allN (putOk nh zs) zs.length := fun h => (allN_false hlt h).symm
  have hS : putOk nh zs k = true → allN (putOk nh zs) (k + 1) = true := fun h => allN_succ hP h
  have hr' := hr (by omega)
  obtain ⟨b,o,vs,c,wr,ha,hb,hi⟩ := hr'
  subst ha
  have hb1 := hle _ _ hb
  have hi1 := (hi k hlt).1
  have hi2 := (hi k hlt).2
  have hzk := (hdeep k hlt).mono hle
  have hz1 : one1 (z k) = true := by obtain ⟨d,g,h,_⟩ := hzk; exact SlAt.one h
  obtain ⟨x,hx⟩ : ∃ y,zs.getD k default = y := ⟨_,rfl⟩
  rw [hx] at hzk
  have hok : putOk nh zs k = !(decide (x.host < 0) || decide (x.host ≥ nh) || (mget x.key (pairsN zs k)).getD false || (!isStopB x && !zoneValid x.apex x.sets)) := by rw [← hx]; rfl
  simp only [hd,hb1,hi2,rPlaced,hx,hz1,go_sem,Nat.reduceLeDiff,Nat.reduceEqDiff,Nat.reduceBEq,Nat.reduceAdd,binO]
  refine ⟨⟨by omega,by omega⟩,hi1,fun h => ⟨h,h⟩,?_⟩
  have hzv : FnP E 43 [.agg #[S x.apex,z k]] (H.put b3 o3) (.bool (zoneValid x.apex x.sets)) := fn43 hE (hB.mono hle) x.apex hzk
  have hst : FnP E 17 [.agg #[S x.apex,z k]] (H.put b3 o3) (.bool (isStopB x)) := fn17 hE x hzk
  obtain ⟨q,hq⟩ : ∃ q,(decide (x.host < 0) || decide (x.host ≥ nh)) = q := ⟨_,rfl⟩
  rw [hq] at hok ⊢
  cases q with
  | true =>
   refine vks_skipB (by intro x h; cases h) (by intro f a h; cases h) ?_ ?_ ?_
   ·simp only [go_sem,Nat.reduceEqDiff]
   ·simp only [go_sem,Nat.reduceEqDiff]
   simp only [go_sem,Nat.reduceEqDiff,Nat.reduceBEq,Nat.reduceAdd,↓simT_pick_t]
   refine vks_callp (.bool (isStopB x)) ?_ (fun hg => absurd hg ?_) ?_ <;> simp only [go_sem,Nat.reduceEqDiff,Nat.reduceBEq,Nat.reduceAdd]
   ·simp
   refine vks_callp (.bool (zoneValid x.apex x.sets)) ?_ (fun hg => absurd hg ?_) ?_ <;> simp only [go_sem,Nat.reduceEqDiff,Nat.reduceBEq,Nat.reduceAdd,↓simT_pick_t]
   ·simp
   ·exact ⟨hF hok,hle⟩
  | false =>
   rw [Bool.false_or] at hok
   refine vks_useB (by intro x h; cases h) (by intro f a h; cases h) ?_ ?_ ?_
   ·simp only [go_sem,Nat.reduceEqDiff]
   ·simp only [go_sem,Nat.reduceEqDiff]
   refine vks_look (enc := encP) (encv := fun b => .bool b) (l := pairsN zs k) (b := b3) x.key keyP (keyIsP _) ?_ ?_ ?_ ?_ (hM3 H) ?_
   ·simp only [go_sem,Nat.reduceEqDiff]
   ·simp only [go_sem,Nat.reduceEqDiff]
   ·simp only [go_sem,Nat.reduceEqDiff]
   ·simp only [go_sem,Nat.reduceEqDiff]; rfl
   have hv : ((mget x.key (pairsN zs k)).map (fun b => Value.bool b)).getD (.bool false) = .bool ((mget x.key (pairsN zs k)).getD false) := by
    cases mget x.key (pairsN zs k) <;> rfl
   rw [hv]
   simp only [go_sem,Nat.reduceEqDiff,Nat.reduceBEq,Nat.reduceAdd]
   refine vks_callp _ ?_ (fun hg => ⟨?_,hst⟩) ?_ <;> simp only [go_sem,Nat.reduceEqDiff,Nat.reduceBEq,Nat.reduceAdd]
   ·simp only [go_sem,Nat.reduceEqDiff] at hg ⊢; exact hg
   refine vks_callp _ ?_ (fun hg => ⟨?_,hzv⟩) ?_ <;> simp only [go_sem,Nat.reduceEqDiff,Nat.reduceBEq,Nat.reduceAdd]
   ·simp only [go_sem,Nat.reduceEqDiff] at hg ⊢; exact hg
   refine ⟨fun h1 => ⟨h1,fun h2 => by rw [h1,h2]; rfl⟩,fun h1 => ⟨hF ?_,hle⟩,fun h1 => ?_⟩
   ·rw [hok,h1]; rfl
   rw [h1] at hok
   refine vks_upd (enc := encP) (encv := fun b => .bool b) (l := pairsN zs k) (b := b3) x.key true keyP (keyIsP _) ?_ ?_ ?_ ?_ ?_ ?_ (hM3 H) ?_
   ·simp only [go_sem,Nat.reduceEqDiff]
   ·simp only [go_sem,Nat.reduceEqDiff]
   ·simp only [go_sem]
   ·simp only [go_sem,Nat.reduceEqDiff]
   ·simp only [go_sem,Nat.reduceEqDiff]; rfl
   ·simp only [go_sem]
   intro o3' hM3'
   simp only [go_sem,Nat.reduceEqDiff,Nat.reduceBEq,binO]
   refine ⟨hlt,wrapS (by omega),hS hok,o3',rfl,fun H0 => ?_⟩
   have := hM3' H0; rw [← hx] at this; exact this
 ·have hd : decide ((k : Int) < (zs.length : Int)) = false := by simpa using hlt
  have : k = zs.length := by omega
  subst this
  simp only [hd,go_sem,Nat.reduceLeDiff,Nat.reduceEqDiff,Nat.reduceBEq,Nat.reduceAdd,binO]
  exact ⟨hP.symm,hle⟩
def lastSt (l : List StepD) : Nat → Int
 | 0 => -1
 | k + 1 => (l.getD k default).at_
def stepOk (e nh : Int) (l : List StepD) (i : Nat) : Bool := !(decide ((l.getD i default).at_ ≤ lastSt l i) || decide ((l.getD i default).at_ ≥ e) || !stageOKB (l.getD i default).puts nh)
def stepsOKB (e nh : Int) (l : List StepD) : Bool := decide (l.length ≤ 400) && allN (stepOk e nh l) l.length
set_option maxHeartbeats 1000000 in
theorem fn49 (hE : Codes E) (hB : Base E H) {v vl : Value} {h : HistD} {l : List StepD} (hh : HistAt H v h) (hl : StepsAt H vl l) : FnP E 49 [v, vl] H (.bool (stepsOKB h.end_ h.hosts.length l)) := by
 obtain ⟨vh,vc,vd,vi,rfl,g1,g2,g3,g4⟩ := hh
 have hh1 := SlAt.one g1
 have hc1 := CopiesAt.one g2
 have hd1 := SlAt.one g3
 have hi1 := SlAt.one g4
 have hvh := HostsAt.sl g1
 obtain ⟨ah,ch,rfl⟩ := hvh
 obtain ⟨z,⟨a,cap,rfl,hsp,hr⟩,hdeep⟩ := hl
 refine Fn.of_vks hE.c49 (by simp [cf49]) ?_
 simp only [cf49,cf49_0,cf49_1,cf49_2,cf49_3,cf49_4,cf49_5,cf49_6,cf49_7,cf49_8,cf49_9,cf49_10,cf49_11]
 simp only [go_sem,Nat.reduceEqDiff,Nat.reduceBEq,reduceCtorEq,binO]
 have hc : decide ((l.length : Int) > 400) = !decide (l.length ≤ 400) := by rw [Bool.eq_iff_iff,Bool.not_eq_true',decide_eq_true_eq,decide_eq_false_iff_not]; omega
 rw [hc]
 refine ⟨fun hq => ?_,fun hq => ?_⟩
 ·rw [Bool.not_eq_true'] at hq; simp only [stepsOKB,hq,Bool.false_and]
 have hn : l.length ≤ 400 := by simpa using hq
 have ho : ∀ e nh,stepsOKB e nh l = allN (stepOk e nh l) l.length := by intro e nh; simp only [stepsOKB,hn,decide_true,Bool.true_and]
 rw [ho]
 refine vks_loopN l.length 0 (fun k => [(2,⟨true,.box [.slice ah h.hosts.length ch,vc,S h.aname,.int .i64 h.atype,.int .i64 h.alife,vd,vi,.int .i64 h.drift,.int .i64 h.end_]⟩),(5,⟨true,.val (.int .i64 (lastSt l k))⟩),(11,⟨true,.val (.slice a l.length cap)⟩),(12,⟨true,.val (.int .i64 l.length)⟩),(13,⟨true,.val (.int .i64 k)⟩)]) (fun k => allN (stepOk h.end_ h.hosts.length l) k = true) (Nat.zero_le _) rfl rfl ?_
 intro k hk hP
 by_cases hlt : k < l.length
 ·have hd : decide ((k : Int) < (l.length : Int)) = true := by simpa using hlt
  have hF := fun hx => (allN_false (P := stepOk h.end_ h.hosts.length l) hlt hx).symm
  have hS := fun hx => allN_succ hP hx
  have hr' := hr (by omega)
  obtain ⟨b,o,vs,c,wr,ha,hb,hi⟩ := hr'
  subst ha
  have hi1' := (hi k hlt).1
  have hi2 := (hi k hlt).2
  have hzk := hdeep k hlt
  have hz1 : one1 (z k) = true := PutsAt.one hzk
  have hok : ∀ e nh,stepOk e nh l k = !(decide ((l.getD k default).at_ ≤ lastSt l k) || decide ((l.getD k default).at_ ≥ e) || !stageOKB (l.getD k default).puts nh) := fun _ _ => rfl
  have hla : lastSt l (k + 1) = (l.getD k default).at_ := rfl
  obtain ⟨x,hx⟩ : ∃ y,l.getD k default = y := ⟨_,rfl⟩
  rw [hx] at hzk hok hla
  simp only [hd,hb,hi2,rStep,hx,hz1,go_sem,Nat.reduceLeDiff,Nat.reduceEqDiff,Nat.reduceBEq,Nat.reduceAdd,binO]
  refine ⟨⟨by omega,by omega⟩,hi1',fun h => ⟨h,h⟩,?_⟩
  refine vks_callp _ ?_ (fun hg => ⟨?_,fn15 hE hB (h.hosts.length : Int) hzk⟩) ?_ <;> simp only [go_sem,Nat.reduceLeDiff,Nat.reduceEqDiff,Nat.reduceBEq,Nat.reduceAdd,binO]
  ·simp only [go_sem,Nat.reduceEqDiff] at hg ⊢; exact ⟨hg,hg⟩
  refine ⟨fun h1 => hF (by rw [hok,h1]; rfl),fun h1 => ⟨hlt,⟨hla.symm,wrapS (by omega)⟩,hS (by rw [hok,h1]; rfl)⟩⟩
 ·have hd : decide ((k : Int) < (l.length : Int)) = false := by simpa using hlt
  have : k = l.length := by omega
  subst this
  simp only [hd,go_sem,Nat.reduceEqDiff,Nat.reduceBEq,Nat.reduceAdd,binO]
  exact hP.symm
theorem fn28 (hE : Codes E) (hB : Base E H) {v vl : Value} {h : HistD} {l : List StepD} {q : Bool} (hh : HistAt H v h) (hl : StepsAt H vl l) (h48 : FnP E 48 [v] H (.bool q)) :
  FnP E 28 [v,vl] H (.bool (q && stepsOKB h.end_ h.hosts.length l)) := by
 have hf := fn49 hE hB hh hl
 obtain ⟨vh,vc,vd,vi,rfl,g1,g2,g3,g4⟩ := hh
 have hh1 := SlAt.one g1
 have hc1 := CopiesAt.one g2
 have hd1 := SlAt.one g3
 have hi1 := SlAt.one g4
 refine Fn.of_vks hE.c28 (by simp [cf28]) ?_
 simp only [cf28,cf28_0,cf28_1]
 simp only [go_sem,Nat.reduceEqDiff,Nat.reduceBEq,Nat.reduceAdd,reduceCtorEq]
 refine vks_callp _ ?_ (fun _ => ⟨?_,h48⟩) ?_ <;> simp only [go_sem,Nat.reduceEqDiff,Nat.reduceBEq,Nat.reduceAdd]
 refine vks_callp _ ?_ (fun hg => ⟨?_,hf⟩) ?_ <;> simp only [go_sem,Nat.reduceEqDiff,Nat.reduceBEq]
 ·simp only [go_sem,Nat.reduceEqDiff] at hg ⊢; exact ⟨hg,hg⟩
end Go.SL
