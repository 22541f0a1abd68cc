/- Contract: history.Valid of a history of at most twelve copies. -/
import Derived.Test.YtloknibdaldffaaGreatDoorNplQ
import Derived.Test.YtloknibdaldffaaGreatDoorNplT29
import Derived.Test.YtloknibdaldffaaGreatDoorNplT14
namespace Go.SL
open Go
variable {E : Env} {H : Hp}
def spanOf (c : CopyD) : SpanD := ⟨c.from_,c.till⟩
def CopyD.key (c : CopyD) : Pair := (c.host,c.apex)
def timesN (cs : List CopyD) : Nat → List (Pair × List SpanD)
 | 0 => []
 | k + 1 => mput (cs.getD k default).key (((mget (cs.getD k default).key (timesN cs k)).getD []) ++ [spanOf (cs.getD k default)]) (timesN cs k)
def hcopyBad (nh e : Int) (c : CopyD) : Bool := decide (c.host < 0) || decide (c.host ≥ nh) || decide (c.from_ < 0) || decide (c.from_ ≥ c.till) || decide (c.till > e)
def hcopyOk (nh e : Int) (c : CopyD) : Bool := !hcopyBad nh e c && zoneValid c.apex c.sets
def apartB (l : List SpanD) : Bool := allN (fun i => !decide ((l.getD (i + 1) default).from_ < (l.getD i default).till)) (l.length - 1)
def placeOk (l : List SpanD) : Bool := apartB (sortN ltSpan l.length l)
def headBad (h : HistD) : Bool := decide (h.end_ < 1) || decide (h.end_ > 10000000) || decide (h.drift < 0) || decide (h.drift > 1000) || decide ((h.copies.length : Int) > 4000)
def hostsPart (h : HistD) : WorldD := ⟨h.hosts,[],h.aname,h.atype,h.alife,h.adata,h.hints⟩
def histValid (h : HistD) : Bool := !headBad h && (worldValid (hostsPart h) && (allN (fun i => hcopyOk h.hosts.length h.end_ (h.copies.getD i default)) h.copies.length &&
 (allN (fun i => placeOk ((timesN h.copies h.copies.length).getD i default).2) (timesN h.copies h.copies.length).length && decide ((apexesC h.copies h.copies.length).length ≤ 500))))
theorem countP_lt {α : Type} {p q : α → Bool} : ∀ {l : List α}, (∀ x, q x = true → p x = true) → ∀ {a}, a ∈ l → p a = true → q a = false → l.countP q < l.countP p
 | [],_,_,h,_,_ => by cases h
 | y :: l, hpq, a, h, hp, hq => by
  have hm : l.countP q ≤ l.countP p := List.countP_mono_left fun x _ => hpq x
  simp only [List.countP_cons]
  rcases List.mem_cons.1 h with rfl | h'
  ·simp [hp,hq]; omega
  ·have ih := countP_lt hpq h' hp hq
   have h1 : (if q y = true then 1 else 0) ≤ (if p y = true then 1 else 0) := by
    cases hqy : q y with
    | true => simp [hpq y hqy]
    | false => simp
   omega
def unseen (n : Nat) (seen : Array Nat) : Nat := (List.range n).countP fun i => !seen.contains i
theorem contains_push' (s : Array Nat) (i j : Nat) : (s.push i).contains j = (s.contains j || j == i) := by
 rw [Bool.eq_iff_iff]; simp
theorem unseen_push {n : Nat} {seen : Array Nat} {i : Nat} (hi : i < n) (hs : seen.contains i = false) : unseen n (seen.push i) < unseen n seen := by
 refine countP_lt (fun x hx => ?_) (List.mem_range.2 hi) (by rw [hs]; rfl) (by rw [contains_push']; simp)
 rw [contains_push'] at hx
 simp at hx ⊢
 exact hx.1
theorem TimesAt.mono {H G G' : Hp} {b3 : Nat} {es : Array MapEntry} {blk cp : Nat → Nat} {L : List (Pair × List SpanD)} {out : Nat → Prop} (h : TimesAt H G b3 es blk cp L out) (hl : G.le G') : TimesAt H G' b3 es blk cp L out :=
 ⟨hl _ _ h.map,h.size,h.ent,h.old,h.ne3,fun i hi ho => hl _ _ (h.row i hi ho),h.inj⟩
theorem mput_len {κ ν : Type} [DecidableEq κ] (k : κ) (v : ν) : ∀ l : List (κ × ν), (mput k v l).length ≤ l.length + 1
 | [] => by simp [mput]
 | (k', v') :: r => by
  simp only [mput]
  split
  ·simp
  ·have := mput_len k v r; simp; omega
theorem mem_mput {κ ν : Type} [DecidableEq κ] {k : κ} {v : ν} {e : κ × ν} : ∀ {l : List (κ × ν)}, e ∈ mput k v l → e = (k, v) ∨ e ∈ l
 | [],h => by simpa [mput] using h
 | (k', v') :: r, h => by
  simp only [mput] at h
  split at h
  ·rcases List.mem_cons.1 h with h | h
   ·exact .inl h
   ·exact .inr (List.mem_cons_of_mem _ h)
  ·rcases List.mem_cons.1 h with h | h
   ·exact .inr (by rw [h]; exact List.mem_cons_self)
   ·rcases mem_mput h with h | h
    ·exact .inl h
    ·exact .inr (List.mem_cons_of_mem _ h)
theorem mget_mem {κ ν : Type} [DecidableEq κ] {k : κ} {v : ν} : ∀ {l : List (κ × ν)}, mget k l = some v → (k, v) ∈ l
 | [],h => by cases h
 | (k', v') :: r, h => by
  simp only [mget] at h
  split at h
  ·rename_i e; cases h; rw [e]; exact List.mem_cons_self
  ·exact List.mem_cons_of_mem _ (mget_mem h)
theorem timesN_le (cs : List CopyD) : ∀ k, ∀ e ∈ timesN cs k, e.2.length ≤ k
 | 0,e,h => by cases h
 | k + 1, e, h => by
  simp only [timesN] at h
  rcases mem_mput h with rfl | h
  ·simp only [List.length_append,List.length_singleton]
   cases hg : mget (cs.getD k default).key (timesN cs k) with
   | none => simp
   | some l => simp only [Option.getD_some]; have := timesN_le cs k _ (mget_mem hg); simp at this; omega
  ·have := timesN_le cs k e h; omega
set_option maxHeartbeats 2000000 in
set_option maxRecDepth 100000 in
theorem fn48g (hE : Codes E) (h2 : Codes2 E) (hB : Base E H) {v : Value} {h : HistD} (hh : HistAt H v h) (hn : h.copies.length ≤ 12) : FnP E 48 [v] H (.bool (histValid h)) := by
 obtain ⟨vh,vc,vd,vi,rfl,g1,g2,g3,g4⟩ := hh
 have hh1 := SlAt.one g1
 have hd1 := SlAt.one g3
 have hi1 := SlAt.one g4
 have hc1 := CopiesAt.one g2
 have g2' := g2
 obtain ⟨z,⟨a,cap,rfl,hsp,hr⟩,hdeep⟩ := g2'
 have hvh := HostsAt.sl g1
 obtain ⟨ah,ch,rfl⟩ := hvh
 have hvd := SlAt.sl g3
 obtain ⟨ad,cd,rfl⟩ := hvd
 have hvi := SlAt.sl g4
 obtain ⟨ai,ci,rfl⟩ := hvi
 have hWA : WorldAt H (.agg #[.slice ah h.hosts.length ch,.slice none 0 0,S h.aname,.int .i64 h.atype,.int .i64 h.alife,.slice ad h.adata.length cd,.slice ai h.hints.length ci]) (hostsPart h) := ⟨_,_,_,_,rfl,g1,PutsAt.nil0,g3,g4⟩
 have hfw := fn14 hE hB hWA
 obtain ⟨cs,hcs⟩ : ∃ x,x = h.copies := ⟨_,rfl⟩
 have hval : histValid h = (!headBad h && (worldValid (hostsPart h) && (allN (fun i => hcopyOk h.hosts.length h.end_ (cs.getD i default)) cs.length &&
  (allN (fun i => placeOk ((timesN cs cs.length).getD i default).2) (timesN cs cs.length).length && decide ((apexesC cs cs.length).length ≤ 500))))) := by rw [hcs]; rfl
 have hhb : headBad h = (decide (h.end_ < 1) || decide (h.end_ > 10000000) || decide (h.drift < 0) || decide (h.drift > 1000) || decide ((cs.length : Int) > 4000)) := by rw [hcs]; rfl
 rw [← hcs] at g2 hr hdeep hn hsp
 rw [← hcs]
 refine Fn.of_vks h2.c48 (by simp [cf48]) ?_
 simp only [cf48,cf48_0,cf48_1,cf48_2,cf48_3,cf48_4,cf48_5,cf48_6,cf48_7,cf48_8,cf48_9,cf48_10,cf48_11,cf48_12,cf48_13,cf48_14,cf48_15,cf48_16,cf48_17,cf48_18,cf48_19,cf48_20,cf48_21,cf48_23,cf48_24,cf48_22,cf48_25]
 simp only [go_sem,Nat.reduceLeDiff,Nat.reduceEqDiff,Nat.reduceBEq,Nat.reduceAdd,reduceCtorEq,binO]
 refine ⟨fun hq => ?_,fun hq => ?_⟩
 ·rw [hval,hhb,hq]; rfl
 have hq1 : headBad h = false := by rw [hhb]; exact hq
 refine vks_callp (.bool (worldValid (hostsPart h))) ?_ (fun _ => ⟨?_,hfw⟩) ?_ <;> simp only [go_sem,Nat.reduceLeDiff,Nat.reduceEqDiff,Nat.reduceBEq,Nat.reduceAdd]
 refine ⟨fun hq => ?_,fun hq2 => ?_⟩
 ·rw [hval,hq1,hq]; rfl
 intro b3 hb3
 have hPS := fun k => allN (fun i => hcopyOk h.hosts.length h.end_ (cs.getD i default)) k = true
 refine vks_loopP cs.length 0 (fun k fr' G => fr' = [(1, ⟨true, .box [.slice ah h.hosts.length ch, .slice a cs.length cap, S h.aname, .int .i64 h.atype, .int .i64 h.alife, .slice ad h.adata.length cd, .slice ai h.hints.length ci, .int .i64 h.drift, .int .i64 h.end_]⟩), (3, ⟨true, .val (.map (some b3))⟩), (45, ⟨true, .val (.slice a cs.length cap)⟩), (46, ⟨true, .val (.int .i64 cs.length)⟩), (47, ⟨true, .val (.int .i64 k)⟩)] ∧
   H.le G ∧ allN (fun i => hcopyOk h.hosts.length h.end_ (cs.getD i default)) k = true ∧ ∃ es blk cp,TimesAt H G b3 es blk cp (timesN cs k) (fun _ => False)) (Nat.zero_le _)
   ⟨rfl,le_put hb3 _,rfl,#[],fun _ => 0,fun _ => 0,Hp.put_same ..,rfl,fun i hi => by simp at hi,fun i hi => by simp [timesN] at hi,fun i hi => by simp [timesN] at hi,fun i hi => by simp [timesN] at hi,fun i j hi => by simp [timesN] at hi⟩ ?_
 rintro k fr' G hk ⟨rfl,hle,hok,es,blk,cp,hT⟩
 by_cases hlt : k < cs.length
 ·have hd : decide ((k : Int) < (cs.length : Int)) = true := by simpa using hlt
  have hr' := hr (by omega)
  obtain ⟨b,o,vs,c,wr,ha,hb,hi⟩ := hr'
  subst ha
  have hb1 := hle _ _ hb
  have k1 := (hi k hlt).1
  have k2 := (hi k hlt).2
  have hz0 := hdeep k hlt
  have hz1 : one1 (z k) = true := by obtain ⟨d,g,h,_⟩ := hz0; exact SlAt.one h
  have hF := fun hx => allN_false (P := fun i => hcopyOk h.hosts.length h.end_ (cs.getD i default)) hlt hx
  have hS := fun hx => allN_succ (P := fun i => hcopyOk h.hosts.length h.end_ (cs.getD i default)) hok hx
  have hnext : timesN cs (k + 1) = mput (cs.getD k default).key (((mget (cs.getD k default).key (timesN cs k)).getD []) ++ [spanOf (cs.getD k default)]) (timesN cs k) := rfl
  obtain ⟨x,hx⟩ : ∃ y,cs.getD k default = y := ⟨_,rfl⟩
  have hfz := fn43 hE (hB.mono hle) (cs.getD k default).apex (hz0.mono hle)
  rw [hx] at hfz hF hS hnext
  have hbad : hcopyBad h.hosts.length h.end_ x = (decide (x.host < 0) || decide (x.host ≥ (h.hosts.length : Int)) || decide (x.from_ < 0) || decide (x.from_ ≥ x.till) || decide (x.till > h.end_)) := rfl
  simp only [hd,hb1,k2,rCopy,hx,hz1,go_sem,Nat.reduceLeDiff,Nat.reduceEqDiff,Nat.reduceBEq,Nat.reduceAdd,binO]
  refine ⟨⟨by omega,by omega⟩,k1,fun h => ⟨h,h⟩,fun h => ⟨h,h⟩,fun h => ⟨h,h⟩,fun hq => ?_,fun hq => ?_⟩
  ·have := hF (by simp only [hcopyOk,hbad,hq]; rfl)
   rw [hval,hq1,hq2,this]; exact ⟨rfl,hle⟩
  refine vks_callp (.bool (zoneValid x.apex x.sets)) ?_ (fun _ => ⟨?_,hfz⟩) ?_ <;> simp only [go_sem,Nat.reduceLeDiff,Nat.reduceEqDiff,Nat.reduceBEq,Nat.reduceAdd]
  refine ⟨fun hq' => ?_,fun hq' => ?_⟩
  ·have := hF (by simp only [hcopyOk,hq']; simp)
   rw [hval,hq1,hq2,this]; exact ⟨rfl,hle⟩
  have hokx := hS (by simp only [hcopyOk,hbad,hq,hq']; rfl)
  intro bx hbx
  have hbx3 : bx ≠ b3 := by rintro rfl; rw [hT.map] at hbx; cases hbx
  have hHbx : H bx = none := by
   cases hq : H bx with
   | none => rfl
   | some o => rw [hle _ _ hq] at hbx; cases hbx
  obtain ⟨G0,hG0⟩ : ∃ y,y = G.put bx (.row [.int .i64 x.from_,.int .i64 x.till] 2 true) := ⟨_,rfl⟩
  have hGx : G0 bx = some (.row [.int .i64 x.from_,.int .i64 x.till] 2 true) := by rw [hG0,Hp.put_same]
  have hGle : H.le G0 := by rw [hG0]; exact hle.trans (le_put hbx _)
  have hT0 : TimesAt H G0 b3 es blk cp (timesN cs k) (fun _ => False) := by rw [hG0]; exact hT.mono (le_put hbx _)
  have hnebx : ∀ i,i < (timesN cs k).length → blk i ≠ bx := by rintro i hi rfl; rw [hT.row i hi (fun h => h)] at hbx; cases hbx
  rw [← hG0]
  have hmf := mfind_idx (ag := true) (ks := [.i,.s]) (enc := fun p : Pair => .agg #[.int .i64 p.1,S p.2]) keyP x.key es.toList (timesN cs k) 0 hT0.keys
  have hkey : (Value.agg #[.int .i64 x.host,S x.apex]) = (fun p : Pair => (.agg #[.int .i64 p.1,S p.2] : Value)) x.key := rfl
  refine vks_big (by intro x h; cases h) (by intro f a h; cases h) ?_
  cases hg : mget x.key (timesN cs k) with
  | none =>
   have hm := hmf.1 hg
   rw [hg] at hnext
   rw [Option.getD_none,List.nil_append,mput_new hg] at hnext
   refine ⟨?_,?_,?_,b3,es,es.size,?_,hT0.map,.inr ⟨?_,?_⟩⟩
   ·simp only [go_sem,Nat.reduceEqDiff]
   ·simp only [go_sem,Nat.reduceEqDiff]
   ·simp only [go_sem,Nat.reduceEqDiff,Nat.reduceAdd,keyIs]
   ·simp only [go_sem,Nat.reduceEqDiff]
   ·simp only [go_sem,Nat.reduceEqDiff]; exact hm
   simp only [go_sem,Nat.reduceLT,Nat.reduceEqDiff,Nat.reduceBEq,Nat.reduceAdd]
   obtain ⟨G1,hG1⟩ : ∃ y,y = G0.put b3 (.obj (.map (es.push { key := .agg #[.int .i64 x.host,S x.apex],val := .slice none 0 0,born := es.size }) (es.size + 1))) := ⟨_,rfl⟩
   rw [← hG1]
   have hG1x : G1 bx = some (.row [.int .i64 x.from_,.int .i64 x.till] 2 true) := by rw [hG1,Hp.put_ne _ _ hbx3]; exact hGx
   have hG13 : G1 b3 = some (.obj (.map (es.push { key := .agg #[.int .i64 x.host,S x.apex],val := .slice none 0 0,born := es.size }) (es.size + 1))) := by rw [hG1,Hp.put_same]
   have hG1le : H.le G1 := by rw [hG1]; exact le_put_of_le hGle hb3 _
   have hsO : srcOk G1 2 (.slice (some ⟨bx,0,none⟩) 1 1) := .inr ⟨rfl,by rw [hG1x]; simp⟩
   have hsC : srcCells G1 2 (.slice (some ⟨bx,0,none⟩) 1 1) = [.int .i64 x.from_,.int .i64 x.till] := by simp [srcCells,hG1x]
   refine vks_app0 ?_ ?_ hsO (by show (srcCells G1 2 (.slice (some ⟨bx,0,none⟩) 1 1)).all one1 = true; rw [hsC]; rfl) ?_ (by show 1 * 16 ≤ _; omega) (by show 1 ≤ _; omega) (fun h => by cases h) ?_
   ·simp only [go_sem,Nat.reduceEqDiff]
   ·simp only [go_sem,Nat.reduceEqDiff]
   ·simp only [go_sem,Nat.reduceEqDiff]
   intro _ by_ cpn hby
   simp only [srcLen,hsC,go_sem,Nat.reduceLT,Nat.reduceEqDiff,Nat.reduceBEq,Nat.reduceAdd]
   have hby3 : by_ ≠ b3 := by rintro rfl; rw [hG13] at hby; cases hby
   have hHby : H by_ = none := by
    cases hq : H by_ with
    | none => rfl
    | some o => rw [hG1le _ _ hq] at hby; cases hby
   have hrows : ∀ i, i < (timesN cs k).length → G1 (blk i) = some (.row (flat ((timesN cs k).getD i default).2.length (rSpan ((timesN cs k).getD i default).2)) (cp i * 2) true) := fun i hi => by
    rw [hG1,Hp.put_ne _ _ (hT.ne3 i hi)]; exact hT0.row i hi (fun h => h)
   have hneby : ∀ i,i < (timesN cs k).length → blk i ≠ by_ := by rintro i hi rfl; rw [hrows i hi] at hby; cases hby
   obtain ⟨G2,hG2⟩ : ∃ y,y = G1.put by_ (.row [.int .i64 x.from_,.int .i64 x.till] (cpn * 2) true) := ⟨_,rfl⟩
   rw [← hG2]
   have hG23 : G2 b3 = some (.obj (.map (es.push { key := .agg #[.int .i64 x.host,S x.apex],val := .slice none 0 0,born := es.size }) (es.size + 1))) := by rw [hG2,Hp.put_ne _ _ (Ne.symm hby3)]; exact hG13
   have hG2le : H.le G2 := by rw [hG2]; exact hG1le.trans (le_put hby _)
   refine vks_big (by intro x h; cases h) (by intro f a h; cases h) ?_
   have hbp : ∀ i (hi : i < (es.push { key := .agg #[.int .i64 x.host, S x.apex], val := .slice none 0 0, born := es.size }).size), ((es.push { key := .agg #[.int .i64 x.host, S x.apex], val := .slice none 0 0, born := es.size })[i]'hi).born = i := by
    intro i hi
    rw [Array.getElem_push]
    split
    ·exact hT.born i (by assumption)
    ·simp at hi; simp; omega
   refine ⟨?_,?_,?_,b3,.i64,((es.size : Nat) : Int),_,es.size + 1,es.size,?_,?_,hG23,born_idx hbp (by simp),?_⟩
   ·simp only [go_sem,Nat.reduceEqDiff]
   ·simp only [go_sem,Nat.reduceEqDiff]
   ·simp only [go_sem,Nat.reduceEqDiff]
   ·simp only [go_sem,Nat.reduceEqDiff]
   ·simp only [go_sem,Nat.reduceEqDiff]
   simp only [go_sem,Nat.reduceEqDiff,Nat.reduceBEq,binO]
   have hsz : (timesN cs (k + 1)).length = (timesN cs k).length + 1 := by rw [hnext]; simp
   refine ⟨hlt,wrapS (by omega),le_put_of_le hG2le hb3 _,hokx,(es.push { key := .agg #[.int .i64 x.host,S x.apex],val := .slice none 0 0,born := es.size }).modify es.size (fun e => { e with val := .slice (some ⟨by_,0,none⟩) 1 cpn }),upN blk es.size by_,upN cp es.size cpn,?_⟩
   refine ⟨?_,?_,?_,?_,?_,?_,?_⟩
   ·rw [Hp.put_same]; simp
   ·rw [hsz]; simp [hT.size]
   ·intro i hi
    simp at hi
    rw [hnext,Array.getElem_modify,Array.getElem_push]
    by_cases e : i = es.size
    ·subst e
     simp [hT.size,upN,CopyD.key]
    ·have hi' : i < es.size := by omega
     have hi2 : i < (timesN cs k).length := by rw [← hT.size]; exact hi'
     rw [if_neg (Ne.symm e),dif_pos hi',hT.ent i hi']
     simp [upN,e,List.getElem?_append_left hi2]
   ·intro i hi
    simp only [upN]
    split
    ·exact hHby
    ·exact hT.old i (by have := hT.size; omega)
   ·intro i hi
    simp only [upN]
    split
    ·exact hby3
    ·exact hT.ne3 i (by have := hT.size; omega)
   ·intro i hi _
    simp only [upN]
    by_cases e : i = es.size
    ·rw [if_pos e,if_pos e,Hp.put_ne _ _ hby3,hG2,Hp.put_same,hnext,e,hT.size]
     simp [spanOf,flat,rSpan]
    ·have hi2 : i < (timesN cs k).length := by have := hT.size; omega
     rw [if_neg e,if_neg e,Hp.put_ne _ _ (hT.ne3 i hi2),hG2,Hp.put_ne _ _ (hneby i hi2),hrows i hi2,hnext]
     simp [List.getElem?_append_left hi2]
   ·intro i j hi hji
    have := hT.size
    simp only [upN]
    rw [if_neg (show j ≠ es.size by omega)]
    split
    ·exact hneby j (by omega)
    ·exact hT.inj i j (by omega) hji
  | some l =>
   obtain ⟨i0,hi0,hgi,hm,hput⟩ := hmf.2 l hg
   rw [hg] at hnext
   rw [Option.getD_some,hput] at hnext
   have hi0s : i0 < es.size := by rw [hT.size]; exact hi0
   have hent := hT.ent i0 hi0s
   rw [hgi] at hent
   have hval0 : (es.toList.getD i0 default).val = .slice (some ⟨blk i0, 0, none⟩) l.length (cp i0) := by
    simp [List.getD_eq_getElem?_getD,hi0s,hent]
   rw [hval0,Nat.zero_add] at hm
   have hborn : ((es[i0]?).map (·.born)).getD 0 = i0 := by simp [hi0s,hent]
   have hborn' : (Option.map (fun x => (x.born : Int)) es[i0]?).getD 0 = (i0 : Int) := by simp [hi0s,hent]
   refine ⟨?_,?_,?_,b3,es,es.size,?_,hT0.map,.inl ⟨i0,.slice (some ⟨blk i0,0,none⟩) l.length (cp i0),?_,?_⟩⟩
   ·simp only [go_sem,Nat.reduceEqDiff]
   ·simp only [go_sem,Nat.reduceEqDiff]
   ·simp only [go_sem,Nat.reduceEqDiff,Nat.reduceAdd,keyIs]
   ·simp only [go_sem,Nat.reduceEqDiff]
   ·simp only [go_sem,Nat.reduceEqDiff]; exact hm
   simp only [go_sem,Nat.reduceLT,Nat.reduceEqDiff,Nat.reduceBEq,Nat.reduceAdd]
   obtain ⟨em,hem⟩ : ∃ y,y = es.modify i0 (fun e => { e with key := .agg #[.int .i64 x.host,S x.apex] }) := ⟨_,rfl⟩
   rw [← hem]
   have hem0 : em = es := by
    rw [hem]
    apply Array.ext
    ·simp
    ·intro i h1 h2
     rw [Array.getElem_modify]
     split
     ·rename_i e; subst e; rw [hent]; rfl
     ·rfl
   rw [hem0]
   rw [put_self hT0.map]
   have hrow0 := hT0.row i0 hi0 (fun h => h)
   rw [hgi] at hrow0
   have hll := timesN_le cs k _ (mget_mem hg)
   simp only at hll hrow0
   have hsO : srcOk G0 2 (.slice (some ⟨bx,0,none⟩) 1 1) := .inr ⟨rfl,by rw [hGx]; simp⟩
   have hsC : srcCells G0 2 (.slice (some ⟨bx,0,none⟩) 1 1) = [.int .i64 x.from_,.int .i64 x.till] := by simp [srcCells,hGx]
   refine vks_appS (b0 := blk i0) (n := l.length) (cap0 := cp i0) (capc := cp i0 * 2) (vs := flat l.length (rSpan l)) ?_ ?_ hsO (by show (srcCells G0 2 (.slice (some ⟨bx,0,none⟩) 1 1)).all one1 = true; rw [hsC]; rfl) ?_ (by show (l.length + 1) * 16 ≤ _; omega) (by show l.length + 1 ≤ _; omega) hrow0 (flat_len fun i _ => rfl) rfl ?_
   ·simp only [go_sem,Nat.reduceEqDiff]
   ·simp only [go_sem,Nat.reduceEqDiff]
   ·simp only [go_sem,Nat.reduceEqDiff]
   intro by_ cpn hby
   simp only [srcLen,hsC,go_sem,Nat.reduceLT,Nat.reduceEqDiff,Nat.reduceBEq,Nat.reduceAdd]
   have hG0d3 : (G0.del (blk i0)) b3 = some (.obj (.map es es.size)) := by rw [Hp.del_ne _ (Ne.symm (hT.ne3 i0 hi0))]; exact hT0.map
   have hby3 : by_ ≠ b3 := by rintro rfl; rw [hG0d3] at hby; cases hby
   have hdle : H.le (G0.del (blk i0)) := le_del (hT.old i0 hi0) hGle
   have hHby : H by_ = none := by
    cases hq : H by_ with
    | none => rfl
    | some o => rw [hdle _ _ hq] at hby; cases hby
   have hneq : ∀ i, i < (timesN cs k).length → i ≠ i0 → blk i ≠ blk i0 := by
    intro i hi hne
    rcases Nat.lt_or_gt_of_ne hne with h | h
    ·exact hT.inj i0 i hi0 h
    ·exact Ne.symm (hT.inj i i0 hi h)
   have hrows : ∀ i, i < (timesN cs k).length → i ≠ i0 → (G0.del (blk i0)) (blk i) = some (.row (flat ((timesN cs k).getD i default).2.length (rSpan ((timesN cs k).getD i default).2)) (cp i * 2) true) := fun i hi hne => by
    rw [Hp.del_ne _ (hneq i hi hne)]; exact hT0.row i hi (fun h => h)
   have hneby : ∀ i,i < (timesN cs k).length → i ≠ i0 → blk i ≠ by_ := by rintro i hi hne rfl; rw [hrows i hi hne] at hby; cases hby
   have hfp := flat_spanpush l (spanOf x)
   simp only [spanOf] at hfp
   obtain ⟨G2,hG2⟩ : ∃ y,y = (G0.del (blk i0)).put by_ (.row (flat l.length (rSpan l) ++ [.int .i64 x.from_,.int .i64 x.till]) (cpn * 2) true) := ⟨_,rfl⟩
   rw [← hG2]
   have hG23 : G2 b3 = some (.obj (.map es es.size)) := by rw [hG2,Hp.put_ne _ _ (Ne.symm hby3)]; exact hG0d3
   have hG2le : H.le G2 := by rw [hG2]; exact hdle.trans (le_put hby _)
   refine vks_big (by intro x h; cases h) (by intro f a h; cases h) ?_
   refine ⟨?_,?_,?_,b3,.i64,((i0 : Nat) : Int),_,es.size,i0,?_,?_,hG23,born_idx hT.born hi0s,?_⟩
   ·simp only [go_sem,Nat.reduceEqDiff]
   ·simp only [go_sem,Nat.reduceEqDiff]
   ·simp only [go_sem,Nat.reduceEqDiff]
   ·simp only [go_sem,Nat.reduceEqDiff]
   ·simp only [hborn',go_sem,Nat.reduceEqDiff]
   simp only [go_sem,Nat.reduceEqDiff,Nat.reduceBEq,binO]
   have hsz : (timesN cs (k + 1)).length = (timesN cs k).length := by rw [hnext]; simp
   refine ⟨hlt,wrapS (by omega),le_put_of_le hG2le hb3 _,hokx,es.modify i0 (fun e => { e with val := .slice (some ⟨by_,0,none⟩) (l.length + 1) cpn }),upN blk i0 by_,upN cp i0 cpn,?_⟩
   refine ⟨?_,?_,?_,?_,?_,?_,?_⟩
   ·rw [Hp.put_same]; simp
   ·rw [hsz]; simp [hT.size]
   ·intro i hi
    simp at hi
    have hi2 : i < (timesN cs k).length := by rw [← hT.size]; exact hi
    rw [hnext,Array.getElem_modify]
    by_cases e : i = i0
    ·subst e
     rw [if_pos rfl,hent]
     simp [upN,hi2,CopyD.key]
    ·rw [if_neg (Ne.symm e),hT.ent i hi]
     simp [upN,e,Ne.symm e]
   ·intro i hi
    simp only [upN]
    split
    ·exact hHby
    ·exact hT.old i (by omega)
   ·intro i hi
    simp only [upN]
    split
    ·exact hby3
    ·exact hT.ne3 i (by omega)
   ·intro i hi _
    simp only [upN]
    by_cases e : i = i0
    ·subst e
     rw [if_pos rfl,if_pos rfl,Hp.put_ne _ _ hby3,hG2,Hp.put_same,hfp,hnext]
     simp [hi0,spanOf]
    ·have hi2 : i < (timesN cs k).length := by omega
     rw [if_neg e,if_neg e,Hp.put_ne _ _ (hT.ne3 i hi2),hG2,Hp.put_ne _ _ (hneby i hi2 e),hrows i hi2 e,hnext]
     simp [Ne.symm e]
   ·intro i j hi hji
    have hi2 : i < (timesN cs k).length := by omega
    simp only [upN]
    by_cases e : i = i0
    ·rw [if_pos e,if_neg (show j ≠ i0 by omega)]
     exact hneby j (by omega) (by omega)
    ·rw [if_neg e]
     by_cases e2 : j = i0
     ·rw [if_pos e2]; exact Ne.symm (hneby i hi2 e)
     ·rw [if_neg e2]; exact hT.inj i j hi2 hji
 ·have hd : decide ((k : Int) < (cs.length : Int)) = false := by simpa using hlt
  have : k = cs.length := by omega
  subst this
  simp only [hd,go_sem,Nat.reduceEqDiff,Nat.reduceBEq,Nat.reduceAdd,binO]
  refine vks_big (by intro x h; cases h) (by intro f a h; cases h) ?_
  refine ⟨?_,b3,_,es.size,?_,hT.map,?_⟩
  ·simp only [go_sem,Nat.reduceEqDiff]
  ·simp only [go_sem,Nat.reduceEqDiff]
  intro b9 hb9
  simp only [go_sem,Nat.reduceEqDiff,Nat.reduceBEq]
  have h93 : b9 ≠ b3 := by rintro rfl; rw [hT.map] at hb9; cases hb9
  have hHb9 : H b9 = none := by
   cases hq : H b9 with
   | none => rfl
   | some o => rw [hle _ _ hq] at hb9; cases hb9
  have hne9 : ∀ i,i < (timesN cs cs.length).length → blk i ≠ b9 := by rintro i hi rfl; rw [hT.row i hi (fun h => h)] at hb9; cases hb9
  refine vks_loopM (fun m fr' G => fr' = [(1, ⟨true, .box [.slice ah h.hosts.length ch, .slice a cs.length cap, S h.aname, .int .i64 h.atype, .int .i64 h.alife, .slice ad h.adata.length cd, .slice ai h.hints.length ci, .int .i64 h.drift, .int .i64 h.end_]⟩), (105, ⟨true, .val (.pointer (some ⟨b9, 0, none⟩))⟩)] ∧
   ∃ seen : Array Nat, m = unseen es.size seen ∧ H.le G ∧ G b9 = some (.obj (.mapIter (some b3) es.size seen es.size)) ∧ TimesAt H G b3 es blk cp (timesN cs cs.length) (fun i => seen.contains i = true) ∧
    ∀ i,i < (timesN cs cs.length).length → seen.contains i = true → placeOk ((timesN cs cs.length).getD i default).2 = true) (unseen es.size #[]) ⟨rfl,#[],rfl,hle.trans (le_put hb9 _),Hp.put_same ..,?_,fun i _ h => by simp at h⟩ ?_
  ·have := hT.mono (le_put hb9 (.obj (.mapIter (some b3) es.size #[] es.size)))
   exact ⟨this.map,this.size,this.ent,this.old,this.ne3,fun i hi _ => this.row i hi (fun h => h),this.inj⟩
  rintro m fr' G' ⟨rfl,seen,rfl,hl,m9,hT',hseen⟩
  simp only [go_sem]
  refine vks_big (by intro x h; cases h) (by intro f a h; cases h) ?_
  refine ⟨?_,b9,b3,es.size,seen,es.size,es,es.size,?_,m9,hT'.map,Nat.le_refl _,?_,?_,?_⟩
  ·simp only [go_sem,Nat.reduceEqDiff]
  ·simp only [go_sem,Nat.reduceEqDiff]
  ·intro e he
   obtain ⟨i,hi,rfl⟩ := Array.getElem_of_mem he
   rw [hT.born i hi]; exact hi
  ·intro hall
   have hpl : allN (fun i => placeOk ((timesN cs cs.length).getD i default).2) (timesN cs cs.length).length = true := by
    rw [allN_iff]
    intro i hi
    have hi' : i < es.size := by rw [hT.size]; exact hi
    have := hall _ (Array.getElem_mem hi')
    rw [hT.born i hi'] at this
    exact hseen i hi this
   simp only [go_sem,Nat.reduceLT,Nat.reduceLeDiff,Nat.reduceEqDiff,Nat.reduceBEq,Nat.reduceAdd]
   refine vks_call ?_ (fn119 h2 (g2.mono hl) (by omega)) ?_
   ·simp only [go_sem,Nat.reduceEqDiff]
   rintro u G3 ⟨hle3,hu⟩
   have hus := SlAt.sl hu
   obtain ⟨au,cu,rfl⟩ := hus
   simp only [go_sem,Nat.reduceEqDiff,Nat.reduceBEq,binO]
   refine ⟨?_,hl.trans hle3⟩
   have e : decide ((((apexesC cs cs.length).length : Nat) : Int) ≤ 500) = decide ((apexesC cs cs.length).length ≤ 500) := by rw [Bool.eq_iff_iff,decide_eq_true_eq,decide_eq_true_eq]; omega
   rw [hval,hq1,hq2,hok,hpl,e]; rfl
  ·intro e he hs
   obtain ⟨i,hi,rfl⟩ := Array.getElem_of_mem he
   rw [hT.born i hi] at hs
   have hiL : i < (timesN cs cs.length).length := by rw [← hT.size]; exact hi
   obtain ⟨G1,hG1⟩ : ∃ x,x = G'.put b9 (.obj (.mapIter (some b3) es.size (seen.push i) es.size)) := ⟨_,rfl⟩
   have hG1le : H.le G1 := by rw [hG1]; exact le_put_of_le hl hHb9 _
   have hG19 : G1 b9 = some (.obj (.mapIter (some b3) es.size (seen.push i) es.size)) := by rw [hG1,Hp.put_same]
   have hG13 : G1 b3 = some (.obj (.map es es.size)) := by rw [hG1,Hp.put_ne _ _ (Ne.symm h93)]; exact hT'.map
   have hrow : G1 (blk i) = some (.row (flat ((timesN cs cs.length).getD i default).2.length (rSpan ((timesN cs cs.length).getD i default).2)) (cp i * 2) true) := by
    rw [hG1,Hp.put_ne _ _ (hne9 i hiL)]; exact hT'.row i hiL (fun h => by rw [hs] at h; cases h)
   rw [hT.born i hi,← hG1]
   simp only [go_sem,Nat.reduceLT,Nat.reduceLeDiff,Nat.reduceEqDiff,Nat.reduceBEq,Nat.reduceAdd]
   refine vks_big (by intro x h; cases h) (by intro f a h; cases h) ?_
   refine ⟨?_,b9,b3,es.size,seen.push i,es,es.size,i,es[i],?_,hG19,hG13,by simp,born_find hT.born hi,?_⟩
   ·simp only [go_sem,Nat.reduceEqDiff]
   ·simp only [go_sem,Nat.reduceEqDiff]
   rw [hT.ent i hi]
   obtain ⟨l,hl0⟩ : ∃ y,((timesN cs cs.length).getD i default).2 = y := ⟨_,rfl⟩
   have hll : l.length ≤ 12 := by
    have hmem : (timesN cs cs.length).getD i default ∈ timesN cs cs.length := by
     rw [List.getD_eq_getElem?_getD,List.getElem?_eq_getElem hiL]; exact List.getElem_mem _
    have := timesN_le cs cs.length _ hmem
    rw [hl0] at this; omega
   rw [hl0] at hrow
   simp only [hl0,go_sem,Nat.reduceLT,Nat.reduceEqDiff,Nat.reduceBEq,Nat.reduceAdd]
   refine vks_call ?_ (fn87s hE h2 (cmp121 hE h2) l hll hrow) ?_
   ·simp only [go_sem,Nat.reduceEqDiff]
   rintro u G2 rfl
   have hsl : (sortN ltSpan l.length l).length = l.length := sortN_len _ _ _
   have hpo : placeOk l = allN (fun i => !decide (((sortN ltSpan l.length l).getD (i + 1) default).from_ < ((sortN ltSpan l.length l).getD i default).till)) (l.length - 1) := by simp only [placeOk,apartB,hsl]
   obtain ⟨q,hq⟩ : ∃ y,y = sortN ltSpan l.length l := ⟨_,rfl⟩
   rw [← hq] at hsl hpo
   rw [← hq]
   obtain ⟨G2,hG2⟩ : ∃ y,y = G1.put (blk i) (.row (flat l.length (rSpan q)) (cp i * 2) true) := ⟨_,rfl⟩
   rw [← hG2]
   have hG2le : H.le G2 := by rw [hG2]; exact le_put_of_le hG1le (hT.old i hiL) _
   have hG2i : G2 (blk i) = some (.row (flat l.length (rSpan q)) (cp i * 2) true) := by rw [hG2,Hp.put_same]
   have hfl : (flat l.length (rSpan q)).length = l.length * 2 := flat_len fun i _ => rfl
   simp only [go_sem,Nat.reduceEqDiff,Nat.reduceBEq]
   refine vks_loopN (l.length - 1) 0 (fun j => [(1, ⟨true, .box [.slice ah h.hosts.length ch, .slice a cs.length cap, S h.aname, .int .i64 h.atype, .int .i64 h.alife, .slice ad h.adata.length cd, .slice ai h.hints.length ci, .int .i64 h.drift, .int .i64 h.end_]⟩), (8, ⟨true, .val (.slice (some ⟨blk i, 0, none⟩) l.length (cp i))⟩), (9, ⟨true, .val (.int .i64 ((j + 1 : Nat) : Int))⟩), (105, ⟨true, .val (.pointer (some ⟨b9, 0, none⟩))⟩)])
    (fun j => allN (fun i => !decide ((q.getD (i + 1) default).from_ < (q.getD i default).till)) j = true) (Nat.zero_le _) rfl rfl ?_
   intro j hj hPj
   by_cases hjl : j + 1 < l.length
   ·have hdj : decide (((j + 1 : Nat) : Int) < (l.length : Int)) = true := by rw [decide_eq_true_eq]; omega
    have e1 : IntKind.i64.wrap (((j + 1 : Nat) : Int) - 1) = (j : Int) := by rw [wrapI] <;> omega
    have hr1 := flat_at (n := l.length) (sz := 2) (row := rSpan q) (fun i _ => rfl) (j + 1) hjl
    have hr0 := flat_at (n := l.length) (sz := 2) (row := rSpan q) (fun i _ => rfl) j (by omega)
    have v1 := getD_of_take (o := (j + 1) * 2) (sz := 2) (j := 0) hr1 (by omega)
    have v0 := getD_of_take (o := j * 2) (sz := 2) (j := 1) hr0 (by omega)
    simp only [rSpan,List.getD_cons_zero,List.getD_cons_succ,Nat.add_zero] at v1 v0
    simp only [hdj,e1,hG2i,hfl,v1,v0,go_sem,Nat.reduceLeDiff,Nat.reduceEqDiff,Nat.reduceBEq,Nat.reduceAdd,binO]
    refine ⟨⟨by omega,by omega⟩,by omega,⟨by omega,by omega⟩,by omega,fun hc => ?_,fun hc => ⟨by omega,wrapS (by omega),allN_succ hPj (by rw [hc]; rfl)⟩⟩
    have hp : placeOk l = false := by rw [hpo]; exact allN_false (k := j) (by omega) (by rw [hc]; rfl)
    have hpl : allN (fun i => placeOk ((timesN cs cs.length).getD i default).2) (timesN cs cs.length).length = false := allN_false (k := i) hiL (by rw [hl0]; exact hp)
    rw [hval,hq1,hq2,hok,hpl]
    exact ⟨rfl,hG2le⟩
   ·have hdj : decide (((j + 1 : Nat) : Int) < (l.length : Int)) = false := by rw [decide_eq_false_iff_not]; omega
    simp only [hdj,go_sem,Nat.reduceLeDiff,Nat.reduceEqDiff,Nat.reduceBEq,Nat.reduceAdd,binO]
    have hj' : j = l.length - 1 := by omega
    subst hj'
    refine ⟨unseen es.size (seen.push i),unseen_push hi hs,seen.push i,rfl,hG2le,?_,?_,?_⟩
    ·rw [hG2,Hp.put_ne _ _ (Ne.symm (hne9 i hiL))]; exact hG19
    ·refine ⟨?_,hT.size,hT.ent,hT.old,hT.ne3,?_,hT.inj⟩
     ·rw [hG2,Hp.put_ne _ _ (Ne.symm (hT.ne3 i hiL))]; exact hG13
     ·intro i' hi' hns
      rw [contains_push'] at hns
      have hne : i' ≠ i := by rintro rfl; simp at hns
      have hns' : ¬ seen.contains i' = true := fun h => hns (by rw [h]; rfl)
      have hnb : blk i' ≠ blk i := by
       rcases Nat.lt_or_gt_of_ne hne with h | h
       ·exact hT.inj i i' hiL h
       ·exact Ne.symm (hT.inj i' i hi' h)
      rw [hG2,Hp.put_ne _ _ hnb,hG1,Hp.put_ne _ _ (hne9 i' hi')]
      exact hT'.row i' hi' hns'
    ·intro i' hi' hc
     rw [contains_push'] at hc
     by_cases hne : i' = i
     ·subst hne; rw [hl0,hpo]; exact hPj
     ·exact hseen i' hi' (by simpa [hne] using hc)
end Go.SL
