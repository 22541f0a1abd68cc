/- Plain law: the longest wait of a zone whose copies end at a time. -/
import Derived.Test.YtloknibdaldffaaGreatDoorNplW1
import Derived.Test.YtloknibdaldffaaGreatDoorNplV3
import Derived.Test.YtloknibdaldffaaGreatDoorNplQ
import Derived.Test.YtloknibdaldffaaGreatDoorNplO7
namespace Go.SL
open Go
abbrev Groups := List (Bs × (SignedD × List SpanD))
instance : Inhabited (Bs × (SignedD × List SpanD)) := ⟨([],(default,[]))⟩
def pubStep (sp : SpanD) (G : Groups) (s : SignedD) : Groups := mput (textOf s) (match mget (textOf s) G with
 | some e => (e.1,e.2 ++ [sp])
 | none => (s,[sp])) G
def pubSets (sp : SpanD) (G : Groups) (ss : List SignedD) : Nat → Groups
 | 0 => G
 | k + 1 => pubStep sp (pubSets sp G ss k) (ss.getD k default)
def pubL (fs : List CopyD) : Nat → Groups
 | 0 => []
 | k + 1 => pubSets (spanOf (fs.getD k default)) (pubL fs k) (fs.getD k default).sets (fs.getD k default).sets.length
def growEnd (d : Int) (s : SignedD) (e : Int) : Int := max e (match s.sigs with
 | [] => e - 1 + max s.life 1 + 2 * d
 | g :: _ => min (e - 1 + max s.life 1 + 2 * d) (g.till + d + 1))
def growS (d : Int) (s : SignedD) (sp : SpanD) : SpanD := ⟨sp.from_,growEnd d s sp.till⟩
def usedL (d : Int) (s : SignedD) (fresh : List SpanD) : List SpanD := normalL (fresh.map (growS d s))
theorem growEnd_le (d : Int) (s : SignedD) (e : Int) : e ≤ growEnd d s e := by unfold growEnd; omega
theorem growEnd_mono (d : Int) (s : SignedD) {e e' : Int} (h : e ≤ e') : growEnd d s e ≤ growEnd d s e' := by
 unfold growEnd
 split <;> omega
structure GInv (fs : List CopyD) (G : Groups) : Prop where
 key : ∀ e ∈ G,e.1 = textOf e.2.1
 set : ∀ e ∈ G,∃ c ∈ fs,e.2.1 ∈ c.sets
 spans : ∀ e ∈ G,∀ sp ∈ e.2.2,∃ c ∈ fs,sp = spanOf c ∧ ∃ s ∈ c.sets,textOf s = e.1
theorem pubStep_inv {fs : List CopyD} {G : Groups} {c : CopyD} {s : SignedD} (hc : c ∈ fs) (hs : s ∈ c.sets) (h : GInv fs G) : GInv fs (pubStep (spanOf c) G s) := by
 unfold pubStep
 cases hg : mget (textOf s) G with
 | none =>
  refine ⟨fun e he => ?_,fun e he => ?_,fun e he sp hsp => ?_⟩
  ·rcases mem_mput he with rfl | he
   ·rfl
   ·exact h.key e he
  ·rcases mem_mput he with rfl | he
   ·exact ⟨c,hc,hs⟩
   ·exact h.set e he
  ·rcases mem_mput he with rfl | he
   ·simp at hsp; subst hsp; exact ⟨c,hc,rfl,s,hs,rfl⟩
   ·exact h.spans e he sp hsp
 | some e0 =>
  have hm := mget_mem hg
  refine ⟨fun e he => ?_,fun e he => ?_,fun e he sp hsp => ?_⟩
  ·rcases mem_mput he with rfl | he
   ·exact h.key (textOf s,e0) hm
   ·exact h.key e he
  ·rcases mem_mput he with rfl | he
   ·exact h.set (textOf s,e0) hm
   ·exact h.set e he
  ·rcases mem_mput he with rfl | he
   ·simp only at hsp
    rcases List.mem_append.1 hsp with hsp | hsp
    ·exact h.spans (textOf s,e0) hm sp hsp
    ·simp at hsp; subst hsp; exact ⟨c,hc,rfl,s,hs,rfl⟩
   ·exact h.spans e he sp hsp
theorem pubSets_inv {fs : List CopyD} {c : CopyD} (hc : c ∈ fs) {G : Groups} (h : GInv fs G) : ∀ k, k ≤ c.sets.length → GInv fs (pubSets (spanOf c) G c.sets k)
 | 0,_ => h
 | k + 1,hk => pubStep_inv hc (getD_mem (by omega)) (pubSets_inv hc h k (by omega))
theorem pubL_inv (fs : List CopyD) : ∀ k, k ≤ fs.length → GInv fs (pubL fs k)
 | 0,_ => ⟨fun e h => (by cases h),fun e h => (by cases h),fun e h => (by cases h)⟩
 | k + 1,hk => pubSets_inv (getD_mem (by omega)) (pubL_inv fs k (by omega)) _ (Nat.le_refl _)
def InG (G : Groups) (k : Bs) (sp : SpanD) : Prop := ∃ e,mget k G = some e ∧ sp ∈ e.2
theorem pubStep_in {G : Groups} {s : SignedD} {sp : SpanD} : InG (pubStep sp G s) (textOf s) sp := by
 unfold pubStep InG
 rw [mget_mput,if_pos rfl]
 refine ⟨_,rfl,?_⟩
 cases mget (textOf s) G <;> simp
theorem pubStep_keep {G : Groups} {s : SignedD} {sp sp' : SpanD} {k : Bs} (h : InG G k sp') : InG (pubStep sp G s) k sp' := by
 obtain ⟨e,he,hm⟩ := h
 unfold pubStep InG
 rw [mget_mput]
 by_cases hk : k = textOf s
 ·subst hk
  rw [if_pos rfl,he]
  exact ⟨_,rfl,List.mem_append_left _ hm⟩
 ·rw [if_neg hk]
  exact ⟨e,he,hm⟩
theorem pubSets_keep {sp : SpanD} {ss : List SignedD} {G : Groups} {k : Bs} {sp' : SpanD} (h : InG G k sp') : ∀ n, InG (pubSets sp G ss n) k sp'
 | 0 => h
 | n + 1 => pubStep_keep (pubSets_keep h n)
theorem pubSets_in {sp : SpanD} {ss : List SignedD} {G : Groups} : ∀ n i, i < n → InG (pubSets sp G ss n) (textOf (ss.getD i default)) sp
 | 0,i,h => by omega
 | n + 1, i, h => by
  by_cases e : i = n
  ·subst e; exact pubStep_in
  ·exact pubStep_keep (pubSets_in n i (by omega))
theorem pubL_in (fs : List CopyD) : ∀ n i, i < n → ∀ s ∈ (fs.getD i default).sets, InG (pubL fs n) (textOf s) (spanOf (fs.getD i default))
 | 0,i,h,_,_ => by omega
 | n + 1, i, h, s, hs => by
  by_cases e : i = n
  ·subst e
   obtain ⟨j,hj,rfl⟩ := mem_getD hs
   exact pubSets_in _ j hj
  ·exact pubSets_keep (pubL_in fs n i (by omega) s hs) _
def longS (d e : Int) (ss : List SignedD) (a : Int) : Nat → Int
 | 0 => a
 | k + 1 => max (longS d e ss a k) (growEnd d (ss.getD k default) e)
def longC (cs : List CopyD) (zone : Bs) (t d : Int) : Nat → Int
 | 0 => t
 | k + 1 => if (cs.getD k default).apex = zone ∧ (cs.getD k default).from_ < t then
   longS d (min (cs.getD k default).till t) (cs.getD k default).sets (longC cs zone t d k) (cs.getD k default).sets.length else longC cs zone t d k
theorem longS_ge (d e : Int) (ss : List SignedD) (a : Int) : ∀ k, a ≤ longS d e ss a k ∧ (∀ i, i < k → growEnd d (ss.getD i default) e ≤ longS d e ss a k) ∧ (longS d e ss a k = a ∨ ∃ i, i < k ∧ longS d e ss a k = growEnd d (ss.getD i default) e)
 | 0 => ⟨Int.le_refl _,fun i h => by omega,.inl rfl⟩
 | k + 1 => by
  obtain ⟨h1,h2,h3⟩ := longS_ge d e ss a k
  simp only [longS]
  refine ⟨by omega,fun i hi => ?_,?_⟩
  ·by_cases e' : i = k
   ·subst e'; omega
   ·have := h2 i (by omega); omega
  ·rcases Int.le_total (growEnd d (ss.getD k default) e) (longS d e ss a k) with hle | hle
   ·rw [Int.max_eq_left hle]
    rcases h3 with h3 | ⟨i,hi,h3⟩
    ·exact .inl h3
    ·exact .inr ⟨i,by omega,h3⟩
   ·rw [Int.max_eq_right hle]
    exact .inr ⟨k,by omega,rfl⟩
theorem longC_ge (cs : List CopyD) (zone : Bs) (t d : Int) : ∀ k, t ≤ longC cs zone t d k ∧
  (∀ i,i < k → (cs.getD i default).apex = zone → (cs.getD i default).from_ < t → ∀ s ∈ (cs.getD i default).sets,growEnd d s (min (cs.getD i default).till t) ≤ longC cs zone t d k) ∧
  (longC cs zone t d k = t ∨ ∃ i,i < k ∧ (cs.getD i default).apex = zone ∧ (cs.getD i default).from_ < t ∧ ∃ s ∈ (cs.getD i default).sets,longC cs zone t d k = growEnd d s (min (cs.getD i default).till t))
 | 0 => ⟨Int.le_refl _,fun i h => by omega,.inl rfl⟩
 | k + 1 => by
  obtain ⟨h1,h2,h3⟩ := longC_ge cs zone t d k
  simp only [longC]
  split
  ·rename_i hc
   obtain ⟨g1,g2,g3⟩ := longS_ge d (min (cs.getD k default).till t) (cs.getD k default).sets (longC cs zone t d k) (cs.getD k default).sets.length
   refine ⟨by omega,fun i hi ha hf s hs => ?_,?_⟩
   ·by_cases e : i = k
    ·subst e
     obtain ⟨j,hj,rfl⟩ := mem_getD hs
     exact g2 j hj
    ·have := h2 i (by omega) ha hf s hs; omega
   ·rcases g3 with g3 | ⟨j,hj,g3⟩
    ·rcases h3 with h3 | ⟨i,hi,ha,hf,s,hs,h3⟩
     ·exact .inl (g3.trans h3)
     ·exact .inr ⟨i,by omega,ha,hf,s,hs,g3.trans h3⟩
    ·exact .inr ⟨k,by omega,hc.1,hc.2,_,getD_mem hj,g3⟩
  ·rename_i hc
   refine ⟨h1,fun i hi ha hf s hs => ?_,?_⟩
   ·by_cases e : i = k
    ·subst e; exact absurd ⟨ha,hf⟩ hc
    ·exact h2 i (by omega) ha hf s hs
   ·rcases h3 with h3 | ⟨i,hi,h3⟩
    ·exact .inl h3
    ·exact .inr ⟨i,by omega,h3⟩
def cutC (c : CopyD) (t : Int) : CopyD := { c with till := min c.till t }
def shortN (cs : List CopyD) (zone : Bs) (t : Int) : Nat → List CopyD
 | 0 => []
 | k + 1 => if (cs.getD k default).apex = zone ∧ (cs.getD k default).from_ < min (cs.getD k default).till t then shortN cs zone t k ++ [cutC (cs.getD k default) t] else shortN cs zone t k
theorem mem_shortN (cs : List CopyD) (zone : Bs) (t : Int) (c' : CopyD) : ∀ k, c' ∈ shortN cs zone t k ↔ ∃ i, i < k ∧ (cs.getD i default).apex = zone ∧ (cs.getD i default).from_ < min (cs.getD i default).till t ∧ c' = cutC (cs.getD i default) t
 | 0 => by simp [shortN]
 | k + 1 => by
  simp only [shortN]
  split
  ·rename_i hc
   rw [List.mem_append,mem_shortN cs zone t c' k]
   constructor
   ·rintro (⟨i,hi,h⟩ | h)
    ·exact ⟨i,by omega,h⟩
    ·exact ⟨k,by omega,hc.1,hc.2,by simpa using h⟩
   ·rintro ⟨i,hi,h1,h2,h3⟩
    by_cases e : i = k
    ·subst e; exact .inr (by simpa using h3)
    ·exact .inl ⟨i,by omega,h1,h2,h3⟩
  ·rename_i hc
   rw [mem_shortN cs zone t c' k]
   constructor
   ·rintro ⟨i,hi,h⟩; exact ⟨i,by omega,h⟩
   ·rintro ⟨i,hi,h1,h2,h3⟩
    by_cases e : i = k
    ·subst e; exact absurd ⟨h1,h2⟩ hc
    ·exact ⟨i,by omega,h1,h2,h3⟩
theorem longest_law (cs : List CopyD) (zone : Bs) (t d : Int) (hv : ∀ c ∈ cs, c.from_ < c.till ∧ ∀ s ∈ c.sets, Plain s) :
  (∀ e ∈ pubL (shortN cs zone t cs.length) (shortN cs zone t cs.length).length,hasB (usedL d e.2.1 (normalL e.2.2)) (longC cs zone t d cs.length) = false) ∧
  (t < longC cs zone t d cs.length → ∃ e ∈ pubL (shortN cs zone t cs.length) (shortN cs zone t cs.length).length,hasB (usedL d e.2.1 (normalL e.2.2)) (longC cs zone t d cs.length - 1) = true) := by
 obtain ⟨fs,hfs⟩ : ∃ y,y = shortN cs zone t cs.length := ⟨_,rfl⟩
 obtain ⟨h1,h2,h3⟩ := longC_ge cs zone t d cs.length
 obtain ⟨n,hn⟩ : ∃ y,y = longC cs zone t d cs.length := ⟨_,rfl⟩
 rw [← hfs,← hn]
 rw [← hn] at h1 h2 h3
 have hinv := pubL_inv fs fs.length (Nat.le_refl _)
 have hpl : ∀ c ∈ fs, ∀ s ∈ c.sets, Plain s := by
  intro c hc s hs
  rw [hfs] at hc
  obtain ⟨i,hi,_,_,rfl⟩ := (mem_shortN cs zone t c cs.length).1 hc
  exact (hv _ (getD_mem hi)).2 s hs
 refine ⟨fun e he => ?_,fun hlt => ?_⟩
 ·by_cases hb : hasB (usedL d e.2.1 (normalL e.2.2)) n = true
  ·exfalso
   obtain ⟨p,hp,_,hp2⟩ := hasB_iff.1 hb
   obtain ⟨⟨g,hg,_,hpt⟩,_⟩ := normalL_sub hp
   obtain ⟨q,hq,rfl⟩ := List.mem_map.1 hg
   obtain ⟨⟨sp,hsp,_,hqt⟩,_⟩ := normalL_sub hq
   obtain ⟨c,hc,rfl,s,hs,hts⟩ := hinv.spans e he sp hsp
   obtain ⟨c2,hc2,hs2⟩ := hinv.set e he
   have hkey := hinv.key e he
   have hse : s = e.2.1 := textOf_inj (hpl c hc s hs) (hpl c2 hc2 _ hs2) (hts.trans hkey)
   rw [hfs] at hc
   obtain ⟨i,hi,ha,hf,rfl⟩ := (mem_shortN cs zone t c cs.length).1 hc
   have hle := h2 i hi ha (by omega) s hs
   have e1 : p.till = growEnd d e.2.1 (min (cs.getD i default).till t) := by rw [hpt]; simp only [growS]; rw [hqt]; rfl
   rw [e1,← hse] at hp2
   omega
  ·simpa using hb
 ·rcases h3 with h3 | ⟨i,hi,ha,hf,s,hs,h3⟩
  ·omega
  ·have hci := (hv _ (getD_mem hi)).1
   have hmem : cutC (cs.getD i default) t ∈ fs := by rw [hfs,mem_shortN]; exact ⟨i,hi,ha,by omega,rfl⟩
   obtain ⟨j,hj,hje⟩ := mem_getD hmem
   have hin := pubL_in fs fs.length j hj s (by rw [hje]; exact hs)
   rw [hje] at hin
   obtain ⟨e,hge,hsp⟩ := hin
   have hem := mget_mem hge
   obtain ⟨c2,hc2,hs2⟩ := hinv.set _ hem
   have hse : s = e.1 := textOf_inj ((hv _ (getD_mem hi)).2 s hs) (hpl c2 hc2 _ hs2) (hinv.key _ hem)
   refine ⟨_,hem,hasB_iff.2 ?_⟩
   obtain ⟨q,hq,q1,q2⟩ := normalL_cover hsp (by show (cs.getD i default).from_ < min (cs.getD i default).till t; omega)
   have q1' : q.from_ ≤ (cs.getD i default).from_ := q1
   have q2' : min (cs.getD i default).till t ≤ q.till := q2
   have hgm : growS d e.1 q ∈ (normalL e.2).map (growS d e.1) := List.mem_map_of_mem hq
   have hge2 := growEnd_mono d e.1 q2'
   have hgl := growEnd_le d e.1 q.till
   obtain ⟨p,hp,p1,p2⟩ := normalL_cover hgm (by show q.from_ < growEnd d e.1 q.till; omega)
   have p1' : p.from_ ≤ q.from_ := p1
   have p2' : growEnd d e.1 q.till ≤ p.till := p2
   refine ⟨p,hp,by omega,?_⟩
   rw [hse] at h3
   omega
end Go.SL
/- Contracts: package span's Normal; when a set may be used. -/
namespace Go.SL
open Go
variable {E : Env} {H : Hp}
def SpOwn (H : Hp) (v : Value) (L : List SpanD) : Option Nat → Prop
 | none => v = .slice none 0 0 ∧ L = []
 | some b => L ≠ [] ∧ ∃ cap,v = .slice (some ⟨b,0,none⟩) L.length cap ∧ H b = some (.row (flat L.length (rSpan L)) (cap * 2) true)
theorem SpOwn.at {v : Value} {L : List SpanD} {ob : Option Nat} (h : SpOwn H v L ob) : SpansAt H v L := by
 cases ob with
 | none => obtain ⟨rfl,rfl⟩ := h; exact SlAt.nil
 | some b => obtain ⟨_,cap,rfl,hb⟩ := h; exact SlAt.ofRow (fun i _ => rfl) hb
theorem SpOwn.sl {v : Value} {L : List SpanD} {ob : Option Nat} (h : SpOwn H v L ob) : ∃ a c,v = .slice a L.length c := SlAt.sl h.at
theorem SpOwn.keep {H' : Hp} {v : Value} {L : List SpanD} {ob : Option Nat} (h : SpOwn H v L ob) (hk : ∀ b, ob = some b → H' b = H b) : SpOwn H' v L ob := by
 cases ob with
 | none => exact h
 | some b => obtain ⟨h0,cap,rfl,hb⟩ := h; exact ⟨h0,cap,rfl,(hk b rfl).trans hb⟩
section
variable {fr : Fr} {Q : X → Fr → Hp → Prop} {k : List Item} {d : Option Nat} {r : List AOper} {live : List Nat}
theorem vks_pushSp {zero : List Value} {s x : Arg} {v : Value} {L : List SpanD} {ob : Option Nat} {bs : Nat} (p : SpanD) (h1 : vok fr s) (h2 : vok fr x) (hs : vo E fr s = v) (hx : vo E fr x = .slice (some ⟨bs, 0, none⟩) 1 1)
  (hb : H bs = some (.row [.int .i64 p.from_,.int .i64 p.till] 2 true)) (hB : SpOwn H v L ob) (hn : L.length ≤ 2199023255552)
  (h : ∀ v' H' b',SpOwn H' v' (L ++ [p]) (some b') → (∀ c o,H c = some o → some c ≠ ob → H' c = some o) → (H b' = none ∨ some b' = ob) → vks E (.ops r live :: k) (setD fr d ⟨true,.val v'⟩) H' Q) :
  vks E (.ops (⟨d,.app 2 16 zero s x,none⟩ :: r) live :: k) fr H Q := by
 have e1 : srcOk H 2 (vo E fr x) := by rw [hx]; exact .inr ⟨rfl,by rw [hb]; simp⟩
 have e2 : srcCells H 2 (vo E fr x) = [.int .i64 p.from_,.int .i64 p.till] := by rw [hx]; simp [srcCells,hb]
 have e3 : srcLen (vo E fr x) = 1 := by rw [hx]; rfl
 have e4 : (srcCells H 2 (vo E fr x)).all one1 = true := by rw [e2]; rfl
 have hfp := flat_spanpush L p
 cases ob with
 | none =>
  obtain ⟨rfl,rfl⟩ := hB
  refine vks_app0 h1 h2 e1 e4 hs (by rw [e3]; omega) (by rw [e3]; omega) (fun h0 => by rw [e3] at h0; cases h0) fun _ b cap hbn => ?_
  rw [e2,e3]
  refine h _ _ b ⟨by simp,cap,rfl,?_⟩ (fun c o hc _ => le_put hbn _ _ _ hc) (.inl hbn)
  rw [Hp.put_same]
  exact congrArg (fun l => some (AObj.row l (cap * 2) true)) hfp
 | some b0 =>
  obtain ⟨_,cap,rfl,hH⟩ := hB
  refine vks_appS h1 h2 e1 e4 hs (by rw [e3]; omega) (by rw [e3]; omega) hH (flat_len fun i _ => rfl) rfl fun b cap' hbn => ?_
  rw [e2,e3]
  refine h _ _ b ⟨by simp,cap',by simp,?_⟩ (fun c o hc hne => ?_) ?_
  ·rw [Hp.put_same]
   exact congrArg (fun l => some (AObj.row l (cap' * 2) true)) hfp
  ·refine le_put hbn _ _ _ ?_
   rw [Hp.del_ne _ (by rintro rfl; exact hne rfl)]; exact hc
  ·by_cases e : b = b0
   ·exact .inr (by rw [e])
   ·exact .inl (by rw [Hp.del_ne _ e] at hbn; exact hbn)
end
theorem fn141 (h3 : Codes3 E) (s : SpanD) : FnP E 141 [vSpan s] H (.bool (decide (s.from_ < s.till))) := by
 unfold vSpan
 refine Fn.of_vks h3.c141 (by simp [cf141]) ?_
 simp only [cf141,cf141_0,cf141_1]
 simp only [go_sem,Nat.reduceLeDiff,Nat.reduceEqDiff,Nat.reduceBEq,Nat.reduceAdd,reduceCtorEq,binO]
theorem fn143 (hE : Codes E) (h3 : Codes3 E) (a b : SpanD) : FnP E 143 [vSpan a, vSpan b] H (.int .i64 (cmpSpan a b)) := by
 unfold vSpan cmpSpan
 refine Fn.of_vks h3.c143 (by simp [cf143]) ?_
 simp only [cf143,cf143_0,cf143_1]
 simp only [go_sem,Nat.reduceLeDiff,Nat.reduceEqDiff,Nat.reduceBEq,Nat.reduceAdd,reduceCtorEq]
 refine vks_callp _ ?_ (fun _ => ⟨?_,fn89 hE a.from_ b.from_⟩) ?_ <;> simp only [go_sem,Nat.reduceEqDiff,Nat.reduceBEq]
theorem cmp143 (hE : Codes E) (h3 : Codes3 E) : CmpV E (.func (.func (E.fn 143)) #[] #[]) vSpan cmpSpan := fun _G a b =>
 FnV_of_Fn h3.e143 (Fn.same (fn143 hE h3 a b))
theorem siftL_succ {l : List SpanD} {k : Nat} (hk : k < l.length) : siftL (l.take (k + 1)) = siftL (l.take k) ++ (if (l.getD k default).from_ < (l.getD k default).till then [l.getD k default] else []) := by
 rw [take_getDs hk]
 unfold siftL
 rw [List.filter_append]
 congr 1
 by_cases e : (l.getD k default).from_ < (l.getD k default).till
 ·rw [if_pos e,List.filter_cons_of_pos (by simpa using e)]; rfl
 ·rw [if_neg e,List.filter_cons_of_neg (by simpa using e)]; rfl
where
 take_getDs {l : List SpanD} {k : Nat} (hk : k < l.length) : l.take (k + 1) = l.take k ++ [l.getD k default] := by
  rw [List.take_add_one,List.getElem?_eq_getElem hk,List.getD_eq_getElem?_getD,List.getElem?_eq_getElem hk]; rfl
theorem sift_len (l : List SpanD) : (siftL l).length ≤ l.length := List.length_filter_le _ _
set_option maxHeartbeats 1000000 in
theorem fn142 (h3 : Codes3 E) {v : Value} {l : List SpanD} (hl : SpansAt H v l) (hn : l.length ≤ 1000000) :
  Fn E.P (E.fn 142) [v,.func (.func (E.fn 141)) #[] #[]] H (fun u H' => ∃ ob,SpOwn H' u (siftL l) ob ∧ H.le H' ∧ ∀ b,ob = some b → H b = none) := by
 obtain ⟨a,cap,rfl,hsp,hr⟩ := hl
 refine Fn.of_vks h3.c142 (by simp [cf142]) ?_
 simp only [cf142,cf142_0,cf142_1,cf142_2,cf142_3,cf142_4,cf142_5,cf142_6,cf142_7,cf142_8]
 simp only [go_sem,Nat.reduceEqDiff,Nat.reduceBEq,reduceCtorEq]
 refine vks_loopP l.length 0 (fun k fr' H' => ∃ u ob, fr' = [(1, ⟨true, .val (.func (.func (E.fn 141)) #[] #[])⟩), (5, ⟨true, .val u⟩), (8, ⟨true, .val (.slice a l.length cap)⟩), (9, ⟨true, .val (.int .i64 l.length)⟩), (10, ⟨true, .val (.int .i64 k)⟩)] ∧
  SpOwn H' u (siftL (l.take k)) ob ∧ H.le H' ∧ ∀ b,ob = some b → H b = none) (Nat.zero_le _) ⟨_,none,rfl,⟨rfl,rfl⟩,Hp.le.refl _,fun b h => by cases h⟩ ?_
 rintro k fr' H' hk ⟨u,ob,rfl,hO,hle,hob⟩
 obtain ⟨au,cu,hu⟩ := hO.sl
 by_cases hlt : k < l.length
 ·have hd : decide ((k : Int) < (l.length : Int)) = true := by simpa using hlt
  have hr' := hr (by omega)
  obtain ⟨b,o,vs,c,wr,ha,hb,hi⟩ := hr'
  subst ha
  have hb1 := hle _ _ hb
  have hi1 := (hi k hlt).1
  have hi2 := (hi k hlt).2
  have hsucc := siftL_succ hlt
  have hlen := sift_len (l.take k)
  have hlen2 : (l.take k).length ≤ l.length := by rw [List.length_take]; omega
  obtain ⟨x,hx⟩ : ∃ y,l.getD k default = y := ⟨_,rfl⟩
  rw [hx] at hsucc
  simp only [hd,hb1,hi2,rSpan,hx,go_sem,Nat.reduceEqDiff,Nat.reduceBEq,Nat.reduceAdd,binO]
  refine ⟨⟨by omega,by omega⟩,hi1,?_⟩
  refine vks_callv ?_ ?_ (FnV_of_Fn h3.e141 (Fn.same (fn141 h3 x))) ?_
  ·simp only [go_sem,Nat.reduceEqDiff]
  ·simp only [go_sem,Nat.reduceEqDiff]
  rintro w H'' ⟨rfl,rfl⟩
  simp only [go_sem,Nat.reduceEqDiff,Nat.reduceBEq,Nat.reduceAdd,binO]
  refine ⟨fun hc => ?_,fun hc => ?_⟩
  ·have hc' : x.from_ < x.till := by simpa using hc
   rw [if_pos hc'] at hsucc
   intro bs hbs
   have hO2 : SpOwn (H''.put bs (.row [.int .i64 x.from_, .int .i64 x.till] 2 true)) u (siftL (l.take k)) ob := hO.keep fun b hb => by
    rw [Hp.put_ne]
    rintro rfl
    subst hb
    obtain ⟨_,_,_,hbb⟩ := hO
    rw [hbb] at hbs; cases hbs
   refine vks_pushSp x ?_ ?_ ?_ ?_ (Hp.put_same ..) hO2 (by omega) ?_
   ·simp only [go_sem,Nat.reduceEqDiff]
   ·simp only [go_sem,Nat.reduceEqDiff]
   ·simp only [go_sem,Nat.reduceEqDiff]
   ·simp only [go_sem,Nat.reduceEqDiff]
   intro v' H3 b' hO3 hkeep hb'
   simp only [go_sem,Nat.reduceEqDiff,Nat.reduceBEq,binO]
   have hHbs : H bs = none := by
    cases hq : H bs with
    | none => rfl
    | some o => rw [hle _ _ hq] at hbs; cases hbs
   refine ⟨hlt,v',some b',⟨rfl,wrapS (by omega)⟩,by rw [hsucc]; exact hO3,fun c o hc => ?_,?_⟩
   ·refine hkeep c o ?_ (fun e => by rw [hob c e.symm] at hc; cases hc)
    exact le_put hbs _ _ _ (hle _ _ hc)
   ·intro b2 e
    cases e
    rcases hb' with h | h
    ·cases hq : H b' with
     | none => rfl
     | some o => rw [le_put hbs _ _ _ (hle _ _ hq)] at h; cases h
    ·exact hob b' h.symm
  ·have hc' : ¬ x.from_ < x.till := by simpa using hc
   rw [if_neg hc',List.append_nil] at hsucc
   refine ⟨hlt,u,ob,⟨rfl,wrapS (by omega)⟩,by rw [hsucc]; exact hO,hle,hob⟩
 ·have hd : decide ((k : Int) < (l.length : Int)) = false := by simpa using hlt
  have : k = l.length := by omega
  subst this
  rw [List.take_length] at hO
  simp only [hd,go_sem,Nat.reduceEqDiff,Nat.reduceBEq,Nat.reduceAdd,binO]
  exact ⟨ob,hO,hle,hob⟩
theorem unite1_eq {L : List SpanD} (h : L ≠ []) (s : SpanD) : unite1 L s = if s.from_ ≤ (L.getD (L.length - 1) default).till then L.set (L.length - 1) ⟨(L.getD (L.length - 1) default).from_, max (L.getD (L.length - 1) default).till s.till⟩ else L ++ [s] := by
 obtain ⟨L',p,rfl⟩ : ∃ L' p,L = L' ++ [p] := ⟨L.dropLast,L.getLast h,(List.dropLast_concat_getLast h).symm⟩
 have e1 : (L' ++ [p]).length - 1 = L'.length := by simp
 have e2 : (L' ++ [p]).getD L'.length default = p := by simp
 have e3 : (L' ++ [p]).getLast? = some p := by simp
 rw [e1,e2]
 simp only [unite1,e3]
 split
 ·simp
 ·rfl
theorem unitedN_len (l : List SpanD) : ∀ k, (unitedN l k).length ≤ k
 | 0 => Nat.le_refl _
 | k + 1 => by
  have ih := unitedN_len l k
  simp only [unitedN,unite1]
  split
  ·split <;> simp <;> omega
  ·simp
theorem rSpan_set1 (L : List SpanD) {i : Nat} (hi : i < L.length) (x : Int) : flat L.length (fun i' => if i' = i then (rSpan L i).set 1 (.int .i64 x) else rSpan L i') = flat L.length (rSpan (L.set i ⟨(L.getD i default).from_, x⟩)) := by
 apply flat_congr
 intro j hj
 rw [rSpan_set L hi]
 split <;> rfl
set_option maxHeartbeats 1000000 in
theorem fn144 (h3 : Codes3 E) {v : Value} {l : List SpanD} (hl : SpansAt H v l) (hn : l.length ≤ 1000000) :
  Fn E.P (E.fn 144) [v] H (fun u H' => ∃ ob,SpOwn H' u (unitedL l) ob ∧ H.le H' ∧ ∀ b,ob = some b → H b = none) := by
 obtain ⟨a,cap,rfl,hsp,hr⟩ := hl
 refine Fn.of_vks h3.c144 (by simp [cf144]) ?_
 simp only [cf144,cf144_0,cf144_1,cf144_2,cf144_3,cf144_4,cf144_5,cf144_6,cf144_7,cf144_8,cf144_9,cf144_10]
 simp only [go_sem,Nat.reduceEqDiff,Nat.reduceBEq,reduceCtorEq]
 refine vks_loopP l.length 0 (fun k fr' H' => ∃ u ob, fr' = [(3, ⟨true, .val u⟩), (7, ⟨true, .val (.slice a l.length cap)⟩), (8, ⟨true, .val (.int .i64 l.length)⟩), (9, ⟨true, .val (.int .i64 k)⟩)] ∧
  SpOwn H' u (unitedN l k) ob ∧ H.le H' ∧ ∀ b,ob = some b → H b = none) (Nat.zero_le _) ⟨_,none,rfl,⟨rfl,rfl⟩,Hp.le.refl _,fun b h => by cases h⟩ ?_
 rintro k fr' H' hk ⟨u,ob,rfl,hO,hle,hob⟩
 by_cases hlt : k < l.length
 ·have hd : decide ((k : Int) < (l.length : Int)) = true := by simpa using hlt
  have hr' := hr (by omega)
  obtain ⟨b,o,vs,c,wr,ha,hb,hi⟩ := hr'
  subst ha
  have hb1 := hle _ _ hb
  have hi1 := (hi k hlt).1
  have hi2 := (hi k hlt).2
  have hsucc : unitedN l (k + 1) = unite1 (unitedN l k) (l.getD k default) := rfl
  have hlen := unitedN_len l k
  obtain ⟨x,hx⟩ : ∃ y,l.getD k default = y := ⟨_,rfl⟩
  rw [hx] at hsucc
  have push : ∀ (fin : unitedN l (k + 1) = unitedN l k ++ [x]) (bs : Nat), H' bs = none → SpOwn (H'.put bs (.row [.int .i64 x.from_, .int .i64 x.till] 2 true)) u (unitedN l k) ob ∧ H bs = none := by
   intro fin bs hbs
   refine ⟨hO.keep fun b hb => ?_,?_⟩
   ·rw [Hp.put_ne]
    rintro rfl
    subst hb
    obtain ⟨_,_,_,hbb⟩ := hO
    rw [hbb] at hbs; cases hbs
   ·cases hq : H bs with
    | none => rfl
    | some o => rw [hle _ _ hq] at hbs; cases hbs
  cases ob with
  | none =>
   obtain ⟨rfl,hnil⟩ := hO
   have hfin : unitedN l (k + 1) = unitedN l k ++ [x] := by rw [hsucc,hnil]; rfl
   have d0 : decide ((0 : Int) > 0) = false := by decide
   have cN : ((0 : Nat) : Int) = 0 := rfl
   simp only [hd,hb1,hi2,rSpan,hx,undef,cN,d0,go_sem,Nat.reduceLeDiff,Nat.reduceEqDiff,Nat.reduceBEq,Nat.reduceAdd,Int.reduceSub,binO]
   refine ⟨⟨by omega,by omega⟩,hi1,?_⟩
   intro bs hbs
   have hp := push hfin bs hbs
   refine vks_pushSp x ?_ ?_ ?_ ?_ (Hp.put_same ..) hp.1 (by omega) ?_
   ·simp only [go_sem,Nat.reduceEqDiff]
   ·simp only [go_sem,Nat.reduceEqDiff]
   ·simp only [go_sem,Nat.reduceEqDiff]
   ·simp only [go_sem,Nat.reduceEqDiff]
   intro v' H3 b' hO3 hkeep hb'
   simp only [go_sem,Nat.reduceEqDiff,Nat.reduceBEq,binO]
   refine ⟨hlt,v',some b',⟨rfl,wrapS (by omega)⟩,by rw [hfin]; exact hO3,fun c o hc => hkeep c o (le_put hbs _ _ _ (hle _ _ hc)) (by simp),?_⟩
   intro b2 e
   cases e
   rcases hb' with h | h
   ·cases hq : H b' with
    | none => rfl
    | some o => rw [le_put hbs _ _ _ (hle _ _ hq)] at h; cases h
   ·cases h
  | some b0 =>
   have hO' := hO
   obtain ⟨hne,cp,rfl,hrow⟩ := hO'
   have hsucc' := hsucc
   rw [unite1_eq hne] at hsucc'
   obtain ⟨L,hL⟩ : ∃ y,y = unitedN l k := ⟨_,rfl⟩
   rw [← hL] at hne hrow hsucc' hlen hO push
   rw [← hL]
   have hpos : 0 < L.length := List.length_pos_iff.2 hne
   have d0 : decide ((L.length : Int) > 0) = true := by rw [decide_eq_true_eq]; omega
   have e1 : IntKind.i64.wrap ((L.length : Int) - 1) = ((L.length - 1 : Nat) : Int) := by rw [wrapI] <;> omega
   have hfl : (flat L.length (rSpan L)).length = L.length * 2 := flat_len fun i _ => rfl
   have hr0 := flat_at (n := L.length) (sz := 2) (row := rSpan L) (fun i _ => rfl) (L.length - 1) (by omega)
   have v1 := getD_of_take (o := (L.length - 1) * 2) (sz := 2) (j := 1) hr0 (by omega)
   simp only [rSpan,List.getD_cons_zero,List.getD_cons_succ] at v1
   obtain ⟨p,hp⟩ : ∃ y,y = L.getD (L.length - 1) default := ⟨_,rfl⟩
   rw [← hp] at v1 hsucc'
   simp only [hd,hb1,hi2,rSpan,hx,d0,e1,hrow,hfl,v1,go_sem,Nat.reduceLeDiff,Nat.reduceEqDiff,Nat.reduceBEq,Nat.reduceAdd,binO]
   refine ⟨⟨by omega,by omega⟩,hi1,⟨by omega,by omega⟩,by omega,fun hc => ?_,fun hc => ?_⟩
   ·have hc' : x.from_ ≤ p.till := by simpa using hc
    rw [if_pos hc'] at hsucc'
    have hs := flat_splice (n := L.length) (sz := 2) (row := rSpan L) (fun i _ => rfl) (i := L.length - 1) (j := 1) (by omega) (by omega) (.int .i64 (max p.till x.till))
    rw [rSpan_set1 L (by omega),← hp] at hs
    refine ⟨⟨by omega,by omega⟩,by omega,⟨by omega,by omega⟩,?_⟩
    simp only [hrow,hfl,vks_dst,go_sem,Nat.reduceEqDiff,Nat.reduceBEq,Nat.reduceAdd,binO]
    rw [hs]
    refine ⟨by omega,hlt,_,some b0,⟨rfl,wrapS (by omega)⟩,?_,le_put_of_le hle (hob b0 rfl) _,hob⟩
    rw [hsucc']
    refine ⟨fun h => hne (List.length_eq_zero_iff.1 (by rw [← List.length_set (as := L),h]; rfl)),cp,by rw [List.length_set],?_⟩
    rw [Hp.put_same,List.length_set]
   ·have hc' : ¬ x.from_ ≤ p.till := by simpa using hc
    rw [if_neg hc'] at hsucc'
    intro bs hbs
    have hpp := push hsucc' bs hbs
    refine vks_pushSp x ?_ ?_ ?_ ?_ (Hp.put_same ..) hpp.1 (by omega) ?_
    ·simp only [go_sem,Nat.reduceEqDiff]
    ·simp only [go_sem,Nat.reduceEqDiff]
    ·simp only [go_sem,Nat.reduceEqDiff]
    ·simp only [go_sem,Nat.reduceEqDiff]
    intro v' H3 b' hO3 hkeep hb'
    simp only [go_sem,Nat.reduceEqDiff,Nat.reduceBEq,binO]
    refine ⟨hlt,v',some b',⟨rfl,wrapS (by omega)⟩,by rw [hsucc']; exact hO3,fun c o hc => hkeep c o (le_put hbs _ _ _ (hle _ _ hc)) (fun e => by rw [hob c e.symm] at hc; cases hc),?_⟩
    intro b2 e
    cases e
    rcases hb' with h | h
    ·cases hq : H b' with
     | none => rfl
     | some o => rw [le_put hbs _ _ _ (hle _ _ hq)] at h; cases h
    ·exact hob b' h.symm
 ·have hd : decide ((k : Int) < (l.length : Int)) = false := by simpa using hlt
  have : k = l.length := by omega
  subst this
  simp only [hd,go_sem,Nat.reduceEqDiff,Nat.reduceBEq,Nat.reduceAdd,binO]
  exact ⟨ob,hO,hle,hob⟩
end Go.SL
