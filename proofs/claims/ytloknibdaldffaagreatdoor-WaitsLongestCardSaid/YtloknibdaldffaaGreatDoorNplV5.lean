/- Contracts: sorting nothing; Normal. -/
import Derived.Test.YtloknibdaldffaaGreatDoorNplQ
import Derived.Test.YtloknibdaldffaaGreatDoorNplW3
import Derived.Test.YtloknibdaldffaaGreatDoorNplT2
import Derived.Test.YtloknibdaldffaaGreatDoorNplO7
namespace Go.SL
open Go
variable {E : Env} {H : Hp}
theorem wi0 : IntKind.i64.wrap (0 : Int) = 0 := by decide
theorem fn109z (h2 : Codes2 E) (v f : Value) : Fn E.P (E.fn 109) [v, .int .i64 0, .int .i64 0, f] H (fun _ H' => H' = H) := by
 refine Fn.of_vks h2.c109 (by simp [cf109]) ?_
 simp only [cf109,cf109_0,cf109_1,cf109_3,cf109_4,cf109_6,cf109_5,cf109_2]
 simp only [go_sem,Nat.reduceEqDiff,Nat.reduceBEq,Nat.reduceAdd,reduceCtorEq,Int.reduceAdd,binO]
 refine vks_loopN 0 0 (fun _ => [(0,⟨true,.val v⟩),(1,⟨true,.val (.int .i64 0)⟩),(2,⟨true,.val (.int .i64 0)⟩),(3,⟨true,.val f⟩),(8,⟨true,.val (.int .i64 1)⟩)]) (fun _ => True) (Nat.le_refl _) rfl trivial ?_
 intro k hk _
 simp only [decF,go_sem,Nat.reduceEqDiff,Nat.reduceBEq,reduceCtorEq,Int.reduceLT,binO]
theorem fn86z (h2 : Codes2 E) (v f : Value) (m : Int) : Fn E.P (E.fn 86) [v, .int .i64 0, .int .i64 0, .int .i64 m, f] H (fun _ H' => H' = H) := by
 refine Fn.of_vks h2.c86 (by simp [cf86]) ?_
 simp only [cf86,cf86_0,cf86_1,cf86_2,cf86_3,cf86_4]
 simp only [go_sem,Nat.reduceEqDiff,Nat.reduceBEq,Nat.reduceAdd,reduceCtorEq]
 refine vks_loopN 0 0 (fun _ => [(0,⟨true,.val v⟩),(1,⟨true,.val (.int .i64 0)⟩),(2,⟨true,.val (.int .i64 0)⟩),(3,⟨true,.val (.int .i64 m)⟩),(4,⟨true,.val f⟩),(10,⟨true,.val (.bool true)⟩),(11,⟨true,.val (.bool true)⟩)]) (fun _ => True) (Nat.le_refl _) rfl trivial ?_
 intro k hk _
 simp only [wi0,decT,go_sem,Nat.reduceEqDiff,Nat.reduceBEq,reduceCtorEq,Int.reduceLE,Int.reduceSub,binO]
 refine vks_call ?_ (fn109z h2 v f) ?_
 ·simp only [go_sem,Nat.reduceEqDiff,reduceCtorEq]
 rintro u H' rfl
 simp only [go_sem,Nat.reduceBEq]
theorem fn87z (hE : Codes E) (h2 : Codes2 E) (f : Value) : Fn E.P (E.fn 87) [.slice none 0 0, f] H (fun _ H' => H' = H) := by
 refine Fn.of_vks hE.c87 (by simp [cf87]) ?_
 simp only [cf87,cf87_0,cf87_1]
 have e1 : IntKind.u64.wrap (0 : Int) = ((0 : Nat) : Int) := by decide
 have cN : ((0 : Nat) : Int) = 0 := rfl
 simp only [cN,e1,go_sem,Nat.reduceEqDiff,Nat.reduceBEq,reduceCtorEq]
 refine vks_callp _ ?_ (fun _ => ⟨?_,fn85n h2 0 (by omega)⟩) ?_ <;> simp only [go_sem,Nat.reduceEqDiff,Nat.reduceBEq,reduceCtorEq]
 refine vks_call ?_ (fn86z h2 _ f _) ?_
 ·simp only [go_sem,Nat.reduceEqDiff,reduceCtorEq]
 rintro u H' rfl
 simp only [go_sem,Nat.reduceBEq]
def SpOk (l : List SpanD) : Prop := ∀ s ∈ l,0 ≤ s.from_ ∧ s.from_ ≤ s.till ∧ s.till ≤ 20000000
set_option maxHeartbeats 1000000 in
theorem fn129 (hE : Codes E) (h2 : Codes2 E) (h3 : Codes3 E) {v : Value} {l : List SpanD} (hl : SpansAt H v l) (hn : l.length ≤ 12) (hok : SpOk l) :
  Fn E.P (E.fn 129) [v] H (fun u H' => ∃ w ob,u = .tuple #[w,.int .i64 0] ∧ SpOwn H' w (normalL l) ob ∧ H.le H' ∧ ∀ b,ob = some b → H b = none) := by
 have hl' := hl
 obtain ⟨a,cap,rfl,hsp,hr⟩ := hl
 refine Fn.of_vks h3.c129 (by simp [cf129]) ?_
 simp only [cf129,cf129_0,cf129_1,cf129_2,cf129_3,cf129_4,cf129_5,cf129_6,cf129_7,cf129_8,cf129_9,cf129_10,cf129_11]
 simp only [go_sem,Nat.reduceEqDiff,Nat.reduceBEq,reduceCtorEq,binO]
 have d1 : decide ((l.length : Int) > 20000) = false := by rw [decide_eq_false_iff_not]; omega
 simp only [d1,go_sem]
 refine vks_loopN l.length 0 (fun k => [(0,⟨true,.val (.slice a l.length cap)⟩),(10,⟨true,.val (.slice a l.length cap)⟩),(11,⟨true,.val (.int .i64 l.length)⟩),(12,⟨true,.val (.int .i64 k)⟩)]) (fun _ => True) (Nat.zero_le _) rfl trivial ?_
 intro k hk _
 by_cases hlt : k < l.length
 ·have hd : decide ((k : Int) < (l.length : Int)) = true := by simpa using hlt
  have hr' := hr (by omega)
  obtain ⟨b,o,vs,c,wr,ha,hb,hi⟩ := hr'
  subst ha
  have hi1 := (hi k hlt).1
  have hi2 := (hi k hlt).2
  have hx := hok _ (getD_mem hlt)
  have c1 : decide ((l.getD k default).from_ < 0) = false := by rw [decide_eq_false_iff_not]; omega
  have c2 : decide ((l.getD k default).from_ > (l.getD k default).till) = false := by rw [decide_eq_false_iff_not]; omega
  have c3 : decide ((l.getD k default).till > 20000000) = false := by rw [decide_eq_false_iff_not]; omega
  simp only [hd,hb,hi2,rSpan,c1,c2,c3,go_sem,Nat.reduceLeDiff,Nat.reduceEqDiff,Nat.reduceBEq,Nat.reduceAdd,reduceCtorEq,binO]
  refine ⟨⟨by omega,by omega⟩,hi1,hlt,wrapS (by omega)⟩
 ·have hd : decide ((k : Int) < (l.length : Int)) = false := by simpa using hlt
  simp only [hd,go_sem,Nat.reduceEqDiff,Nat.reduceBEq,Nat.reduceAdd,reduceCtorEq,binO]
  refine vks_call ?_ (fn142 h3 hl' (by omega)) ?_
  ·simp only [go_sem,Nat.reduceEqDiff,reduceCtorEq]
  rintro w H1 ⟨ob,hO,hle,hob⟩
  have hsl := sift_len l
  have fin : ∀ (H2 : Hp) (w2 : Value), w2 = w → H.le H2 → SpansAt H2 w (sortL (siftL l)) →
    Fn E.P (E.fn 144) [w2] H2 (fun u H' => ∃ ob,SpOwn H' u (normalL l) ob ∧ H.le H' ∧ ∀ b,ob = some b → H b = none) := by
   rintro H2 w2 rfl hle2 hs
   refine (fn144 h3 hs (by rw [sortL,sortN_len]; omega)).mono ?_
   rintro u H' ⟨ob,h1,h2,h3⟩
   refine ⟨ob,h1,hle2.trans h2,fun b hb => ?_⟩
   have := h3 b hb
   cases hq : H b with
   | none => rfl
   | some o => rw [hle2 _ _ hq] at this; cases this
  cases ob with
  | none =>
   obtain ⟨rfl,hnil⟩ := hO
   have hs : SpansAt H1 (.slice none 0 0) (sortL (siftL l)) := by rw [hnil]; exact SlAt.nil
   simp only [go_sem,Nat.reduceEqDiff,Nat.reduceBEq,reduceCtorEq]
   refine vks_call ?_ (fn87z hE h2 (.func (.func (E.fn 143)) #[] #[])) ?_
   ·simp only [go_sem,Nat.reduceEqDiff]
   rintro u H2 rfl
   simp only [go_sem,Nat.reduceEqDiff,Nat.reduceBEq]
   refine vks_call ?_ (fin _ _ rfl hle hs) ?_
   ·simp only [go_sem,Nat.reduceEqDiff]
   rintro u2 H3 ⟨ob,h1,h2,h3⟩
   obtain ⟨_,_,hu2⟩ := h1.sl
   subst hu2
   simp only [go_sem,Nat.reduceEqDiff,Nat.reduceBEq]
   exact ⟨_,ob,rfl,h1,h2,h3⟩
  | some b =>
   obtain ⟨hne,cp,rfl,hrow⟩ := hO
   simp only [go_sem,Nat.reduceEqDiff,Nat.reduceBEq,reduceCtorEq]
   refine vks_call ?_ (fn87s hE h2 (cmp143 hE h3) (siftL l) (by omega) hrow) ?_
   ·simp only [go_sem,Nat.reduceEqDiff]
   rintro u H2 rfl
   have hs : SpansAt (H1.put b (.row (flat (siftL l).length (rSpan (sortL (siftL l)))) (cp * 2) true)) (.slice (some ⟨b, 0, none⟩) (siftL l).length cp) (sortL (siftL l)) := by
    have e : (sortL (siftL l)).length = (siftL l).length := by rw [sortL,sortN_len]
    have := SlAt.ofRow (H := H1.put b (.row (flat (siftL l).length (rSpan (sortL (siftL l)))) (cp * 2) true)) (sz := 2) (n := (sortL (siftL l)).length) (cap := cp) (c := cp * 2) (row := rSpan (sortL (siftL l))) (b := b) (wr := true) (fun i _ => rfl) (by rw [Hp.put_same,e])
    rw [e] at this
    unfold SpansAt
    rw [e]
    exact this
   simp only [go_sem,Nat.reduceEqDiff,Nat.reduceBEq]
   refine vks_call ?_ (fin _ _ rfl (le_put_of_le hle (hob b rfl) _) hs) ?_
   ·simp only [go_sem,Nat.reduceEqDiff]
   rintro u2 H3 ⟨ob,h1,h2,h3⟩
   obtain ⟨_,_,hu2⟩ := h1.sl
   subst hu2
   simp only [go_sem,Nat.reduceEqDiff,Nat.reduceBEq]
   exact ⟨_,ob,rfl,h1,h2,h3⟩
end Go.SL
/- Plain law: when a history is valid; the history whose copies of a zone end at a time is valid. -/
namespace Go.SL
open Go
def Apart (a b : SpanD) : Prop := a.till ≤ b.from_ ∨ b.till ≤ a.from_
theorem Apart.symm {a b : SpanD} (h : Apart a b) : Apart b a := h.elim .inr .inl
def HDisj (cs : List CopyD) : Prop := cs.Pairwise fun c c' => c.key = c'.key → Apart (spanOf c) (spanOf c')
theorem pair_adj {l : List SpanD} (hv : ∀ s ∈ l, s.from_ < s.till) (ho : OrdN (fun s : SpanD => s.from_) l l.length) :
  apartB l = true ↔ l.Pairwise Apart := by
 unfold apartB
 rw [allN_iff,List.pairwise_iff_getElem]
 have hget : ∀ i (hi : i < l.length),l.getD i default = l[i] := fun i hi => by rw [List.getD_eq_getElem?_getD,List.getElem?_eq_getElem hi]; rfl
 constructor
 ·intro h
  have hadj : ∀ i, (hi : i + 1 < l.length) → (l[i]'(by omega)).till ≤ (l[i + 1]).from_ := by
   intro i hi
   have := h i (by omega)
   rw [hget (i + 1) hi,hget i (by omega)] at this
   simp at this
   exact this
  have key : ∀ n i (hi : i + n + 1 < l.length), (l[i]'(by omega)).till ≤ (l[i + n + 1]).from_ := by
   intro n
   induction n with
   | zero => intro i hi; exact hadj i hi
   | succ n ih =>
    intro i hi
    have h1 := ih i (by omega)
    have h2 := hadj (i + n + 1) (by omega)
    have h3 := hv _ (List.getElem_mem (show i + n + 1 < l.length by omega))
    have : (l[i + (n + 1) + 1]).from_ = (l[i + n + 1 + 1]'(by omega)).from_ := by congr 1
    omega
  intro i j hi hj hij
  have := key (j - i - 1) i (by omega)
  refine .inl ?_
  have e : i + (j - i - 1) + 1 = j := by omega
  simp only [e] at this
  exact this
 ·intro h i hi
  have h1 := h i (i + 1) (by omega) (by omega) (by omega)
  have h2 : (l.getD i default).from_ ≤ (l.getD (i + 1) default).from_ := ho i (by omega)
  rw [hget (i + 1) (by omega),hget i (by omega)] at h2 ⊢
  have h3 := hv _ (List.getElem_mem (show i + 1 < l.length by omega))
  simp only [Bool.not_eq_true',decide_eq_false_iff_not]
  rcases h1 with h1 | h1 <;> omega
theorem place_iff {l : List SpanD} (hv : ∀ s ∈ l, s.from_ < s.till) : placeOk l = true ↔ l.Pairwise Apart := by
 have hp := sortN_perm ltSpan l.length l (Nat.le_refl _)
 unfold placeOk
 rw [pair_adj (fun s hs => hv s (hp.mem_iff.1 hs)) (sortL_ord l)]
 exact hp.pairwise_iff Apart.symm
theorem mput_nodup {κ ν : Type} [DecidableEq κ] {k : κ} {v : ν} : ∀ {l : List (κ × ν)}, (l.map (·.1)).Nodup → ((mput k v l).map (·.1)).Nodup
 | [],_ => by simp [mput]
 | (k', v') :: r, h => by
  simp only [List.map_cons,List.nodup_cons] at h
  simp only [mput]
  split
  ·rename_i e; subst e; simpa using h
  ·rename_i e
   simp only [List.map_cons,List.nodup_cons]
   refine ⟨fun hm => ?_,mput_nodup h.2⟩
   obtain ⟨x,hx,hx2⟩ := List.mem_map.1 hm
   rcases mem_mput hx with rfl | hx
   ·exact e hx2
   ·exact h.1 (List.mem_map.2 ⟨x,hx,hx2⟩)
theorem mem_mput_ne {κ ν : Type} [DecidableEq κ] {k : κ} {v : ν} {e : κ × ν} : ∀ {l : List (κ × ν)}, (l.map (·.1)).Nodup → e ∈ mput k v l → e = (k, v) ∨ (e ∈ l ∧ e.1 ≠ k)
 | [],_,h => .inl (by simpa [mput] using h)
 | (k', v') :: r, hn, h => by
  simp only [List.map_cons,List.nodup_cons] at hn
  simp only [mput] at h
  split at h
  ·rename_i e'; subst e'
   rcases List.mem_cons.1 h with h | h
   ·exact .inl h
   ·exact .inr ⟨List.mem_cons_of_mem _ h,fun he => hn.1 (List.mem_map.2 ⟨e,h,he⟩)⟩
  ·rename_i e'
   rcases List.mem_cons.1 h with h | h
   ·exact .inr ⟨by rw [h]; exact List.mem_cons_self,by rw [h]; exact Ne.symm e'⟩
   ·rcases mem_mput_ne hn.2 h with h | h
    ·exact .inl h
    ·exact .inr ⟨List.mem_cons_of_mem _ h.1,h.2⟩
theorem timesN_nodup (cs : List CopyD) : ∀ k, ((timesN cs k).map (·.1)).Nodup
 | 0 => by simp [timesN]
 | k + 1 => mput_nodup (timesN_nodup cs k)
def spansOf (cs : List CopyD) (p : Pair) : List SpanD := (cs.filter fun c => decide (c.key = p)).map spanOf
theorem take_getD {cs : List CopyD} {k : Nat} (hk : k < cs.length) : cs.take (k + 1) = cs.take k ++ [cs.getD k default] := by
 rw [List.take_add_one,List.getElem?_eq_getElem hk,List.getD_eq_getElem?_getD,List.getElem?_eq_getElem hk]; rfl
theorem timesN_spec (cs : List CopyD) : ∀ k, k ≤ cs.length → (∀ p, (mget p (timesN cs k)).getD [] = spansOf (cs.take k) p) ∧ (∀ e ∈ timesN cs k, e.2 = spansOf (cs.take k) e.1)
 | 0,_ => ⟨fun p => (by simp [timesN,mget,spansOf]),fun e h => by cases h⟩
 | k + 1, hk => by
  obtain ⟨h1,h2⟩ := timesN_spec cs k (by omega)
  have ht := take_getD (cs := cs) (k := k) (by omega)
  have hsp : ∀ p, spansOf (cs.take (k + 1)) p = spansOf (cs.take k) p ++ (if (cs.getD k default).key = p then [spanOf (cs.getD k default)] else []) := by
   intro p
   rw [ht]
   unfold spansOf
   rw [List.filter_append,List.map_append]
   congr 1
   by_cases e : (cs.getD k default).key = p
   ·rw [if_pos e,List.filter_cons_of_pos (by simpa using e)]; rfl
   ·rw [if_neg e,List.filter_cons_of_neg (by simpa using e)]; rfl
  refine ⟨fun p => ?_,fun e he => ?_⟩
  ·simp only [timesN]
   rw [mget_mput,hsp]
   by_cases e : p = (cs.getD k default).key
   ·subst e
    rw [if_pos rfl,if_pos rfl,Option.getD_some,h1]
   ·rw [if_neg e,if_neg (Ne.symm e),List.append_nil,h1]
  ·simp only [timesN] at he
   rw [hsp]
   rcases mem_mput_ne (timesN_nodup cs k) he with rfl | ⟨he,hne⟩
   ·rw [if_pos rfl,h1]
   ·rw [if_neg (Ne.symm hne),List.append_nil]; exact h2 e he
theorem timesN_has (cs : List CopyD) : ∀ k i, i < k → ∃ e ∈ timesN cs k, e.1 = (cs.getD i default).key
 | 0,i,h => by omega
 | k + 1, i, h => by
  have hg : ∀ p, (mget p (timesN cs (k + 1))).isSome = true → ∃ e ∈ timesN cs (k + 1), e.1 = p := by
   intro p hp
   cases hm : mget p (timesN cs (k + 1)) with
   | none => rw [hm] at hp; cases hp
   | some v => exact ⟨_,mget_mem hm,rfl⟩
  by_cases e : i = k
  ·subst e
   apply hg
   simp only [timesN]
   rw [mget_mput,if_pos rfl]; rfl
  ·obtain ⟨e0,he0,hk0⟩ := timesN_has cs k i (by omega)
   apply hg
   simp only [timesN]
   rw [mget_mput]
   split
   ·rfl
   ·rw [← hk0]
    have := mget_some_of_mem he0
    exact this
where
 mget_some_of_mem {κ ν : Type} [DecidableEq κ] {l : List (κ × ν)} {e : κ × ν} (h : e ∈ l) : (mget e.1 l).isSome = true := by
  induction l with
  | nil => cases h
  | cons x r ih =>
   obtain ⟨k',v'⟩ := x
   simp only [mget]
   split
   ·rfl
   ·rename_i hne
    rcases List.mem_cons.1 h with rfl | h
    ·exact absurd rfl hne
    ·exact ih h
theorem pairwise_filter_map (cs : List CopyD) : HDisj cs ↔ ∀ p, (spansOf cs p).Pairwise Apart := by
 unfold HDisj spansOf
 constructor
 ·intro h p
  rw [List.pairwise_map]
  have := List.Pairwise.filter (fun c => decide (c.key = p)) h
  refine List.Pairwise.imp_of_mem ?_ this
  intro a b ha hb hab
  have ha' := of_decide_eq_true (List.mem_filter.1 ha).2
  have hb' := of_decide_eq_true (List.mem_filter.1 hb).2
  exact hab (ha'.trans hb'.symm)
 ·intro h
  induction cs with
  | nil => exact List.Pairwise.nil
  | cons c cs ih =>
   refine List.pairwise_cons.2 ⟨fun c' hc' hk => ?_,ih fun p => ?_⟩
   ·have := h c.key
    rw [List.filter_cons_of_pos (by simp),List.map_cons,List.pairwise_cons] at this
    exact this.1 _ (List.mem_map.2 ⟨c',List.mem_filter.2 ⟨hc',by simp [hk]⟩,rfl⟩)
   ·have := h p
    by_cases e : c.key = p
    ·rw [List.filter_cons_of_pos (by simp [e]),List.map_cons,List.pairwise_cons] at this
     exact this.2
    ·rw [List.filter_cons_of_neg (by simp [e])] at this
     exact this
theorem places_iff {cs : List CopyD} (hv : ∀ c ∈ cs, c.from_ < c.till) : allN (fun i => placeOk ((timesN cs cs.length).getD i default).2) (timesN cs cs.length).length = true ↔ HDisj cs := by
 have hs := timesN_spec cs cs.length (Nat.le_refl _)
 rw [List.take_length] at hs
 have hvs : ∀ p, ∀ s ∈ spansOf cs p, s.from_ < s.till := by
  intro p s hsp
  obtain ⟨c,hc,rfl⟩ := List.mem_map.1 hsp
  exact hv c (List.mem_filter.1 hc).1
 rw [pairwise_filter_map,allN_iff]
 constructor
 ·intro h p
  by_cases hp : ∃ c ∈ cs,c.key = p
  ·obtain ⟨c,hc,rfl⟩ := hp
   obtain ⟨i,hi,rfl⟩ := mem_getD hc
   obtain ⟨e,he,hek⟩ := timesN_has cs cs.length i hi
   obtain ⟨j,hj,hje⟩ := mem_getD he
   have := h j hj
   rw [hje,hs.2 e he,place_iff (hvs _),hek] at this
   exact this
  ·have : spansOf cs p = [] := by
    unfold spansOf
    rw [List.filter_eq_nil_iff.2]
    ·rfl
    ·intro c hc hk
     exact hp ⟨c,hc,of_decide_eq_true hk⟩
   rw [this]; exact List.Pairwise.nil
 ·intro h j hj
  have hm := getD_mem hj
  rw [hs.2 _ hm,place_iff (hvs _)]
  exact h _
theorem keysN_len {κ : Type} [DecidableEq κ] (f : Nat → κ) : ∀ k, (keysN f k).length ≤ k
 | 0 => Nat.le_refl _
 | k + 1 => by simp only [keysN]; have := mput_len (f k) true (keysN f k); have := keysN_len f k; omega
structure HistOk (h : HistD) : Prop where
 end1 : 1 ≤ h.end_
 end2 : h.end_ ≤ 10000000
 drift1 : 0 ≤ h.drift
 drift2 : h.drift ≤ 1000
 num : h.copies.length ≤ 4000
 hosts : worldValid (hostsPart h) = true
 copy : ∀ c ∈ h.copies,0 ≤ c.host ∧ c.host < (h.hosts.length : Int) ∧ 0 ≤ c.from_ ∧ c.from_ < c.till ∧ c.till ≤ h.end_ ∧ zoneValid c.apex c.sets = true
 disj : HDisj h.copies
 apexes : (apexesC h.copies h.copies.length).length ≤ 500
theorem hcopyOk_iff {nh e : Int} {c : CopyD} : hcopyOk nh e c = true ↔ 0 ≤ c.host ∧ c.host < nh ∧ 0 ≤ c.from_ ∧ c.from_ < c.till ∧ c.till ≤ e ∧ zoneValid c.apex c.sets = true := by
 unfold hcopyOk hcopyBad
 simp only [Bool.and_eq_true,Bool.not_eq_true',Bool.or_eq_false_iff,decide_eq_false_iff_not]
 constructor
 ·rintro ⟨⟨⟨⟨⟨h1,h2⟩,h3⟩,h4⟩,h5⟩,h6⟩
  exact ⟨by omega,by omega,by omega,by omega,by omega,h6⟩
 ·rintro ⟨h1,h2,h3,h4,h5,h6⟩
  exact ⟨⟨⟨⟨⟨by omega,by omega⟩,by omega⟩,by omega⟩,by omega⟩,h6⟩
theorem histValid_iff {h : HistD} : histValid h = true ↔ HistOk h := by
 unfold histValid headBad
 simp only [Bool.and_eq_true,Bool.not_eq_true',Bool.or_eq_false_iff,decide_eq_false_iff_not,decide_eq_true_eq]
 constructor
 ·rintro ⟨⟨⟨⟨⟨h1,h2⟩,h3⟩,h4⟩,h5⟩,h6,h7,h8,h9⟩
  have hc : ∀ c ∈ h.copies, 0 ≤ c.host ∧ c.host < (h.hosts.length : Int) ∧ 0 ≤ c.from_ ∧ c.from_ < c.till ∧ c.till ≤ h.end_ ∧ zoneValid c.apex c.sets = true := by
   intro c hc
   obtain ⟨i,hi,rfl⟩ := mem_getD hc
   exact hcopyOk_iff.1 (allN_iff.1 h7 i hi)
  exact ⟨by omega,by omega,by omega,by omega,by omega,h6,hc,(places_iff fun c hm => (hc c hm).2.2.2.1).1 h8,h9⟩
 ·intro ho
  refine ⟨⟨⟨⟨⟨?_,?_⟩,?_⟩,?_⟩,?_⟩,ho.hosts,allN_iff.2 fun i hi => hcopyOk_iff.2 (ho.copy _ (getD_mem hi)),(places_iff fun c hm => (ho.copy c hm).2.2.2.1).2 ho.disj,ho.apexes⟩
  ·have := ho.end1; omega
  ·have := ho.end2; omega
  ·have := ho.drift1; omega
  ·have := ho.drift2; omega
  ·have := ho.num; omega
theorem shortN_len (cs : List CopyD) (zone : Bs) (t : Int) : ∀ k, (shortN cs zone t k).length ≤ k
 | 0 => Nat.le_refl _
 | k + 1 => by
  simp only [shortN]
  have := shortN_len cs zone t k
  split
  ·simp; omega
  ·omega
theorem shortN_disj (cs : List CopyD) (zone : Bs) (t : Int) (h : HDisj cs) : ∀ k, k ≤ cs.length → HDisj (shortN cs zone t k)
 | 0,_ => List.Pairwise.nil
 | k + 1, hk => by
  have ih := shortN_disj cs zone t h k (by omega)
  simp only [shortN]
  split
  ·refine List.pairwise_append.2 ⟨ih,List.pairwise_singleton _ _,?_⟩
   intro a ha b hb
   obtain rfl : b = cutC (cs.getD k default) t := by simpa using hb
   obtain ⟨i,hi,_,_,rfl⟩ := (mem_shortN cs zone t a k).1 ha
   intro hkey
   have hkey' : (cs.getD i default).key = (cs.getD k default).key := hkey
   have hget : ∀ i (hi : i < cs.length),cs.getD i default = cs[i] := fun i hi => by rw [List.getD_eq_getElem?_getD,List.getElem?_eq_getElem hi]; rfl
   have hp := List.pairwise_iff_getElem.1 h i k (by omega) (by omega) hi
   rw [← hget i (by omega),← hget k (by omega)] at hp
   have := hp hkey'
   rcases this with h1 | h1
   ·have h1' : (cs.getD i default).till ≤ (cs.getD k default).from_ := h1
    exact .inl (by show min (cs.getD i default).till t ≤ (cs.getD k default).from_; omega)
   ·have h1' : (cs.getD k default).till ≤ (cs.getD i default).from_ := h1
    exact .inr (by show min (cs.getD k default).till t ≤ (cs.getD i default).from_; omega)
  ·exact ih
def shortH (h : HistD) (zone : Bs) (t : Int) : HistD := { h with copies := shortN h.copies zone t h.copies.length }
theorem short_valid {h : HistD} (zone : Bs) (t : Int) (hn : h.copies.length ≤ 500) (hv : histValid h = true) : histValid (shortH h zone t) = true := by
 have ho := histValid_iff.1 hv
 have hl := shortN_len h.copies zone t h.copies.length
 refine histValid_iff.2 ⟨ho.end1,ho.end2,ho.drift1,ho.drift2,?_,ho.hosts,?_,shortN_disj _ _ _ ho.disj _ (Nat.le_refl _),?_⟩
 ·show (shortN h.copies zone t h.copies.length).length ≤ 4000
  omega
 ·intro c hc
  obtain ⟨i,hi,_,hlt,rfl⟩ := (mem_shortN h.copies zone t c h.copies.length).1 hc
  have := ho.copy _ (getD_mem hi)
  refine ⟨this.1,this.2.1,this.2.2.1,hlt,?_,this.2.2.2.2.2⟩
  show min (h.copies.getD i default).till t ≤ h.end_
  omega
 ·have := keysN_len (fun k => ((shortH h zone t).copies.getD k default).apex) (shortH h zone t).copies.length
  show (keysN (fun k => ((shortH h zone t).copies.getD k default).apex) (shortH h zone t).copies.length).length ≤ 500
  have e : (shortH h zone t).copies.length = (shortN h.copies zone t h.copies.length).length := rfl
  omega
end Go.SL
/- Contracts: when a cache may use a set. -/
namespace Go.SL
open Go
variable {E : Env} {H : Hp}
structure GrowOk (d : Int) (s : SignedD) : Prop where
 d1 : 0 ≤ d
 d2 : d ≤ 1000
 life : 0 ≤ s.life ∧ s.life ≤ 100000
 sigs : ∀ g ∈ s.sigs,0 ≤ g.till ∧ g.till ≤ 20000000
theorem GoodS.grow {d : Int} {s : SignedD} (h : GoodS s) (h1 : 0 ≤ d) (h2 : d ≤ 1000) : GrowOk d s := ⟨h1,h2,h.life,h.sigs⟩
def rHeld (zn : Bs) (s : SignedD) (dv gv fv sv : Value) : List Value := [S zn,S s.name,.int .i64 s.type,.int .i64 s.life,dv,gv,fv,sv]
set_option maxHeartbeats 1000000 in
theorem fn140 (h3 : Codes3 E) {b2 b3 c2 c3 : Nat} {w2 w3 : Bool} {zn : Bs} {s : SignedD} {dv gv fv sv : Value} {d : Int} {sp : SpanD} (ho : GrowOk d s) (hsp : 0 ≤ sp.till ∧ sp.till ≤ 10000000)
  (hx : H b2 = some (.row (rHeld zn s dv gv fv sv) c2 w2)) (hd : H b3 = some (.row [.int .i64 d] c3 w3)) (hg : SigsAt H gv s.sigs) :
  FnP E 140 [vSpan sp,.pointer (some ⟨b2,0,none⟩),.pointer (some ⟨b3,0,none⟩)] H (vSpan (growS d s sp)) := by
 have hg' := hg
 obtain ⟨a,cap,rfl,hs0,hr⟩ := hg
 have l1 := ho.life
 have l2 := ho.d1
 have l3 := ho.d2
 have w1 : IntKind.i64.wrap (sp.till - 1) = sp.till - 1 := by rw [wrapI] <;> omega
 have w2 : IntKind.i64.wrap (2 * d) = 2 * d := by rw [wrapI] <;> omega
 have w3 : IntKind.i64.wrap (sp.till - 1 + max s.life 1) = sp.till - 1 + max s.life 1 := by rw [wrapI] <;> omega
 have w4 : IntKind.i64.wrap (sp.till - 1 + max s.life 1 + 2 * d) = sp.till - 1 + max s.life 1 + 2 * d := by rw [wrapI] <;> omega
 unfold vSpan growS
 simp only [rHeld] at hx
 refine Fn.of_vks h3.c140 (by simp [cf140]) ?_
 simp only [cf140,cf140_0,cf140_1,cf140_2,cf140_3,cf140_4]
 rcases hsig : s.sigs with _ | ⟨g,r⟩
 ·have hge : growEnd d s sp.till = max sp.till (sp.till - 1 + max s.life 1 + 2 * d) := by unfold growEnd; rw [hsig]
  have cN : decide (((s.sigs.length : Nat) : Int) > 0) = false := by rw [hsig]; rfl
  clear hsig
  simp only [hx,hd,w1,w2,w3,w4,cN,go_sem,Nat.reduceLeDiff,Nat.reduceEqDiff,Nat.reduceBEq,Nat.reduceAdd,reduceCtorEq,binO]
  rw [hge]
 ·have hgm := ho.sigs g (by rw [hsig]; exact List.mem_cons_self)
  have hge : growEnd d s sp.till = max sp.till (min (sp.till - 1 + max s.life 1 + 2 * d) (g.till + d + 1)) := by unfold growEnd; rw [hsig]
  have hpos : 0 < s.sigs.length := by rw [hsig]; simp
  have hg0 : s.sigs.getD 0 default = g := by rw [hsig]; rfl
  have hr' := hr hpos
  obtain ⟨b,o,vs,c,wr,ha,hb,hi⟩ := hr'
  subst ha
  have hi1 := (hi 0 hpos).1
  have hi2 := (hi 0 hpos).2
  have v4 := getD_of_take (o := o + 0 * 6) (sz := 6) (j := 4) hi2 (by omega)
  simp only [rSig,hg0,List.getD_cons_zero,List.getD_cons_succ,Nat.zero_mul,Nat.add_zero] at v4 hi1
  have w5 : IntKind.i64.wrap (g.till + d) = g.till + d := by rw [wrapI] <;> omega
  have w6 : IntKind.i64.wrap (g.till + d + 1) = g.till + d + 1 := by rw [wrapI] <;> omega
  have cN : decide (((s.sigs.length : Nat) : Int) > 0) = true := by rw [decide_eq_true_eq]; omega
  clear hsig
  simp only [hx,hd,w1,w2,w3,w4,w5,w6,hb,v4,cN,go_sem,Nat.reduceLeDiff,Nat.reduceEqDiff,Nat.reduceBEq,Nat.reduceAdd,reduceCtorEq,Int.reduceToNat,Int.reduceLE,binO]
  exact ⟨by omega,by omega,by rw [hge]⟩
theorem growEnd_ub {d : Int} {s : SignedD} {e : Int} (ho : GrowOk d s) (h : e ≤ 10000000) : growEnd d s e ≤ 20000000 := by
 have l1 := ho.life
 have l2 := ho.d1
 have l3 := ho.d2
 unfold growEnd
 split <;> omega
theorem take_succ_map {α β : Type} [Inhabited α] (f : α → β) {l : List α} {k : Nat} (hk : k < l.length) : (l.take (k + 1)).map f = (l.take k).map f ++ [f (l.getD k default)] := by
 rw [List.take_add_one,List.getElem?_eq_getElem hk,List.getD_eq_getElem?_getD,List.getElem?_eq_getElem hk,List.map_append]; rfl
set_option maxHeartbeats 1000000 in
theorem fn138 (hE : Codes E) (h2 : Codes2 E) (h3 : Codes3 E) {zn : Bs} {s : SignedD} {dv gv fv sv : Value} {d : Int} {fresh : List SpanD} (ho : GrowOk d s) (hg : SigsAt H gv s.sigs) (hf : SpansAt H fv fresh) (hn : fresh.length ≤ 12)
  (hb : ∀ sp ∈ fresh,0 ≤ sp.from_ ∧ sp.from_ ≤ sp.till ∧ sp.till ≤ 10000000) (_h1d : one1 dv = true) (_h1s : one1 sv = true) :
  Fn E.P (E.fn 138) [.agg #[S zn,S s.name,.int .i64 s.type,.int .i64 s.life,dv,gv,fv,sv],.int .i64 d] H (fun u H' => ∃ ob,SpOwn H' u (usedL d s fresh) ob ∧ H.le H' ∧ ∀ b,ob = some b → H b = none) := by
 have h1g := SlAt.one hg
 have h1f := SlAt.one hf
 obtain ⟨a,cap,rfl,hsp,hr⟩ := hf
 refine Fn.of_vks h3.c138 (by simp [cf138]) ?_
 simp only [cf138,cf138_0,cf138_1,cf138_2,cf138_3,cf138_4,cf138_5,cf138_6,cf138_7,cf138_8,cf138_9]
 simp only [go_sem,Nat.reduceEqDiff,Nat.reduceBEq,Nat.reduceAdd,reduceCtorEq]
 intro b2 hb2 b3 hb3
 obtain ⟨G,hG⟩ : ∃ y,y = (H.put b2 (.row [S zn,S s.name,.int .i64 s.type,.int .i64 s.life,dv,gv,.slice a fresh.length cap,sv] 8 true)).put b3 (.row [.int .i64 d] 1 true) := ⟨_,rfl⟩
 have hne : b2 ≠ b3 := by rintro rfl; rw [Hp.put_same] at hb3; cases hb3
 have hG2 : G b2 = some (.row (rHeld zn s dv gv (.slice a fresh.length cap) sv) 8 true) := by rw [hG,Hp.put_ne _ _ hne,Hp.put_same]; rfl
 have hG3 : G b3 = some (.row [.int .i64 d] 1 true) := by rw [hG,Hp.put_same]
 have hGle : H.le G := by rw [hG]; exact (le_put hb2 _).trans (le_put hb3 _)
 have hG2' := hG2
 simp only [rHeld] at hG2'
 rw [← hG]
 simp only [hG2',go_sem,Nat.reduceLeDiff,Nat.reduceEqDiff,Nat.reduceBEq,Nat.reduceAdd]
 refine vks_loopP fresh.length 0 (fun k fr' H' => ∃ u ob, fr' = [(5, ⟨true, .val (.func (.func (E.fn 140)) #[] #[.pointer (some ⟨b2, 0, none⟩), .pointer (some ⟨b3, 0, none⟩)])⟩), (6, ⟨true, .val u⟩), (11, ⟨true, .val (.slice a fresh.length cap)⟩), (12, ⟨true, .val (.int .i64 fresh.length)⟩), (13, ⟨true, .val (.int .i64 k)⟩)] ∧
  SpOwn H' u ((fresh.take k).map (growS d s)) ob ∧ G.le H' ∧ ∀ b,ob = some b → G b = none) (Nat.zero_le _) ⟨_,none,rfl,⟨rfl,rfl⟩,Hp.le.refl _,fun b h => by cases h⟩ ?_
 rintro k fr' H' hk ⟨u,ob,rfl,hO,hle,hob⟩
 by_cases hlt : k < fresh.length
 ·have hd : decide ((k : Int) < (fresh.length : Int)) = true := by simpa using hlt
  have hr' := hr (by omega)
  obtain ⟨b,o,vs,c,wr,ha,hbb,hi⟩ := hr'
  subst ha
  have hb1 := hle _ _ (hGle _ _ hbb)
  have hi1 := (hi k hlt).1
  have hi2 := (hi k hlt).2
  have hsucc := take_succ_map (growS d s) hlt
  have hlen : ((fresh.take k).map (growS d s)).length ≤ 12 := by rw [List.length_map,List.length_take]; omega
  have hxm := hb _ (getD_mem hlt)
  obtain ⟨x,hx⟩ : ∃ y,fresh.getD k default = y := ⟨_,rfl⟩
  rw [hx] at hsucc hxm
  have hfn := fn140 h3 (H := H') (sp := x) (zn := zn) ho (by omega) (hle _ _ hG2) (hle _ _ hG3) (SigsAt.mono hg (hGle.trans hle))
  simp only [hd,hb1,hi2,rSpan,hx,go_sem,Nat.reduceEqDiff,Nat.reduceBEq,Nat.reduceAdd,binO]
  refine ⟨⟨by omega,by omega⟩,hi1,?_⟩
  refine vks_callv ?_ ?_ (FnV_of_Fn h3.e140 (Fn.same hfn)) ?_
  ·simp only [go_sem,Nat.reduceEqDiff]
  ·simp only [go_sem,Nat.reduceEqDiff]
  rintro w H'' ⟨rfl,rfl⟩
  simp only [vSpan,growS,go_sem,Nat.reduceEqDiff,Nat.reduceBEq,Nat.reduceAdd]
  intro bs hbs
  have hO2 : SpOwn (H''.put bs (.row [.int .i64 x.from_, .int .i64 (growEnd d s x.till)] 2 true)) u ((fresh.take k).map (growS d s)) ob := hO.keep fun b hb => by
   rw [Hp.put_ne]
   rintro rfl
   subst hb
   obtain ⟨_,_,_,hbb⟩ := hO
   rw [hbb] at hbs; cases hbs
  refine vks_pushSp (growS d s x) ?_ ?_ ?_ ?_ (Hp.put_same ..) hO2 (by omega) ?_
  ·simp only [go_sem,Nat.reduceEqDiff]
  ·simp only [go_sem,Nat.reduceEqDiff]
  ·simp only [go_sem,Nat.reduceEqDiff]
  ·simp only [go_sem,Nat.reduceEqDiff]
  intro v' H3 b' hO3 hkeep hb'
  simp only [go_sem,Nat.reduceEqDiff,Nat.reduceBEq,binO]
  refine ⟨hlt,v',some b',⟨rfl,wrapS (by omega)⟩,by rw [hsucc]; exact hO3,fun c o hc => hkeep c o (le_put hbs _ _ _ (hle _ _ hc)) (fun e => by rw [hob c e.symm] at hc; cases hc),?_⟩
  intro b2 e
  cases e
  rcases hb' with h | h
  ·cases hq : G b' with
   | none => rfl
   | some o => rw [le_put hbs _ _ _ (hle _ _ hq)] at h; cases h
  ·exact hob b' h.symm
 ·have hd : decide ((k : Int) < (fresh.length : Int)) = false := by simpa using hlt
  have : k = fresh.length := by omega
  subst this
  rw [List.take_length] at hO
  have hok : SpOk (fresh.map (growS d s)) := by
   intro q hq
   obtain ⟨sp,hsp,rfl⟩ := List.mem_map.1 hq
   have h1 := hb sp hsp
   have h2 := growEnd_le d s sp.till
   have h3 := growEnd_ub ho h1.2.2
   exact ⟨h1.1,by show sp.from_ ≤ growEnd d s sp.till; omega,h3⟩
  simp only [hd,go_sem,Nat.reduceEqDiff,Nat.reduceBEq,Nat.reduceAdd,binO]
  refine vks_call ?_ (fn129 hE h2 h3 hO.at (by rw [List.length_map]; exact hn) hok) ?_
  ·simp only [go_sem,Nat.reduceEqDiff]
  rintro w H2 ⟨w,ob2,rfl,q1,q2,q3⟩
  obtain ⟨_,_,hw⟩ := q1.sl
  subst hw
  simp only [go_sem,Nat.reduceLT,Nat.reduceEqDiff,Nat.reduceBEq,Nat.reduceAdd]
  refine ⟨ob2,q1,(hGle.trans hle).trans q2,fun b hb => ?_⟩
  have := q3 b hb
  cases hq : H b with
  | none => rfl
  | some o => rw [hle _ _ (hGle _ _ hq)] at this; cases this
end Go.SL
/- Contracts: sorting few names. -/
namespace Go.SL
open Go
variable {E : Env} {H : Hp}
def rStr (l : List Bs) (i : Nat) : List Value := [S (l.getD i [])]
def ltName (a b : Bs) : Bool := decide (nameCmp a b < 0)
theorem str_get (l : List Bs) {k : Nat} (hk : k < l.length) : (flat l.length (rStr l)).getD k undef = S (l.getD k []) := by
 have h := flat_at (n := l.length) (sz := 1) (row := rStr l) (fun i _ => rfl) k hk
 have := getD_of_take (j := 0) h (by omega)
 simpa only [rStr,List.getD_cons_zero,Nat.mul_one,Nat.add_zero] using this
theorem str_set (l : List Bs) {k : Nat} (hk : k < l.length) (x : Bs) : (flat l.length (rStr l)).take k ++ [S x] ++ (flat l.length (rStr l)).drop (k + 1) = flat l.length (rStr (l.set k x)) := by
 have h := flat_row (n := l.length) (sz := 1) (row := rStr l) (fun i _ => rfl) hk (r := [S x]) rfl
 rw [Nat.mul_one] at h
 rw [h]
 apply flat_congr
 intro i _
 by_cases e : i = k
 ·subst e; simp [rStr,hk]
 ·simp [rStr,e,Ne.symm e]
theorem fn122 (hE : Codes E) (h3 : Codes3 E) (a b : Bs) : FnP E 122 [S a, S b] H (.int .i64 (nameCmp a b)) := by
 refine Fn.of_vks h3.c122 (by simp [cf122]) ?_
 simp only [cf122,cf122_0,cf122_1,cf122_2]
 simp only [go_sem,Nat.reduceEqDiff,Nat.reduceBEq,reduceCtorEq]
 refine vks_callp _ ?_ (fun _ => ⟨?_,fn95 hE a b⟩) ?_ <;> simp only [go_sem,Nat.reduceLT,Nat.reduceEqDiff,Nat.reduceBEq,Nat.reduceAdd,reduceCtorEq]
theorem cmp122 (hE : Codes E) (h3 : Codes3 E) : CmpV E (.func (.func (E.fn 122)) #[] #[]) S nameCmp := fun _G a b =>
 FnV_of_Fn h3.e122 (Fn.same (fn122 hE h3 a b))
set_option maxHeartbeats 1000000 in
theorem fn147s (h3 : Codes3 E) {f : Value} (hf : CmpV E f S nameCmp) {b cap capc : Nat} (l : List Bs) (hn : l.length ≤ 1000000) (hH : H b = some (.row (flat l.length (rStr l)) capc true)) :
  Fn E.P (E.fn 147) [.slice (some ⟨b,0,none⟩) l.length cap,.int .i64 0,.int .i64 l.length,f] H (fun _ H' => H' = H.put b (.row (flat l.length (rStr (sortN ltName l.length l))) capc true)) := by
 refine Fn.of_vks h3.c147 (by simp [cf147]) ?_
 simp only [cf147,cf147_0,cf147_1,cf147_3,cf147_4,cf147_6,cf147_5,cf147_2]
 simp only [go_sem,Nat.reduceEqDiff,Nat.reduceBEq,Nat.reduceAdd,reduceCtorEq,Int.reduceAdd,binO]
 refine vks_loopP (l.length - 1) 0 (fun k fr' H' => fr' = [(0, ⟨true, .val (.slice (some ⟨b, 0, none⟩) l.length cap)⟩), (1, ⟨true, .val (.int .i64 0)⟩), (2, ⟨true, .val (.int .i64 l.length)⟩), (3, ⟨true, .val f⟩), (8, ⟨true, .val (.int .i64 ((k + 1 : Nat) : Int))⟩)] ∧
  H' = H.put b (.row (flat l.length (rStr (sortN ltName (k + 1) l))) capc true)) (Nat.zero_le _) ⟨rfl,(put_self hH).symm⟩ ?_
 rintro k fr' H' hk ⟨rfl,rfl⟩
 by_cases hlt : k + 1 < l.length
 ·have hd : decide (((k + 1 : Nat) : Int) < (l.length : Int)) = true := by rw [decide_eq_true_eq]; omega
  simp only [hd,go_sem,Nat.reduceEqDiff,Nat.reduceBEq,reduceCtorEq,binO]
  refine vks_loopM (fun m fr' H' => ∃ L : List Bs, L.length = l.length ∧ insGo ltName m L = sortN ltName (k + 2) l ∧ m ≤ k + 1 ∧
   fr' = [(0,⟨true,.val (.slice (some ⟨b,0,none⟩) l.length cap)⟩),(1,⟨true,.val (.int .i64 0)⟩),(2,⟨true,.val (.int .i64 l.length)⟩),(3,⟨true,.val f⟩),(8,⟨true,.val (.int .i64 ((k + 1 : Nat) : Int))⟩),(9,⟨true,.val (.int .i64 ((m : Nat) : Int))⟩)] ∧
   H' = H.put b (.row (flat l.length (rStr L)) capc true)) (k + 1) ⟨sortN ltName (k + 1) l,sortN_len _ _ _,rfl,Nat.le_refl _,rfl,rfl⟩ ?_
  rintro m fr' H' ⟨L,hL,hT,hm,rfl,rfl⟩
  have hGb : (H.put b (.row (flat l.length (rStr L)) capc true)) b = some (.row (flat l.length (rStr L)) capc true) := Hp.put_same ..
  have hfl : (flat l.length (rStr L)).length = l.length := by rw [flat_len (sz := 1) (fun i _ => rfl),Nat.mul_one]
  cases m with
  | zero =>
   have hT' : L = sortN ltName (k + 2) l := hT
   have hd2 : decide (((0 : Nat) : Int) > 0) = false := by decide
   simp only [hd2,hGb,undef,go_sem,Nat.reduceEqDiff,Nat.reduceBEq,reduceCtorEq,binO]
   refine vks_dbig (by intro x h; cases h) (by intro f a h; cases h) ?_ (fun hg => ?_) (fun hg => ?_)
   ·simp only [go_sem,Nat.reduceEqDiff,reduceCtorEq]
   ·simp only [go_sem,Nat.reduceEqDiff,reduceCtorEq] at hg
   ·simp only [hGb,undef,↓simT_idx_val,↓simT_ld_val,↓simT_pick_f,go_sem,Nat.reduceEqDiff,Nat.reduceBEq,reduceCtorEq,binO]
    rw [hT']
    refine ⟨by omega,?_,?_⟩
    ·exact wrapS (by omega)
    ·rfl
  | succ j =>
   have hd2 : decide (((j + 1 : Nat) : Int) > 0) = true := by rw [decide_eq_true_eq]; omega
   have e1 : IntKind.i64.wrap (((j + 1 : Nat) : Int) - 1) = (j : Int) := by rw [wrapI] <;> omega
   have hj1 : j + 1 < l.length := by omega
   have g1 := str_get L (k := j + 1) (by omega)
   have g0 := str_get L (k := j) (by omega)
   rw [hL] at g1 g0
   simp only [hd2,e1,hGb,g1,g0,hfl,Nat.mul_one,go_sem,Nat.reduceEqDiff,Nat.reduceBEq,reduceCtorEq,binO]
   refine ⟨⟨by omega,by omega⟩,by omega,⟨by omega,by omega⟩,by omega,?_⟩
   refine vks_dbig (by intro x h; cases h) (by intro f a h; cases h) ?_ (fun _ => ⟨?_,?_,_,hf _ (L.getD (j + 1) []) (L.getD j []),?_⟩) (fun hg => ?_)
   ·simp only [go_sem,Nat.reduceEqDiff,reduceCtorEq]
   ·simp only [go_sem,Nat.reduceEqDiff,reduceCtorEq]
   ·simp only [go_sem,Nat.reduceEqDiff,reduceCtorEq]
   ·rintro v H'' ⟨rfl,rfl⟩
    simp only [hGb,go_sem,Nat.reduceEqDiff,Nat.reduceBEq,reduceCtorEq,binO]
    have hlt' : ltName (L.getD (j + 1) []) (L.getD j []) = decide (nameCmp (L.getD (j + 1) []) (L.getD j []) < 0) := rfl
    have hins : insGo ltName (j + 1) L = if ltName (L.getD (j + 1) []) (L.getD j []) then insGo ltName j (swp L j) else L := rfl
    rw [hins] at hT
    refine ⟨fun hc => ?_,fun hc => ?_⟩
    ·rw [hlt',hc,if_pos rfl] at hT
     have s1 := str_set L (k := j + 1) (by omega) (L.getD j [])
     have s2 := str_set (L.set (j + 1) (L.getD j [])) (k := j) (by simp; omega) (L.getD (j + 1) [])
     rw [hL] at s1
     rw [List.length_set,hL] at s2
     simp only [e1,hGb,g1,g0,hfl,Nat.mul_one,vks_dst,go_sem,Nat.reduceEqDiff,Nat.reduceBEq,reduceCtorEq,binO]
     refine ⟨⟨by omega,by omega⟩,by omega,⟨by omega,by omega⟩,by omega,⟨by omega,by omega⟩,by omega,⟨by omega,by omega⟩,?_⟩
     rw [s1,Hp.put_same]
     refine ⟨by rw [flat_len (sz := 1) (fun i _ => rfl)]; omega,j,by omega,swp L j,by rw [swp_len]; exact hL,hT,by omega,rfl,?_⟩
     rw [s2]; rfl
    ·rw [hlt',hc,if_neg (by simp)] at hT
     rw [hT]
     refine ⟨by omega,?_,?_⟩
     ·exact wrapS (by omega)
     ·rfl
   ·simp only [go_sem,Nat.reduceEqDiff,reduceCtorEq] at hg
 ·have hd : decide (((k + 1 : Nat) : Int) < (l.length : Int)) = false := by rw [decide_eq_false_iff_not]; omega
  simp only [hd,go_sem,Nat.reduceEqDiff,Nat.reduceBEq,reduceCtorEq,binO]
  have e : sortN ltName (k + 1) l = sortN ltName l.length l := by
   rcases Nat.lt_or_ge 0 l.length with h | h
   ·rw [show k + 1 = l.length by omega]
   ·have : l = [] := by simpa using h
    subst this
    have : k = 0 := by simpa using hk
    subst this
    rfl
  rw [e]
end Go.SL
/- Contracts: sorting few numbers. -/
namespace Go.SL
open Go
variable {E : Env} {H : Hp}
structure Lib4 (E : Env) : Prop where
 less : ∀ (H : Hp) (a b : Int),FnP E 169 [.int .i64 a,.int .i64 b] H (.bool (decide (a < b)))
def ltInt (a b : Int) : Bool := decide (a < b)
theorem int_get (l : List Int) {k : Nat} (hk : k < l.length) : (flat l.length (rInt l)).getD k undef = .int .i64 (l.getD k 0) := by
 have h := flat_at (n := l.length) (sz := 1) (row := rInt l) (fun i _ => rfl) k hk
 have := getD_of_take (j := 0) h (by omega)
 simpa only [rInt,List.getD_cons_zero,Nat.mul_one,Nat.add_zero] using this
theorem int_set (l : List Int) {k : Nat} (hk : k < l.length) (x : Int) : (flat l.length (rInt l)).take k ++ [.int .i64 x] ++ (flat l.length (rInt l)).drop (k + 1) = flat l.length (rInt (l.set k x)) := by
 have h := flat_row (n := l.length) (sz := 1) (row := rInt l) (fun i _ => rfl) hk (r := [.int .i64 x]) rfl
 rw [Nat.mul_one] at h
 rw [h]
 apply flat_congr
 intro i _
 by_cases e : i = k
 ·subst e; simp [rInt,hk]
 ·simp [rInt,e,Ne.symm e]
set_option maxHeartbeats 1000000 in
theorem fn163s (h3 : Codes3 E) (L4 : Lib4 E) {b cap capc : Nat} (l : List Int) (hn : l.length ≤ 1000000) (hH : H b = some (.row (flat l.length (rInt l)) capc true)) :
  Fn E.P (E.fn 163) [.slice (some ⟨b,0,none⟩) l.length cap,.int .i64 0,.int .i64 l.length] H (fun _ H' => H' = H.put b (.row (flat l.length (rInt (sortN ltInt l.length l))) capc true)) := by
 refine Fn.of_vks h3.c163 (by simp [cf163]) ?_
 simp only [cf163,cf163_0,cf163_1,cf163_3,cf163_4,cf163_6,cf163_5,cf163_2]
 simp only [go_sem,Nat.reduceEqDiff,Nat.reduceBEq,Nat.reduceAdd,reduceCtorEq,Int.reduceAdd,binO]
 refine vks_loopP (l.length - 1) 0 (fun k fr' H' => fr' = [(0, ⟨true, .val (.slice (some ⟨b, 0, none⟩) l.length cap)⟩), (1, ⟨true, .val (.int .i64 0)⟩), (2, ⟨true, .val (.int .i64 l.length)⟩), (6, ⟨true, .val (.int .i64 ((k + 1 : Nat) : Int))⟩)] ∧
  H' = H.put b (.row (flat l.length (rInt (sortN ltInt (k + 1) l))) capc true)) (Nat.zero_le _) ⟨rfl,(put_self hH).symm⟩ ?_
 rintro k fr' H' hk ⟨rfl,rfl⟩
 by_cases hlt : k + 1 < l.length
 ·have hd : decide (((k + 1 : Nat) : Int) < (l.length : Int)) = true := by rw [decide_eq_true_eq]; omega
  simp only [hd,go_sem,Nat.reduceEqDiff,Nat.reduceBEq,reduceCtorEq,binO]
  refine vks_loopM (fun m fr' H' => ∃ L : List Int, L.length = l.length ∧ insGo ltInt m L = sortN ltInt (k + 2) l ∧ m ≤ k + 1 ∧
   fr' = [(0,⟨true,.val (.slice (some ⟨b,0,none⟩) l.length cap)⟩),(1,⟨true,.val (.int .i64 0)⟩),(2,⟨true,.val (.int .i64 l.length)⟩),(6,⟨true,.val (.int .i64 ((k + 1 : Nat) : Int))⟩),(7,⟨true,.val (.int .i64 ((m : Nat) : Int))⟩)] ∧
   H' = H.put b (.row (flat l.length (rInt L)) capc true)) (k + 1) ⟨sortN ltInt (k + 1) l,sortN_len _ _ _,rfl,Nat.le_refl _,rfl,rfl⟩ ?_
  rintro m fr' H' ⟨L,hL,hT,hm,rfl,rfl⟩
  have hGb : (H.put b (.row (flat l.length (rInt L)) capc true)) b = some (.row (flat l.length (rInt L)) capc true) := Hp.put_same ..
  have hfl : (flat l.length (rInt L)).length = l.length := by rw [flat_len (sz := 1) (fun i _ => rfl),Nat.mul_one]
  cases m with
  | zero =>
   have hT' : L = sortN ltInt (k + 2) l := hT
   have hd2 : decide (((0 : Nat) : Int) > 0) = false := by decide
   simp only [hd2,hGb,undef,go_sem,Nat.reduceEqDiff,Nat.reduceBEq,reduceCtorEq,binO]
   refine vks_dbig (by intro x h; cases h) (by intro f a h; cases h) ?_ (fun hg => ?_) (fun hg => ?_)
   ·simp only [go_sem,Nat.reduceEqDiff,reduceCtorEq]
   ·simp only [go_sem,Nat.reduceEqDiff,reduceCtorEq] at hg
   ·simp only [hGb,undef,↓simT_idx_val,↓simT_ld_val,↓simT_pick_f,go_sem,Nat.reduceEqDiff,Nat.reduceBEq,reduceCtorEq,binO]
    rw [hT']
    refine ⟨by omega,?_,?_⟩
    ·exact wrapS (by omega)
    ·rfl
  | succ j =>
   have hd2 : decide (((j + 1 : Nat) : Int) > 0) = true := by rw [decide_eq_true_eq]; omega
   have e1 : IntKind.i64.wrap (((j + 1 : Nat) : Int) - 1) = (j : Int) := by rw [wrapI] <;> omega
   have hj1 : j + 1 < l.length := by omega
   have g1 := int_get L (k := j + 1) (by omega)
   have g0 := int_get L (k := j) (by omega)
   rw [hL] at g1 g0
   simp only [hd2,e1,hGb,g1,g0,hfl,Nat.mul_one,go_sem,Nat.reduceEqDiff,Nat.reduceBEq,reduceCtorEq,binO]
   refine ⟨⟨by omega,by omega⟩,by omega,⟨by omega,by omega⟩,by omega,?_⟩
   refine vks_dbig (by intro x h; cases h) (by intro f a h; cases h) ?_ (fun _ => ⟨?_,_,Fn.same (L4.less _ (L.getD (j + 1) 0) (L.getD j 0)),?_⟩) (fun hg => ?_)
   ·simp only [go_sem,Nat.reduceEqDiff,reduceCtorEq]
   ·simp only [go_sem,Nat.reduceEqDiff,reduceCtorEq]
   ·rintro v H'' ⟨rfl,rfl⟩
    simp only [hGb,go_sem,Nat.reduceEqDiff,Nat.reduceBEq,reduceCtorEq,binO]
    have hlt' : ltInt (L.getD (j + 1) 0) (L.getD j 0) = decide (L.getD (j + 1) 0 < L.getD j 0) := rfl
    have hins : insGo ltInt (j + 1) L = if ltInt (L.getD (j + 1) 0) (L.getD j 0) then insGo ltInt j (swp L j) else L := rfl
    rw [hins] at hT
    refine ⟨fun hc => ?_,fun hc => ?_⟩
    ·rw [hlt',hc,if_pos rfl] at hT
     have s1 := int_set L (k := j + 1) (by omega) (L.getD j 0)
     have s2 := int_set (L.set (j + 1) (L.getD j 0)) (k := j) (by simp; omega) (L.getD (j + 1) 0)
     rw [hL] at s1
     rw [List.length_set,hL] at s2
     simp only [e1,hGb,g1,g0,hfl,Nat.mul_one,vks_dst,go_sem,Nat.reduceEqDiff,Nat.reduceBEq,reduceCtorEq,binO]
     refine ⟨⟨by omega,by omega⟩,by omega,⟨by omega,by omega⟩,by omega,⟨by omega,by omega⟩,by omega,⟨by omega,by omega⟩,?_⟩
     rw [s1,Hp.put_same]
     refine ⟨by rw [flat_len (sz := 1) (fun i _ => rfl)]; omega,j,by omega,swp L j,by rw [swp_len]; exact hL,hT,by omega,rfl,?_⟩
     rw [s2]; rfl
    ·rw [hlt',hc,if_neg (by simp)] at hT
     rw [hT]
     refine ⟨by omega,?_,?_⟩
     ·exact wrapS (by omega)
     ·rfl
   ·simp only [go_sem,Nat.reduceEqDiff,reduceCtorEq] at hg
 ·have hd : decide (((k + 1 : Nat) : Int) < (l.length : Int)) = false := by rw [decide_eq_false_iff_not]; omega
  simp only [hd,go_sem,Nat.reduceEqDiff,Nat.reduceBEq,reduceCtorEq,binO]
  have e : sortN ltInt (k + 1) l = sortN ltInt l.length l := by
   rcases Nat.lt_or_ge 0 l.length with h | h
   ·rw [show k + 1 = l.length by omega]
   ·have : l = [] := by simpa using h
    subst this
    have : k = 0 := by simpa using hk
    subst this
    rfl
  rw [e]
theorem fn162s (h3 : Codes3 E) (L4 : Lib4 E) {b cap capc : Nat} (m : Int) (l : List Int) (hn : l.length ≤ 12) (hH : H b = some (.row (flat l.length (rInt l)) capc true)) :
  Fn E.P (E.fn 162) [.slice (some ⟨b,0,none⟩) l.length cap,.int .i64 0,.int .i64 l.length,.int .i64 m] H (fun _ H' => H' = H.put b (.row (flat l.length (rInt (sortN ltInt l.length l))) capc true)) := by
 refine Fn.of_vks h3.c162 (by simp [cf162]) ?_
 simp only [cf162,cf162_0,cf162_1,cf162_2,cf162_3,cf162_4]
 simp only [go_sem,Nat.reduceEqDiff,Nat.reduceBEq,Nat.reduceAdd,reduceCtorEq]
 refine vks_loopN 0 0 (fun _ => [(0,⟨true,.val (.slice (some ⟨b,0,none⟩) l.length cap)⟩),(1,⟨true,.val (.int .i64 0)⟩),(2,⟨true,.val (.int .i64 l.length)⟩),(3,⟨true,.val (.int .i64 m)⟩),(8,⟨true,.val (.bool true)⟩),(9,⟨true,.val (.bool true)⟩)]) (fun _ => True) (Nat.le_refl _) rfl trivial ?_
 intro k hk _
 have e1 : IntKind.i64.wrap ((l.length : Int) - 0) = (l.length : Int) := by rw [Int.sub_zero]; exact wrapN (by omega)
 have d1 : decide ((l.length : Int) ≤ 12) = true := by simp; omega
 simp only [e1,d1,go_sem,Nat.reduceEqDiff,Nat.reduceBEq,reduceCtorEq,binO]
 refine vks_call ?_ (fn163s h3 L4 l (by omega) hH) ?_
 ·simp only [go_sem,Nat.reduceEqDiff,reduceCtorEq]
 rintro u H' rfl
 simp only [go_sem,Nat.reduceBEq]
theorem fn160s (_hE : Codes E) (h2 : Codes2 E) (h3 : Codes3 E) (L4 : Lib4 E) {b cap capc : Nat} (l : List Int) (hn : l.length ≤ 12) (hH : H b = some (.row (flat l.length (rInt l)) capc true)) :
  Fn E.P (E.fn 160) [.slice (some ⟨b,0,none⟩) l.length cap] H (fun _ H' => H' = H.put b (.row (flat l.length (rInt (sortN ltInt l.length l))) capc true)) := by
 refine Fn.of_vks h3.c160 (by simp [cf160]) ?_
 simp only [cf160,cf160_0,cf160_1]
 have e1 := wrapU (n := l.length) (by omega)
 simp only [e1,go_sem,Nat.reduceEqDiff,Nat.reduceBEq,reduceCtorEq]
 refine vks_callp _ ?_ (fun _ => ⟨?_,fn85n h2 l.length (by omega)⟩) ?_ <;> simp only [go_sem,Nat.reduceEqDiff,Nat.reduceBEq,reduceCtorEq]
 refine vks_call ?_ (fn162s h3 L4 _ l hn hH) ?_
 ·simp only [go_sem,Nat.reduceEqDiff,reduceCtorEq]
 rintro u H' rfl
 simp only [go_sem,Nat.reduceBEq]
end Go.SL
