/- Contracts: sorting one span. -/
import Derived.Test.YtloknibdaldffaaGreatDoorNplQ
import Derived.Test.YtloknibdaldffaaGreatDoorNplT14
namespace Go.SL
open Go
variable {E : Env} {H : Hp}
theorem q1 : decide ((1 : Int) ≥ 4294967296) = false := by decide
theorem q2 : decide ((1 : Int) ≥ 65536) = false := by decide
theorem q3 : decide ((1 : Int) ≥ 256) = false := by decide
theorem q4 : decide ((1 : Int) < 1) = false := by decide
theorem q5 : decide ((1 : Int) ≤ 12) = true := by decide
end Go.SL
/- Contracts: sorting few spans by a comparator (insertion sort). -/
namespace Go.SL
open Go
variable {E : Env} {H : Hp}
structure SpanD where
 from_ : Int
 till : Int
 deriving DecidableEq,Inhabited
def vSpan (s : SpanD) : Value := .agg #[.int .i64 s.from_,.int .i64 s.till]
def rSpan (l : List SpanD) (i : Nat) : List Value := [.int .i64 (l.getD i default).from_,.int .i64 (l.getD i default).till]
def SpansAt (H : Hp) (v : Value) (l : List SpanD) : Prop := SlAt H 2 v l.length (rSpan l)
theorem SpansAt.mono {H H' : Hp} {v : Value} {l : List SpanD} (h : SpansAt H v l) (hl : H.le H') : SpansAt H' v l := SlAt.mono h hl
section
variable {α : Type} [Inhabited α] (lt : α → α → Bool)
def swp (l : List α) (j : Nat) : List α := (l.set (j + 1) (l.getD j default)).set j (l.getD (j + 1) default)
def insGo : Nat → List α → List α
 | 0,l => l
 | j + 1,l => if lt (l.getD (j + 1) default) (l.getD j default) then insGo j (swp l j) else l
def sortN : Nat → List α → List α
 | 0,l => l
 | k + 1,l => insGo lt k (sortN k l)
theorem swp_len (l : List α) (j : Nat) : (swp l j).length = l.length := by simp [swp]
theorem insGo_len : ∀ (j : Nat) (l : List α), (insGo lt j l).length = l.length
 | 0,_ => rfl
 | j + 1, l => by
  simp only [insGo]
  split
  ·rw [insGo_len j,swp_len]
  ·rfl
theorem sortN_len : ∀ (k : Nat) (l : List α), (sortN lt k l).length = l.length
 | 0,_ => rfl
 | k + 1,l => by simp only [sortN]; rw [insGo_len,sortN_len k]
end
theorem flat_row {n sz : Nat} {row : Nat → List Value} (h : ∀ i, i < n → (row i).length = sz) {i : Nat} (hi : i < n) {r : List Value} (hr : r.length = sz) :
  (flat n row).take (i * sz) ++ r ++ (flat n row).drop (i * sz + sz) = flat n (fun i' => if i' = i then r else row i') := by
 have hl := flat_len h
 have h1 : i * sz + sz ≤ n * sz := by
  have := Nat.mul_le_mul_right sz (show i + 1 ≤ n by omega)
  rw [Nat.succ_mul] at this; exact this
 refine chunk_eq (sz := sz) ?_ ?_
 ·simp only [List.length_append,List.length_take,List.length_drop,hl,hr]; omega
 ·intro k hk
  have hk1 : k * sz + sz ≤ n * sz := by
   have := Nat.mul_le_mul_right sz (show k + 1 ≤ n by omega)
   rw [Nat.succ_mul] at this; exact this
  have hlt : ((flat n row).take (i * sz)).length = i * sz := by rw [List.length_take,hl]; omega
  rcases Nat.lt_trichotomy k i with h2 | h2 | h2
  ·have h3 : k * sz + sz ≤ i * sz := by
    have := Nat.mul_le_mul_right sz (show k + 1 ≤ i by omega)
    rw [Nat.succ_mul] at this; exact this
   rw [if_neg (by omega),List.append_assoc,List.drop_append_of_le_length (by omega),List.take_append_of_le_length (by rw [List.length_drop]; omega),List.drop_take,List.take_take,Nat.min_eq_left (by omega)]
   exact flat_at h k hk
  ·subst h2
   rw [if_pos rfl,List.append_assoc,List.drop_append,hlt,Nat.sub_self,List.drop_zero,List.drop_of_length_le (by omega),List.nil_append,List.take_append_of_le_length (by omega),List.take_of_length_le (by omega)]
  ·have h3 : i * sz + sz ≤ k * sz := by
    have := Nat.mul_le_mul_right sz (show i + 1 ≤ k by omega)
    rw [Nat.succ_mul] at this; exact this
   have hlr : ((flat n row).take (i * sz) ++ r).length = i * sz + sz := by rw [List.length_append,hlt,hr]
   rw [if_neg (by omega),List.drop_append,hlr,List.drop_of_length_le (by omega),List.nil_append,List.drop_drop]
   have e : i * sz + sz + (k * sz - (i * sz + sz)) = k * sz := by omega
   rw [e]
   exact flat_at h k hk
theorem rSpan_set (l : List SpanD) {k : Nat} (hk : k < l.length) (s : SpanD) (i : Nat) : rSpan (l.set k s) i = if i = k then [.int .i64 s.from_, .int .i64 s.till] else rSpan l i := by
 by_cases e : i = k
 ·subst e; simp [rSpan,hk]
 ·simp [rSpan,e,Ne.symm e]
theorem flat_span (l : List SpanD) {k : Nat} (hk : k < l.length) (s : SpanD) :
  (flat l.length (rSpan l)).take (k * 2) ++ [.int .i64 s.from_,.int .i64 s.till] ++ (flat l.length (rSpan l)).drop (k * 2 + 2) = flat l.length (rSpan (l.set k s)) := by
 rw [flat_row (sz := 2) (fun i _ => rfl) hk rfl]
 exact flat_congr fun i _ => (rSpan_set l hk s i).symm
theorem put_self {H : Hp} {b : Nat} {o : AObj} (h : H b = some o) : H.put b o = H := by
 funext c
 simp only [Hp.put]
 by_cases e : c = b
 ·subst e; simp [h]
 ·simp [e]
def CmpV {α : Type} (E : Env) (f : Value) (enc : α → Value) (c : α → α → Int) : Prop := ∀ (G : Hp) (a b : α),FnV E f [enc a,enc b] G (fun u G' => u = .int .i64 (c a b) ∧ G' = G)
def cmpSpan (a b : SpanD) : Int := cmpInt a.from_ b.from_
def ltSpan (a b : SpanD) : Bool := decide (cmpSpan a b < 0)
theorem fn121 (hE : Codes E) (h2 : Codes2 E) (a b : SpanD) : FnP E 121 [vSpan a, vSpan b] H (.int .i64 (cmpSpan a b)) := by
 unfold vSpan cmpSpan
 refine Fn.of_vks h2.c121 (by simp [cf121]) ?_
 simp only [cf121,cf121_0,cf121_1]
 simp only [go_sem,Nat.reduceLeDiff,Nat.reduceEqDiff,Nat.reduceBEq,Nat.reduceAdd,reduceCtorEq]
 refine vks_callp _ ?_ (fun _ => ⟨?_,fn89 hE a.from_ b.from_⟩) ?_ <;> simp only [go_sem,Nat.reduceEqDiff,Nat.reduceBEq]
theorem cmp121 (hE : Codes E) (h2 : Codes2 E) : CmpV E (.func (.func (E.fn 121)) #[] #[]) vSpan cmpSpan := fun _G a b =>
 FnV_of_Fn h2.e121 (Fn.same (fn121 hE h2 a b))
set_option maxHeartbeats 1000000 in
theorem fn109s (h2 : Codes2 E) {f : Value} (hf : CmpV E f vSpan cmpSpan) {b cap capc : Nat} (l : List SpanD) (hn : l.length ≤ 1000000) (hH : H b = some (.row (flat l.length (rSpan l)) capc true)) :
  Fn E.P (E.fn 109) [.slice (some ⟨b,0,none⟩) l.length cap,.int .i64 0,.int .i64 l.length,f] H (fun _ H' => H' = H.put b (.row (flat l.length (rSpan (sortN ltSpan l.length l))) capc true)) := by
 refine Fn.of_vks h2.c109 (by simp [cf109]) ?_
 simp only [cf109,cf109_0,cf109_1,cf109_3,cf109_4,cf109_6,cf109_5,cf109_2]
 simp only [go_sem,Nat.reduceEqDiff,Nat.reduceBEq,Nat.reduceAdd,reduceCtorEq,Int.reduceAdd,binO]
 refine vks_loopP (l.length - 1) 0 (fun k fr' H' => fr' = [(0, ⟨true, .val (.slice (some ⟨b, 0, none⟩) l.length cap)⟩), (1, ⟨true, .val (.int .i64 0)⟩), (2, ⟨true, .val (.int .i64 l.length)⟩), (3, ⟨true, .val f⟩), (8, ⟨true, .val (.int .i64 ((k + 1 : Nat) : Int))⟩)] ∧
  H' = H.put b (.row (flat l.length (rSpan (sortN ltSpan (k + 1) l))) capc true)) (Nat.zero_le _) ⟨rfl,(put_self hH).symm⟩ ?_
 rintro k fr' H' hk ⟨rfl,rfl⟩
 by_cases hlt : k + 1 < l.length
 ·have hd : decide (((k + 1 : Nat) : Int) < (l.length : Int)) = true := by rw [decide_eq_true_eq]; omega
  simp only [hd,go_sem,Nat.reduceEqDiff,Nat.reduceBEq,reduceCtorEq,binO]
  refine vks_loopM (fun m fr' H' => ∃ L : List SpanD, L.length = l.length ∧ insGo ltSpan m L = sortN ltSpan (k + 2) l ∧ m ≤ k + 1 ∧
   fr' = [(0,⟨true,.val (.slice (some ⟨b,0,none⟩) l.length cap)⟩),(1,⟨true,.val (.int .i64 0)⟩),(2,⟨true,.val (.int .i64 l.length)⟩),(3,⟨true,.val f⟩),(8,⟨true,.val (.int .i64 ((k + 1 : Nat) : Int))⟩),(9,⟨true,.val (.int .i64 ((m : Nat) : Int))⟩)] ∧
   H' = H.put b (.row (flat l.length (rSpan L)) capc true)) (k + 1) ⟨sortN ltSpan (k + 1) l,sortN_len _ _ _,rfl,Nat.le_refl _,rfl,rfl⟩ ?_
  rintro m fr' H' ⟨L,hL,hT,hm,rfl,rfl⟩
  have hGb : (H.put b (.row (flat l.length (rSpan L)) capc true)) b = some (.row (flat l.length (rSpan L)) capc true) := Hp.put_same ..
  have hfl : (flat l.length (rSpan L)).length = l.length * 2 := flat_len fun i _ => rfl
  have hw : ∀ L' : List SpanD,insGo ltSpan 0 L' = L' := fun _ => rfl
  cases m with
  | zero =>
   have hT' : L = sortN ltSpan (k + 2) l := hT
   have hd2 : decide (((0 : Nat) : Int) > 0) = false := by decide
   simp only [hd2,hGb,undef,go_sem,Nat.reduceEqDiff,Nat.reduceBEq,reduceCtorEq,binO]
   refine vks_dbig (by intro x h; cases h) (by intro f a h; cases h) ?_ (fun hg => ?_) (fun hg => ?_)
   ·simp only [go_sem,Nat.reduceEqDiff,reduceCtorEq]
   ·simp only [go_sem,Nat.reduceEqDiff,reduceCtorEq] at hg
   ·simp only [hGb,undef,↓simT_idx_val,↓simT_ld_val,↓simT_pick_f,go_sem,Nat.reduceEqDiff,Nat.reduceBEq,reduceCtorEq,binO]
    rw [hT']
    refine ⟨by omega,?_,?_⟩
    ·exact wrapS (by omega)
    ·rfl
  | succ j =>
   have hd2 : decide (((j + 1 : Nat) : Int) > 0) = true := by rw [decide_eq_true_eq]; omega
   have e1 : IntKind.i64.wrap (((j + 1 : Nat) : Int) - 1) = (j : Int) := by rw [wrapI] <;> omega
   have hj1 : j + 1 < l.length := by omega
   have hr1 := flat_at (n := l.length) (sz := 2) (row := rSpan L) (fun i _ => rfl) (j + 1) hj1
   have hr0 := flat_at (n := l.length) (sz := 2) (row := rSpan L) (fun i _ => rfl) j (by omega)
   simp only [hd2,e1,hGb,hr1,hr0,rSpan,hfl,go_sem,Nat.reduceEqDiff,Nat.reduceBEq,reduceCtorEq,binO]
   refine ⟨⟨by omega,by omega⟩,by omega,⟨by omega,by omega⟩,by omega,?_⟩
   refine vks_dbig (by intro x h; cases h) (by intro f a h; cases h) ?_ (fun _ => ⟨?_,?_,_,hf _ (L.getD (j + 1) default) (L.getD j default),?_⟩) (fun hg => ?_)
   ·simp only [go_sem,Nat.reduceEqDiff,reduceCtorEq]
   ·simp only [go_sem,Nat.reduceEqDiff,reduceCtorEq]
   ·simp only [go_sem,Nat.reduceEqDiff,reduceCtorEq]
   ·rintro v H'' ⟨rfl,rfl⟩
    simp only [hGb,go_sem,Nat.reduceEqDiff,Nat.reduceBEq,reduceCtorEq,binO]
    have hlt' : ltSpan (L.getD (j + 1) default) (L.getD j default) = decide (cmpSpan (L.getD (j + 1) default) (L.getD j default) < 0) := rfl
    refine ⟨fun hc => ?_,fun hc => ?_⟩
    ·have hT' : insGo ltSpan j (swp L j) = sortN ltSpan (k + 2) l := by
      rw [← hT]; simp only [insGo,hlt',hc,if_true]
     have s1 := flat_span L (k := j + 1) (by omega) (L.getD j default)
     have s2 := flat_span (L.set (j + 1) (L.getD j default)) (k := j) (by simp; omega) (L.getD (j + 1) default)
     rw [hL] at s1
     rw [List.length_set,hL] at s2
     simp only [e1,hGb,hr1,hr0,rSpan,hfl,vks_dst,go_sem,Nat.reduceEqDiff,Nat.reduceBEq,Nat.reduceAdd,reduceCtorEq,binO]
     refine ⟨⟨by omega,by omega⟩,by omega,⟨by omega,by omega⟩,by omega,⟨by omega,by omega⟩,by omega,⟨by omega,by omega⟩,?_⟩
     rw [s1,Hp.put_same]
     refine ⟨by rw [flat_len (sz := 2) (fun i _ => rfl)]; omega,j,by omega,swp L j,by rw [swp_len]; exact hL,hT',by omega,rfl,?_⟩
     rw [s2]; rfl
    ·have hT' : L = sortN ltSpan (k + 2) l := by
      rw [← hT]; simp only [insGo,hlt',hc,Bool.false_eq_true,if_false]
     rw [hT']
     refine ⟨by omega,?_,?_⟩
     ·exact wrapS (by omega)
     ·rfl
   ·simp only [go_sem,Nat.reduceEqDiff,reduceCtorEq] at hg
 ·have hd : decide (((k + 1 : Nat) : Int) < (l.length : Int)) = false := by rw [decide_eq_false_iff_not]; omega
  simp only [hd,go_sem,Nat.reduceEqDiff,Nat.reduceBEq,reduceCtorEq,binO]
  have e : sortN ltSpan (k + 1) l = sortN ltSpan l.length l := by
   rcases Nat.lt_or_ge 0 l.length with h | h
   ·rw [show k + 1 = l.length by omega]
   ·have : l = [] := by simpa using h
    subst this
    have : k = 0 := by simpa using hk
    subst this
    rfl
  rw [e]
end Go.SL
/- Contracts: SortFunc on at most twelve spans; the spans of each place in a map. -/
namespace Go.SL
open Go
variable {E : Env} {H : Hp}
theorem wrapU {n : Nat} (h : n ≤ 1099511627777) : IntKind.u64.wrap ((n : Nat) : Int) = (n : Int) := by
 simp only [IntKind.wrap,IntKind.bits,IntKind.signed,Bool.false_and]; simp; omega
theorem wrapB {n : Nat} (h : n < 256) : IntKind.u8.wrap ((n : Nat) : Int) = (n : Int) := by
 simp only [IntKind.wrap,IntKind.bits,IntKind.signed,Bool.false_and]; simp; omega
def lenTab : ByteArray := ⟨#[0,1,2,2,3,3,3,3,4,4,4,4,4,4,4,4,5,5,5,5,5,5,5,5,5,5,5,5,5,5,5,5,6,6,6,6,6,6,6,6,6,6,6,6,6,6,6,6,6,6,6,6,6,6,6,6,6,6,6,6,6,6,6,6,7,7,7,7,7,7,7,7,7,7,7,7,7,7,7,7,7,7,7,7,7,7,7,7,7,7,7,7,7,7,7,7,7,7,7,7,7,7,7,7,7,7,7,7,7,7,7,7,7,7,7,7,7,7,7,7,7,7,7,7,7,7,7,7,8,8,8,8,8,8,8,8,8,8,8,8,8,8,8,8,8,8,8,8,8,8,8,8,8,8,8,8,8,8,8,8,8,8,8,8,8,8,8,8,8,8,8,8,8,8,8,8,8,8,8,8,8,8,8,8,8,8,8,8,8,8,8,8,8,8,8,8,8,8,8,8,8,8,8,8,8,8,8,8,8,8,8,8,8,8,8,8,8,8,8,8,8,8,8,8,8,8,8,8,8,8,8,8,8,8,8,8,8,8,8,8,8,8,8,8,8,8,8,8,8,8,8,8,8,8,8,8]⟩
theorem r10_eq : cf118_10 = [
 ⟨(some 19),.sim (.mov (.t 2)),none⟩,
 ⟨(some 20),.sim (.mov (.t 0)),none⟩,
 ⟨(some 21),.sim (.cvi .u8 (.t 20)),none⟩,
 ⟨(some 22),.sim (.idxs (.c (.string lenTab)) (.t 21)),none⟩,
 ⟨(some 23),.sim (.cvi .i64 (.t 22)),none⟩,
 ⟨(some 24),.sim (.bin .add (.t 19) (.t 23)),none⟩,
 ⟨(some 2),.sim (.mov (.t 24)),none⟩] := rfl
set_option maxRecDepth 100000 in
theorem lenTab_size : lenTab.size = 256 := rfl
def lenV (n : Nat) : Nat := ((strOf (.string lenTab)).getD n 0).toNat
theorem lenV_eq (n : Nat) : ((strOf (.string lenTab)).getD n 0).toNat = lenV n := rfl
theorem lenV_lt (n : Nat) : lenV n < 256 := UInt8.toNat_lt _
set_option maxRecDepth 100000 in
set_option maxHeartbeats 1000000 in
theorem fn118n (h2 : Codes2 E) (n : Nat) (hn : n < 256) : FnP E 118 [.int .u64 n] H (.int .i64 (lenV n : Nat)) := by
 have d1 : decide ((n : Int) ≥ 4294967296) = false := by simp; omega
 have d2 : decide ((n : Int) ≥ 65536) = false := by simp; omega
 have d3 : decide ((n : Int) ≥ 256) = false := by simp; omega
 have e1 := wrapB hn
 have hle := lenV_lt n
 have e2 : IntKind.i64.wrap ((lenV n : Nat) : Int) = ((lenV n : Nat) : Int) := wrapN (by omega)
 have e3 : IntKind.i64.wrap (0 + ((lenV n : Nat) : Int)) = ((lenV n : Nat) : Int) := by rw [Int.zero_add]; exact e2
 refine Fn.of_vks h2.c118 (by simp [cf118]) ?_
 simp only [cf118,cf118_0,cf118_1,cf118_2,cf118_3,cf118_4,cf118_5,cf118_6,cf118_7,cf118_8,cf118_9,r10_eq]
 simp only [d1,d2,d3,e1,lenTab_size,lenV_eq,e2,e3,go_sem,Nat.reduceEqDiff,Nat.reduceBEq,reduceCtorEq,Int.reduceToNat,Int.reduceLT,Int.reduceAdd,binO]
 exact ⟨by omega,by omega⟩
theorem fn85n (h2 : Codes2 E) (n : Nat) (hn : n < 256) : FnP E 85 [.int .u64 n] H (.int .i64 (lenV n : Nat)) := by
 refine Fn.of_vks h2.c85 (by simp [cf85]) ?_
 simp only [cf85,cf85_0,cf85_1,cf85_2]
 simp only [go_sem,Nat.reduceBEq,reduceCtorEq]
 refine vks_call ?_ (Fn.same (fn118n h2 n hn)) ?_
 ·simp only [go_sem,reduceCtorEq]
 rintro u H' ⟨rfl,rfl⟩
 simp only [go_sem,Nat.reduceEqDiff,Nat.reduceBEq,reduceCtorEq]
set_option maxHeartbeats 1000000 in
theorem fn86s (h2 : Codes2 E) {f : Value} (hf : CmpV E f vSpan cmpSpan) {b cap capc : Nat} (m : Int) (l : List SpanD) (hn : l.length ≤ 12) (hH : H b = some (.row (flat l.length (rSpan l)) capc true)) :
  Fn E.P (E.fn 86) [.slice (some ⟨b,0,none⟩) l.length cap,.int .i64 0,.int .i64 l.length,.int .i64 m,f] H (fun _ H' => H' = H.put b (.row (flat l.length (rSpan (sortN ltSpan l.length l))) capc true)) := by
 refine Fn.of_vks h2.c86 (by simp [cf86]) ?_
 simp only [cf86,cf86_0,cf86_1,cf86_2,cf86_3,cf86_4]
 simp only [go_sem,Nat.reduceEqDiff,Nat.reduceBEq,Nat.reduceAdd,reduceCtorEq]
 refine vks_loopN 0 0 (fun _ => [(0,⟨true,.val (.slice (some ⟨b,0,none⟩) l.length cap)⟩),(1,⟨true,.val (.int .i64 0)⟩),(2,⟨true,.val (.int .i64 l.length)⟩),(3,⟨true,.val (.int .i64 m)⟩),(4,⟨true,.val f⟩),(10,⟨true,.val (.bool true)⟩),(11,⟨true,.val (.bool true)⟩)]) (fun _ => True) (Nat.le_refl _) rfl trivial ?_
 intro k hk _
 have e1 : IntKind.i64.wrap ((l.length : Int) - 0) = (l.length : Int) := by rw [Int.sub_zero]; exact wrapN (by omega)
 have d1 : decide ((l.length : Int) ≤ 12) = true := by simp; omega
 simp only [e1,d1,go_sem,Nat.reduceEqDiff,Nat.reduceBEq,reduceCtorEq,binO]
 refine vks_call ?_ (fn109s h2 hf l (by omega) hH) ?_
 ·simp only [go_sem,Nat.reduceEqDiff,reduceCtorEq]
 rintro u H' rfl
 simp only [go_sem,Nat.reduceBEq]
theorem fn87s (hE : Codes E) (h2 : Codes2 E) {f : Value} (hf : CmpV E f vSpan cmpSpan) {b cap capc : Nat} (l : List SpanD) (hn : l.length ≤ 12) (hH : H b = some (.row (flat l.length (rSpan l)) capc true)) :
  Fn E.P (E.fn 87) [.slice (some ⟨b,0,none⟩) l.length cap,f] H (fun _ H' => H' = H.put b (.row (flat l.length (rSpan (sortN ltSpan l.length l))) capc true)) := by
 refine Fn.of_vks hE.c87 (by simp [cf87]) ?_
 simp only [cf87,cf87_0,cf87_1]
 have e1 := wrapU (n := l.length) (by omega)
 simp only [e1,go_sem,Nat.reduceEqDiff,Nat.reduceBEq,reduceCtorEq]
 refine vks_callp _ ?_ (fun _ => ⟨?_,fn85n h2 l.length (by omega)⟩) ?_ <;> simp only [go_sem,Nat.reduceEqDiff,Nat.reduceBEq,reduceCtorEq]
 refine vks_call ?_ (fn86s h2 hf _ l hn hH) ?_
 ·simp only [go_sem,Nat.reduceEqDiff,reduceCtorEq]
 rintro u H' rfl
 simp only [go_sem,Nat.reduceBEq]
section
variable {κ ν : Type} [DecidableEq κ] [Inhabited κ] [Inhabited ν]
theorem mfind_idx {ag : Bool} {ks : List Kd} {enc : κ → Value} (hk : ∀ a b, keyEq ag ks (enc a) (enc b) = some (decide (a = b))) (k : κ) :
  ∀ (es : List MapEntry) (L : List (κ × ν)) (off : Nat), es.map (·.key) = L.map (fun e => enc e.1) →
   (mget k L = none → mfind ag ks (enc k) es off = some none) ∧
   (∀ v,mget k L = some v → ∃ i,i < L.length ∧ L.getD i default = (k,v) ∧ mfind ag ks (enc k) es off = some (some (off + i,(es.getD i default).val)) ∧ ∀ u,mput k u L = L.set i (k,u))
 | [],[],_,_ => ⟨fun _ => rfl,fun v h => by cases h⟩
 | [],_ :: _,_,h => by simp at h
 | _ :: _,[],_,h => by simp at h
 | e :: es, (k', u') :: L, off, h => by
  simp only [List.map_cons,List.cons.injEq] at h
  obtain ⟨h1,h3⟩ := h
  have ih := mfind_idx hk k es L (off + 1) h3
  simp only [mget,mfind,h1,hk,mput]
  by_cases hkk : k = k'
  ·subst hkk
   refine ⟨fun h => by simp at h,fun v hv => ⟨0,by simp,?_,?_,fun u => ?_⟩⟩
   ·simp only [if_true,Option.some.injEq] at hv
    subst hv; simp
   ·simp
   ·simp
  ·simp only [hkk,if_false,decide_false]
   refine ⟨ih.1,fun v hv => ?_⟩
   obtain ⟨i,hi,hg,hm,hp⟩ := ih.2 v hv
   refine ⟨i + 1,by simp; omega,by simpa using hg,?_,fun u => by rw [hp u]; rfl⟩
   rw [hm]; simp; omega
end
theorem born_idx {es : Array MapEntry} (h : ∀ i (hi : i < es.size), (es[i]'hi).born = i) {i : Nat} (hi : i < es.size) : es.findIdx? (fun e => (e.born : Int) == ((i : Nat) : Int)) = some i := by
 rw [Array.findIdx?_eq_some_iff_getElem]
 refine ⟨hi,by simp [h i hi],fun j hj => ?_⟩
 have := h j (by omega)
 simp [this]; omega
theorem born_find {es : Array MapEntry} (h : ∀ i (hi : i < es.size), (es[i]'hi).born = i) {i : Nat} (hi : i < es.size) : es.find? (·.born == i) = some (es[i]'hi) := by
 rw [Array.find?_eq_some_iff_getElem]
 refine ⟨by simp [h i hi],i,hi,rfl,fun j hj => ?_⟩
 have := h j (by omega)
 simp [this]; omega
structure TimesAt (H G : Hp) (b3 : Nat) (es : Array MapEntry) (blk cp : Nat → Nat) (L : List (Pair × List SpanD)) (out : Nat → Prop) : Prop where
 map : G b3 = some (.obj (.map es es.size))
 size : es.size = L.length
 ent : ∀ i (hi : i < es.size),es[i]'hi = { key := .agg #[.int .i64 (L.getD i default).1.1,S (L.getD i default).1.2],val := .slice (some ⟨blk i,0,none⟩) (L.getD i default).2.length (cp i),born := i }
 old : ∀ i,i < L.length → H (blk i) = none
 ne3 : ∀ i,i < L.length → blk i ≠ b3
 row : ∀ i,i < L.length → ¬ out i → G (blk i) = some (.row (flat (L.getD i default).2.length (rSpan (L.getD i default).2)) (cp i * 2) true)
 inj : ∀ i j,i < L.length → j < i → blk j ≠ blk i
theorem TimesAt.keys {H G : Hp} {b3 : Nat} {es : Array MapEntry} {blk cp : Nat → Nat} {L : List (Pair × List SpanD)} {out : Nat → Prop} (h : TimesAt H G b3 es blk cp L out) :
  es.toList.map (·.key) = L.map (fun e => (.agg #[.int .i64 e.1.1,S e.1.2] : Value)) := by
 apply List.ext_getElem
 ·simp [h.size]
 ·intro i h1 h2
  have hi : i < es.size := by simpa using h1
  have := h.ent i hi
  have hL : i < L.length := by rw [← h.size]; exact hi
  simp [this,hL]
theorem TimesAt.born {H G : Hp} {b3 : Nat} {es : Array MapEntry} {blk cp : Nat → Nat} {L : List (Pair × List SpanD)} {out : Nat → Prop} (h : TimesAt H G b3 es blk cp L out) : ∀ i (hi : i < es.size), (es[i]'hi).born = i :=
 fun i hi => by rw [h.ent i hi]
theorem flat_spanpush (l : List SpanD) (s : SpanD) : flat l.length (rSpan l) ++ [.int .i64 s.from_, .int .i64 s.till] = flat (l ++ [s]).length (rSpan (l ++ [s])) := by
 have e : (l ++ [s]).length = l.length + 1 := by simp
 rw [e,flat_succ]
 congr 1
 ·apply flat_congr
  intro i hi
  simp [rSpan,List.getElem?_append_left hi]
 ·simp [rSpan]
def upN (f : Nat → Nat) (k x : Nat) : Nat → Nat := fun i => if i = k then x else f i
end Go.SL
