/- Contracts: sorting one span. -/
import Derived.Test.YthedjffolgeomaaGreatDoorMNplQ
import Derived.Test.YthedjffolgeomaaGreatDoorMNplT14
namespace Go.SL
open Go
variable {E:Env} {H:Hp}
theorem q1:decide ((1:Int)≥4294967296)=false:=by decide
theorem q2:decide ((1:Int)≥65536)=false:=by decide
theorem q3:decide ((1:Int)≥256)=false:=by decide
theorem q4:decide ((1:Int) < 1)=false:=by decide
theorem q5:decide ((1:Int)≤12)=true:=by decide
end Go.SL
/- Contracts: sorting few spans by a comparator (insertion sort). -/
namespace Go.SL
open Go
variable {E:Env} {H:Hp}
structure zN where
 from_:Int
 till:Int
 deriving DecidableEq,Inhabited
def pR (s:zN):Value:=.agg #[.int .i64 s.from_,.int .i64 s.till]
def yN (l:List zN) (i:Nat):List Value:=[.int .i64 (l.getD i default).from_,.int .i64 (l.getD i default).till]
def wP (H:Hp) (v:Value) (l:List zN):Prop:=zG H 2 v l.length (yN l)
theorem wP.mono {H H':Hp} {v:Value} {l:List zN} (h:wP H v l) (hl:H.le H'):wP H' v l:=zG.mono h hl
section
variable {α:Type} [Inhabited α] (lt:α→α→Bool)
def swp (l:List α) (j:Nat):List α:=(l.set (j + 1) (l.getD j default)).set j (l.getD (j + 1) default)
def qZ : Nat → List α → List α
 | 0,l=>l
 | j + 1,l=>if lt (l.getD (j + 1) default) (l.getD j default) then qZ j (swp l j) else l
def xJ : Nat → List α → List α
 | 0,l=>l
 | k + 1,l=>qZ lt k (xJ k l)
theorem zCp (l:List α) (j:Nat):(swp l j).length=l.length:=by simp [swp]
theorem zLA : ∀ (j : Nat) (l : List α), (qZ lt j l).length = l.length
 | 0,_=>rfl
 | j + 1, l => by
  simp only [qZ]
  split
  ·rw [zLA j,zCp]
  ·rfl
theorem vC : ∀ (k : Nat) (l : List α), (xJ lt k l).length = l.length
 | 0,_=>rfl
 | k + 1,l=>by simp only [xJ]; rw [zLA,vC k]
end
theorem zIe {n sz : Nat} {row : Nat → List Value} (h : ∀ i, i < n → (row i).length = sz) {i : Nat} (hi : i < n) {r : List Value} (hr : r.length = sz) :
  (flat n row).take (i * sz) ++ r ++ (flat n row).drop (i * sz + sz)=flat n (fun i'=>if i'=i then r else row i'):=by
 have hl:=xR h
 have h1 : i * sz + sz ≤ n * sz := by
  have:=Nat.mul_le_mul_right sz (show i + 1≤n by omega)
  rw [Nat.succ_mul] at this; exact this
 refine zIq (sz:=sz) ?_ ?_
 ·simp only [List.length_append,List.length_take,List.length_drop,hl,hr]; omega
 ·intro k hk
  have hk1 : k * sz + sz ≤ n * sz := by
   have:=Nat.mul_le_mul_right sz (show k + 1≤n by omega)
   rw [Nat.succ_mul] at this; exact this
  have hlt:((flat n row).take (i * sz)).length=i * sz:=by rw [List.length_take,hl]; omega
  rcases Nat.lt_trichotomy k i with h2 | h2 | h2
  ·have h3 : k * sz + sz ≤ i * sz := by
    have:=Nat.mul_le_mul_right sz (show k + 1≤i by omega)
    rw [Nat.succ_mul] at this; exact this
   rw [if_neg (by omega),List.append_assoc,List.drop_append_of_le_length (by omega),List.take_append_of_le_length (by rw [List.length_drop]; omega),List.drop_take,List.take_take,Nat.min_eq_left (by omega)]
   exact pE h k hk
  ·subst h2
   rw [if_pos rfl,List.append_assoc,List.drop_append,hlt,Nat.sub_self,List.drop_zero,List.drop_of_length_le (by omega),List.nil_append,List.take_append_of_le_length (by omega),List.take_of_length_le (by omega)]
  ·have h3 : i * sz + sz ≤ k * sz := by
    have:=Nat.mul_le_mul_right sz (show i + 1≤k by omega)
    rw [Nat.succ_mul] at this; exact this
   have hlr:((flat n row).take (i * sz) ++ r).length=i * sz + sz:=by rw [List.length_append,hlt,hr]
   rw [if_neg (by omega),List.drop_append,hlr,List.drop_of_length_le (by omega),List.nil_append,List.drop_drop]
   have e:i * sz + sz + (k * sz - (i * sz + sz))=k * sz:=by omega
   rw [e]
   exact pE h k hk
theorem zLE (l : List zN) {k : Nat} (hk : k < l.length) (s : zN) (i : Nat) : yN (l.set k s) i = if i = k then [.int .i64 s.from_, .int .i64 s.till] else yN l i := by
 by_cases e:i=k
 ·subst e; simp [yN,hk]
 ·simp [yN,e,Ne.symm e]
theorem zKU (l : List zN) {k : Nat} (hk : k < l.length) (s : zN) :
  (flat l.length (yN l)).take (k * 2) ++ [.int .i64 s.from_,.int .i64 s.till] ++ (flat l.length (yN l)).drop (k * 2 + 2)=flat l.length (yN (l.set k s)):=by
 rw [zIe (sz:=2) (fun i _=>rfl) hk rfl]
 exact xZ fun i _=>(zLE l hk s i).symm
theorem zDT {H : Hp} {b : Nat} {o : xD} (h : H b = some o) : H.put b o = H := by
 funext c
 simp only [Hp.put]
 by_cases e:c=b
 ·subst e; simp [h]
 ·simp [e]
def zFD {α:Type} (E:Env) (f:Value) (enc:α→Value) (c:α→α→Int):Prop:=∀ (G:Hp) (a b:α),FnV E f [enc a,enc b] G (fun u G'=>u = .int .i64 (c a b)∧G'=G)
def jG (a b:zN):Int:=vE a.from_ b.from_
def vF (a b:zN):Bool:=decide (jG a b < 0)
theorem yYs (hE : zV E) (h2 : wC E) (a b : zN) : yD E 121 [pR a, pR b] H (.int .i64 (jG a b)) := by
 unfold pR jG
 refine Fn.of_vks h2.c121 (by simp [zLZ]) ?_
 simp only [zLZ,zTO,zWw]
 simp only [go_sem,Nat.reduceLeDiff,Nat.reduceEqDiff,Nat.reduceBEq,Nat.reduceAdd,reduceCtorEq]
 refine zE _ ?_ (fun _=>⟨?_,zPi hE a.from_ b.from_⟩) ?_<;>simp only [go_sem,Nat.reduceEqDiff,Nat.reduceBEq]
theorem yVk (hE : zV E) (h2 : wC E) : zFD E (.func (.func (E.fn 121)) #[] #[]) pR jG := fun _G a b =>
 wE h2.e121 (Fn.same (yYs hE h2 a b))
set_option maxHeartbeats 1000000 in
theorem yWo (h2 : wC E) {f : Value} (hf : zFD E f pR jG) {b cap capc : Nat} (l : List zN) (hn : l.length ≤ 1000000) (hH : H b = some (.row (flat l.length (yN l)) capc true)) :
  Fn E.P (E.fn 109) [.slice (some ⟨b,0,none⟩) l.length cap,.int .i64 0,.int .i64 l.length,f] H (fun _ H'=>H'=H.put b (.row (flat l.length (yN (xJ vF l.length l))) capc true)):=by
 refine Fn.of_vks h2.c109 (by simp [zHo]) ?_
 simp only [zHo,zKs,zKG,zJU,zKf,zKB,zKw,zKa]
 simp only [go_sem,Nat.reduceEqDiff,Nat.reduceBEq,Nat.reduceAdd,reduceCtorEq,Int.reduceAdd,zC]
 refine yP (l.length - 1) 0 (fun k fr' H' => fr' = [(0, ⟨true, .val (.slice (some ⟨b, 0, none⟩) l.length cap)⟩), (1, ⟨true, .val (.int .i64 0)⟩), (2, ⟨true, .val (.int .i64 l.length)⟩), (3, ⟨true, .val f⟩), (8, ⟨true, .val (.int .i64 ((k + 1 : Nat) : Int))⟩)] ∧
  H'=H.put b (.row (flat l.length (yN (xJ vF (k + 1) l))) capc true)) (Nat.zero_le _) ⟨rfl,(zDT hH).symm⟩ ?_
 rintro k fr' H' hk ⟨rfl,rfl⟩
 by_cases hlt:k + 1 < l.length
 ·have hd:decide (((k + 1:Nat):Int) < (l.length:Int))=true:=by rw [decide_eq_true_eq]; omega
  simp only [hd,go_sem,Nat.reduceEqDiff,Nat.reduceBEq,reduceCtorEq,zC]
  refine pX (fun m fr' H' => ∃ L : List zN, L.length = l.length ∧ qZ vF m L = xJ vF (k + 2) l ∧ m ≤ k + 1 ∧
   fr' = [(0,⟨true,.val (.slice (some ⟨b,0,none⟩) l.length cap)⟩),(1,⟨true,.val (.int .i64 0)⟩),(2,⟨true,.val (.int .i64 l.length)⟩),(3,⟨true,.val f⟩),(8,⟨true,.val (.int .i64 ((k + 1:Nat):Int))⟩),(9,⟨true,.val (.int .i64 ((m:Nat):Int))⟩)] ∧
   H'=H.put b (.row (flat l.length (yN L)) capc true)) (k + 1) ⟨xJ vF (k + 1) l,vC _ _ _,rfl,Nat.le_refl _,rfl,rfl⟩ ?_
  rintro m fr' H' ⟨L,hL,hT,hm,rfl,rfl⟩
  have hGb:(H.put b (.row (flat l.length (yN L)) capc true)) b=some (.row (flat l.length (yN L)) capc true):=Hp.put_same ..
  have hfl:(flat l.length (yN L)).length=l.length * 2:=xR fun i _=>rfl
  have hw:∀ L':List zN,qZ vF 0 L'=L':=fun _=>rfl
  cases m with
  | zero =>
   have hT':L=xJ vF (k + 2) l:=hT
   have hd2:decide (((0:Nat):Int) > 0)=false:=by decide
   simp only [hd2,hGb,undef,go_sem,Nat.reduceEqDiff,Nat.reduceBEq,reduceCtorEq,zC]
   refine uX (by intro x h; cases h) (by intro f a h; cases h) ?_ (fun hg=>?_) (fun hg=>?_)
   ·simp only [go_sem,Nat.reduceEqDiff,reduceCtorEq]
   ·simp only [go_sem,Nat.reduceEqDiff,reduceCtorEq] at hg
   ·simp only [hGb,undef,↓vI,↓vR,↓yB,go_sem,Nat.reduceEqDiff,Nat.reduceBEq,reduceCtorEq,zC]
    rw [hT']
    refine⟨by omega,?_,?_⟩
    ·exact zQ (by omega)
    ·rfl
  | succ j =>
   have hd2:decide (((j + 1:Nat):Int) > 0)=true:=by rw [decide_eq_true_eq]; omega
   have e1:IntKind.i64.wrap (((j + 1:Nat):Int) - 1)=(j:Int):=by rw [yX]<;>omega
   have hj1:j + 1 < l.length:=by omega
   have hr1:=pE (n:=l.length) (sz:=2) (row:=yN L) (fun i _=>rfl) (j + 1) hj1
   have hr0:=pE (n:=l.length) (sz:=2) (row:=yN L) (fun i _=>rfl) j (by omega)
   simp only [hd2,e1,hGb,hr1,hr0,yN,hfl,go_sem,Nat.reduceEqDiff,Nat.reduceBEq,reduceCtorEq,zC]
   refine⟨⟨by omega,by omega⟩,by omega,⟨by omega,by omega⟩,by omega,?_⟩
   refine uX (by intro x h; cases h) (by intro f a h; cases h) ?_ (fun _=>⟨?_,?_,_,hf _ (L.getD (j + 1) default) (L.getD j default),?_⟩) (fun hg=>?_)
   ·simp only [go_sem,Nat.reduceEqDiff,reduceCtorEq]
   ·simp only [go_sem,Nat.reduceEqDiff,reduceCtorEq]
   ·simp only [go_sem,Nat.reduceEqDiff,reduceCtorEq]
   ·rintro v H'' ⟨rfl,rfl⟩
    simp only [hGb,go_sem,Nat.reduceEqDiff,Nat.reduceBEq,reduceCtorEq,zC]
    have hlt':vF (L.getD (j + 1) default) (L.getD j default)=decide (jG (L.getD (j + 1) default) (L.getD j default) < 0):=rfl
    refine⟨fun hc=>?_,fun hc=>?_⟩
    ·have hT' : qZ vF j (swp L j) = xJ vF (k + 2) l := by
      rw [← hT]; simp only [qZ,hlt',hc,if_true]
     have s1:=zKU L (k:=j + 1) (by omega) (L.getD j default)
     have s2:=zKU (L.set (j + 1) (L.getD j default)) (k:=j) (by simp; omega) (L.getD (j + 1) default)
     rw [hL] at s1
     rw [List.length_set,hL] at s2
     simp only [e1,hGb,hr1,hr0,yN,hfl,jA,go_sem,Nat.reduceEqDiff,Nat.reduceBEq,Nat.reduceAdd,reduceCtorEq,zC]
     refine⟨⟨by omega,by omega⟩,by omega,⟨by omega,by omega⟩,by omega,⟨by omega,by omega⟩,by omega,⟨by omega,by omega⟩,?_⟩
     rw [s1,Hp.put_same]
     refine⟨by rw [xR (sz:=2) (fun i _=>rfl)]; omega,j,by omega,swp L j,by rw [zCp]; exact hL,hT',by omega,rfl,?_⟩
     rw [s2]; rfl
    ·have hT' : L = xJ vF (k + 2) l := by
      rw [← hT]; simp only [qZ,hlt',hc,Bool.false_eq_true,if_false]
     rw [hT']
     refine⟨by omega,?_,?_⟩
     ·exact zQ (by omega)
     ·rfl
   ·simp only [go_sem,Nat.reduceEqDiff,reduceCtorEq] at hg
 ·have hd:decide (((k + 1:Nat):Int) < (l.length:Int))=false:=by rw [decide_eq_false_iff_not]; omega
  simp only [hd,go_sem,Nat.reduceEqDiff,Nat.reduceBEq,reduceCtorEq,zC]
  have e : xJ vF (k + 1) l = xJ vF l.length l := by
   rcases Nat.lt_or_ge 0 l.length with h | h
   ·rw [show k + 1=l.length by omega]
   ·have:l = []:=by simpa using h
    subst this
    have:k=0:=by simpa using hk
    subst this
    rfl
  rw [e]
end Go.SL
/- Contracts: SortFunc on at most twelve spans; the spans of each place in a map. -/
namespace Go.SL
open Go
variable {E:Env} {H:Hp}
theorem yFN {n : Nat} (h : n ≤ 1099511627777) : IntKind.u64.wrap ((n : Nat) : Int) = (n : Int) := by
 simp only [IntKind.wrap,IntKind.bits,IntKind.signed,Bool.false_and]; simp; omega
theorem yYI {n : Nat} (h : n < 256) : IntKind.u8.wrap ((n : Nat) : Int) = (n : Int) := by
 simp only [IntKind.wrap,IntKind.bits,IntKind.signed,Bool.false_and]; simp; omega
def zIO:ByteArray:=⟨#[0,1,2,2,3,3,3,3,4,4,4,4,4,4,4,4,5,5,5,5,5,5,5,5,5,5,5,5,5,5,5,5,6,6,6,6,6,6,6,6,6,6,6,6,6,6,6,6,6,6,6,6,6,6,6,6,6,6,6,6,6,6,6,6,7,7,7,7,7,7,7,7,7,7,7,7,7,7,7,7,7,7,7,7,7,7,7,7,7,7,7,7,7,7,7,7,7,7,7,7,7,7,7,7,7,7,7,7,7,7,7,7,7,7,7,7,7,7,7,7,7,7,7,7,7,7,7,7,8,8,8,8,8,8,8,8,8,8,8,8,8,8,8,8,8,8,8,8,8,8,8,8,8,8,8,8,8,8,8,8,8,8,8,8,8,8,8,8,8,8,8,8,8,8,8,8,8,8,8,8,8,8,8,8,8,8,8,8,8,8,8,8,8,8,8,8,8,8,8,8,8,8,8,8,8,8,8,8,8,8,8,8,8,8,8,8,8,8,8,8,8,8,8,8,8,8,8,8,8,8,8,8,8,8,8,8,8,8,8,8,8,8,8,8,8,8,8,8,8,8,8,8,8,8,8,8]⟩
theorem yVz : zQL = [
 ⟨(some 19),.sim (.mov (.t 2)),none⟩,
 ⟨(some 20),.sim (.mov (.t 0)),none⟩,
 ⟨(some 21),.sim (.cvi .u8 (.t 20)),none⟩,
 ⟨(some 22),.sim (.idxs (.c (.string zIO)) (.t 21)),none⟩,
 ⟨(some 23),.sim (.cvi .i64 (.t 22)),none⟩,
 ⟨(some 24),.sim (.bin .add (.t 19) (.t 23)),none⟩,
 ⟨(some 2),.sim (.mov (.t 24)),none⟩]:=rfl
set_option maxRecDepth 100000 in
theorem zSd:zIO.size=256:=rfl
def zGB (n:Nat):Nat:=((strOf (.string zIO)).getD n 0).toNat
theorem yUJ (n:Nat):((strOf (.string zIO)).getD n 0).toNat=zGB n:=rfl
theorem yUn (n:Nat):zGB n < 256:=UInt8.toNat_lt _
set_option maxRecDepth 100000 in
set_option maxHeartbeats 1000000 in
theorem yWl (h2 : wC E) (n : Nat) (hn : n < 256) : yD E 118 [.int .u64 n] H (.int .i64 (zGB n : Nat)) := by
 have d1:decide ((n:Int)≥4294967296)=false:=by simp; omega
 have d2:decide ((n:Int)≥65536)=false:=by simp; omega
 have d3:decide ((n:Int)≥256)=false:=by simp; omega
 have e1:=yYI hn
 have hle:=yUn n
 have e2:IntKind.i64.wrap ((zGB n:Nat):Int)=((zGB n:Nat):Int):=zLY (by omega)
 have e3:IntKind.i64.wrap (0 + ((zGB n:Nat):Int))=((zGB n:Nat):Int):=by rw [Int.zero_add]; exact e2
 refine Fn.of_vks h2.c118 (by simp [zMJ]) ?_
 simp only [zMJ,zYC,yAS,yDN,yBg,yAc,yDn,zTo,zWZ,yBZ,zYd,yVz]
 simp only [d1,d2,d3,e1,zSd,yUJ,e2,e3,go_sem,Nat.reduceEqDiff,Nat.reduceBEq,reduceCtorEq,Int.reduceToNat,Int.reduceLT,Int.reduceAdd,zC]
 exact⟨by omega,by omega⟩
theorem zHm (h2 : wC E) (n : Nat) (hn : n < 256) : yD E 85 [.int .u64 n] H (.int .i64 (zGB n : Nat)) := by
 refine Fn.of_vks h2.c85 (by simp [yGa]) ?_
 simp only [yGa,yQa,yLg,yJm]
 simp only [go_sem,Nat.reduceBEq,reduceCtorEq]
 refine zP ?_ (Fn.same (yWl h2 n hn)) ?_
 ·simp only [go_sem,reduceCtorEq]
 rintro u H' ⟨rfl,rfl⟩
 simp only [go_sem,Nat.reduceEqDiff,Nat.reduceBEq,reduceCtorEq]
set_option maxHeartbeats 1000000 in
theorem yZG (h2 : wC E) {f : Value} (hf : zFD E f pR jG) {b cap capc : Nat} (m : Int) (l : List zN) (hn : l.length ≤ 12) (hH : H b = some (.row (flat l.length (yN l)) capc true)) :
  Fn E.P (E.fn 86) [.slice (some ⟨b,0,none⟩) l.length cap,.int .i64 0,.int .i64 l.length,.int .i64 m,f] H (fun _ H'=>H'=H.put b (.row (flat l.length (yN (xJ vF l.length l))) capc true)):=by
 refine Fn.of_vks h2.c86 (by simp [zKH]) ?_
 simp only [zKH,zQr,zOX,zOq,zQu,zOr]
 simp only [go_sem,Nat.reduceEqDiff,Nat.reduceBEq,Nat.reduceAdd,reduceCtorEq]
 refine zS 0 0 (fun _=>[(0,⟨true,.val (.slice (some ⟨b,0,none⟩) l.length cap)⟩),(1,⟨true,.val (.int .i64 0)⟩),(2,⟨true,.val (.int .i64 l.length)⟩),(3,⟨true,.val (.int .i64 m)⟩),(4,⟨true,.val f⟩),(10,⟨true,.val (.bool true)⟩),(11,⟨true,.val (.bool true)⟩)]) (fun _=>True) (Nat.le_refl _) rfl trivial ?_
 intro k hk _
 have e1:IntKind.i64.wrap ((l.length:Int) - 0)=(l.length:Int):=by rw [Int.sub_zero]; exact zLY (by omega)
 have d1:decide ((l.length:Int)≤12)=true:=by simp; omega
 simp only [e1,d1,go_sem,Nat.reduceEqDiff,Nat.reduceBEq,reduceCtorEq,zC]
 refine zP ?_ (yWo h2 hf l (by omega) hH) ?_
 ·simp only [go_sem,Nat.reduceEqDiff,reduceCtorEq]
 rintro u H' rfl
 simp only [go_sem,Nat.reduceBEq]
theorem yTd (hE : zV E) (h2 : wC E) {f : Value} (hf : zFD E f pR jG) {b cap capc : Nat} (l : List zN) (hn : l.length ≤ 12) (hH : H b = some (.row (flat l.length (yN l)) capc true)) :
  Fn E.P (E.fn 87) [.slice (some ⟨b,0,none⟩) l.length cap,f] H (fun _ H'=>H'=H.put b (.row (flat l.length (yN (xJ vF l.length l))) capc true)):=by
 refine Fn.of_vks hE.c87 (by simp [zKr]) ?_
 simp only [zKr,zOS,zRg]
 have e1:=yFN (n:=l.length) (by omega)
 simp only [e1,go_sem,Nat.reduceEqDiff,Nat.reduceBEq,reduceCtorEq]
 refine zE _ ?_ (fun _=>⟨?_,zHm h2 l.length (by omega)⟩) ?_<;>simp only [go_sem,Nat.reduceEqDiff,Nat.reduceBEq,reduceCtorEq]
 refine zP ?_ (yZG h2 hf _ l hn hH) ?_
 ·simp only [go_sem,Nat.reduceEqDiff,reduceCtorEq]
 rintro u H' rfl
 simp only [go_sem,Nat.reduceBEq]
section
variable {κ ν:Type} [DecidableEq κ] [Inhabited κ] [Inhabited ν]
theorem zLz {ag : Bool} {ks : List Kd} {enc : κ → Value} (hk : ∀ a b, uT ag ks (enc a) (enc b) = some (decide (a = b))) (k : κ) :
  ∀ (es : List MapEntry) (L : List (κ × ν)) (off : Nat), es.map (·.key) = L.map (fun e => enc e.1) →
   (yK k L=none→uI ag ks (enc k) es off=some none) ∧
   (∀ v,yK k L=some v→∃ i,i < L.length∧L.getD i default=(k,v)∧uI ag ks (enc k) es off=some (some (off + i,(es.getD i default).val))∧∀ u,xU k u L=L.set i (k,u))
 | [],[],_,_=>⟨fun _=>rfl,fun v h=>by cases h⟩
 | [],_ :: _,_,h=>by simp at h
 | _ :: _,[],_,h=>by simp at h
 | e :: es, (k', u') :: L, off, h => by
  simp only [List.map_cons,List.cons.injEq] at h
  obtain⟨h1,h3⟩:=h
  have ih:=zLz hk k es L (off + 1) h3
  simp only [yK,uI,h1,hk,xU]
  by_cases hkk:k=k'
  ·subst hkk
   refine⟨fun h=>by simp at h,fun v hv=>⟨0,by simp,?_,?_,fun u=>?_⟩⟩
   ·simp only [if_true,Option.some.injEq] at hv
    subst hv; simp
   ·simp
   ·simp
  ·simp only [hkk,if_false,decide_false]
   refine⟨ih.1,fun v hv=>?_⟩
   obtain⟨i,hi,hg,hm,hp⟩:=ih.2 v hv
   refine⟨i + 1,by simp; omega,by simpa using hg,?_,fun u=>by rw [hp u]; rfl⟩
   rw [hm]; simp; omega
end
theorem zRc {es : Array MapEntry} (h : ∀ i (hi : i < es.size), (es[i]'hi).born = i) {i : Nat} (hi : i < es.size) : es.findIdx? (fun e => (e.born : Int) == ((i : Nat) : Int)) = some i := by
 rw [Array.findIdx?_eq_some_iff_getElem]
 refine⟨hi,by simp [h i hi],fun j hj=>?_⟩
 have:=h j (by omega)
 simp [this]; omega
theorem zKV {es : Array MapEntry} (h : ∀ i (hi : i < es.size), (es[i]'hi).born = i) {i : Nat} (hi : i < es.size) : es.find? (·.born == i) = some (es[i]'hi) := by
 rw [Array.find?_eq_some_iff_getElem]
 refine⟨by simp [h i hi],i,hi,rfl,fun j hj=>?_⟩
 have:=h j (by omega)
 simp [this]; omega
structure zAa (H G : Hp) (b3 : Nat) (es : Array MapEntry) (blk cp : Nat → Nat) (L : List (zBY × List zN)) (out : Nat → Prop) : Prop where
 map:G b3=some (.obj (.map es es.size))
 size:es.size=L.length
 ent:∀ i (hi:i < es.size),es[i]'hi = { key:=.agg #[.int .i64 (L.getD i default).1.1,S (L.getD i default).1.2],val:=.slice (some ⟨blk i,0,none⟩) (L.getD i default).2.length (cp i),born:=i }
 old:∀ i,i < L.length→H (blk i)=none
 ne3:∀ i,i < L.length→blk i≠b3
 row:∀ i,i < L.length→¬ out i→G (blk i)=some (.row (flat (L.getD i default).2.length (yN (L.getD i default).2)) (cp i * 2) true)
 inj:∀ i j,i < L.length→j < i→blk j≠blk i
theorem zAa.keys {H G : Hp} {b3 : Nat} {es : Array MapEntry} {blk cp : Nat → Nat} {L : List (zBY × List zN)} {out : Nat → Prop} (h : zAa H G b3 es blk cp L out) :
  es.toList.map (·.key)=L.map (fun e=>(.agg #[.int .i64 e.1.1,S e.1.2]:Value)):=by
 apply List.ext_getElem
 ·simp [h.size]
 ·intro i h1 h2
  have hi:i < es.size:=by simpa using h1
  have:=h.ent i hi
  have hL:i < L.length:=by rw [← h.size]; exact hi
  simp [this,hL]
theorem zAa.born {H G : Hp} {b3 : Nat} {es : Array MapEntry} {blk cp : Nat → Nat} {L : List (zBY × List zN)} {out : Nat → Prop} (h : zAa H G b3 es blk cp L out) : ∀ i (hi : i < es.size), (es[i]'hi).born = i :=
 fun i hi=>by rw [h.ent i hi]
theorem zGe (l : List zN) (s : zN) : flat l.length (yN l) ++ [.int .i64 s.from_, .int .i64 s.till] = flat (l ++ [s]).length (yN (l ++ [s])) := by
 have e:(l ++ [s]).length=l.length + 1:=by simp
 rw [e,vP]
 congr 1
 ·apply xZ
  intro i hi
  simp [yN,List.getElem?_append_left hi]
 ·simp [yN]
def upN (f:Nat→Nat) (k x:Nat):Nat→Nat:=fun i=>if i=k then x else f i
end Go.SL
/- Contract: history.Valid of a history of at most twelve copies. -/
namespace Go.SL
open Go
variable {E:Env} {H:Hp}
def xX (c:yE):zN:=⟨c.from_,c.till⟩
def yE.key (c:yE):zBY:=(c.host,c.apex)
def yF (cs : List yE) : Nat → List (zBY × List zN)
 | 0=>[]
 | k + 1=>xU (cs.getD k default).key (((yK (cs.getD k default).key (yF cs k)).getD []) ++ [xX (cs.getD k default)]) (yF cs k)
def zIo (nh e:Int) (c:yE):Bool:=decide (c.host < 0) || decide (c.host≥nh) || decide (c.from_ < 0) || decide (c.from_≥c.till) || decide (c.till > e)
def jF (nh e:Int) (c:yE):Bool:=!zIo nh e c && xG c.apex c.sets
def zJn (l:List zN):Bool:=zO (fun i=>!decide ((l.getD (i + 1) default).from_ < (l.getD i default).till)) (l.length - 1)
def jB (l:List zN):Bool:=zJn (xJ vF l.length l)
def zFm (h:yA):Bool:=decide (h.end_ < 1) || decide (h.end_ > 10000000) || decide (h.drift < 0) || decide (h.drift > 1000) || decide ((h.copies.length:Int) > 4000)
def zBr (h:yA):zCI:=⟨h.hosts,[],h.aname,h.atype,h.alife,h.adata,h.hints⟩
def yO (h : yA) : Bool := !zFm h && (zAG (zBr h) && (zO (fun i => jF h.hosts.length h.end_ (h.copies.getD i default)) h.copies.length &&
 (zO (fun i=>jB ((yF h.copies h.copies.length).getD i default).2) (yF h.copies h.copies.length).length && decide ((xK h.copies h.copies.length).length≤500))))
theorem zLm {α : Type} {p q : α → Bool} : ∀ {l : List α}, (∀ x, q x = true → p x = true) → ∀ {a}, a ∈ l → p a = true → q a = false → l.countP q < l.countP p
 | [],_,_,h,_,_=>by cases h
 | y :: l, hpq, a, h, hp, hq => by
  have hm:l.countP q≤l.countP p:=List.countP_mono_left fun x _=>hpq x
  simp only [List.countP_cons]
  rcases List.mem_cons.1 h with rfl | h'
  ·simp [hp,hq]; omega
  ·have ih:=zLm hpq h' hp hq
   have h1 : (if q y = true then 1 else 0) ≤ (if p y = true then 1 else 0) := by
    cases hqy:q y with
    | true=>simp [hpq y hqy]
    | false=>simp
   omega
def zCE (n:Nat) (seen:Array Nat):Nat:=(List.range n).countP fun i=>!seen.contains i
theorem pF (s : Array Nat) (i j : Nat) : (s.push i).contains j = (s.contains j || j == i) := by
 rw [Bool.eq_iff_iff]; simp
theorem zHJ {n : Nat} {seen : Array Nat} {i : Nat} (hi : i < n) (hs : seen.contains i = false) : zCE n (seen.push i) < zCE n seen := by
 refine zLm (fun x hx=>?_) (List.mem_range.2 hi) (by rw [hs]; rfl) (by rw [pF]; simp)
 rw [pF] at hx
 simp at hx ⊢
 exact hx.1
theorem zAa.mono {H G G' : Hp} {b3 : Nat} {es : Array MapEntry} {blk cp : Nat → Nat} {L : List (zBY × List zN)} {out : Nat → Prop} (h : zAa H G b3 es blk cp L out) (hl : G.le G') : zAa H G' b3 es blk cp L out :=
 ⟨hl _ _ h.map,h.size,h.ent,h.old,h.ne3,fun i hi ho=>hl _ _ (h.row i hi ho),h.inj⟩
theorem zGd {κ ν : Type} [DecidableEq κ] (k : κ) (v : ν) : ∀ l : List (κ × ν), (xU k v l).length ≤ l.length + 1
 | []=>by simp [xU]
 | (k', v') :: r => by
  simp only [xU]
  split
  ·simp
  ·have:=zGd k v r; simp; omega
theorem pM {κ ν : Type} [DecidableEq κ] {k : κ} {v : ν} {e : κ × ν} : ∀ {l : List (κ × ν)}, e ∈ xU k v l → e = (k, v) ∨ e ∈ l
 | [],h=>by simpa [xU] using h
 | (k', v') :: r, h => by
  simp only [xU] at h
  split at h
  ·rcases List.mem_cons.1 h with h | h
   ·exact .inl h
   ·exact .inr (List.mem_cons_of_mem _ h)
  ·rcases List.mem_cons.1 h with h | h
   ·exact .inr (by rw [h]; exact List.mem_cons_self)
   ·rcases pM h with h | h
    ·exact .inl h
    ·exact .inr (List.mem_cons_of_mem _ h)
theorem zBf {κ ν : Type} [DecidableEq κ] {k : κ} {v : ν} : ∀ {l : List (κ × ν)}, yK k l = some v → (k, v) ∈ l
 | [],h=>by cases h
 | (k', v') :: r, h => by
  simp only [yK] at h
  split at h
  ·rename_i e; cases h; rw [e]; exact List.mem_cons_self
  ·exact List.mem_cons_of_mem _ (zBf h)
theorem zEl (cs : List yE) : ∀ k, ∀ e ∈ yF cs k, e.2.length ≤ k
 | 0,e,h=>by cases h
 | k + 1, e, h => by
  simp only [yF] at h
  rcases pM h with rfl | h
  ·simp only [List.length_append,List.length_singleton]
   cases hg:yK (cs.getD k default).key (yF cs k) with
   | none=>simp
   | some l=>simp only [Option.getD_some]; have:=zEl cs k _ (zBf hg); simp at this; omega
  ·have:=zEl cs k e h; omega
set_option maxHeartbeats 2000000 in
set_option maxRecDepth 100000 in
theorem zHC (hE : zV E) (h2 : wC E) (hB : qT E H) {v : Value} {h : yA} (hh : vS H v h) (hn : h.copies.length ≤ 12) : yD E 48 [v] H (.bool (yO h)) := by
 obtain⟨vh,vc,vd,vi,rfl,g1,g2,g3,g4⟩:=hh
 have hh1:=zG.one g1
 have hd1:=zG.one g3
 have hi1:=zG.one g4
 have hc1:=uZ.one g2
 have g2':=g2
 obtain⟨z,⟨a,cap,rfl,hsp,hr⟩,hdeep⟩:=g2'
 have hvh:=xV.sl g1
 obtain⟨ah,ch,rfl⟩:=hvh
 have hvd:=zG.sl g3
 obtain⟨ad,cd,rfl⟩:=hvd
 have hvi:=zG.sl g4
 obtain⟨ai,ci,rfl⟩:=hvi
 have hWA:zBv H (.agg #[.slice ah h.hosts.length ch,.slice none 0 0,S h.aname,.int .i64 h.atype,.int .i64 h.alife,.slice ad h.adata.length cd,.slice ai h.hints.length ci]) (zBr h):=⟨_,_,_,_,rfl,g1,pL.nil0,g3,g4⟩
 have hfw:=xBU hE hB hWA
 obtain⟨cs,hcs⟩:∃ x,x=h.copies:=⟨_,rfl⟩
 have hval : yO h = (!zFm h && (zAG (zBr h) && (zO (fun i => jF h.hosts.length h.end_ (cs.getD i default)) cs.length &&
  (zO (fun i=>jB ((yF cs cs.length).getD i default).2) (yF cs cs.length).length && decide ((xK cs cs.length).length≤500))))):=by rw [hcs]; rfl
 have hhb:zFm h=(decide (h.end_ < 1) || decide (h.end_ > 10000000) || decide (h.drift < 0) || decide (h.drift > 1000) || decide ((cs.length:Int) > 4000)):=by rw [hcs]; rfl
 rw [← hcs] at g2 hr hdeep hn hsp
 rw [← hcs]
 refine Fn.of_vks h2.c48 (by simp [yHn]) ?_
 simp only [yHn,yIa,yLw,yHT,yNV,yKV,yHH,yQi,yId,yMJ,yOX,zSI,zVP,zYp,yBn,yCO,zZh,zWN,zUb,yCp,yDm,zXL,zVg,zTB,zXQ,zZy,zVE]
 simp only [go_sem,Nat.reduceLeDiff,Nat.reduceEqDiff,Nat.reduceBEq,Nat.reduceAdd,reduceCtorEq,zC]
 refine⟨fun hq=>?_,fun hq=>?_⟩
 ·rw [hval,hhb,hq]; rfl
 have hq1:zFm h=false:=by rw [hhb]; exact hq
 refine zE (.bool (zAG (zBr h))) ?_ (fun _=>⟨?_,hfw⟩) ?_<;>simp only [go_sem,Nat.reduceLeDiff,Nat.reduceEqDiff,Nat.reduceBEq,Nat.reduceAdd]
 refine⟨fun hq=>?_,fun hq2=>?_⟩
 ·rw [hval,hq1,hq]; rfl
 intro b3 hb3
 have hPS:=fun k=>zO (fun i=>jF h.hosts.length h.end_ (cs.getD i default)) k=true
 refine yP cs.length 0 (fun k fr' G => fr' = [(1, ⟨true, .box [.slice ah h.hosts.length ch, .slice a cs.length cap, S h.aname, .int .i64 h.atype, .int .i64 h.alife, .slice ad h.adata.length cd, .slice ai h.hints.length ci, .int .i64 h.drift, .int .i64 h.end_]⟩), (3, ⟨true, .val (.map (some b3))⟩), (45, ⟨true, .val (.slice a cs.length cap)⟩), (46, ⟨true, .val (.int .i64 cs.length)⟩), (47, ⟨true, .val (.int .i64 k)⟩)] ∧
   H.le G∧zO (fun i=>jF h.hosts.length h.end_ (cs.getD i default)) k=true∧∃ es blk cp,zAa H G b3 es blk cp (yF cs k) (fun _=>False)) (Nat.zero_le _)
   ⟨rfl,zM hb3 _,rfl,#[],fun _=>0,fun _=>0,Hp.put_same ..,rfl,fun i hi=>by simp at hi,fun i hi=>by simp [yF] at hi,fun i hi=>by simp [yF] at hi,fun i hi=>by simp [yF] at hi,fun i j hi=>by simp [yF] at hi⟩ ?_
 rintro k fr' G hk ⟨rfl,hle,hok,es,blk,cp,hT⟩
 by_cases hlt:k < cs.length
 ·have hd:decide ((k:Int) < (cs.length:Int))=true:=by simpa using hlt
  have hr':=hr (by omega)
  obtain⟨b,o,vs,c,wr,ha,hb,hi⟩:=hr'
  subst ha
  have hb1:=hle _ _ hb
  have k1:=(hi k hlt).1
  have k2:=(hi k hlt).2
  have hz0:=hdeep k hlt
  have hz1:yW (z k)=true:=by obtain⟨d,g,h,_⟩:=hz0; exact zG.one h
  have hF:=fun hx=>zY (P:=fun i=>jF h.hosts.length h.end_ (cs.getD i default)) hlt hx
  have hS:=fun hx=>yJ (P:=fun i=>jF h.hosts.length h.end_ (cs.getD i default)) hok hx
  have hnext:yF cs (k + 1)=xU (cs.getD k default).key (((yK (cs.getD k default).key (yF cs k)).getD []) ++ [xX (cs.getD k default)]) (yF cs k):=rfl
  obtain⟨x,hx⟩:∃ y,cs.getD k default=y:=⟨_,rfl⟩
  have hfz:=yRp hE (hB.mono hle) (cs.getD k default).apex (hz0.mono hle)
  rw [hx] at hfz hF hS hnext
  have hbad:zIo h.hosts.length h.end_ x=(decide (x.host < 0) || decide (x.host≥(h.hosts.length:Int)) || decide (x.from_ < 0) || decide (x.from_≥x.till) || decide (x.till > h.end_)):=rfl
  simp only [hd,hb1,k2,zAf,hx,hz1,go_sem,Nat.reduceLeDiff,Nat.reduceEqDiff,Nat.reduceBEq,Nat.reduceAdd,zC]
  refine⟨⟨by omega,by omega⟩,k1,fun h=>⟨h,h⟩,fun h=>⟨h,h⟩,fun h=>⟨h,h⟩,fun hq=>?_,fun hq=>?_⟩
  ·have:=hF (by simp only [jF,hbad,hq]; rfl)
   rw [hval,hq1,hq2,this]; exact⟨rfl,hle⟩
  refine zE (.bool (xG x.apex x.sets)) ?_ (fun _=>⟨?_,hfz⟩) ?_<;>simp only [go_sem,Nat.reduceLeDiff,Nat.reduceEqDiff,Nat.reduceBEq,Nat.reduceAdd]
  refine⟨fun hq'=>?_,fun hq'=>?_⟩
  ·have:=hF (by simp only [jF,hq']; simp)
   rw [hval,hq1,hq2,this]; exact⟨rfl,hle⟩
  have hokx:=hS (by simp only [jF,hbad,hq,hq']; rfl)
  intro bx hbx
  have hbx3:bx≠b3:=by rintro rfl; rw [hT.map] at hbx; cases hbx
  have hHbx : H bx = none := by
   cases hq:H bx with
   | none=>rfl
   | some o=>rw [hle _ _ hq] at hbx; cases hbx
  obtain⟨G0,hG0⟩:∃ y,y=G.put bx (.row [.int .i64 x.from_,.int .i64 x.till] 2 true):=⟨_,rfl⟩
  have hGx:G0 bx=some (.row [.int .i64 x.from_,.int .i64 x.till] 2 true):=by rw [hG0,Hp.put_same]
  have hGle:H.le G0:=by rw [hG0]; exact hle.trans (zM hbx _)
  have hT0:zAa H G0 b3 es blk cp (yF cs k) (fun _=>False):=by rw [hG0]; exact hT.mono (zM hbx _)
  have hnebx:∀ i,i < (yF cs k).length→blk i≠bx:=by rintro i hi rfl; rw [hT.row i hi (fun h=>h)] at hbx; cases hbx
  rw [← hG0]
  have hmf:=zLz (ag:=true) (ks:=[.i,.s]) (enc:=fun p:zBY=>.agg #[.int .i64 p.1,S p.2]) zOo x.key es.toList (yF cs k) 0 hT0.keys
  have hkey:(Value.agg #[.int .i64 x.host,S x.apex])=(fun p:zBY=>(.agg #[.int .i64 p.1,S p.2]:Value)) x.key:=rfl
  refine qP (by intro x h; cases h) (by intro f a h; cases h) ?_
  cases hg:yK x.key (yF cs k) with
  | none =>
   have hm:=hmf.1 hg
   rw [hg] at hnext
   rw [Option.getD_none,List.nil_append,zAy hg] at hnext
   refine⟨?_,?_,?_,b3,es,es.size,?_,hT0.map,.inr ⟨?_,?_⟩⟩
   ·simp only [go_sem,Nat.reduceEqDiff]
   ·simp only [go_sem,Nat.reduceEqDiff]
   ·simp only [go_sem,Nat.reduceEqDiff,Nat.reduceAdd,zBd]
   ·simp only [go_sem,Nat.reduceEqDiff]
   ·simp only [go_sem,Nat.reduceEqDiff]; exact hm
   simp only [go_sem,Nat.reduceLT,Nat.reduceEqDiff,Nat.reduceBEq,Nat.reduceAdd]
   obtain⟨G1,hG1⟩:∃ y,y=G0.put b3 (.obj (.map (es.push { key:=.agg #[.int .i64 x.host,S x.apex],val:=.slice none 0 0,born:=es.size }) (es.size + 1))):=⟨_,rfl⟩
   rw [← hG1]
   have hG1x:G1 bx=some (.row [.int .i64 x.from_,.int .i64 x.till] 2 true):=by rw [hG1,Hp.put_ne _ _ hbx3]; exact hGx
   have hG13:G1 b3=some (.obj (.map (es.push { key:=.agg #[.int .i64 x.host,S x.apex],val:=.slice none 0 0,born:=es.size }) (es.size + 1))):=by rw [hG1,Hp.put_same]
   have hG1le:H.le G1:=by rw [hG1]; exact zI hGle hb3 _
   have hsO:qY G1 2 (.slice (some ⟨bx,0,none⟩) 1 1):=.inr ⟨rfl,by rw [hG1x]; simp⟩
   have hsC:zL G1 2 (.slice (some ⟨bx,0,none⟩) 1 1) = [.int .i64 x.from_,.int .i64 x.till]:=by simp [zL,hG1x]
   refine zDK ?_ ?_ hsO (by show(zL G1 2 (.slice (some ⟨bx,0,none⟩) 1 1)).all yW=true; rw [hsC]; rfl) ?_ (by show 1 * 16≤_; omega) (by show 1≤_; omega) (fun h=>by cases h) ?_
   ·simp only [go_sem,Nat.reduceEqDiff]
   ·simp only [go_sem,Nat.reduceEqDiff]
   ·simp only [go_sem,Nat.reduceEqDiff]
   intro _ by_ cpn hby
   simp only [zU,hsC,go_sem,Nat.reduceLT,Nat.reduceEqDiff,Nat.reduceBEq,Nat.reduceAdd]
   have hby3:by_≠b3:=by rintro rfl; rw [hG13] at hby; cases hby
   have hHby : H by_ = none := by
    cases hq:H by_ with
    | none=>rfl
    | some o=>rw [hG1le _ _ hq] at hby; cases hby
   have hrows : ∀ i, i < (yF cs k).length → G1 (blk i) = some (.row (flat ((yF cs k).getD i default).2.length (yN ((yF cs k).getD i default).2)) (cp i * 2) true) := fun i hi => by
    rw [hG1,Hp.put_ne _ _ (hT.ne3 i hi)]; exact hT0.row i hi (fun h=>h)
   have hneby:∀ i,i < (yF cs k).length→blk i≠by_:=by rintro i hi rfl; rw [hrows i hi] at hby; cases hby
   obtain⟨G2,hG2⟩:∃ y,y=G1.put by_ (.row [.int .i64 x.from_,.int .i64 x.till] (cpn * 2) true):=⟨_,rfl⟩
   rw [← hG2]
   have hG23:G2 b3=some (.obj (.map (es.push { key:=.agg #[.int .i64 x.host,S x.apex],val:=.slice none 0 0,born:=es.size }) (es.size + 1))):=by rw [hG2,Hp.put_ne _ _ (Ne.symm hby3)]; exact hG13
   have hG2le:H.le G2:=by rw [hG2]; exact hG1le.trans (zM hby _)
   refine qP (by intro x h; cases h) (by intro f a h; cases h) ?_
   have hbp : ∀ i (hi : i < (es.push { key := .agg #[.int .i64 x.host, S x.apex], val := .slice none 0 0, born := es.size }).size), ((es.push { key := .agg #[.int .i64 x.host, S x.apex], val := .slice none 0 0, born := es.size })[i]'hi).born = i := by
    intro i hi
    rw [Array.getElem_push]
    split
    ·exact hT.born i (by assumption)
    ·simp at hi; simp; omega
   refine⟨?_,?_,?_,b3,.i64,((es.size:Nat):Int),_,es.size + 1,es.size,?_,?_,hG23,zRc hbp (by simp),?_⟩
   ·simp only [go_sem,Nat.reduceEqDiff]
   ·simp only [go_sem,Nat.reduceEqDiff]
   ·simp only [go_sem,Nat.reduceEqDiff]
   ·simp only [go_sem,Nat.reduceEqDiff]
   ·simp only [go_sem,Nat.reduceEqDiff]
   simp only [go_sem,Nat.reduceEqDiff,Nat.reduceBEq,zC]
   have hsz:(yF cs (k + 1)).length=(yF cs k).length + 1:=by rw [hnext]; simp
   refine⟨hlt,zQ (by omega),zI hG2le hb3 _,hokx,(es.push { key:=.agg #[.int .i64 x.host,S x.apex],val:=.slice none 0 0,born:=es.size }).modify es.size (fun e=>{ e with val:=.slice (some ⟨by_,0,none⟩) 1 cpn }),upN blk es.size by_,upN cp es.size cpn,?_⟩
   refine⟨?_,?_,?_,?_,?_,?_,?_⟩
   ·rw [Hp.put_same]; simp
   ·rw [hsz]; simp [hT.size]
   ·intro i hi
    simp at hi
    rw [hnext,Array.getElem_modify,Array.getElem_push]
    by_cases e:i=es.size
    ·subst e
     simp [hT.size,upN,yE.key]
    ·have hi':i < es.size:=by omega
     have hi2:i < (yF cs k).length:=by rw [← hT.size]; exact hi'
     rw [if_neg (Ne.symm e),dif_pos hi',hT.ent i hi']
     simp [upN,e,List.getElem?_append_left hi2]
   ·intro i hi
    simp only [upN]
    split
    ·exact hHby
    ·exact hT.old i (by have:=hT.size; omega)
   ·intro i hi
    simp only [upN]
    split
    ·exact hby3
    ·exact hT.ne3 i (by have:=hT.size; omega)
   ·intro i hi _
    simp only [upN]
    by_cases e:i=es.size
    ·rw [if_pos e,if_pos e,Hp.put_ne _ _ hby3,hG2,Hp.put_same,hnext,e,hT.size]
     simp [xX,flat,yN]
    ·have hi2:i < (yF cs k).length:=by have:=hT.size; omega
     rw [if_neg e,if_neg e,Hp.put_ne _ _ (hT.ne3 i hi2),hG2,Hp.put_ne _ _ (hneby i hi2),hrows i hi2,hnext]
     simp [List.getElem?_append_left hi2]
   ·intro i j hi hji
    have:=hT.size
    simp only [upN]
    rw [if_neg (show j≠es.size by omega)]
    split
    ·exact hneby j (by omega)
    ·exact hT.inj i j (by omega) hji
  | some l =>
   obtain⟨i0,hi0,hgi,hm,hput⟩:=hmf.2 l hg
   rw [hg] at hnext
   rw [Option.getD_some,hput] at hnext
   have hi0s:i0 < es.size:=by rw [hT.size]; exact hi0
   have hent:=hT.ent i0 hi0s
   rw [hgi] at hent
   have hval0 : (es.toList.getD i0 default).val = .slice (some ⟨blk i0, 0, none⟩) l.length (cp i0) := by
    simp [List.getD_eq_getElem?_getD,hi0s,hent]
   rw [hval0,Nat.zero_add] at hm
   have hborn:((es[i0]?).map (·.born)).getD 0=i0:=by simp [hi0s,hent]
   have hborn':(Option.map (fun x=>(x.born:Int)) es[i0]?).getD 0=(i0:Int):=by simp [hi0s,hent]
   refine⟨?_,?_,?_,b3,es,es.size,?_,hT0.map,.inl ⟨i0,.slice (some ⟨blk i0,0,none⟩) l.length (cp i0),?_,?_⟩⟩
   ·simp only [go_sem,Nat.reduceEqDiff]
   ·simp only [go_sem,Nat.reduceEqDiff]
   ·simp only [go_sem,Nat.reduceEqDiff,Nat.reduceAdd,zBd]
   ·simp only [go_sem,Nat.reduceEqDiff]
   ·simp only [go_sem,Nat.reduceEqDiff]; exact hm
   simp only [go_sem,Nat.reduceLT,Nat.reduceEqDiff,Nat.reduceBEq,Nat.reduceAdd]
   obtain⟨em,hem⟩:∃ y,y=es.modify i0 (fun e=>{ e with key:=.agg #[.int .i64 x.host,S x.apex] }):=⟨_,rfl⟩
   rw [← hem]
   have hem0 : em = es := by
    rw [hem]
    apply Array.ext
    ·simp
    ·intro i h1 h2
     rw [Array.getElem_modify]
     split
     ·rename_i e; subst e; rw [hent]; rfl
     ·rfl
   rw [hem0]
   rw [zDT hT0.map]
   have hrow0:=hT0.row i0 hi0 (fun h=>h)
   rw [hgi] at hrow0
   have hll:=zEl cs k _ (zBf hg)
   simp only at hll hrow0
   have hsO:qY G0 2 (.slice (some ⟨bx,0,none⟩) 1 1):=.inr ⟨rfl,by rw [hGx]; simp⟩
   have hsC:zL G0 2 (.slice (some ⟨bx,0,none⟩) 1 1) = [.int .i64 x.from_,.int .i64 x.till]:=by simp [zL,hGx]
   refine kJ (b0:=blk i0) (n:=l.length) (cap0:=cp i0) (capc:=cp i0 * 2) (vs:=flat l.length (yN l)) ?_ ?_ hsO (by show(zL G0 2 (.slice (some ⟨bx,0,none⟩) 1 1)).all yW=true; rw [hsC]; rfl) ?_ (by show(l.length + 1) * 16≤_; omega) (by show l.length + 1≤_; omega) hrow0 (xR fun i _=>rfl) rfl ?_
   ·simp only [go_sem,Nat.reduceEqDiff]
   ·simp only [go_sem,Nat.reduceEqDiff]
   ·simp only [go_sem,Nat.reduceEqDiff]
   intro by_ cpn hby
   simp only [zU,hsC,go_sem,Nat.reduceLT,Nat.reduceEqDiff,Nat.reduceBEq,Nat.reduceAdd]
   have hG0d3:(G0.del (blk i0)) b3=some (.obj (.map es es.size)):=by rw [Hp.del_ne _ (Ne.symm (hT.ne3 i0 hi0))]; exact hT0.map
   have hby3:by_≠b3:=by rintro rfl; rw [hG0d3] at hby; cases hby
   have hdle:H.le (G0.del (blk i0)):=zIW (hT.old i0 hi0) hGle
   have hHby : H by_ = none := by
    cases hq:H by_ with
    | none=>rfl
    | some o=>rw [hdle _ _ hq] at hby; cases hby
   have hneq : ∀ i, i < (yF cs k).length → i ≠ i0 → blk i ≠ blk i0 := by
    intro i hi hne
    rcases Nat.lt_or_gt_of_ne hne with h | h
    ·exact hT.inj i0 i hi0 h
    ·exact Ne.symm (hT.inj i i0 hi h)
   have hrows : ∀ i, i < (yF cs k).length → i ≠ i0 → (G0.del (blk i0)) (blk i) = some (.row (flat ((yF cs k).getD i default).2.length (yN ((yF cs k).getD i default).2)) (cp i * 2) true) := fun i hi hne => by
    rw [Hp.del_ne _ (hneq i hi hne)]; exact hT0.row i hi (fun h=>h)
   have hneby:∀ i,i < (yF cs k).length→i≠i0→blk i≠by_:=by rintro i hi hne rfl; rw [hrows i hi hne] at hby; cases hby
   have hfp:=zGe l (xX x)
   simp only [xX] at hfp
   obtain⟨G2,hG2⟩:∃ y,y=(G0.del (blk i0)).put by_ (.row (flat l.length (yN l) ++ [.int .i64 x.from_,.int .i64 x.till]) (cpn * 2) true):=⟨_,rfl⟩
   rw [← hG2]
   have hG23:G2 b3=some (.obj (.map es es.size)):=by rw [hG2,Hp.put_ne _ _ (Ne.symm hby3)]; exact hG0d3
   have hG2le:H.le G2:=by rw [hG2]; exact hdle.trans (zM hby _)
   refine qP (by intro x h; cases h) (by intro f a h; cases h) ?_
   refine⟨?_,?_,?_,b3,.i64,((i0:Nat):Int),_,es.size,i0,?_,?_,hG23,zRc hT.born hi0s,?_⟩
   ·simp only [go_sem,Nat.reduceEqDiff]
   ·simp only [go_sem,Nat.reduceEqDiff]
   ·simp only [go_sem,Nat.reduceEqDiff]
   ·simp only [go_sem,Nat.reduceEqDiff]
   ·simp only [hborn',go_sem,Nat.reduceEqDiff]
   simp only [go_sem,Nat.reduceEqDiff,Nat.reduceBEq,zC]
   have hsz:(yF cs (k + 1)).length=(yF cs k).length:=by rw [hnext]; simp
   refine⟨hlt,zQ (by omega),zI hG2le hb3 _,hokx,es.modify i0 (fun e=>{ e with val:=.slice (some ⟨by_,0,none⟩) (l.length + 1) cpn }),upN blk i0 by_,upN cp i0 cpn,?_⟩
   refine⟨?_,?_,?_,?_,?_,?_,?_⟩
   ·rw [Hp.put_same]; simp
   ·rw [hsz]; simp [hT.size]
   ·intro i hi
    simp at hi
    have hi2:i < (yF cs k).length:=by rw [← hT.size]; exact hi
    rw [hnext,Array.getElem_modify]
    by_cases e:i=i0
    ·subst e
     rw [if_pos rfl,hent]
     simp [upN,hi2,yE.key]
    ·rw [if_neg (Ne.symm e),hT.ent i hi]
     simp [upN,e,Ne.symm e]
   ·intro i hi
    simp only [upN]
    split
    ·exact hHby
    ·exact hT.old i (by omega)
   ·intro i hi
    simp only [upN]
    split
    ·exact hby3
    ·exact hT.ne3 i (by omega)
   ·intro i hi _
    simp only [upN]
    by_cases e:i=i0
    ·subst e
     rw [if_pos rfl,if_pos rfl,Hp.put_ne _ _ hby3,hG2,Hp.put_same,hfp,hnext]
     simp [hi0,xX]
    ·have hi2:i < (yF cs k).length:=by omega
     rw [if_neg e,if_neg e,Hp.put_ne _ _ (hT.ne3 i hi2),hG2,Hp.put_ne _ _ (hneby i hi2 e),hrows i hi2 e,hnext]
     simp [Ne.symm e]
   ·intro i j hi hji
    have hi2:i < (yF cs k).length:=by omega
    simp only [upN]
    by_cases e:i=i0
    ·rw [if_pos e,if_neg (show j≠i0 by omega)]
     exact hneby j (by omega) (by omega)
    ·rw [if_neg e]
     by_cases e2:j=i0
     ·rw [if_pos e2]; exact Ne.symm (hneby i hi2 e)
     ·rw [if_neg e2]; exact hT.inj i j hi2 hji
 ·have hd:decide ((k:Int) < (cs.length:Int))=false:=by simpa using hlt
  have:k=cs.length:=by omega
  subst this
  simp only [hd,go_sem,Nat.reduceEqDiff,Nat.reduceBEq,Nat.reduceAdd,zC]
  refine qP (by intro x h; cases h) (by intro f a h; cases h) ?_
  refine⟨?_,b3,_,es.size,?_,hT.map,?_⟩
  ·simp only [go_sem,Nat.reduceEqDiff]
  ·simp only [go_sem,Nat.reduceEqDiff]
  intro b9 hb9
  simp only [go_sem,Nat.reduceEqDiff,Nat.reduceBEq]
  have h93:b9≠b3:=by rintro rfl; rw [hT.map] at hb9; cases hb9
  have hHb9 : H b9 = none := by
   cases hq:H b9 with
   | none=>rfl
   | some o=>rw [hle _ _ hq] at hb9; cases hb9
  have hne9:∀ i,i < (yF cs cs.length).length→blk i≠b9:=by rintro i hi rfl; rw [hT.row i hi (fun h=>h)] at hb9; cases hb9
  refine pX (fun m fr' G => fr' = [(1, ⟨true, .box [.slice ah h.hosts.length ch, .slice a cs.length cap, S h.aname, .int .i64 h.atype, .int .i64 h.alife, .slice ad h.adata.length cd, .slice ai h.hints.length ci, .int .i64 h.drift, .int .i64 h.end_]⟩), (105, ⟨true, .val (.pointer (some ⟨b9, 0, none⟩))⟩)] ∧
   ∃ seen : Array Nat, m = zCE es.size seen ∧ H.le G ∧ G b9 = some (.obj (.mapIter (some b3) es.size seen es.size)) ∧ zAa H G b3 es blk cp (yF cs cs.length) (fun i => seen.contains i = true) ∧
    ∀ i,i < (yF cs cs.length).length→seen.contains i=true→jB ((yF cs cs.length).getD i default).2=true) (zCE es.size #[]) ⟨rfl,#[],rfl,hle.trans (zM hb9 _),Hp.put_same ..,?_,fun i _ h=>by simp at h⟩ ?_
  ·have:=hT.mono (zM hb9 (.obj (.mapIter (some b3) es.size #[] es.size)))
   exact⟨this.map,this.size,this.ent,this.old,this.ne3,fun i hi _=>this.row i hi (fun h=>h),this.inj⟩
  rintro m fr' G' ⟨rfl,seen,rfl,hl,m9,hT',hseen⟩
  simp only [go_sem]
  refine qP (by intro x h; cases h) (by intro f a h; cases h) ?_
  refine⟨?_,b9,b3,es.size,seen,es.size,es,es.size,?_,m9,hT'.map,Nat.le_refl _,?_,?_,?_⟩
  ·simp only [go_sem,Nat.reduceEqDiff]
  ·simp only [go_sem,Nat.reduceEqDiff]
  ·intro e he
   obtain⟨i,hi,rfl⟩:=Array.getElem_of_mem he
   rw [hT.born i hi]; exact hi
  ·intro hall
   have hpl : zO (fun i => jB ((yF cs cs.length).getD i default).2) (yF cs cs.length).length = true := by
    rw [yH]
    intro i hi
    have hi':i < es.size:=by rw [hT.size]; exact hi
    have:=hall _ (Array.getElem_mem hi')
    rw [hT.born i hi'] at this
    exact hseen i hi this
   simp only [go_sem,Nat.reduceLT,Nat.reduceLeDiff,Nat.reduceEqDiff,Nat.reduceBEq,Nat.reduceAdd]
   refine zP ?_ (yWB h2 (g2.mono hl) (by omega)) ?_
   ·simp only [go_sem,Nat.reduceEqDiff]
   rintro u G3 ⟨hle3,hu⟩
   have hus:=zG.sl hu
   obtain⟨au,cu,rfl⟩:=hus
   simp only [go_sem,Nat.reduceEqDiff,Nat.reduceBEq,zC]
   refine⟨?_,hl.trans hle3⟩
   have e:decide ((((xK cs cs.length).length:Nat):Int)≤500)=decide ((xK cs cs.length).length≤500):=by rw [Bool.eq_iff_iff,decide_eq_true_eq,decide_eq_true_eq]; omega
   rw [hval,hq1,hq2,hok,hpl,e]; rfl
  ·intro e he hs
   obtain⟨i,hi,rfl⟩:=Array.getElem_of_mem he
   rw [hT.born i hi] at hs
   have hiL:i < (yF cs cs.length).length:=by rw [← hT.size]; exact hi
   obtain⟨G1,hG1⟩:∃ x,x=G'.put b9 (.obj (.mapIter (some b3) es.size (seen.push i) es.size)):=⟨_,rfl⟩
   have hG1le:H.le G1:=by rw [hG1]; exact zI hl hHb9 _
   have hG19:G1 b9=some (.obj (.mapIter (some b3) es.size (seen.push i) es.size)):=by rw [hG1,Hp.put_same]
   have hG13:G1 b3=some (.obj (.map es es.size)):=by rw [hG1,Hp.put_ne _ _ (Ne.symm h93)]; exact hT'.map
   have hrow : G1 (blk i) = some (.row (flat ((yF cs cs.length).getD i default).2.length (yN ((yF cs cs.length).getD i default).2)) (cp i * 2) true) := by
    rw [hG1,Hp.put_ne _ _ (hne9 i hiL)]; exact hT'.row i hiL (fun h=>by rw [hs] at h; cases h)
   rw [hT.born i hi,← hG1]
   simp only [go_sem,Nat.reduceLT,Nat.reduceLeDiff,Nat.reduceEqDiff,Nat.reduceBEq,Nat.reduceAdd]
   refine qP (by intro x h; cases h) (by intro f a h; cases h) ?_
   refine⟨?_,b9,b3,es.size,seen.push i,es,es.size,i,es[i],?_,hG19,hG13,by simp,zKV hT.born hi,?_⟩
   ·simp only [go_sem,Nat.reduceEqDiff]
   ·simp only [go_sem,Nat.reduceEqDiff]
   rw [hT.ent i hi]
   obtain⟨l,hl0⟩:∃ y,((yF cs cs.length).getD i default).2=y:=⟨_,rfl⟩
   have hll : l.length ≤ 12 := by
    have hmem : (yF cs cs.length).getD i default ∈ yF cs cs.length := by
     rw [List.getD_eq_getElem?_getD,List.getElem?_eq_getElem hiL]; exact List.getElem_mem _
    have:=zEl cs cs.length _ hmem
    rw [hl0] at this; omega
   rw [hl0] at hrow
   simp only [hl0,go_sem,Nat.reduceLT,Nat.reduceEqDiff,Nat.reduceBEq,Nat.reduceAdd]
   refine zP ?_ (yTd hE h2 (yVk hE h2) l hll hrow) ?_
   ·simp only [go_sem,Nat.reduceEqDiff]
   rintro u G2 rfl
   have hsl:(xJ vF l.length l).length=l.length:=vC _ _ _
   have hpo:jB l=zO (fun i=>!decide (((xJ vF l.length l).getD (i + 1) default).from_ < ((xJ vF l.length l).getD i default).till)) (l.length - 1):=by simp only [jB,zJn,hsl]
   obtain⟨q,hq⟩:∃ y,y=xJ vF l.length l:=⟨_,rfl⟩
   rw [← hq] at hsl hpo
   rw [← hq]
   obtain⟨G2,hG2⟩:∃ y,y=G1.put (blk i) (.row (flat l.length (yN q)) (cp i * 2) true):=⟨_,rfl⟩
   rw [← hG2]
   have hG2le:H.le G2:=by rw [hG2]; exact zI hG1le (hT.old i hiL) _
   have hG2i:G2 (blk i)=some (.row (flat l.length (yN q)) (cp i * 2) true):=by rw [hG2,Hp.put_same]
   have hfl:(flat l.length (yN q)).length=l.length * 2:=xR fun i _=>rfl
   simp only [go_sem,Nat.reduceEqDiff,Nat.reduceBEq]
   refine zS (l.length - 1) 0 (fun j => [(1, ⟨true, .box [.slice ah h.hosts.length ch, .slice a cs.length cap, S h.aname, .int .i64 h.atype, .int .i64 h.alife, .slice ad h.adata.length cd, .slice ai h.hints.length ci, .int .i64 h.drift, .int .i64 h.end_]⟩), (8, ⟨true, .val (.slice (some ⟨blk i, 0, none⟩) l.length (cp i))⟩), (9, ⟨true, .val (.int .i64 ((j + 1 : Nat) : Int))⟩), (105, ⟨true, .val (.pointer (some ⟨b9, 0, none⟩))⟩)])
    (fun j=>zO (fun i=>!decide ((q.getD (i + 1) default).from_ < (q.getD i default).till)) j=true) (Nat.zero_le _) rfl rfl ?_
   intro j hj hPj
   by_cases hjl:j + 1 < l.length
   ·have hdj:decide (((j + 1:Nat):Int) < (l.length:Int))=true:=by rw [decide_eq_true_eq]; omega
    have e1:IntKind.i64.wrap (((j + 1:Nat):Int) - 1)=(j:Int):=by rw [yX]<;>omega
    have hr1:=pE (n:=l.length) (sz:=2) (row:=yN q) (fun i _=>rfl) (j + 1) hjl
    have hr0:=pE (n:=l.length) (sz:=2) (row:=yN q) (fun i _=>rfl) j (by omega)
    have v1:=zH (o:=(j + 1) * 2) (sz:=2) (j:=0) hr1 (by omega)
    have v0:=zH (o:=j * 2) (sz:=2) (j:=1) hr0 (by omega)
    simp only [yN,List.getD_cons_zero,List.getD_cons_succ,Nat.add_zero] at v1 v0
    simp only [hdj,e1,hG2i,hfl,v1,v0,go_sem,Nat.reduceLeDiff,Nat.reduceEqDiff,Nat.reduceBEq,Nat.reduceAdd,zC]
    refine⟨⟨by omega,by omega⟩,by omega,⟨by omega,by omega⟩,by omega,fun hc=>?_,fun hc=>⟨by omega,zQ (by omega),yJ hPj (by rw [hc]; rfl)⟩⟩
    have hp:jB l=false:=by rw [hpo]; exact zY (k:=j) (by omega) (by rw [hc]; rfl)
    have hpl:zO (fun i=>jB ((yF cs cs.length).getD i default).2) (yF cs cs.length).length=false:=zY (k:=i) hiL (by rw [hl0]; exact hp)
    rw [hval,hq1,hq2,hok,hpl]
    exact⟨rfl,hG2le⟩
   ·have hdj:decide (((j + 1:Nat):Int) < (l.length:Int))=false:=by rw [decide_eq_false_iff_not]; omega
    simp only [hdj,go_sem,Nat.reduceLeDiff,Nat.reduceEqDiff,Nat.reduceBEq,Nat.reduceAdd,zC]
    have hj':j=l.length - 1:=by omega
    subst hj'
    refine⟨zCE es.size (seen.push i),zHJ hi hs,seen.push i,rfl,hG2le,?_,?_,?_⟩
    ·rw [hG2,Hp.put_ne _ _ (Ne.symm (hne9 i hiL))]; exact hG19
    ·refine⟨?_,hT.size,hT.ent,hT.old,hT.ne3,?_,hT.inj⟩
     ·rw [hG2,Hp.put_ne _ _ (Ne.symm (hT.ne3 i hiL))]; exact hG13
     ·intro i' hi' hns
      rw [pF] at hns
      have hne:i'≠i:=by rintro rfl; simp at hns
      have hns':¬ seen.contains i'=true:=fun h=>hns (by rw [h]; rfl)
      have hnb : blk i' ≠ blk i := by
       rcases Nat.lt_or_gt_of_ne hne with h | h
       ·exact hT.inj i i' hiL h
       ·exact Ne.symm (hT.inj i' i hi' h)
      rw [hG2,Hp.put_ne _ _ hnb,hG1,Hp.put_ne _ _ (hne9 i' hi')]
      exact hT'.row i' hi' hns'
    ·intro i' hi' hc
     rw [pF] at hc
     by_cases hne:i'=i
     ·subst hne; rw [hl0,hpo]; exact hPj
     ·exact hseen i' hi' (by simpa [hne] using hc)
end Go.SL
/- Plain law: sorting few elements, spans that are united. -/
namespace Go.SL
open Go
section
variable {α:Type} [Inhabited α] (lt:α→α→Bool)
theorem yRR (l : List α) (j : Nat) (h : j + 1 < l.length) : (swp l j).Perm l := by
 have e : l = l.take j ++ (l[j]'(by omega)) :: l[j + 1] :: l.drop (j + 2) := by
  rw [← List.drop_eq_getElem_cons h,← List.drop_eq_getElem_cons (by omega:j < l.length),List.take_append_drop]
 have e2 : swp l j = l.take j ++ l[j + 1] :: (l[j]'(by omega)) :: l.drop (j + 2) := by
  unfold swp
  apply List.ext_getElem?
  intro i
  simp only [List.getD_eq_getElem?_getD,List.getElem?_eq_getElem h,List.getElem?_eq_getElem (show j < l.length by omega),Option.getD_some]
  rcases Nat.lt_trichotomy i j with h1 | h1 | h1
  ·rw [List.getElem?_append_left (by simp; omega)]
   simp [h1,show j≠i by omega,show j + 1≠i by omega]
  ·subst h1
   rw [List.getElem?_append_right (by simp; omega)]
   simp [Nat.min_eq_left (show i≤l.length by omega),show i < l.length by omega]
  ·by_cases h2:i=j + 1
   ·subst h2
    rw [List.getElem?_append_right (by simp; omega)]
    simp [Nat.min_eq_left (show j≤l.length by omega),h]
   ·rw [List.getElem?_append_right (by simp; omega)]
    have e3:i - (l.take j).length=(i - (j + 2)) + 2:=by simp; omega
    rw [e3]
    simp [show j≠i by omega,show j + 1≠i by omega,show j + 2 + (i - (j + 2))=i by omega]
 rw [e2]
 conv=>rhs; rw [e]
 exact List.Perm.append_left _ (List.Perm.swap ..)
theorem zJx : ∀ (j : Nat) (l : List α), j < l.length → (qZ lt j l).Perm l
 | 0,l,_=>List.Perm.refl _
 | j + 1, l, h => by
  simp only [qZ]
  split
  ·exact(zJx j (swp l j) (by rw [zCp]; omega)).trans (yRR l j h)
  ·exact List.Perm.refl _
theorem zBK : ∀ (k : Nat) (l : List α), k ≤ l.length → (xJ lt k l).Perm l
 | 0,l,_=>List.Perm.refl _
 | k + 1, l, h => by
  simp only [xJ]
  exact(zJx lt k _ (by rw [vC]; omega)).trans (zBK k l (by omega))
end
theorem zFF {α : Type} [Inhabited α] (l : List α) (j : Nat) (h : j + 1 < l.length) (i : Nat) : (swp l j).getD i default = if i = j then l.getD (j + 1) default else if i = j + 1 then l.getD j default else l.getD i default := by
 simp only [swp,List.getD_eq_getElem?_getD,List.getElem?_set,List.length_set]
 by_cases h1:i=j
 ·subst h1; simp [show i < l.length by omega]
 ·by_cases h2:i=j + 1
  ·subst h2; simp [h]
  ·simp [h1,h2,Ne.symm h1,Ne.symm h2]
section
variable {α:Type} [Inhabited α] (key:α→Int)
def yFr (l:List α) (k:Nat):Prop:=∀ i,i + 1 < k→key (l.getD i default)≤key (l.getD (i + 1) default)
theorem zLu (k : Nat) : ∀ (j : Nat) (l : List α), j < l.length → j ≤ k → k < l.length →
  (∀ i,i + 1 < k + 1→i + 1≠j→key (l.getD i default)≤key (l.getD (i + 1) default))→(0 < j→j < k→key (l.getD (j - 1) default)≤key (l.getD (j + 1) default)) →
  yFr key (qZ (fun a b=>decide (key a < key b)) j l) (k + 1)
 | 0,l,_,_,_,h,_=>fun i hi=>h i hi (by omega)
 | j + 1, l, hj, hjk, hk, h, h' => by
  simp only [qZ,decide_eq_true_eq]
  split
  ·rename_i hlt
   refine zLu k j (swp l j) (by rw [zCp]; omega) (by omega) (by rw [zCp]; omega) ?_ ?_
   ·intro i hi hne
    rw [zFF l j hj,zFF l j hj]
    by_cases e1:i=j
    ·subst e1
     rw [if_pos rfl,if_neg (by omega),if_pos rfl]; omega
    ·rw [if_neg e1]
     by_cases e2:i=j + 1
     ·subst e2
      rw [if_pos rfl,if_neg (by omega),if_neg (by omega)]
      have:=h' (by omega) (by omega)
      simpa using this
     ·rw [if_neg e2,if_neg hne,if_neg (by omega)]
      exact h i hi (by omega)
   ·intro h0 hjk'
    rw [zFF l j hj,zFF l j hj,if_neg (by omega),if_neg (by omega),if_neg (by omega),if_pos rfl]
    have:=h (j - 1) (by omega) (by omega)
    rw [show j - 1 + 1=j by omega] at this
    exact this
  ·rename_i hge
   intro i hi
   by_cases e:i + 1=j + 1
   ·have:i=j:=by omega
    subst this; omega
   ·exact h i hi e
theorem zGx : ∀ (k : Nat) (l : List α), k ≤ l.length → yFr key (xJ (fun a b => decide (key a < key b)) k l) k
 | 0,_,_=>fun i hi=>by omega
 | k + 1, l, h => by
  simp only [xJ]
  have ih:=zGx k l (by omega)
  refine zLu key k k _ (by rw [vC]; omega) (Nat.le_refl _) (by rw [vC]; omega) ?_ (fun _ h=>absurd h (Nat.lt_irrefl _))
  intro i hi hne
  exact ih i (by omega)
end
theorem yKH (a b : Int) : decide (vE a b < 0) = decide (a < b) := by
 unfold vE
 split
 ·rename_i h; simp [h]
 ·rename_i h
  split<;>simp<;>omega
theorem yKL : vF = fun a b => decide (a.from_ < b.from_) := by
 funext a b
 exact yKH _ _
def zBG (out : List zN) (s : zN) : List zN := match out.getLast? with
 | some p=>if s.from_≤p.till then out.dropLast ++ [⟨p.from_,max p.till s.till⟩] else out ++ [s]
 | none=>[s]
def uK (l : List zN) : Nat → List zN
 | 0=>[]
 | k + 1=>zBG (uK l k) (l.getD k default)
def vH (l:List zN):List zN:=l.filter fun s=>decide (s.from_ < s.till)
def pC (l:List zN):List zN:=xJ vF l.length l
def zJZ (l:List zN):List zN:=uK l l.length
def yC (l:List zN):List zN:=zJZ (pC (vH l))
def hasB (l:List zN) (t:Int):Bool:=vA (fun i=>decide ((l.getD i default).from_≤t) && decide (t < (l.getD i default).till)) l.length
theorem yHb {out : List zN} {s p : zN} (h : p ∈ zBG out s) : p ∈ out ∨ p = s ∨ ∃ q ∈ out, p.from_ = q.from_ ∧ (p.till = q.till ∨ p.till = s.till) := by
 unfold zBG at h
 split at h
 ·rename_i q hq
  have hm:=List.mem_of_getLast? hq
  split at h
  ·rcases List.mem_append.1 h with h | h
   ·exact .inl (List.dropLast_subset _ h)
   ·simp at h; subst h
    refine .inr (.inr ⟨q,hm,rfl,?_⟩)
    simp only
    omega
  ·rcases List.mem_append.1 h with h | h
   ·exact .inl h
   ·exact .inr (.inl (by simpa using h))
 ·exact .inr (.inl (by simpa using h))
theorem zEN (l : List zN) : ∀ k, k ≤ l.length → ∀ p ∈ uK l k, (∃ s ∈ l, p.till = s.till) ∧ ∃ s ∈ l, p.from_ = s.from_
 | 0,_,p,h=>by cases h
 | k + 1, hk, p, h => by
  simp only [uK] at h
  have hm:l.getD k default∈l:=by rw [List.getD_eq_getElem?_getD,List.getElem?_eq_getElem (by omega)]; exact List.getElem_mem _
  rcases yHb h with h | rfl | ⟨q,hq,h1,h2⟩
  ·exact zEN l k (by omega) p h
  ·exact⟨⟨_,hm,rfl⟩,_,hm,rfl⟩
  ·have ih:=zEN l k (by omega) q hq
   refine⟨?_,?_⟩
   ·rcases h2 with h2 | h2
    ·obtain⟨s,hs,e⟩:=ih.1; exact⟨s,hs,h2.trans e⟩
    ·exact⟨_,hm,h2⟩
   ·obtain⟨s,hs,e⟩:=ih.2; exact⟨s,hs,h1.trans e⟩
theorem zGU {l:List zN} {s:zN}:s∈pC l↔s∈l:=(zBK vF l.length l (Nat.le_refl _)).mem_iff
theorem yJq (l : List zN) : yFr (fun s : zN => s.from_) (pC l) (pC l).length := by
 unfold pC
 rw [yKL,vC]
 exact zGx (fun s:zN=>s.from_) l.length l (Nat.le_refl _)
theorem zGJ {l:List zN} {s:zN}:s∈vH l↔s∈l∧s.from_ < s.till:=by simp [vH]
theorem zRR {l : List zN} {p : zN} (h : p ∈ yC l) : (∃ s ∈ l, s.from_ < s.till ∧ p.till = s.till) ∧ ∃ s ∈ l, s.from_ < s.till ∧ p.from_ = s.from_ := by
 obtain⟨⟨s,hs,e⟩,t,ht,e2⟩:=zEN (pC (vH l)) _ (Nat.le_refl _) p h
 have hs':=zGJ.1 (zGU.1 hs)
 have ht':=zGJ.1 (zGU.1 ht)
 exact⟨⟨s,hs'.1,hs'.2,e⟩,t,ht'.1,ht'.2,e2⟩
theorem yTT {P : Nat → Bool} {n : Nat} : vA P n = true ↔ ∃ i, i < n ∧ P i = true := by
 induction n with
 | zero=>simp [vA]
 | succ n ih =>
  simp only [vA,Bool.or_eq_true,ih]
  constructor
  ·rintro(⟨i,h,hp⟩ | hp)
   ·exact⟨i,by omega,hp⟩
   ·exact⟨n,by omega,hp⟩
  ·rintro⟨i,h,hp⟩
   by_cases e:i=n
   ·subst e; exact .inr hp
   ·exact .inl ⟨i,by omega,hp⟩
theorem zOW {l : List zN} {t : Int} : hasB l t = true ↔ ∃ p ∈ l, p.from_ ≤ t ∧ t < p.till := by
 unfold hasB
 rw [yTT]
 constructor
 ·rintro⟨i,hi,h⟩
  simp only [Bool.and_eq_true,decide_eq_true_eq] at h
  refine⟨_,?_,h⟩
  rw [List.getD_eq_getElem?_getD,List.getElem?_eq_getElem hi]; exact List.getElem_mem _
 ·rintro⟨p,hp,h⟩
  obtain⟨i,hi,e⟩:=List.getElem_of_mem hp
  refine⟨i,hi,?_⟩
  have:l.getD i default=p:=by rw [List.getD_eq_getElem?_getD,List.getElem?_eq_getElem hi,e]; rfl
  rw [this]
  simpa using h
end Go.SL
