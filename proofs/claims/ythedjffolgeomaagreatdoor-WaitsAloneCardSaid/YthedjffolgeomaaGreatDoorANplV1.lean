/- Contracts: sorting few spans by a comparator (insertion sort). -/
import Derived.Test.YthedjffolgeomaaGreatDoorANplQ
import Derived.Test.YthedjffolgeomaaGreatDoorANplT28
import Derived.Lib.ItoaNum
namespace Go.SL
open Go
variable {E:Env} {H:Hp}
structure zO where
 from_:Int
 till:Int
 deriving DecidableEq,Inhabited
def kF (s:zO):Value:=.agg #[.int .i64 s.from_,.int .i64 s.till]
def yM (l:List zO) (i:Nat):List Value:=[.int .i64 (l.getD i default).from_,.int .i64 (l.getD i default).till]
def wR (H:Hp) (v:Value) (l:List zO):Prop:=zG H 2 v l.length (yM l)
theorem wR.mono {H H':Hp} {v:Value} {l:List zO} (h:wR H v l) (hl:H.le H'):wR H' v l:=zG.mono h hl
section
variable {α:Type} [Inhabited α] (lt:α→α→Bool)
def swp (l:List α) (j:Nat):List α:=(l.set (j + 1) (l.getD j default)).set j (l.getD (j + 1) default)
def pI : Nat → List α → List α
 | 0,l=>l
 | j + 1,l=>if lt (l.getD (j + 1) default) (l.getD j default) then pI j (swp l j) else l
def xG : Nat → List α → List α
 | 0,l=>l
 | k + 1,l=>pI lt k (xG k l)
theorem zCn (l:List α) (j:Nat):(swp l j).length=l.length:=by simp [swp]
theorem zKI : ∀ (j : Nat) (l : List α), (pI lt j l).length = l.length
 | 0,_=>rfl
 | j + 1, l => by
  simp only [pI]
  split
  ·rw [zKI j,zCn]
  ·rfl
theorem vB : ∀ (k : Nat) (l : List α), (xG lt k l).length = l.length
 | 0,_=>rfl
 | k + 1,l=>by simp only [xG]; rw [zKI,vB k]
end
theorem zIj {n sz : Nat} {row : Nat → List Value} (h : ∀ i, i < n → (row i).length = sz) {i : Nat} (hi : i < n) {r : List Value} (hr : r.length = sz) :
  (flat n row).take (i * sz) ++ r ++ (flat n row).drop (i * sz + sz)=flat n (fun i'=>if i'=i then r else row i'):=by
 have hl:=xS h
 have h1 : i * sz + sz ≤ n * sz := by
  have:=Nat.mul_le_mul_right sz (show i + 1≤n by omega)
  rw [Nat.succ_mul] at this; exact this
 refine zIa (sz:=sz) ?_ ?_
 ·simp only [List.length_append,List.length_take,List.length_drop,hl,hr]; omega
 ·intro k hk
  have hk1 : k * sz + sz ≤ n * sz := by
   have:=Nat.mul_le_mul_right sz (show k + 1≤n by omega)
   rw [Nat.succ_mul] at this; exact this
  have hlt:((flat n row).take (i * sz)).length=i * sz:=by rw [List.length_take,hl]; omega
  rcases Nat.lt_trichotomy k i with h2 | h2 | h2
  ·have h3 : k * sz + sz ≤ i * sz := by
    have:=Nat.mul_le_mul_right sz (show k + 1≤i by omega)
    rw [Nat.succ_mul] at this; exact this
   rw [if_neg (by omega),List.append_assoc,List.drop_append_of_le_length (by omega),List.take_append_of_le_length (by rw [List.length_drop]; omega),List.drop_take,List.take_take,Nat.min_eq_left (by omega)]
   exact pK h k hk
  ·subst h2
   rw [if_pos rfl,List.append_assoc,List.drop_append,hlt,Nat.sub_self,List.drop_zero,List.drop_of_length_le (by omega),List.nil_append,List.take_append_of_le_length (by omega),List.take_of_length_le (by omega)]
  ·have h3 : i * sz + sz ≤ k * sz := by
    have:=Nat.mul_le_mul_right sz (show i + 1≤k by omega)
    rw [Nat.succ_mul] at this; exact this
   have hlr:((flat n row).take (i * sz) ++ r).length=i * sz + sz:=by rw [List.length_append,hlt,hr]
   rw [if_neg (by omega),List.drop_append,hlr,List.drop_of_length_le (by omega),List.nil_append,List.drop_drop]
   have e:i * sz + sz + (k * sz - (i * sz + sz))=k * sz:=by omega
   rw [e]
   exact pK h k hk
theorem zKP (l : List zO) {k : Nat} (hk : k < l.length) (s : zO) (i : Nat) : yM (l.set k s) i = if i = k then [.int .i64 s.from_, .int .i64 s.till] else yM l i := by
 by_cases e:i=k
 ·subst e; simp [yM,hk]
 ·simp [yM,e,Ne.symm e]
theorem zLg (l : List zO) {k : Nat} (hk : k < l.length) (s : zO) :
  (flat l.length (yM l)).take (k * 2) ++ [.int .i64 s.from_,.int .i64 s.till] ++ (flat l.length (yM l)).drop (k * 2 + 2)=flat l.length (yM (l.set k s)):=by
 rw [zIj (sz:=2) (fun i _=>rfl) hk rfl]
 exact xW fun i _=>(zKP l hk s i).symm
theorem zDV {H : Hp} {b : Nat} {o : xI} (h : H b = some o) : H.put b o = H := by
 funext c
 simp only [Hp.put]
 by_cases e:c=b
 ·subst e; simp [h]
 ·simp [e]
def zFS {α:Type} (E:Env) (f:Value) (enc:α→Value) (c:α→α→Int):Prop:=∀ (G:Hp) (a b:α),FnV E f [enc a,enc b] G (fun u G'=>u = .int .i64 (c a b)∧G'=G)
def kQ (a b:zO):Int:=vC a.from_ b.from_
def vD (a b:zO):Bool:=decide (kQ a b < 0)
theorem yWG (hE : zX E) (h2 : xZ E) (a b : zO) : yB E 121 [kF a, kF b] H (.int .i64 (kQ a b)) := by
 unfold kF kQ
 refine Fn.of_vks h2.c121 (by simp [zMd]) ?_
 simp only [zMd,yDV,zUh]
 simp only [go_sem,Nat.reduceLeDiff,Nat.reduceEqDiff,Nat.reduceBEq,Nat.reduceAdd,reduceCtorEq]
 refine zE _ ?_ (fun _=>⟨?_,zOq hE a.from_ b.from_⟩) ?_<;>simp only [go_sem,Nat.reduceEqDiff,Nat.reduceBEq]
theorem yWd (hE : zX E) (h2 : xZ E) : zFS E (.func (.func (E.fn 121)) #[] #[]) kF kQ := fun _G a b =>
 yP h2.e121 (Fn.same (yWG hE h2 a b))
set_option maxHeartbeats 1000000 in
theorem yVN (h2 : xZ E) {f : Value} (hf : zFS E f kF kQ) {b cap capc : Nat} (l : List zO) (hn : l.length ≤ 1000000) (hH : H b = some (.row (flat l.length (yM l)) capc true)) :
  Fn E.P (E.fn 109) [.slice (some ⟨b,0,none⟩) l.length cap,.int .i64 0,.int .i64 l.length,f] H (fun _ H'=>H'=H.put b (.row (flat l.length (yM (xG vD l.length l))) capc true)):=by
 refine Fn.of_vks h2.c109 (by simp [zHm]) ?_
 simp only [zHm,zJV,zJQ,zJD,zKy,zJX,zJU,zJG]
 simp only [go_sem,Nat.reduceEqDiff,Nat.reduceBEq,Nat.reduceAdd,reduceCtorEq,Int.reduceAdd,zC]
 refine yK (l.length - 1) 0 (fun k fr' H' => fr' = [(0, ⟨true, .val (.slice (some ⟨b, 0, none⟩) l.length cap)⟩), (1, ⟨true, .val (.int .i64 0)⟩), (2, ⟨true, .val (.int .i64 l.length)⟩), (3, ⟨true, .val f⟩), (8, ⟨true, .val (.int .i64 ((k + 1 : Nat) : Int))⟩)] ∧
  H'=H.put b (.row (flat l.length (yM (xG vD (k + 1) l))) capc true)) (Nat.zero_le _) ⟨rfl,(zDV hH).symm⟩ ?_
 rintro k fr' H' hk ⟨rfl,rfl⟩
 by_cases hlt:k + 1 < l.length
 ·have hd:decide (((k + 1:Nat):Int) < (l.length:Int))=true:=by rw [decide_eq_true_eq]; omega
  simp only [hd,go_sem,Nat.reduceEqDiff,Nat.reduceBEq,reduceCtorEq,zC]
  refine pZ (fun m fr' H' => ∃ L : List zO, L.length = l.length ∧ pI vD m L = xG vD (k + 2) l ∧ m ≤ k + 1 ∧
   fr' = [(0,⟨true,.val (.slice (some ⟨b,0,none⟩) l.length cap)⟩),(1,⟨true,.val (.int .i64 0)⟩),(2,⟨true,.val (.int .i64 l.length)⟩),(3,⟨true,.val f⟩),(8,⟨true,.val (.int .i64 ((k + 1:Nat):Int))⟩),(9,⟨true,.val (.int .i64 ((m:Nat):Int))⟩)] ∧
   H'=H.put b (.row (flat l.length (yM L)) capc true)) (k + 1) ⟨xG vD (k + 1) l,vB _ _ _,rfl,Nat.le_refl _,rfl,rfl⟩ ?_
  rintro m fr' H' ⟨L,hL,hT,hm,rfl,rfl⟩
  have hGb:(H.put b (.row (flat l.length (yM L)) capc true)) b=some (.row (flat l.length (yM L)) capc true):=Hp.put_same ..
  have hfl:(flat l.length (yM L)).length=l.length * 2:=xS fun i _=>rfl
  have hw:∀ L':List zO,pI vD 0 L'=L':=fun _=>rfl
  cases m with
  | zero =>
   have hT':L=xG vD (k + 2) l:=hT
   have hd2:decide (((0:Nat):Int) > 0)=false:=by decide
   simp only [hd2,hGb,undef,go_sem,Nat.reduceEqDiff,Nat.reduceBEq,reduceCtorEq,zC]
   refine qY (by intro x h; cases h) (by intro f a h; cases h) ?_ (fun hg=>?_) (fun hg=>?_)
   ·simp only [go_sem,Nat.reduceEqDiff,reduceCtorEq]
   ·simp only [go_sem,Nat.reduceEqDiff,reduceCtorEq] at hg
   ·simp only [hGb,undef,↓vH,↓vU,↓yA,go_sem,Nat.reduceEqDiff,Nat.reduceBEq,reduceCtorEq,zC]
    rw [hT']
    refine⟨by omega,?_,?_⟩
    ·exact zR (by omega)
    ·rfl
  | succ j =>
   have hd2:decide (((j + 1:Nat):Int) > 0)=true:=by rw [decide_eq_true_eq]; omega
   have e1:IntKind.i64.wrap (((j + 1:Nat):Int) - 1)=(j:Int):=by rw [yZ]<;>omega
   have hj1:j + 1 < l.length:=by omega
   have hr1:=pK (n:=l.length) (sz:=2) (row:=yM L) (fun i _=>rfl) (j + 1) hj1
   have hr0:=pK (n:=l.length) (sz:=2) (row:=yM L) (fun i _=>rfl) j (by omega)
   simp only [hd2,e1,hGb,hr1,hr0,yM,hfl,go_sem,Nat.reduceEqDiff,Nat.reduceBEq,reduceCtorEq,zC]
   refine⟨⟨by omega,by omega⟩,by omega,⟨by omega,by omega⟩,by omega,?_⟩
   refine qY (by intro x h; cases h) (by intro f a h; cases h) ?_ (fun _=>⟨?_,?_,_,hf _ (L.getD (j + 1) default) (L.getD j default),?_⟩) (fun hg=>?_)
   ·simp only [go_sem,Nat.reduceEqDiff,reduceCtorEq]
   ·simp only [go_sem,Nat.reduceEqDiff,reduceCtorEq]
   ·simp only [go_sem,Nat.reduceEqDiff,reduceCtorEq]
   ·rintro v H'' ⟨rfl,rfl⟩
    simp only [hGb,go_sem,Nat.reduceEqDiff,Nat.reduceBEq,reduceCtorEq,zC]
    have hlt':vD (L.getD (j + 1) default) (L.getD j default)=decide (kQ (L.getD (j + 1) default) (L.getD j default) < 0):=rfl
    refine⟨fun hc=>?_,fun hc=>?_⟩
    ·have hT' : pI vD j (swp L j) = xG vD (k + 2) l := by
      rw [← hT]; simp only [pI,hlt',hc,if_true]
     have s1:=zLg L (k:=j + 1) (by omega) (L.getD j default)
     have s2:=zLg (L.set (j + 1) (L.getD j default)) (k:=j) (by simp; omega) (L.getD (j + 1) default)
     rw [hL] at s1
     rw [List.length_set,hL] at s2
     simp only [e1,hGb,hr1,hr0,yM,hfl,jW,go_sem,Nat.reduceEqDiff,Nat.reduceBEq,Nat.reduceAdd,reduceCtorEq,zC]
     refine⟨⟨by omega,by omega⟩,by omega,⟨by omega,by omega⟩,by omega,⟨by omega,by omega⟩,by omega,⟨by omega,by omega⟩,?_⟩
     rw [s1,Hp.put_same]
     refine⟨by rw [xS (sz:=2) (fun i _=>rfl)]; omega,j,by omega,swp L j,by rw [zCn]; exact hL,hT',by omega,rfl,?_⟩
     rw [s2]; rfl
    ·have hT' : L = xG vD (k + 2) l := by
      rw [← hT]; simp only [pI,hlt',hc,Bool.false_eq_true,if_false]
     rw [hT']
     refine⟨by omega,?_,?_⟩
     ·exact zR (by omega)
     ·rfl
   ·simp only [go_sem,Nat.reduceEqDiff,reduceCtorEq] at hg
 ·have hd:decide (((k + 1:Nat):Int) < (l.length:Int))=false:=by rw [decide_eq_false_iff_not]; omega
  simp only [hd,go_sem,Nat.reduceEqDiff,Nat.reduceBEq,reduceCtorEq,zC]
  have e : xG vD (k + 1) l = xG vD l.length l := by
   rcases Nat.lt_or_ge 0 l.length with h | h
   ·rw [show k + 1=l.length by omega]
   ·have:l = []:=by simpa using h
    subst this
    have:k=0:=by simpa using hk
    subst this
    rfl
  rw [e]
end Go.SL
/- Contracts: SortFunc on at most twelve spans; the spans of each place in a map. -/
namespace Go.SL
open Go
variable {E:Env} {H:Hp}
theorem yHZ {n : Nat} (h : n ≤ 1099511627777) : IntKind.u64.wrap ((n : Nat) : Int) = (n : Int) := by
 simp only [IntKind.wrap,IntKind.bits,IntKind.signed,Bool.false_and]; simp; omega
theorem yZJ {n : Nat} (h : n < 256) : IntKind.u8.wrap ((n : Nat) : Int) = (n : Int) := by
 simp only [IntKind.wrap,IntKind.bits,IntKind.signed,Bool.false_and]; simp; omega
def zII:ByteArray:=⟨#[0,1,2,2,3,3,3,3,4,4,4,4,4,4,4,4,5,5,5,5,5,5,5,5,5,5,5,5,5,5,5,5,6,6,6,6,6,6,6,6,6,6,6,6,6,6,6,6,6,6,6,6,6,6,6,6,6,6,6,6,6,6,6,6,7,7,7,7,7,7,7,7,7,7,7,7,7,7,7,7,7,7,7,7,7,7,7,7,7,7,7,7,7,7,7,7,7,7,7,7,7,7,7,7,7,7,7,7,7,7,7,7,7,7,7,7,7,7,7,7,7,7,7,7,7,7,7,7,8,8,8,8,8,8,8,8,8,8,8,8,8,8,8,8,8,8,8,8,8,8,8,8,8,8,8,8,8,8,8,8,8,8,8,8,8,8,8,8,8,8,8,8,8,8,8,8,8,8,8,8,8,8,8,8,8,8,8,8,8,8,8,8,8,8,8,8,8,8,8,8,8,8,8,8,8,8,8,8,8,8,8,8,8,8,8,8,8,8,8,8,8,8,8,8,8,8,8,8,8,8,8,8,8,8,8,8,8,8,8,8,8,8,8,8,8,8,8,8,8,8,8,8,8,8,8,8]⟩
theorem yWq : zNY = [
 ⟨(some 19),.sim (.mov (.t 2)),none⟩,
 ⟨(some 20),.sim (.mov (.t 0)),none⟩,
 ⟨(some 21),.sim (.cvi .u8 (.t 20)),none⟩,
 ⟨(some 22),.sim (.idxs (.c (.string zII)) (.t 21)),none⟩,
 ⟨(some 23),.sim (.cvi .i64 (.t 22)),none⟩,
 ⟨(some 24),.sim (.bin .add (.t 19) (.t 23)),none⟩,
 ⟨(some 2),.sim (.mov (.t 24)),none⟩]:=rfl
set_option maxRecDepth 100000 in
theorem zSO:zII.size=256:=rfl
def zGC (n:Nat):Nat:=((strOf (.string zII)).getD n 0).toNat
theorem yUe (n:Nat):((strOf (.string zII)).getD n 0).toNat=zGC n:=rfl
theorem yTU (n:Nat):zGC n < 256:=UInt8.toNat_lt _
set_option maxRecDepth 100000 in
set_option maxHeartbeats 1000000 in
theorem yVA (h2 : xZ E) (n : Nat) (hn : n < 256) : yB E 118 [.int .u64 n] H (.int .i64 (zGC n : Nat)) := by
 have d1:decide ((n:Int)≥4294967296)=false:=by simp; omega
 have d2:decide ((n:Int)≥65536)=false:=by simp; omega
 have d3:decide ((n:Int)≥256)=false:=by simp; omega
 have e1:=yZJ hn
 have hle:=yTU n
 have e2:IntKind.i64.wrap ((zGC n:Nat):Int)=((zGC n:Nat):Int):=zLC (by omega)
 have e3:IntKind.i64.wrap (0 + ((zGC n:Nat):Int))=((zGC n:Nat):Int):=by rw [Int.zero_add]; exact e2
 refine Fn.of_vks h2.c118 (by simp [zNe]) ?_
 simp only [zNe,zXy,zWB,zVG,zVC,yBW,yCK,zYo,zYd,zZO,yFY,yWq]
 simp only [d1,d2,d3,e1,zSO,yUe,e2,e3,go_sem,Nat.reduceEqDiff,Nat.reduceBEq,reduceCtorEq,Int.reduceToNat,Int.reduceLT,Int.reduceAdd,zC]
 exact⟨by omega,by omega⟩
theorem zHj (h2 : xZ E) (n : Nat) (hn : n < 256) : yB E 85 [.int .u64 n] H (.int .i64 (zGC n : Nat)) := by
 refine Fn.of_vks h2.c85 (by simp [yId]) ?_
 simp only [yId,yPo,yJp,yNz]
 simp only [go_sem,Nat.reduceBEq,reduceCtorEq]
 refine zM ?_ (Fn.same (yVA h2 n hn)) ?_
 ·simp only [go_sem,reduceCtorEq]
 rintro u H' ⟨rfl,rfl⟩
 simp only [go_sem,Nat.reduceEqDiff,Nat.reduceBEq,reduceCtorEq]
set_option maxHeartbeats 1000000 in
theorem yYI (h2 : xZ E) {f : Value} (hf : zFS E f kF kQ) {b cap capc : Nat} (m : Int) (l : List zO) (hn : l.length ≤ 12) (hH : H b = some (.row (flat l.length (yM l)) capc true)) :
  Fn E.P (E.fn 86) [.slice (some ⟨b,0,none⟩) l.length cap,.int .i64 0,.int .i64 l.length,.int .i64 m,f] H (fun _ H'=>H'=H.put b (.row (flat l.length (yM (xG vD l.length l))) capc true)):=by
 refine Fn.of_vks h2.c86 (by simp [zJL]) ?_
 simp only [zJL,zND,zRl,zOh,zOL,zNQ]
 simp only [go_sem,Nat.reduceEqDiff,Nat.reduceBEq,Nat.reduceAdd,reduceCtorEq]
 refine zT 0 0 (fun _=>[(0,⟨true,.val (.slice (some ⟨b,0,none⟩) l.length cap)⟩),(1,⟨true,.val (.int .i64 0)⟩),(2,⟨true,.val (.int .i64 l.length)⟩),(3,⟨true,.val (.int .i64 m)⟩),(4,⟨true,.val f⟩),(10,⟨true,.val (.bool true)⟩),(11,⟨true,.val (.bool true)⟩)]) (fun _=>True) (Nat.le_refl _) rfl trivial ?_
 intro k hk _
 have e1:IntKind.i64.wrap ((l.length:Int) - 0)=(l.length:Int):=by rw [Int.sub_zero]; exact zLC (by omega)
 have d1:decide ((l.length:Int)≤12)=true:=by simp; omega
 simp only [e1,d1,go_sem,Nat.reduceEqDiff,Nat.reduceBEq,reduceCtorEq,zC]
 refine zM ?_ (yVN h2 hf l (by omega) hH) ?_
 ·simp only [go_sem,Nat.reduceEqDiff,reduceCtorEq]
 rintro u H' rfl
 simp only [go_sem,Nat.reduceBEq]
theorem yTq (hE : zX E) (h2 : xZ E) {f : Value} (hf : zFS E f kF kQ) {b cap capc : Nat} (l : List zO) (hn : l.length ≤ 12) (hH : H b = some (.row (flat l.length (yM l)) capc true)) :
  Fn E.P (E.fn 87) [.slice (some ⟨b,0,none⟩) l.length cap,f] H (fun _ H'=>H'=H.put b (.row (flat l.length (yM (xG vD l.length l))) capc true)):=by
 refine Fn.of_vks hE.c87 (by simp [zJK]) ?_
 simp only [zJK,zRd,zPv]
 have e1:=yHZ (n:=l.length) (by omega)
 simp only [e1,go_sem,Nat.reduceEqDiff,Nat.reduceBEq,reduceCtorEq]
 refine zE _ ?_ (fun _=>⟨?_,zHj h2 l.length (by omega)⟩) ?_<;>simp only [go_sem,Nat.reduceEqDiff,Nat.reduceBEq,reduceCtorEq]
 refine zM ?_ (yYI h2 hf _ l hn hH) ?_
 ·simp only [go_sem,Nat.reduceEqDiff,reduceCtorEq]
 rintro u H' rfl
 simp only [go_sem,Nat.reduceBEq]
section
variable {κ ν:Type} [DecidableEq κ] [Inhabited κ] [Inhabited ν]
theorem zLa {ag : Bool} {ks : List Kd} {enc : κ → Value} (hk : ∀ a b, uX ag ks (enc a) (enc b) = some (decide (a = b))) (k : κ) :
  ∀ (es : List MapEntry) (L : List (κ × ν)) (off : Nat), es.map (·.key) = L.map (fun e => enc e.1) →
   (yI k L=none→uH ag ks (enc k) es off=some none) ∧
   (∀ v,yI k L=some v→∃ i,i < L.length∧L.getD i default=(k,v)∧uH ag ks (enc k) es off=some (some (off + i,(es.getD i default).val))∧∀ u,xV k u L=L.set i (k,u))
 | [],[],_,_=>⟨fun _=>rfl,fun v h=>by cases h⟩
 | [],_ :: _,_,h=>by simp at h
 | _ :: _,[],_,h=>by simp at h
 | e :: es, (k', u') :: L, off, h => by
  simp only [List.map_cons,List.cons.injEq] at h
  obtain⟨h1,h3⟩:=h
  have ih:=zLa hk k es L (off + 1) h3
  simp only [yI,uH,h1,hk,xV]
  by_cases hkk:k=k'
  ·subst hkk
   refine⟨fun h=>by simp at h,fun v hv=>⟨0,by simp,?_,?_,fun u=>?_⟩⟩
   ·simp only [if_true,Option.some.injEq] at hv
    subst hv; simp
   ·simp
   ·simp
  ·simp only [hkk,if_false,decide_false]
   refine⟨ih.1,fun v hv=>?_⟩
   obtain⟨i,hi,hg,hm,hp⟩:=ih.2 v hv
   refine⟨i + 1,by simp; omega,by simpa using hg,?_,fun u=>by rw [hp u]; rfl⟩
   rw [hm]; simp; omega
end
theorem zPK {es : Array MapEntry} (h : ∀ i (hi : i < es.size), (es[i]'hi).born = i) {i : Nat} (hi : i < es.size) : es.findIdx? (fun e => (e.born : Int) == ((i : Nat) : Int)) = some i := by
 rw [Array.findIdx?_eq_some_iff_getElem]
 refine⟨hi,by simp [h i hi],fun j hj=>?_⟩
 have:=h j (by omega)
 simp [this]; omega
theorem zKL {es : Array MapEntry} (h : ∀ i (hi : i < es.size), (es[i]'hi).born = i) {i : Nat} (hi : i < es.size) : es.find? (·.born == i) = some (es[i]'hi) := by
 rw [Array.find?_eq_some_iff_getElem]
 refine⟨by simp [h i hi],i,hi,rfl,fun j hj=>?_⟩
 have:=h j (by omega)
 simp [this]; omega
structure jU (H G : Hp) (b3 : Nat) (es : Array MapEntry) (blk cp : Nat → Nat) (L : List (zBy × List zO)) (out : Nat → Prop) : Prop where
 map:G b3=some (.obj (.map es es.size))
 size:es.size=L.length
 ent:∀ i (hi:i < es.size),es[i]'hi = { key:=.agg #[.int .i64 (L.getD i default).1.1,S (L.getD i default).1.2],val:=.slice (some ⟨blk i,0,none⟩) (L.getD i default).2.length (cp i),born:=i }
 old:∀ i,i < L.length→H (blk i)=none
 ne3:∀ i,i < L.length→blk i≠b3
 row:∀ i,i < L.length→¬ out i→G (blk i)=some (.row (flat (L.getD i default).2.length (yM (L.getD i default).2)) (cp i * 2) true)
 inj:∀ i j,i < L.length→j < i→blk j≠blk i
theorem jU.keys {H G : Hp} {b3 : Nat} {es : Array MapEntry} {blk cp : Nat → Nat} {L : List (zBy × List zO)} {out : Nat → Prop} (h : jU H G b3 es blk cp L out) :
  es.toList.map (·.key)=L.map (fun e=>(.agg #[.int .i64 e.1.1,S e.1.2]:Value)):=by
 apply List.ext_getElem
 ·simp [h.size]
 ·intro i h1 h2
  have hi:i < es.size:=by simpa using h1
  have:=h.ent i hi
  have hL:i < L.length:=by rw [← h.size]; exact hi
  simp [this,hL]
theorem jU.born {H G : Hp} {b3 : Nat} {es : Array MapEntry} {blk cp : Nat → Nat} {L : List (zBy × List zO)} {out : Nat → Prop} (h : jU H G b3 es blk cp L out) : ∀ i (hi : i < es.size), (es[i]'hi).born = i :=
 fun i hi=>by rw [h.ent i hi]
theorem zGa (l : List zO) (s : zO) : flat l.length (yM l) ++ [.int .i64 s.from_, .int .i64 s.till] = flat (l ++ [s]).length (yM (l ++ [s])) := by
 have e:(l ++ [s]).length=l.length + 1:=by simp
 rw [e,vT]
 congr 1
 ·apply xW
  intro i hi
  simp [yM,List.getElem?_append_left hi]
 ·simp [yM]
def upN (f:Nat→Nat) (k x:Nat):Nat→Nat:=fun i=>if i=k then x else f i
end Go.SL
/- Plain law: sorting few elements, spans that are united. -/
namespace Go.SL
open Go
section
variable {α:Type} [Inhabited α] (lt:α→α→Bool)
theorem ySl (l : List α) (j : Nat) (h : j + 1 < l.length) : (swp l j).Perm l := by
 have e : l = l.take j ++ (l[j]'(by omega)) :: l[j + 1] :: l.drop (j + 2) := by
  rw [← List.drop_eq_getElem_cons h,← List.drop_eq_getElem_cons (by omega:j < l.length),List.take_append_drop]
 have e2 : swp l j = l.take j ++ l[j + 1] :: (l[j]'(by omega)) :: l.drop (j + 2) := by
  unfold swp
  apply List.ext_getElem?
  intro i
  simp only [List.getD_eq_getElem?_getD,List.getElem?_eq_getElem h,List.getElem?_eq_getElem (show j < l.length by omega),Option.getD_some]
  rcases Nat.lt_trichotomy i j with h1 | h1 | h1
  ·rw [List.getElem?_append_left (by simp; omega)]
   simp [h1,show j≠i by omega,show j + 1≠i by omega]
  ·subst h1
   rw [List.getElem?_append_right (by simp; omega)]
   simp [Nat.min_eq_left (show i≤l.length by omega),show i < l.length by omega]
  ·by_cases h2:i=j + 1
   ·subst h2
    rw [List.getElem?_append_right (by simp; omega)]
    simp [Nat.min_eq_left (show j≤l.length by omega),h]
   ·rw [List.getElem?_append_right (by simp; omega)]
    have e3:i - (l.take j).length=(i - (j + 2)) + 2:=by simp; omega
    rw [e3]
    simp [show j≠i by omega,show j + 1≠i by omega,show j + 2 + (i - (j + 2))=i by omega]
 rw [e2]
 conv=>rhs; rw [e]
 exact List.Perm.append_left _ (List.Perm.swap ..)
theorem zJd : ∀ (j : Nat) (l : List α), j < l.length → (pI lt j l).Perm l
 | 0,l,_=>List.Perm.refl _
 | j + 1, l, h => by
  simp only [pI]
  split
  ·exact(zJd j (swp l j) (by rw [zCn]; omega)).trans (ySl l j h)
  ·exact List.Perm.refl _
theorem zBP : ∀ (k : Nat) (l : List α), k ≤ l.length → (xG lt k l).Perm l
 | 0,l,_=>List.Perm.refl _
 | k + 1, l, h => by
  simp only [xG]
  exact(zJd lt k _ (by rw [vB]; omega)).trans (zBP k l (by omega))
end
theorem zFP {α : Type} [Inhabited α] (l : List α) (j : Nat) (h : j + 1 < l.length) (i : Nat) : (swp l j).getD i default = if i = j then l.getD (j + 1) default else if i = j + 1 then l.getD j default else l.getD i default := by
 simp only [swp,List.getD_eq_getElem?_getD,List.getElem?_set,List.length_set]
 by_cases h1:i=j
 ·subst h1; simp [show i < l.length by omega]
 ·by_cases h2:i=j + 1
  ·subst h2; simp [h]
  ·simp [h1,h2,Ne.symm h1,Ne.symm h2]
section
variable {α:Type} [Inhabited α] (key:α→Int)
def yHP (l:List α) (k:Nat):Prop:=∀ i,i + 1 < k→key (l.getD i default)≤key (l.getD (i + 1) default)
theorem zKN (k : Nat) : ∀ (j : Nat) (l : List α), j < l.length → j ≤ k → k < l.length →
  (∀ i,i + 1 < k + 1→i + 1≠j→key (l.getD i default)≤key (l.getD (i + 1) default))→(0 < j→j < k→key (l.getD (j - 1) default)≤key (l.getD (j + 1) default)) →
  yHP key (pI (fun a b=>decide (key a < key b)) j l) (k + 1)
 | 0,l,_,_,_,h,_=>fun i hi=>h i hi (by omega)
 | j + 1, l, hj, hjk, hk, h, h' => by
  simp only [pI,decide_eq_true_eq]
  split
  ·rename_i hlt
   refine zKN k j (swp l j) (by rw [zCn]; omega) (by omega) (by rw [zCn]; omega) ?_ ?_
   ·intro i hi hne
    rw [zFP l j hj,zFP l j hj]
    by_cases e1:i=j
    ·subst e1
     rw [if_pos rfl,if_neg (by omega),if_pos rfl]; omega
    ·rw [if_neg e1]
     by_cases e2:i=j + 1
     ·subst e2
      rw [if_pos rfl,if_neg (by omega),if_neg (by omega)]
      have:=h' (by omega) (by omega)
      simpa using this
     ·rw [if_neg e2,if_neg hne,if_neg (by omega)]
      exact h i hi (by omega)
   ·intro h0 hjk'
    rw [zFP l j hj,zFP l j hj,if_neg (by omega),if_neg (by omega),if_neg (by omega),if_pos rfl]
    have:=h (j - 1) (by omega) (by omega)
    rw [show j - 1 + 1=j by omega] at this
    exact this
  ·rename_i hge
   intro i hi
   by_cases e:i + 1=j + 1
   ·have:i=j:=by omega
    subst this; omega
   ·exact h i hi e
theorem zGL : ∀ (k : Nat) (l : List α), k ≤ l.length → yHP key (xG (fun a b => decide (key a < key b)) k l) k
 | 0,_,_=>fun i hi=>by omega
 | k + 1, l, h => by
  simp only [xG]
  have ih:=zGL k l (by omega)
  refine zKN key k k _ (by rw [vB]; omega) (Nat.le_refl _) (by rw [vB]; omega) ?_ (fun _ h=>absurd h (Nat.lt_irrefl _))
  intro i hi hne
  exact ih i (by omega)
end
theorem yQL (a b : Int) : decide (vC a b < 0) = decide (a < b) := by
 unfold vC
 split
 ·rename_i h; simp [h]
 ·rename_i h
  split<;>simp<;>omega
theorem yQq : vD = fun a b => decide (a.from_ < b.from_) := by
 funext a b
 exact yQL _ _
def zBS (out : List zO) (s : zO) : List zO := match out.getLast? with
 | some p=>if s.from_≤p.till then out.dropLast ++ [⟨p.from_,max p.till s.till⟩] else out ++ [s]
 | none=>[s]
def uQ (l : List zO) : Nat → List zO
 | 0=>[]
 | k + 1=>zBS (uQ l k) (l.getD k default)
def vF (l:List zO):List zO:=l.filter fun s=>decide (s.from_ < s.till)
def pE (l:List zO):List zO:=xG vD l.length l
def zKs (l:List zO):List zO:=uQ l l.length
def yC (l:List zO):List zO:=zKs (pE (vF l))
def hasB (l:List zO) (t:Int):Bool:=wM (fun i=>decide ((l.getD i default).from_≤t) && decide (t < (l.getD i default).till)) l.length
theorem yGT {out : List zO} {s p : zO} (h : p ∈ zBS out s) : p ∈ out ∨ p = s ∨ ∃ q ∈ out, p.from_ = q.from_ ∧ (p.till = q.till ∨ p.till = s.till) := by
 unfold zBS at h
 split at h
 ·rename_i q hq
  have hm:=List.mem_of_getLast? hq
  split at h
  ·rcases List.mem_append.1 h with h | h
   ·exact .inl (List.dropLast_subset _ h)
   ·simp at h; subst h
    refine .inr (.inr ⟨q,hm,rfl,?_⟩)
    simp only
    omega
  ·rcases List.mem_append.1 h with h | h
   ·exact .inl h
   ·exact .inr (.inl (by simpa using h))
 ·exact .inr (.inl (by simpa using h))
theorem zEB (l : List zO) : ∀ k, k ≤ l.length → ∀ p ∈ uQ l k, (∃ s ∈ l, p.till = s.till) ∧ ∃ s ∈ l, p.from_ = s.from_
 | 0,_,p,h=>by cases h
 | k + 1, hk, p, h => by
  simp only [uQ] at h
  have hm:l.getD k default∈l:=by rw [List.getD_eq_getElem?_getD,List.getElem?_eq_getElem (by omega)]; exact List.getElem_mem _
  rcases yGT h with h | rfl | ⟨q,hq,h1,h2⟩
  ·exact zEB l k (by omega) p h
  ·exact⟨⟨_,hm,rfl⟩,_,hm,rfl⟩
  ·have ih:=zEB l k (by omega) q hq
   refine⟨?_,?_⟩
   ·rcases h2 with h2 | h2
    ·obtain⟨s,hs,e⟩:=ih.1; exact⟨s,hs,h2.trans e⟩
    ·exact⟨_,hm,h2⟩
   ·obtain⟨s,hs,e⟩:=ih.2; exact⟨s,hs,h1.trans e⟩
theorem zGH {l:List zO} {s:zO}:s∈pE l↔s∈l:=(zBP vD l.length l (Nat.le_refl _)).mem_iff
theorem yOR (l : List zO) : yHP (fun s : zO => s.from_) (pE l) (pE l).length := by
 unfold pE
 rw [yQq,vB]
 exact zGL (fun s:zO=>s.from_) l.length l (Nat.le_refl _)
theorem zGq {l:List zO} {s:zO}:s∈vF l↔s∈l∧s.from_ < s.till:=by simp [vF]
theorem zEx {l : List zO} {p : zO} (h : p ∈ yC l) : (∃ s ∈ l, s.from_ < s.till ∧ p.till = s.till) ∧ ∃ s ∈ l, s.from_ < s.till ∧ p.from_ = s.from_ := by
 obtain⟨⟨s,hs,e⟩,t,ht,e2⟩:=zEB (pE (vF l)) _ (Nat.le_refl _) p h
 have hs':=zGq.1 (zGH.1 hs)
 have ht':=zGq.1 (zGH.1 ht)
 exact⟨⟨s,hs'.1,hs'.2,e⟩,t,ht'.1,ht'.2,e2⟩
theorem yUY {P : Nat → Bool} {n : Nat} : wM P n = true ↔ ∃ i, i < n ∧ P i = true := by
 induction n with
 | zero=>simp [wM]
 | succ n ih =>
  simp only [wM,Bool.or_eq_true,ih]
  constructor
  ·rintro(⟨i,h,hp⟩ | hp)
   ·exact⟨i,by omega,hp⟩
   ·exact⟨n,by omega,hp⟩
  ·rintro⟨i,h,hp⟩
   by_cases e:i=n
   ·subst e; exact .inr hp
   ·exact .inl ⟨i,by omega,hp⟩
theorem yRe {l : List zO} {t : Int} : hasB l t = true ↔ ∃ p ∈ l, p.from_ ≤ t ∧ t < p.till := by
 unfold hasB
 rw [yUY]
 constructor
 ·rintro⟨i,hi,h⟩
  simp only [Bool.and_eq_true,decide_eq_true_eq] at h
  refine⟨_,?_,h⟩
  rw [List.getD_eq_getElem?_getD,List.getElem?_eq_getElem hi]; exact List.getElem_mem _
 ·rintro⟨p,hp,h⟩
  obtain⟨i,hi,e⟩:=List.getElem_of_mem hp
  refine⟨i,hi,?_⟩
  have:l.getD i default=p:=by rw [List.getD_eq_getElem?_getD,List.getElem?_eq_getElem hi,e]; rfl
  rw [this]
  simpa using h
end Go.SL
/- Plain law: the text of a signed set tells it from all others. -/
namespace Go.SL
open Go
theorem pV {c : UInt8} : ∀ {w w' r r' : Bs}, c ∉ w → c ∉ w' → w ++ c :: r = w' ++ c :: r' → w = w' ∧ r = r'
 | [],[],_,_,_,_,h=>⟨rfl,by simpa using h⟩
 | [], y :: w', _, _, _, h2, h => by
  simp only [List.nil_append,List.cons_append,List.cons.injEq] at h
  exact absurd (h.1 ▸ List.mem_cons_self) h2
 | x :: w, [], _, _, h1, _, h => by
  simp only [List.nil_append,List.cons_append,List.cons.injEq] at h
  exact absurd (h.1 ▸ List.mem_cons_self) h1
 | x :: w, y :: w', _, _, h1, h2, h => by
  simp only [List.cons_append,List.cons.injEq] at h
  have:=pV (fun hm=>h1 (List.mem_cons_of_mem _ hm)) (fun hm=>h2 (List.mem_cons_of_mem _ hm)) h.2
  exact⟨by rw [h.1,this.1],this.2⟩
theorem yPx (d : Nat) (h : d < 10) : UInt8.ofNat (48 + d) ≠ 47 ∧ UInt8.ofNat (48 + d) ≠ 45 := by
 have:d=0∨d=1∨d=2∨d=3∨d=4∨d=5∨d=6∨d=7∨d=8∨d=9:=by omega
 rcases this with rfl | rfl | rfl | rfl | rfl | rfl | rfl | rfl | rfl | rfl<;>decide
theorem zWC {d e : Nat} (hd : d < 10) (he : e < 10) (h : UInt8.ofNat (48 + d) = UInt8.ofNat (48 + e)) : d = e := by
 have:=congrArg UInt8.toNat h
 rw [UInt8.toNat_ofNat',UInt8.toNat_ofNat'] at this
 omega
theorem zAW (u : Nat) : ∀ x ∈ Lib.decDigits u, x ≠ 47 ∧ x ≠ 45 := by
 induction u using Nat.strongRecOn with
 | ind u ih =>
  unfold Lib.decDigits
  split
  ·rename_i h
   intro x hx
   rw [List.mem_singleton.1 hx]
   exact yPx u h
  ·rename_i h
   intro x hx
   rcases List.mem_append.1 hx with hx | hx
   ·exact ih _ (by omega) x hx
   ·rw [List.mem_singleton.1 hx]
    exact yPx _ (by omega)
theorem zGS (u : Nat) : Lib.decDigits u ≠ [] := by
 unfold Lib.decDigits
 split<;>simp
theorem zGb (u : Nat) : ∀ v, Lib.decDigits u = Lib.decDigits v → u = v := by
 induction u using Nat.strongRecOn with
 | ind u ih =>
  intro v h
  rw [Lib.decDigits] at h
  conv at h=>rhs; rw [Lib.decDigits]
  split at h
  ·rename_i hu
   split at h
   ·rename_i hv
    exact zWC hu hv (List.cons.inj h).1
   ·rename_i hv
    have hl:=congrArg List.length h
    simp at hl
    exact absurd hl (zGS _)
  ·rename_i hu
   split at h
   ·rename_i hv
    have hl:=congrArg List.length h
    simp at hl
    exact absurd hl (zGS _)
   ·rename_i hv
    have:=List.append_inj' h rfl
    have h1:=ih (u / 10) (by omega) _ this.1
    have h2:=zWC (d:=u % 10) (e:=v % 10) (by omega) (by omega) (List.cons.inj this.2).1
    omega
theorem wO (n : Int) : 47 ∉ Lib.itoa n := by
 unfold Lib.itoa
 split
 ·intro h
  rcases List.mem_cons.1 h with h | h
  ·exact absurd h (by decide)
  ·exact(zAW _ _ h).1 rfl
 ·exact fun h=>(zAW _ _ h).1 rfl
theorem kL {n m : Int} (h : Lib.itoa n = Lib.itoa m) : n = m := by
 unfold Lib.itoa at h
 split at h
 ·rename_i hn
  split at h
  ·rename_i hm
   have:=zGb _ _ (List.cons.inj h).2
   omega
  ·exact absurd rfl (zAW m.toNat 45 (h ▸ List.mem_cons_self)).2
 ·rename_i hn
  split at h
  ·exact absurd rfl (zAW n.toNat 45 (h ▸ List.mem_cons_self)).2
  ·rename_i hm
   have:=zGb _ _ h
   omega
def uK (w:Bs) (ns:List Int):Bs:=w ++ ((ns.flatMap fun n=>47 :: Lib.itoa n) ++ [47])
def uM (d:xO):Bs:=uK d.text [d.n,d.m]
def uE (g:kI):Bs:=uK g.zone [g.key,g.alg,g.from_,g.till] ++ uK (Lib.itoa g.sum) []
def xK (s:zF):Bs:=uK s.name [s.type,s.life,s.data.length] ++ (s.data.flatMap uM ++ s.sigs.flatMap uE)
def Plain (s:zF):Prop:=47 ∉ s.name∧(∀ d∈s.data,47 ∉ d.text)∧∀ g∈s.sigs,47 ∉ g.zone
theorem zKM : ∀ {l l' : List xO} {r r' : Bs}, l.length = l'.length → (∀ d ∈ l, 47 ∉ d.text) → (∀ d ∈ l', 47 ∉ d.text) → l.flatMap uM ++ r = l'.flatMap uM ++ r' → l = l' ∧ r = r'
 | [],[],_,_,_,_,_,h=>⟨rfl,by simpa using h⟩
 | [],_ :: _,_,_,hl,_,_,_=>by simp at hl
 | _ :: _,[],_,_,hl,_,_,_=>by simp at hl
 | d :: l, d' :: l', r, r', hl, h1, h2, h => by
  simp only [List.flatMap_cons,uM,uK,List.flatMap_nil,List.append_nil,List.append_assoc,List.cons_append,List.nil_append] at h
  obtain⟨e1,h⟩:=pV (h1 d List.mem_cons_self) (h2 d' List.mem_cons_self) h
  obtain⟨e2,h⟩:=pV (wO _) (wO _) h
  obtain⟨e3,h⟩:=pV (wO _) (wO _) h
  have:=zKM (l:=l) (l':=l') (by simpa using hl) (fun x hx=>h1 x (List.mem_cons_of_mem _ hx)) (fun x hx=>h2 x (List.mem_cons_of_mem _ hx)) h
  have a2:=kL e2
  have a3:=kL e3
  have hd : d = d' := by
   cases d; cases d'
   simp only at e1 a2 a3
   subst e1 a2 a3; rfl
  exact⟨by rw [hd,this.1],this.2⟩
theorem zKJ : ∀ {l l' : List kI}, (∀ g ∈ l, 47 ∉ g.zone) → (∀ g ∈ l', 47 ∉ g.zone) → l.flatMap uE = l'.flatMap uE → l = l'
 | [],[],_,_,_=>rfl
 | [],g :: l',_,_,h=>by simp [uE,uK] at h
 | g :: l,[],_,_,h=>by simp [uE,uK] at h
 | d :: l, d' :: l', h1, h2, h => by
  simp only [List.flatMap_cons,uE,uK,List.flatMap_nil,List.append_nil,List.append_assoc,List.cons_append,List.nil_append] at h
  obtain⟨e1,h⟩:=pV (h1 d List.mem_cons_self) (h2 d' List.mem_cons_self) h
  obtain⟨e2,h⟩:=pV (wO _) (wO _) h
  obtain⟨e3,h⟩:=pV (wO _) (wO _) h
  obtain⟨e4,h⟩:=pV (wO _) (wO _) h
  obtain⟨e5,h⟩:=pV (wO _) (wO _) h
  obtain⟨e6,h⟩:=pV (wO _) (wO _) h
  have:=zKJ (l:=l) (l':=l') (fun x hx=>h1 x (List.mem_cons_of_mem _ hx)) (fun x hx=>h2 x (List.mem_cons_of_mem _ hx)) h
  have a2:=kL e2
  have a3:=kL e3
  have a4:=kL e4
  have a5:=kL e5
  have a6:=kL e6
  have hd : d = d' := by
   cases d; cases d'
   simp only at e1 a2 a3 a4 a5 a6
   subst e1 a2 a3 a4 a5 a6; rfl
  rw [hd,this]
theorem zJt {s s' : zF} (h1 : Plain s) (h2 : Plain s') (h : xK s = xK s') : s = s' := by
 simp only [xK,uK,List.flatMap_cons,List.flatMap_nil,List.append_nil,List.append_assoc,List.cons_append,List.nil_append] at h
 obtain⟨e1,h⟩:=pV h1.1 h2.1 h
 obtain⟨e2,h⟩:=pV (wO _) (wO _) h
 obtain⟨e3,h⟩:=pV (wO _) (wO _) h
 obtain⟨e4,h⟩:=pV (wO _) (wO _) h
 have e4':=kL e4
 obtain⟨e5,h⟩:=zKM (by omega) h1.2.1 h2.2.1 h
 have e6:=zKJ h1.2.2 h2.2.2 h
 have a2:=kL e2
 have a3:=kL e3
 cases s; cases s'
 simp only at e1 a2 a3 e5 e6
 subst e1 a2 a3 e5 e6; rfl
theorem zAw (c : UInt8) (l : Bs) : ∀ k, k ≤ l.length → (∀ i, uP c l k = some i → i < k ∧ l.getD i 0 = c) ∧ (uP c l k = none → ∀ j, j < k → l.getD j 0 ≠ c)
 | 0,_=>⟨fun i h=>(by cases h),fun _ j h=>by omega⟩
 | k + 1, hk => by
  have ih:=zAw c l k (by omega)
  simp only [uP]
  split
  ·rename_i he
   exact⟨fun i h=>by cases h; exact⟨by omega,he⟩,fun h=>by cases h⟩
  ·rename_i he
   refine⟨fun i h=>⟨by have:=(ih.1 i h).1; omega,(ih.1 i h).2⟩,fun h j hj=>?_⟩
   by_cases e:j=k
   ·subst e; exact he
   ·exact ih.2 h j (by omega)
theorem zPQ : ∀ (n : Nat) (l : Bs), l.length < n → ∀ x ∈ l, x = 46 ∨ ∃ y ∈ vA n l, x ∈ y
 | 0,_,h,_,_=>by omega
 | n + 1, l, h, x, hx => by
  simp only [vA]
  cases hg:lastIx 46 l with
  | none=>exact .inr ⟨l,by simp,hx⟩
  | some i =>
   have hs:=(zAw 46 l l.length (Nat.le_refl _)).1 i hg
   have hsplit : l = l.take i ++ 46 :: l.drop (i + 1) := by
    have e:l[i]'hs.1=46:=by have:=hs.2; rw [List.getD_eq_getElem?_getD,List.getElem?_eq_getElem hs.1] at this; exact this
    rw [← e,← List.drop_eq_getElem_cons hs.1,List.take_append_drop]
   rw [hsplit] at hx
   rcases List.mem_append.1 hx with hx | hx
   ·rcases zPQ n (l.take i) (by rw [List.length_take]; omega) x hx with h1 | ⟨y,hy,hxy⟩
    ·exact .inl h1
    ·exact .inr ⟨y,List.mem_cons_of_mem _ hy,hxy⟩
   ·rcases List.mem_cons.1 hx with hx | hx
    ·exact .inl hx
    ·exact .inr ⟨_,List.mem_cons_self,hx⟩
theorem zHP : ∀ (l : List Bs) (c : Nat) (w : Bool), qE l c w = true → ∀ y ∈ l, y = [42] ∨ vX y = true
 | [],_,_,_,y,h=>by cases h
 | x :: r, c, w, hv, y, h => by
  simp only [qE] at hv
  split at hv
  ·cases hv
  ·split at hv
   ·cases hv
   ·rename_i h2
    rcases List.mem_cons.1 h with rfl | h
    ·simp only [Bool.and_eq_true,Bool.not_eq_true',not_and,Bool.not_eq_false] at h2
     by_cases e:y = [42]
     ·exact .inl e
     ·exact .inr (h2 (by simpa using e))
    ·exact zHP r _ _ hv y h
theorem yKX {y : Bs} (h : vX y = true) : (47 : UInt8) ∉ y := by
 intro hm
 unfold vX at h
 simp only [Bool.and_eq_true] at h
 have h2:=yG.1 h.2
 obtain⟨i,hi,e⟩:=List.getElem_of_mem hm
 have:=h2 i hi
 have e2:y.getD i 0=47:=by rw [List.getD_eq_getElem?_getD,List.getElem?_eq_getElem hi,e]; rfl
 simp only [bI,e2] at this
 exact absurd this (by decide)
theorem zDi {l : Bs} (h : zL l = true) : (47 : UInt8) ∉ l := by
 unfold zL at h
 simp only [Bool.or_eq_true,Bool.and_eq_true] at h
 rcases h with h | ⟨_,h⟩
 ·have:l = [46]:=by simpa using h
  subst this; decide
 ·intro hm
  unfold zU at h
  split at h
  ·rename_i e; subst e; exact absurd hm (by decide)
  ·rcases zPQ (l.length + 1) l (by omega) 47 hm with h1 | ⟨y,hy,hxy⟩
   ·exact absurd h1 (by decide)
   ·rcases zHP _ _ _ h y hy with rfl | hl
    ·exact absurd hxy (by decide)
    ·exact yKX hl hxy
theorem yHy {s : Bs} (h : kU s = true) : (47 : UInt8) ∉ s := by
 intro hm
 unfold kU at h
 simp only [Bool.and_eq_true] at h
 have h2:=yG.1 h.2
 obtain⟨i,hi,e⟩:=List.getElem_of_mem hm
 have:=h2 i hi
 have e2:s.getD i 0=47:=by rw [List.getD_eq_getElem?_getD,List.getElem?_eq_getElem hi,e]; rfl
 simp only [bI,e2] at this
 exact absurd this (by decide)
theorem yHm {k : Int} {s : Bs} (h : qB k s = true) : (47 : UInt8) ∉ s := by
 unfold qB at h
 split at h
 ·simp only [Bool.and_eq_true] at h; exact zDi h.1
 ·split at h
  ·exact zDi h
  ·split at h
   ·exact yHy h
   ·have:s = []:=by simpa using h
    subst this; simp
theorem uO {α : Type} [Inhabited α] {l : List α} {x : α} (h : x ∈ l) : ∃ i, i < l.length ∧ l.getD i default = x := by
 obtain⟨i,hi,e⟩:=List.getElem_of_mem h
 exact⟨i,hi,by rw [List.getD_eq_getElem?_getD,List.getElem?_eq_getElem hi,e]; rfl⟩
theorem yN {α : Type} [Inhabited α] {l : List α} {i : Nat} (h : i < l.length) : l.getD i default ∈ l := by
 rw [List.getD_eq_getElem?_getD,List.getElem?_eq_getElem h]; exact List.getElem_mem _
structure yGz (s : zF) : Prop where
 plain:Plain s
 life:0≤s.life∧s.life≤100000
 sigs:∀ g∈s.sigs,0≤g.till∧g.till≤20000000
theorem zAK {n : Bs} {t l : Int} {ds : List xO} (h : wK n t l ds = true) : zL n = true ∧ (0 ≤ l ∧ l ≤ 100000) ∧ ∀ d ∈ ds, (47 : UInt8) ∉ d.text := by
 unfold wK at h
 simp only [Bool.and_eq_true,zZ,decide_eq_true_eq] at h
 refine⟨h.1.1.1.1.1.1,h.1.1.1.1.2,fun d hd=>?_⟩
 obtain⟨i,hi,e⟩:=uO hd
 have:=yG.1 h.2 i hi
 simp only [Bool.and_eq_true,e,xY] at this
 exact yHm this.1.2
theorem zCF {apex : Bs} {ss : List zF} (h : xB apex ss = true) : ∀ s ∈ ss, yGz s := by
 intro s hs
 unfold xB at h
 simp only [Bool.and_eq_true] at h
 obtain⟨⟨⟨⟨⟨h1,_⟩,_⟩,_⟩,_⟩,h6⟩:=h
 obtain⟨i,hi,e⟩:=uO hs
 unfold vQ at h1
 simp only [Bool.and_eq_true] at h1
 have hap : zL apex = true := by
  have:=h1.1
  simp only [Bool.not_eq_true',Bool.or_eq_false_iff,Bool.not_eq_false'] at this
  exact this.1.1
 have hi1:=yG.1 h1.2 i hi
 simp only [Bool.and_eq_true,yF,e] at hi1
 have hr:=zAK hi1.1.1
 unfold zEi at h6
 have hi6:=yG.1 h6 i hi
 simp only [yF,e,qC,Bool.and_eq_true] at hi6
 have hsig : ∀ g ∈ s.sigs, (47 : UInt8) ∉ g.zone ∧ 0 ≤ g.till ∧ g.till ≤ 20000000 := by
  intro g hg
  obtain⟨j,hj,ej⟩:=uO hg
  have:=yG.1 hi6.2 j hj
  simp only [zAb,ej,Bool.and_eq_true,Bool.not_eq_true',Bool.or_eq_false_iff,decide_eq_false_iff_not,bne_eq_false_iff_eq] at this
  obtain⟨⟨⟨⟨⟨⟨hz,_⟩,_⟩,_⟩,_⟩,⟨⟨h1,h2⟩,h3⟩⟩,_⟩:=this
  refine⟨?_,by omega,by omega⟩
  rw [hz]; exact zDi hap
 exact⟨⟨zDi hr.1,hr.2.2,fun g hg=>(hsig g hg).1⟩,hr.2.1,fun g hg=>(hsig g hg).2⟩
end Go.SL
/- Plain law: what the reference says of names and sets, and that it is the same. -/
namespace Go.SL
open Go
def zBL (s:Bs):Bool:=zP (fun i=>!(!(bI s i == 45 && decide (i > 0) && decide ((i:Int) < (s.length:Int) - 1)) && (decide (bI s i < 97) || decide (bI s i > 122)) && (decide (bI s i < 48) || decide (bI s i > 57)))) s.length && (decide (1≤s.length) && decide (s.length≤12))
theorem zKC (s : Bs) : zBL s = vX s := by
 rw [Bool.eq_iff_iff]
 unfold zBL vX
 simp only [Bool.and_eq_true,decide_eq_true_eq,yG,Bool.not_eq_true',Bool.or_eq_false_iff,decide_eq_false_iff_not,beq_eq_false_iff_ne,okc]
 constructor
 ·rintro⟨h,h1,h2⟩
  refine⟨⟨⟨⟨by omega,by omega⟩,?_⟩,?_⟩,?_⟩
  ·intro e
   have:=h 0 (by omega)
   rw [e] at this
   simp at this
  ·intro e
   have:=h (s.length - 1) (by omega)
   rw [e] at this
   have h3:¬ ((s.length - 1:Nat):Int) < (s.length:Int) - 1:=by omega
   simp [h3] at this
  ·intro i hi
   have:=h i hi
   by_cases e:bI s i=45
   ·simp [e]
   ·simp [e] at this ⊢
    omega
 ·rintro⟨⟨⟨⟨h1,h2⟩,h3⟩,h4⟩,h5⟩
  refine⟨?_,by omega,by omega⟩
  intro i hi
  have:=h5 i hi
  by_cases e:bI s i=45
  ·have hi0:i≠0:=by rintro rfl; exact h3 e
   have hi1:i≠s.length - 1:=by rintro rfl; exact h4 e
   have a1:decide (i > 0)=true:=by simp; omega
   have a2:decide ((i:Int) < (s.length:Int) - 1)=true:=by simp; omega
   simp [e,a1,a2]
  ·simp [e] at this ⊢
   omega
def xQ (s : Bs) : Nat → List Bs
 | 0=>[[]]
 | k + 1=>if s.getD k 0=46 then xQ s k ++ [[]] else (xQ s k).dropLast ++ [(xQ s k).getLastD [] ++ [s.getD k 0]]
def wQ (s:Bs):List Bs:=xQ s s.length
theorem zGJ (s : Bs) : ∀ k, xQ s k ≠ []
 | 0=>by simp [xQ]
 | k + 1=>by simp only [xQ]; split<;>simp
theorem zGT {s t : Bs} : ∀ k, (∀ i, i < k → s.getD i 0 = t.getD i 0) → xQ s k = xQ t k
 | 0,_=>rfl
 | k + 1, h => by
  simp only [xQ]
  rw [h k (by omega),zGT k (fun i hi=>h i (by omega))]
theorem zDH (s : Bs) (l0 : List Bs) (x : Bs) (k : Nat) (hk : xQ s k = l0 ++ [x]) : ∀ n, (∀ i, k ≤ i → i < k + n → s.getD i 0 ≠ 46) → xQ s (k + n) = l0 ++ [x ++ (List.range n).map (fun i => s.getD (k + i) 0)]
 | 0,_=>by simpa using hk
 | n + 1, h => by
  have ih:=zDH s l0 x k hk n (fun i h1 h2=>h i h1 (by omega))
  have e:k + (n + 1)=(k + n) + 1:=by omega
  rw [e]
  simp only [xQ]
  rw [if_neg (h (k + n) (by omega) (by omega)),ih,List.range_succ]
  simp
theorem zFo (s : Bs) (k : Nat) (hk : k ≤ s.length) : (List.range (s.length - k)).map (fun i => s.getD (k + i) 0) = s.drop k := by
 apply List.ext_getElem
 ·simp
 ·intro i h1 h2
  simp at h1 h2
  simp [List.getElem?_eq_getElem (show k + i < s.length by omega)]
theorem zIK : ∀ (n : Nat) (s : Bs), s.length < n → vA n s = (wQ s).reverse
 | 0,s,h=>by omega
 | n + 1, s, h => by
  simp only [vA]
  cases hg:lastIx 46 s with
  | none =>
   have hs:=(zAw 46 s s.length (Nat.le_refl _)).2 hg
   have:=zDH s [] [] 0 rfl s.length (fun i _ hi=>hs i (by omega))
   rw [Nat.zero_add] at this
   have e:=zFo s 0 (Nat.zero_le _)
   simp only [Nat.sub_zero,Nat.zero_add,List.drop_zero] at e this
   unfold wQ
   rw [this,e]
   rfl
  | some i =>
   have hs:=(zAw 46 s s.length (Nat.le_refl _)).1 i hg
   have hgt:∀ j,i < j→j < s.length→s.getD j 0≠46:=lastIxN_gt hg
   have h1:xQ s (i + 1)=xQ s i ++ [[]]:=by simp only [xQ]; rw [if_pos hs.2]
   have h2:=zDH s (xQ s i) [] (i + 1) h1 (s.length - (i + 1)) (fun j hj hj2=>hgt j (by omega) (by omega))
   rw [show i + 1 + (s.length - (i + 1))=s.length by omega,zFo s (i + 1) (by omega)] at h2
   have h3 : xQ s i = wQ (s.take i) := by
    unfold wQ
    rw [List.length_take,Nat.min_eq_left (by omega)]
    exact zGT i fun j hj=>by simp [hj]
   show List.drop (i + 1) s :: vA n (s.take i)=_
   unfold wQ at *
   rw [h2,h3,List.nil_append,List.reverse_append,zIK n (s.take i) (by rw [List.length_take]; omega)]
   rfl
where
 lastIxN_gt {c : UInt8} {s : Bs} {i : Nat} (hg : uP c s s.length = some i) : ∀ j, i < j → j < s.length → s.getD j 0 ≠ c := by
  have key : ∀ k, k ≤ s.length → uP c s k = some i → ∀ j, i < j → j < k → s.getD j 0 ≠ c := by
   intro k
   induction k with
   | zero=>intro _ _ j _ h; omega
   | succ k ih =>
    intro hk hh j hj hjk
    simp only [uP] at hh
    split at hh
    ·cases hh; omega
    ·rename_i hne
     by_cases e:j=k
     ·subst e; exact hne
     ·exact ih (by omega) hh j hj (by omega)
  exact key s.length (Nat.le_refl _) hg
def xP (s:Bs):List Bs:=if s = [46] then [] else wQ s
theorem zAF (s : Bs) : zU s = (xP s).reverse := by
 unfold zU xP
 split
 ·rfl
 ·exact zIK _ s (by omega)
def vK (s:Bs):Bool:=s == [46] || (decide (s.length≤60) && (zP (fun i=>zBL ((wQ s).getD i []) || (i == 0 && (wQ s).getD i [] == [42])) (wQ s).length && decide ((wQ s).length≤8)))
theorem zED : ∀ (l : List Bs) (c : Nat) (w : Bool), qE l c w = true ↔ (l = [] ∨ (w = false ∧ c + l.length ≤ 8 ∧ ∀ i, i < l.length → vX (l.getD i []) = true ∨ (i + 1 = l.length ∧ l.getD i [] = [42])))
 | [],c,w=>by simp [qE]
 | x :: r, c, w => by
  simp only [qE]
  by_cases hw:w=true
  ·simp [hw]
  ·have hw':w=false:=by simpa using hw
   subst hw'
   by_cases hc:c + 1 > 8
   ·have:decide (c + 1 > 8)=true:=by simpa using hc
    simp only [this,Bool.or_true,if_true]
    constructor
    ·intro h; cases h
    ·rintro(h | ⟨_,h,_⟩)
     ·cases h
     ·simp at h; omega
   ·have:decide (c + 1 > 8)=false:=by simpa using hc
    simp only [this,Bool.or_self,Bool.false_eq_true,if_false]
    by_cases hx:x = [42]
    ·subst hx
     have hl:vX [42]=false:=by decide
     simp only [beq_self_eq_true,Bool.not_true,Bool.false_and,Bool.false_eq_true,if_false]
     rw [zED r (c + 1) true]
     constructor
     ·rintro(rfl | ⟨h,_⟩)
      ·refine .inr ⟨trivial,by simp; omega,fun i hi=>?_⟩
       have:i=0:=by simpa using hi
       subst this; exact .inr ⟨rfl,rfl⟩
      ·cases h
     ·rintro(h | ⟨_,h1,h2⟩)
      ·cases h
      ·have:=h2 0 (by simp)
       simp only [List.getD_cons_zero,hl,Bool.false_eq_true,false_or,List.length_cons] at this
       left
       exact List.length_eq_zero_iff.1 (by omega)
    ·have hb:(x == [42])=false:=by simpa using hx
     simp only [hb,Bool.not_false,Bool.true_and]
     by_cases hl:vX x=true
     ·simp only [hl,Bool.not_true,Bool.false_eq_true,if_false]
      rw [zED r (c + 1) false]
      constructor
      ·rintro(rfl | ⟨_,h1,h2⟩)
       ·refine .inr ⟨trivial,by simp; omega,fun i hi=>?_⟩
        have:i=0:=by simpa using hi
        subst this; exact .inl hl
       ·refine .inr ⟨trivial,by simp; omega,fun i hi=>?_⟩
        cases i with
        | zero=>exact .inl hl
        | succ i =>
         rcases h2 i (by simpa using hi) with h | ⟨h,h'⟩
         ·exact .inl (by simpa using h)
         ·exact .inr ⟨by simp; omega,by simpa using h'⟩
      ·rintro(h | ⟨_,h1,h2⟩)
       ·cases h
       ·right
        simp at h1
        refine⟨rfl,by omega,fun i hi=>?_⟩
        rcases h2 (i + 1) (by simpa using hi) with h | ⟨h,h'⟩
        ·exact .inl (by simpa using h)
        ·exact .inr ⟨by simp at h; omega,by simpa using h'⟩
     ·have hl':vX x=false:=by simpa using hl
      simp only [hl',Bool.not_false,if_true]
      constructor
      ·intro h; cases h
      ·rintro(h | ⟨_,h1,h2⟩)
       ·cases h
       ·rcases h2 0 (by simp) with h | ⟨_,h⟩
        ·simp only [List.getD_cons_zero] at h; rw [hl'] at h; cases h
        ·exact absurd (by simpa using h) hx
theorem zBf (s : Bs) : vK s = zL s := by
 unfold vK zL
 by_cases h46:s = [46]
 ·subst h46; rfl
 ·have hb:(s == [46])=false:=by simpa using h46
  rw [hb,Bool.false_or,Bool.false_or]
  congr 1
  have hlab:zU s=(wQ s).reverse:=by rw [zAF]; unfold xP; rw [if_neg h46]
  rw [hlab,Bool.eq_iff_iff,zED,Bool.and_eq_true,yG,decide_eq_true_eq]
  have hne:(wQ s).reverse≠[]:=by simpa [wQ] using zGJ s s.length
  have hrev : ∀ i, i < (wQ s).length → (wQ s).reverse.getD i [] = (wQ s).getD ((wQ s).length - 1 - i) [] := by
   intro i hi
   rw [List.getD_eq_getElem?_getD,List.getElem?_reverse hi,List.getD_eq_getElem?_getD]
  constructor
  ·rintro⟨h1,h2⟩
   right
   refine⟨rfl,by simp; omega,fun i hi=>?_⟩
   simp only [List.length_reverse] at hi ⊢
   rw [hrev i hi]
   have:=h1 ((wQ s).length - 1 - i) (by omega)
   rw [zKC] at this
   simp only [Bool.or_eq_true,Bool.and_eq_true,beq_iff_eq] at this
   rcases this with h | ⟨h,h'⟩
   ·exact .inl h
   ·exact .inr ⟨by omega,h'⟩
  ·rintro(h | ⟨_,h1,h2⟩)
   ·exact absurd h hne
   ·simp only [List.length_reverse] at h1 h2
    refine⟨fun i hi=>?_,by omega⟩
    have:=h2 ((wQ s).length - 1 - i) (by omega)
    rw [hrev _ (by omega)] at this
    have e:(wQ s).length - 1 - ((wQ s).length - 1 - i)=i:=by omega
    rw [e] at this
    rw [zKC]
    simp only [Bool.or_eq_true,Bool.and_eq_true,beq_iff_eq]
    rcases this with h | ⟨h,h'⟩
    ·exact .inl h
    ·exact .inr ⟨by omega,h'⟩
end Go.SL
