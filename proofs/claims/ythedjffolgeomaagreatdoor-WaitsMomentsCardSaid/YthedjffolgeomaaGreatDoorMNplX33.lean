/- Contracts: sorting few numbers. -/
import Derived.Test.YthedjffolgeomaaGreatDoorMNplQ
import Derived.Test.YthedjffolgeomaaGreatDoorMNplV5
import Derived.Test.YthedjffolgeomaaGreatDoorMNplO
import Derived.Test.YthedjffolgeomaaGreatDoorMNplT29
import Derived.Test.YthedjffolgeomaaGreatDoorMNplX32
import Derived.Sort.Grow
namespace Go.SL
open Go
variable {E:Env} {H:Hp}
structure zJK (E : Env) : Prop where
 less:∀ (H:Hp) (a b:Int),yD E 169 [.int .i64 a,.int .i64 b] H (.bool (decide (a < b)))
def ltInt (a b:Int):Bool:=decide (a < b)
theorem zKh (l : List Int) {k : Nat} (hk : k < l.length) : (flat l.length (wH l)).getD k undef = .int .i64 (l.getD k 0) := by
 have h:=pE (n:=l.length) (sz:=1) (row:=wH l) (fun i _=>rfl) k hk
 have:=zH (j:=0) h (by omega)
 simpa only [wH,List.getD_cons_zero,Nat.mul_one,Nat.add_zero] using this
theorem zYu (l : List Int) {k : Nat} (hk : k < l.length) (x : Int) : (flat l.length (wH l)).take k ++ [.int .i64 x] ++ (flat l.length (wH l)).drop (k + 1) = flat l.length (wH (l.set k x)) := by
 have h:=zIe (n:=l.length) (sz:=1) (row:=wH l) (fun i _=>rfl) hk (r:=[.int .i64 x]) rfl
 rw [Nat.mul_one] at h
 rw [h]
 apply xZ
 intro i _
 by_cases e:i=k
 ·subst e; simp [wH,hk]
 ·simp [wH,e,Ne.symm e]
set_option maxHeartbeats 1000000 in
theorem yVg (h3 : yZ E) (L4 : zJK E) {b cap capc : Nat} (l : List Int) (hn : l.length ≤ 1000000) (hH : H b = some (.row (flat l.length (wH l)) capc true)) :
  Fn E.P (E.fn 163) [.slice (some ⟨b,0,none⟩) l.length cap,.int .i64 0,.int .i64 l.length] H (fun _ H'=>H'=H.put b (.row (flat l.length (wH (xJ ltInt l.length l))) capc true)):=by
 refine Fn.of_vks h3.c163 (by simp [zHG]) ?_
 simp only [zHG,zKo,zKJ,zKI,zJS,zJT,zKv,zKy]
 simp only [go_sem,Nat.reduceEqDiff,Nat.reduceBEq,Nat.reduceAdd,reduceCtorEq,Int.reduceAdd,zC]
 refine yP (l.length - 1) 0 (fun k fr' H' => fr' = [(0, ⟨true, .val (.slice (some ⟨b, 0, none⟩) l.length cap)⟩), (1, ⟨true, .val (.int .i64 0)⟩), (2, ⟨true, .val (.int .i64 l.length)⟩), (6, ⟨true, .val (.int .i64 ((k + 1 : Nat) : Int))⟩)] ∧
  H'=H.put b (.row (flat l.length (wH (xJ ltInt (k + 1) l))) capc true)) (Nat.zero_le _) ⟨rfl,(zDT hH).symm⟩ ?_
 rintro k fr' H' hk ⟨rfl,rfl⟩
 by_cases hlt:k + 1 < l.length
 ·have hd:decide (((k + 1:Nat):Int) < (l.length:Int))=true:=by rw [decide_eq_true_eq]; omega
  simp only [hd,go_sem,Nat.reduceEqDiff,Nat.reduceBEq,reduceCtorEq,zC]
  refine pX (fun m fr' H' => ∃ L : List Int, L.length = l.length ∧ qZ ltInt m L = xJ ltInt (k + 2) l ∧ m ≤ k + 1 ∧
   fr' = [(0,⟨true,.val (.slice (some ⟨b,0,none⟩) l.length cap)⟩),(1,⟨true,.val (.int .i64 0)⟩),(2,⟨true,.val (.int .i64 l.length)⟩),(6,⟨true,.val (.int .i64 ((k + 1:Nat):Int))⟩),(7,⟨true,.val (.int .i64 ((m:Nat):Int))⟩)] ∧
   H'=H.put b (.row (flat l.length (wH L)) capc true)) (k + 1) ⟨xJ ltInt (k + 1) l,vC _ _ _,rfl,Nat.le_refl _,rfl,rfl⟩ ?_
  rintro m fr' H' ⟨L,hL,hT,hm,rfl,rfl⟩
  have hGb:(H.put b (.row (flat l.length (wH L)) capc true)) b=some (.row (flat l.length (wH L)) capc true):=Hp.put_same ..
  have hfl:(flat l.length (wH L)).length=l.length:=by rw [xR (sz:=1) (fun i _=>rfl),Nat.mul_one]
  cases m with
  | zero =>
   have hT':L=xJ ltInt (k + 2) l:=hT
   have hd2:decide (((0:Nat):Int) > 0)=false:=by decide
   simp only [hd2,hGb,undef,go_sem,Nat.reduceEqDiff,Nat.reduceBEq,reduceCtorEq,zC]
   refine uX (by intro x h; cases h) (by intro f a h; cases h) ?_ (fun hg=>?_) (fun hg=>?_)
   ·simp only [go_sem,Nat.reduceEqDiff,reduceCtorEq]
   ·simp only [go_sem,Nat.reduceEqDiff,reduceCtorEq] at hg
   ·simp only [hGb,undef,↓vI,↓vR,↓yB,go_sem,Nat.reduceEqDiff,Nat.reduceBEq,reduceCtorEq,zC]
    rw [hT']
    refine⟨by omega,?_,?_⟩
    ·exact zQ (by omega)
    ·rfl
  | succ j =>
   have hd2:decide (((j + 1:Nat):Int) > 0)=true:=by rw [decide_eq_true_eq]; omega
   have e1:IntKind.i64.wrap (((j + 1:Nat):Int) - 1)=(j:Int):=by rw [yX]<;>omega
   have hj1:j + 1 < l.length:=by omega
   have g1:=zKh L (k:=j + 1) (by omega)
   have g0:=zKh L (k:=j) (by omega)
   rw [hL] at g1 g0
   simp only [hd2,e1,hGb,g1,g0,hfl,Nat.mul_one,go_sem,Nat.reduceEqDiff,Nat.reduceBEq,reduceCtorEq,zC]
   refine⟨⟨by omega,by omega⟩,by omega,⟨by omega,by omega⟩,by omega,?_⟩
   refine uX (by intro x h; cases h) (by intro f a h; cases h) ?_ (fun _=>⟨?_,_,Fn.same (L4.less _ (L.getD (j + 1) 0) (L.getD j 0)),?_⟩) (fun hg=>?_)
   ·simp only [go_sem,Nat.reduceEqDiff,reduceCtorEq]
   ·simp only [go_sem,Nat.reduceEqDiff,reduceCtorEq]
   ·rintro v H'' ⟨rfl,rfl⟩
    simp only [hGb,go_sem,Nat.reduceEqDiff,Nat.reduceBEq,reduceCtorEq,zC]
    have hlt':ltInt (L.getD (j + 1) 0) (L.getD j 0)=decide (L.getD (j + 1) 0 < L.getD j 0):=rfl
    have hins:qZ ltInt (j + 1) L=if ltInt (L.getD (j + 1) 0) (L.getD j 0) then qZ ltInt j (swp L j) else L:=rfl
    rw [hins] at hT
    refine⟨fun hc=>?_,fun hc=>?_⟩
    ·rw [hlt',hc,if_pos rfl] at hT
     have s1:=zYu L (k:=j + 1) (by omega) (L.getD j 0)
     have s2:=zYu (L.set (j + 1) (L.getD j 0)) (k:=j) (by simp; omega) (L.getD (j + 1) 0)
     rw [hL] at s1
     rw [List.length_set,hL] at s2
     simp only [e1,hGb,g1,g0,hfl,Nat.mul_one,jA,go_sem,Nat.reduceEqDiff,Nat.reduceBEq,reduceCtorEq,zC]
     refine⟨⟨by omega,by omega⟩,by omega,⟨by omega,by omega⟩,by omega,⟨by omega,by omega⟩,by omega,⟨by omega,by omega⟩,?_⟩
     rw [s1,Hp.put_same]
     refine⟨by rw [xR (sz:=1) (fun i _=>rfl)]; omega,j,by omega,swp L j,by rw [zCp]; exact hL,hT,by omega,rfl,?_⟩
     rw [s2]; rfl
    ·rw [hlt',hc,if_neg (by simp)] at hT
     rw [hT]
     refine⟨by omega,?_,?_⟩
     ·exact zQ (by omega)
     ·rfl
   ·simp only [go_sem,Nat.reduceEqDiff,reduceCtorEq] at hg
 ·have hd:decide (((k + 1:Nat):Int) < (l.length:Int))=false:=by rw [decide_eq_false_iff_not]; omega
  simp only [hd,go_sem,Nat.reduceEqDiff,Nat.reduceBEq,reduceCtorEq,zC]
  have e : xJ ltInt (k + 1) l = xJ ltInt l.length l := by
   rcases Nat.lt_or_ge 0 l.length with h | h
   ·rw [show k + 1=l.length by omega]
   ·have:l = []:=by simpa using h
    subst this
    have:k=0:=by simpa using hk
    subst this
    rfl
  rw [e]
theorem yVu (h3 : yZ E) (L4 : zJK E) {b cap capc : Nat} (m : Int) (l : List Int) (hn : l.length ≤ 12) (hH : H b = some (.row (flat l.length (wH l)) capc true)) :
  Fn E.P (E.fn 162) [.slice (some ⟨b,0,none⟩) l.length cap,.int .i64 0,.int .i64 l.length,.int .i64 m] H (fun _ H'=>H'=H.put b (.row (flat l.length (wH (xJ ltInt l.length l))) capc true)):=by
 refine Fn.of_vks h3.c162 (by simp [zHF]) ?_
 simp only [zHF,zJW,zKl,zKF,zJX,zKz]
 simp only [go_sem,Nat.reduceEqDiff,Nat.reduceBEq,Nat.reduceAdd,reduceCtorEq]
 refine zS 0 0 (fun _=>[(0,⟨true,.val (.slice (some ⟨b,0,none⟩) l.length cap)⟩),(1,⟨true,.val (.int .i64 0)⟩),(2,⟨true,.val (.int .i64 l.length)⟩),(3,⟨true,.val (.int .i64 m)⟩),(8,⟨true,.val (.bool true)⟩),(9,⟨true,.val (.bool true)⟩)]) (fun _=>True) (Nat.le_refl _) rfl trivial ?_
 intro k hk _
 have e1:IntKind.i64.wrap ((l.length:Int) - 0)=(l.length:Int):=by rw [Int.sub_zero]; exact zLY (by omega)
 have d1:decide ((l.length:Int)≤12)=true:=by simp; omega
 simp only [e1,d1,go_sem,Nat.reduceEqDiff,Nat.reduceBEq,reduceCtorEq,zC]
 refine zP ?_ (yVg h3 L4 l (by omega) hH) ?_
 ·simp only [go_sem,Nat.reduceEqDiff,reduceCtorEq]
 rintro u H' rfl
 simp only [go_sem,Nat.reduceBEq]
theorem yWk (_hE : zV E) (h2 : wC E) (h3 : yZ E) (L4 : zJK E) {b cap capc : Nat} (l : List Int) (hn : l.length ≤ 12) (hH : H b = some (.row (flat l.length (wH l)) capc true)) :
  Fn E.P (E.fn 160) [.slice (some ⟨b,0,none⟩) l.length cap] H (fun _ H'=>H'=H.put b (.row (flat l.length (wH (xJ ltInt l.length l))) capc true)):=by
 refine Fn.of_vks h3.c160 (by simp [zHA]) ?_
 simp only [zHA,zJY,zJG]
 have e1:=yFN (n:=l.length) (by omega)
 simp only [e1,go_sem,Nat.reduceEqDiff,Nat.reduceBEq,reduceCtorEq]
 refine zE _ ?_ (fun _=>⟨?_,zHm h2 l.length (by omega)⟩) ?_<;>simp only [go_sem,Nat.reduceEqDiff,Nat.reduceBEq,reduceCtorEq]
 refine zP ?_ (yVu h3 L4 _ l hn hH) ?_
 ·simp only [go_sem,Nat.reduceEqDiff,reduceCtorEq]
 rintro u H' rfl
 simp only [go_sem,Nat.reduceBEq]
theorem yVv (h3 : yZ E) (v : Value) : Fn E.P (E.fn 163) [v, .int .i64 0, .int .i64 0] H (fun _ H' => H' = H) := by
 refine Fn.of_vks h3.c163 (by simp [zHG]) ?_
 simp only [zHG,zKo,zKJ,zKI,zJS,zJT,zKv,zKy]
 simp only [go_sem,Nat.reduceEqDiff,Nat.reduceBEq,Nat.reduceAdd,reduceCtorEq,Int.reduceAdd,zC]
 refine zS 0 0 (fun _=>[(0,⟨true,.val v⟩),(1,⟨true,.val (.int .i64 0)⟩),(2,⟨true,.val (.int .i64 0)⟩),(6,⟨true,.val (.int .i64 1)⟩)]) (fun _=>True) (Nat.le_refl _) rfl trivial ?_
 intro k hk _
 simp only [zJV,go_sem,Nat.reduceEqDiff,Nat.reduceBEq,reduceCtorEq,Int.reduceLT,zC]
theorem yVy (h3 : yZ E) (v : Value) (m : Int) : Fn E.P (E.fn 162) [v, .int .i64 0, .int .i64 0, .int .i64 m] H (fun _ H' => H' = H) := by
 refine Fn.of_vks h3.c162 (by simp [zHF]) ?_
 simp only [zHF,zJW,zKl,zKF,zJX,zKz]
 simp only [go_sem,Nat.reduceEqDiff,Nat.reduceBEq,Nat.reduceAdd,reduceCtorEq]
 refine zS 0 0 (fun _=>[(0,⟨true,.val v⟩),(1,⟨true,.val (.int .i64 0)⟩),(2,⟨true,.val (.int .i64 0)⟩),(3,⟨true,.val (.int .i64 m)⟩),(8,⟨true,.val (.bool true)⟩),(9,⟨true,.val (.bool true)⟩)]) (fun _=>True) (Nat.le_refl _) rfl trivial ?_
 intro k hk _
 simp only [wi0,zKp,go_sem,Nat.reduceEqDiff,Nat.reduceBEq,reduceCtorEq,Int.reduceLE,Int.reduceSub,zC]
 refine zP ?_ (yVv h3 v) ?_
 ·simp only [go_sem,Nat.reduceEqDiff,reduceCtorEq]
 rintro u H' rfl
 simp only [go_sem,Nat.reduceBEq]
theorem yVW (_hE : zV E) (h2 : wC E) (h3 : yZ E) : Fn E.P (E.fn 160) [.slice none 0 0] H (fun _ H' => H' = H) := by
 refine Fn.of_vks h3.c160 (by simp [zHA]) ?_
 simp only [zHA,zJY,zJG]
 have e1:IntKind.u64.wrap (0:Int)=((0:Nat):Int):=by decide
 have cN:((0:Nat):Int)=0:=rfl
 simp only [cN,e1,go_sem,Nat.reduceEqDiff,Nat.reduceBEq,reduceCtorEq]
 refine zE _ ?_ (fun _=>⟨?_,zHm h2 0 (by omega)⟩) ?_<;>simp only [go_sem,Nat.reduceEqDiff,Nat.reduceBEq,reduceCtorEq]
 refine zP ?_ (yVy h3 _ _) ?_
 ·simp only [go_sem,Nat.reduceEqDiff,reduceCtorEq]
 rintro u H' rfl
 simp only [go_sem,Nat.reduceBEq]
end Go.SL
/- Rules: maps of numbers whose entries' births are known; calls of values in a larger memory; ranging over keys. -/
namespace Go.SL
open Go
variable {E:Env} {H:Hp}
theorem Fn.weaken {P : Program} {f : FuncId} {args : List Value} {H : Hp} {Q : Value → Hp → Prop} (h : Fn P f args H (fun u H' => ∃ Hi : Hp, Hi.le H' ∧ Q u Hi)) : Fn P f args H Q := fun w hw =>
 (h w hw).mono fun _ _ ⟨v,_H',he,hs,hk,Hi,hle,hq⟩=>⟨v,Hi,he,hs.le hle,⟨hk.os,hk.tape,hk.output,hk.size,hk.same,fun b o hb=>hk.fresh b o (hle b o hb),fun b hb ht=>⟨(hk.shape b hb ht).1,fun hx=>(hk.shape b hb ht).2 (hx.le hle)⟩⟩,hq⟩
theorem FnV.frame {x : Value} {args : List Value} {G H : Hp} {Q : Value → Hp → Prop} (h : FnV E x args G Q) (hle : G.le H) :
  FnV E x args H (fun u H''=>∃ H2,Q u H2∧H2.le H''∧∀ c o,H c=some o→G c=none→H2 c=none∧H'' c=some o):=by
 intro w hw
 refine(h w (hw.le hle)).mono ?_
 rintro e w' ⟨v,H2,he,hs,hk,hq⟩
 have hG : ∀ c, H c = none → G c = none := fun c hc => by
  cases hx:G c with
  | none=>rfl
  | some o=>rw [hle c o hx] at hc; cases hc
 refine⟨v,fun c=>match H2 c with | some o=>some o | none=>if G c=none then H c else none,he,?_,?_,H2,hq,?_,?_⟩
 ·intro b o hb
  simp only at hb
  cases h2:H2 b with
  | some o'=>rw [h2] at hb; simp only at hb; cases hb; exact hs b o h2
  | none =>
   rw [h2] at hb
   simp only at hb
   split at hb
   ·rename_i hg
    rw [hk.same b (hw.lt hb) hg]
    exact hw b o hb
   ·cases hb
 ·refine ⟨hk.os, hk.tape, hk.output, hk.size, fun b hb h0 => hk.same b hb (hG b h0), fun b o hb => ?_, fun b hb ht => by
   have hs2:=hk.shape b hb (fun hx=>ht (hx.le hle))
   refine⟨hs2.1,fun hx=>?_⟩
   cases h2:H2 b with
   | some o=>simp only [h2] at hx; exact hs2.2 (by rw [h2]; exact hx)
   | none =>
    simp only [h2] at hx
    split at hx
    ·exact ht hx
    ·exact hx.elim⟩
  cases h2:H2 b with
  | some o' =>
   rcases hk.fresh b o' h2 with hx | hx
   ·exact .inl fun h0=>hx (hG b h0)
   ·exact .inr hx
  | none =>
   rw [h2] at hb
   simp only at hb
   split at hb
   ·exact .inl (by rw [hb]; simp)
   ·cases hb
 ·intro c o hc
  simp only [hc]
 ·intro c o hc hg
  have hn : H2 c = none := by
   cases h2:H2 c with
   | none=>rfl
   | some o' =>
    rcases hk.fresh c o' h2 with hx | hx
    ·exact absurd hg hx
    ·exact absurd (hw.lt hc) (Nat.not_lt.2 hx)
  exact⟨hn,by simp only [hn,hg,if_true]; exact hc⟩
def wG (l:List (Int × Bool)):Array MapEntry:=(l.mapIdx fun i e=>{ key:=.int .i64 e.1,val:=.bool e.2,born:=i }).toArray
theorem qD (l:List (Int × Bool)):(wG l).size=l.length:=by simp [wG]
theorem zAn (l : List (Int × Bool)) {i : Nat} (hi : i < (wG l).size) : (wG l)[i] = { key := .int .i64 (l.getD i default).1, val := .bool (l.getD i default).2, born := i } := by
 have hl:i < l.length:=by rw [qD] at hi; exact hi
 simp [wG,hl]
theorem yRr (l : List (Int × Bool)) : (wG l).toList.map (fun e => (e.key, e.val)) = l.map fun e => (Value.int .i64 e.1, Value.bool e.2) := by
 apply List.ext_getElem
 ·simp [wG]
 ·intro i h1 h2
  simp [wG]
def zAu (H:Hp) (m:Nat) (l:List (Int × Bool)):Prop:=H m=some (.obj (.map (wG l) l.length))
theorem yGY (l : List (Int × Bool)) (k : Int) (v : Bool) : (wG l).push { key := .int .i64 k, val := .bool v, born := l.length } = wG (l ++ [(k, v)]) := by
 apply Array.ext
 ·simp [wG]
 ·intro i h1 h2
  simp only [Array.size_push,qD] at h1
  rw [zAn]
  by_cases e:i < l.length
  ·rw [Array.getElem_push_lt (by rw [qD]; exact e),zAn]
   simp [List.getElem?_append_left e]
  ·have:i=l.length:=by omega
   subst this
   rw [Array.getElem_push]
   simp [qD]
theorem zPq (l l' : List (Int × Bool)) (hl : l'.length = l.length) (j : Nat) (k : Int) (v : Bool)
  (h:((wG l).toList.modify j fun e=>{ e with key:=.int .i64 k,val:=.bool v }).map (fun e=>(e.key,e.val))=l'.map fun e=>(Value.int .i64 e.1,Value.bool e.2)) :
  (wG l).modify j (fun e=>{ e with key:=.int .i64 k,val:=.bool v })=wG l':=by
 apply Array.ext
 ·simp [wG,hl]
 ·intro i h1 h2
  have hil:i < l.length:=by simpa [wG] using h1
  have hi':i < l'.length:=by omega
  have hkv:=congrArg (fun L=>L[i]?) h
  simp only [List.getElem?_map,List.getElem?_modify,List.getElem?_eq_getElem hi',Array.getElem?_toList,Array.getElem?_eq_getElem (show i < (wG l).size by rw [qD]; exact hil),Option.map_some] at hkv
  rw [Array.getElem_modify,zAn l' h2,zAn l (by rw [qD]; exact hil)]
  rw [zAn l (by rw [qD]; exact hil)] at hkv
  have hgd:l'.getD i default=l'[i]:=by rw [List.getD_eq_getElem?_getD,List.getElem?_eq_getElem hi']; rfl
  by_cases e:j=i
  ·have hkv':some (Value.int IntKind.i64 k,Value.bool v)=some (Value.int IntKind.i64 l'[i].1,Value.bool l'[i].2):=by rw [← hkv]; simp [e]
   simp only [Option.some.injEq,Prod.mk.injEq] at hkv'
   rw [if_pos e,hgd,← hkv'.1,← hkv'.2]
  ·have hkv':some (Value.int IntKind.i64 (l.getD i default).1,Value.bool (l.getD i default).2)=some (Value.int IntKind.i64 l'[i].1,Value.bool l'[i].2):=by rw [← hkv]; simp [e]
   simp only [Option.some.injEq,Prod.mk.injEq] at hkv'
   rw [if_neg e,hgd,hkv'.1,hkv'.2]
section
variable {fr:Fr} {Q:X→Fr→Hp→Prop} {k:List Item} {d:Option Nat} {r:List zA} {live:List Nat}
theorem zCT {κ ν : Type} [DecidableEq κ] {k : κ} {v u : ν} : ∀ {l : List (κ × ν)}, yK k l = some u → (xU k v l).length = l.length
 | [],h=>by cases h
 | (k', v') :: r, h => by
  simp only [yK] at h
  simp only [xU]
  split at h
  ·rename_i e; rw [if_pos e]; rfl
  ·rename_i e; rw [if_neg e,List.length_cons,zCT h]; rfl
theorem yQF {m x y : Arg} {l : List (Int × Bool)} {b : Nat} (key : Int) (val : Bool) (h1 : vok fr m) (h2 : vok fr x) (h3 : vok fr y) (hm : vo E fr m = .map (some b)) (hx : vo E fr x = .int .i64 key) (hy : vo E fr y = .bool val)
  (hM:zAu H b l) (h:zT E (.ops r live :: k) (setD fr d ⟨true,.val undef⟩) (H.put b (.obj (.map (wG (xU key val l)) (xU key val l).length))) Q) :
  zT E (.ops (⟨d,.upd false [.i] m x y,none⟩ :: r) live :: k) fr H Q:=by
 have hH:H b=some (.obj (.map (wG l) l.length)):=hM
 simp only [zT,kE,wJ,vG,yM,xQ] at h ⊢
 refine⟨trivial,fun _=>⟨h1,h2,h3,by rw [hx]; trivial,?_⟩,fun e=>by cases e⟩
 have hf:=zEi (enc:=fun n:Int=>Value.int .i64 n) (encv:=fun b:Bool=>Value.bool b) yQU key (wG l).toList l 0 (yRr l)
 simp only [hm,hH,hx,hy]
 cases hg:yK key l with
 | none =>
  rw [hf.1 hg]
  rw [zAy hg,List.length_append,← yGY] at h
  exact h
 | some v =>
  obtain⟨j,_,hj,hmod⟩:=hf.2 v hg
  rw [hj]
  have hmm:=hmod (fun e=>{ e with key:=.int .i64 key,val:=.bool val }) val (fun e=>⟨rfl,rfl⟩)
  rw [Nat.sub_zero] at hmm
  have hee:=zPq l (xU key val l) (zCT hg) j key val hmm
  rw [zCT hg,← hee] at h
  exact h
end
def jS (l:List (Int × Bool)):List (List Value):=l.map fun e=>[Value.int .i64 e.1]
theorem zHU (l : List (Int × Bool)) : jS l = (List.range l.length).map fun i => [Value.int .i64 (l.getD i default).1] := by
 apply List.ext_getElem
 ·simp [jS]
 ·intro i h1 h2
  have:i < l.length:=by simpa [jS] using h1
  simp [jS,this]
theorem zBC {s:Array Nat} {i:Nat}:s.contains i=true↔i∈s.toList:=by simp
set_option maxHeartbeats 1000000 in
theorem yWC (h3 : yZ E) {G : Hp} {bp cp m : Nat} {wp : Bool} {l : List (Int × Bool)} (hp : G bp = some (.row [.map (some m)] cp wp)) (hm : zAu G m l) :
  Iter E (.func (.func (E.fn 172)) #[] #[.pointer (some ⟨bp,0,none⟩)]) G (fun xs=>xs.Perm (jS l)):=by
 intro y Inv Stop H hG hy h0
 refine wE h3.e172 ?_
 show Fn E.P (E.fn 172) [y,.pointer (some ⟨bp,0,none⟩)] H _
 refine Fn.weaken ?_
 have hle0:=hG _ _ h0
 have hp0:=hle0 _ _ hp
 have hm0:H m=some (.obj (.map (wG l) l.length)):=hle0 _ _ hm
 refine Fn.of_vks h3.c172 (by simp [zNi]) ?_
 simp only [zNi,zXq,zYD,yBQ,yEv]
 simp only [hp0,go_sem,Nat.reduceBEq,reduceCtorEq]
 refine qP (by intro x h; cases h) (by intro f a h; cases h) ?_
 refine⟨?_,m,wG l,l.length,?_,hm0,?_⟩
 ·simp only [go_sem,Nat.reduceEqDiff,reduceCtorEq]
 ·simp only [go_sem,Nat.reduceEqDiff,reduceCtorEq]
 intro it hit
 simp only [go_sem,Nat.reduceEqDiff,Nat.reduceBEq,reduceCtorEq]
 refine pX (fun k fr' H' => fr' = [(0, ⟨true, .val y⟩), (5, ⟨true, .val (.pointer (some ⟨it, 0, none⟩))⟩)] ∧ ∃ (seen : Array Nat) (Hi : Hp), k = zCE l.length seen ∧ Hi.le H' ∧ Hi it = none ∧ H' it = some (.obj (.mapIter (some m) l.length seen l.length)) ∧
  Inv (seen.toList.map fun i=>[Value.int .i64 (l.getD i default).1]) Hi∧seen.toList.Nodup∧∀ i∈seen.toList,i < l.length) (zCE l.length #[]) ⟨rfl,#[],H,rfl,zM hit _,hit,Hp.put_same ..,h0,List.nodup_nil,fun i hi=>by cases hi⟩ ?_
 rintro k fr' H' ⟨rfl,seen,Hi,rfl,hle,hin,hiter,hinv,hnd,hlt⟩
 have hmi:H' m=some (.obj (.map (wG l) l.length)):=hle _ _ (hG _ _ hinv _ _ hm)
 have hborn:∀ i (hi:i < (wG l).size),(wG l)[i].born=i:=fun i hi=>by rw [zAn]
 simp only [go_sem]
 refine qP (by intro x h; cases h) (by intro f a h; cases h) ?_
 refine⟨?_,it,m,l.length,seen,l.length,wG l,l.length,?_,hiter,hmi,Nat.le_refl _,?_,?_,?_⟩
 ·simp only [go_sem,reduceCtorEq]
 ·simp only [go_sem,reduceCtorEq]
 ·intro e he
  obtain⟨i,hi,rfl⟩:=Array.getElem_of_mem he
  rw [hborn i hi]; rw [qD] at hi; exact hi
 ·intro hall
  simp only [go_sem,Nat.reduceLT,Nat.reduceEqDiff,Nat.reduceBEq,reduceCtorEq]
  refine⟨Hi,hle,.inl ⟨_,?_,hinv⟩⟩
  rw [zHU]
  refine List.Perm.map _ ((List.perm_ext_iff_of_nodup hnd List.nodup_range).2 fun i=>?_)
  rw [List.mem_range]
  refine⟨hlt i,fun hi=>?_⟩
  have hi':i < (wG l).size:=by rw [qD]; exact hi
  have:=hall _ (Array.getElem_mem hi')
  rw [hborn i hi'] at this
  exact zBC.1 this
 ·intro e he hs
  obtain⟨i,hi,rfl⟩:=Array.getElem_of_mem he
  rw [hborn i hi] at hs
  have hil:i < l.length:=by rw [qD] at hi; exact hi
  have hni:i ∉ seen.toList:=fun hx=>by rw [zBC.2 hx] at hs; cases hs
  obtain⟨H1,hH1⟩:∃ x,x=H'.put it (.obj (.mapIter (some m) l.length (seen.push i) l.length)):=⟨_,rfl⟩
  have hle1:Hi.le H1:=by rw [hH1]; exact zI hle hin _
  have hit1:H1 it=some (.obj (.mapIter (some m) l.length (seen.push i) l.length)):=by rw [hH1,Hp.put_same]
  have hm1:H1 m=some (.obj (.map (wG l) l.length)):=hle1 _ _ (hG _ _ hinv _ _ hm)
  rw [hborn i hi,← hH1]
  simp only [go_sem,Nat.reduceLT,Nat.reduceEqDiff,Nat.reduceBEq,Nat.reduceAdd,reduceCtorEq]
  refine qP (by intro x h; cases h) (by intro f a h; cases h) ?_
  refine⟨?_,it,m,l.length,seen.push i,wG l,l.length,i,(wG l)[i],?_,hit1,hm1,by simp,zKV hborn hi,?_⟩
  ·simp only [go_sem,Nat.reduceEqDiff,reduceCtorEq]
  ·simp only [go_sem,Nat.reduceEqDiff,reduceCtorEq]
  rw [zAn l hi]
  have hcall:=(hy (seen.toList.map fun i=>[Value.int .i64 (l.getD i default).1]) [Value.int .i64 (l.getD i default).1] Hi ?_ hinv).frame hle1
  rotate_left
  ·refine⟨((List.range l.length).filter fun j=>!(seen.push i).contains j).map fun i=>[Value.int .i64 (l.getD i default).1],?_⟩
   rw [zHU,← List.map_cons (f:=fun i=>[Value.int .i64 (l.getD i default).1]),← List.map_append]
   refine List.Perm.map _ ((List.perm_ext_iff_of_nodup ?_ List.nodup_range).2 fun j=>?_)
   ·rw [List.nodup_append]
    refine⟨hnd,List.nodup_cons.2 ⟨fun hx=>?_,List.nodup_range.filter _⟩,fun a ha b hb=>?_⟩
    ·have:=(List.mem_filter.1 hx).2
     simp at this
    ·rintro rfl
     rcases List.mem_cons.1 hb with rfl | hb
     ·exact hni ha
     ·have:=(List.mem_filter.1 hb).2
      rw [pF,zBC.2 ha] at this
      simp at this
   ·rw [List.mem_range,List.mem_append,List.mem_cons,List.mem_filter,List.mem_range]
    constructor
    ·rintro(h | rfl | h)
     ·exact hlt j h
     ·exact hil
     ·exact h.1
    ·intro hj
     by_cases hc:(seen.push i).contains j=true
     ·rw [pF,Bool.or_eq_true] at hc
      rcases hc with hc | hc
      ·exact .inl (zBC.1 hc)
      ·exact .inr (.inl (by simpa using hc))
     ·exact .inr (.inr ⟨hj,by simpa using hc⟩)
  simp only [go_sem,Nat.reduceLT,Nat.reduceEqDiff,Nat.reduceBEq,Nat.reduceAdd,reduceCtorEq]
  refine wU (by simp only [go_sem,Nat.reduceEqDiff,reduceCtorEq]) (by simp only [go_sem,Nat.reduceEqDiff,reduceCtorEq]) hcall ?_
  rintro w H2 ⟨Hj,hpost,hjle,hfr⟩
  have hitj:=hfr it _ hit1 hin
  rcases hpost with⟨rfl,hinv2⟩ | ⟨rfl,hstop⟩
  ·simp only [go_sem,Nat.reduceEqDiff,Nat.reduceBEq,reduceCtorEq]
   refine⟨zCE l.length (seen.push i),zHJ hil hs,seen.push i,Hj,rfl,hjle,hitj.1,hitj.2,?_,?_,?_⟩
   ·rw [Array.toList_push,List.map_append]; exact hinv2
   ·rw [Array.toList_push,List.nodup_append]
    refine⟨hnd,by simp,fun a ha b hb=>?_⟩
    rintro rfl
    simp only [List.mem_singleton] at hb
    subst hb; exact hni ha
   ·rw [Array.toList_push]
    intro j hj
    rcases List.mem_append.1 hj with hj | hj
    ·exact hlt j hj
    ·simp only [List.mem_singleton] at hj
     subst hj; exact hil
  ·simp only [go_sem,Nat.reduceEqDiff,Nat.reduceBEq,reduceCtorEq]
   exact⟨Hj,hjle,.inr ⟨_,hstop⟩⟩
end Go.SL
/- Contracts: the keys of a map, collected and sorted. -/
namespace Go.SL
open Go
variable {E:Env} {H:Hp}
theorem yTP {H' H3 : Hp} {bs : Nat} {p : xD} {ob : Option Nat} (hle : H.le H') (hbs : H' bs = none) (hob : ∀ b, ob = some b → H b = none) (hkeep : ∀ c o, (H'.put bs p) c = some o → some c ≠ ob → H3 c = some o) : H.le H3 :=
 fun c o hc=>hkeep c o (zM hbs _ _ _ (hle _ _ hc)) (fun e=>by rw [hob c e.symm] at hc; cases hc)
theorem yRc {H' : Hp} {bs b' : Nat} {p : xD} {ob : Option Nat} (hle : H.le H') (hbs : H' bs = none) (hob : ∀ b, ob = some b → H b = none) (h : (H'.put bs p) b' = none ∨ some b' = ob) : H b' = none := by
 rcases h with h | h
 ·cases hq:H b' with
  | none=>rfl
  | some o=>rw [zM hbs _ _ _ (hle _ _ hq)] at h; cases h
 ·exact hob b' h.symm
theorem yXG (h3 : yZ E) (m : Nat) : Fn E.P (E.fn 156) [.map (some m)] H (fun u H' => ∃ b, H b = none ∧ u = .func (.func (E.fn 172)) #[] #[.pointer (some ⟨b, 0, none⟩)] ∧ H' = H.put b (.row [.map (some m)] 1 true)) := by
 refine Fn.of_vks h3.c156 (by simp [zMA]) ?_
 simp only [zMA,yDa,zWh]
 simp only [go_sem,Nat.reduceEqDiff,Nat.reduceBEq,reduceCtorEq]
 intro b hb
 exact⟨b,hb,rfl,rfl⟩
theorem yQe {l : List (Int × Bool)} {xs : List (List Value)} (h : xs.Perm (jS l)) : ∃ ns : List Int, xs = ns.map (fun n => [Value.int .i64 n]) ∧ ns.Perm (l.map (·.1)) := by
 refine⟨xs.map fun v=>intOf (v.getD 0 undef),?_,?_⟩
 ·rw [List.map_map]
  have : ∀ x ∈ xs, x = ((fun n => [Value.int .i64 n]) ∘ fun v => intOf (v.getD 0 undef)) x := by
   intro x hx
   obtain⟨e,_,rfl⟩:=List.mem_map.1 (h.mem_iff.1 hx)
   rfl
  exact(List.map_congr_left fun x hx=>(this x hx).symm).trans (List.map_id' xs) |>.symm
 ·have:=h.map fun v=>intOf (v.getD 0 undef)
  have e : (jS l).map (fun v => intOf (v.getD 0 undef)) = l.map (·.1) := by
   unfold jS
   rw [List.map_map]; rfl
  rw [e] at this
  exact this
set_option maxHeartbeats 1000000 in
theorem yWT (h3 : yZ E) {f : Value} {l : List (Int × Bool)} (hf : zGk f) (hI : Iter E f H (fun xs => xs.Perm (jS l))) (hn : l.length ≤ 1000000) :
  Fn E.P (E.fn 161) [.slice none 0 0,f] H (fun u H'=>∃ ns ob,ns.Perm (l.map (·.1))∧xS H' 1 u ns.length (wH ns) ob∧H.le H'∧∀ b,ob=some b→H b=none):=by
 refine Fn.of_vks h3.c161 (by simp [zMV]) ?_
 simp only [zMV,yAm,yBU,zXB,zWS,zTF]
 simp only [go_sem,Nat.reduceEqDiff,Nat.reduceBEq,reduceCtorEq]
 intro b2 hb2
 have hperm_len:∀ {xs:List (List Value)},xs.Perm (jS l)→xs.length=l.length:=fun h=>by rw [h.length_eq]; simp [jS]
 refine zAz H (fun xs=>xs.Perm (jS l)) (fun pre H'=>H.le H'∧∃ u ob,H' b2=some (.row [u] 1 true)∧xS H' 1 u pre.length (fun i=>pre.getD i []) ob∧(∀ b,ob=some b→H b=none∧b≠b2)∧∀ i,i < pre.length→(pre.getD i []).length=1) ?_ ?_ ?_ ?_ ?_ ?_ ?_ ?_
 ·simp only [go_sem,Nat.reduceEqDiff]
 ·simp only [go_sem,Nat.reduceEqDiff]; exact hf
 ·simp only [go_sem,Nat.reduceEqDiff]; exact hI
 ·intro xs hxs x hx
  obtain⟨e,_,rfl⟩:=List.mem_map.1 (hxs.mem_iff.1 hx)
  rfl
 ·exact⟨zM hb2 _,_,none,Hp.put_same ..,⟨rfl,rfl⟩,(fun b hb=>by cases hb),(fun i hi=>by cases hi)⟩
 ·intro pre H' h
  exact h.1
 ·rintro pre x H' ⟨suf,hS⟩ ⟨hle,u,ob,h2,hown,hob,hlen⟩
  have hxm:x∈jS l:=hS.mem_iff.1 (List.mem_append_right _ List.mem_cons_self)
  obtain⟨e,_,rfl⟩:=List.mem_map.1 hxm
  have hpl:=hperm_len hS
  rw [List.length_append,List.length_cons] at hpl
  obtain⟨ua,uc,hua⟩:=hown.sl
  subst hua
  simp only [h2,go_sem,Nat.reduceEqDiff,Nat.reduceBEq]
  intro bs hbs
  have hbs2:b2≠bs:=by rintro rfl; rw [h2] at hbs; cases hbs
  refine zAj (n:=pre.length) (row:=fun i=>pre.getD i []) (row':=fun i=>(pre ++ [[Value.int .i64 e.1]]).getD i []) (cells:=[.int .i64 e.1]) ?_ ?_ ?_ ?_ (Hp.put_same ..) rfl rfl (hown.put hbs) hlen ?_ ?_ (by omega) (by omega) ?_
  ·simp only [go_sem,Nat.reduceEqDiff]
  ·simp only [go_sem,Nat.reduceEqDiff]
  ·simp only [go_sem,Nat.reduceEqDiff]
  ·simp only [go_sem,Nat.reduceEqDiff]
  ·intro i hi
   simp [List.getElem?_append_left hi]
  ·simp
  intro v' H3 b' hO3 hkeep hb'
  obtain⟨va,vc,hv'⟩:=hO3.sl
  subst hv'
  have hob1:∀ b,ob=some b→H b=none:=fun b hb=>(hob b hb).1
  have h23:=hkeep b2 _ (by rw [Hp.put_ne _ _ hbs2]; exact h2) (fun e=>(hob b2 e.symm).2 rfl)
  have hle3:=yTP hle hbs hob1 hkeep
  have hnew:=yRc hle hbs hob1 hb'
  have hb2' : b' ≠ b2 := by
   rintro rfl
   rcases hb' with hx | hx
   ·rw [Hp.put_ne _ _ hbs2,h2] at hx; cases hx
   ·exact(hob b' hx.symm).2 rfl
  simp only [h23,go_sem,Nat.reduceEqDiff,Nat.reduceBEq]
  refine⟨zI hle3 hb2 _,_,some b',Hp.put_same ..,?_,?_,?_⟩
  ·rw [List.length_append]
   exact hO3.keep fun b hb=>by cases hb; exact Hp.put_ne _ _ hb2'
  ·intro b hb
   cases hb
   exact⟨hnew,hb2'⟩
  ·rw [List.length_append]
   intro i hi
   by_cases e2:i < pre.length
   ·have:(pre ++ [[Value.int .i64 e.1]]).getD i []=pre.getD i []:=by simp [List.getElem?_append_left e2]
    rw [this]; exact hlen i e2
   ·have:i=pre.length:=by simp at hi; omega
    subst this
    simp
 ·rintro xs H' hxs ⟨hle,u,ob,h2,hown,hob,hlen⟩
  obtain⟨ns,hns,hp⟩:=yQe hxs
  simp only [h2,go_sem,Nat.reduceEqDiff,Nat.reduceBEq]
  refine⟨ns,ob,hp,?_,hle,fun b hb=>(hob b hb).1⟩
  have hl:xs.length=ns.length:=by rw [hns]; simp
  rw [← hl]
  refine hown.row_congr fun i hi=>?_
  subst hns
  have hi':i < ns.length:=by omega
  simp [wH,hi']
theorem yWJ (h3 : yZ E) {f : Value} {l : List (Int × Bool)} (hf : zGk f) (_h1 : yW f = true) (hI : Iter E f H (fun xs => xs.Perm (jS l))) (hn : l.length ≤ 1000000) :
  Fn E.P (E.fn 159) [f] H (fun u H'=>∃ ns ob,ns.Perm (l.map (·.1))∧xS H' 1 u ns.length (wH ns) ob∧H.le H'∧∀ b,ob=some b→H b=none):=by
 refine Fn.of_vks h3.c159 (by simp [zMB]) ?_
 simp only [zMB,yCe,zWO]
 simp only [go_sem,Nat.reduceBEq,reduceCtorEq]
 refine zP (by simp only [go_sem,reduceCtorEq]) (yWT h3 hf hI hn) ?_
 rintro u H' ⟨ns,ob,hp,hown,hle,hnew⟩
 simp only [go_sem,Nat.reduceEqDiff,Nat.reduceBEq,reduceCtorEq]
 exact⟨ns,ob,hp,hown,hle,hnew⟩
def zFq (E : Env) (srt : List Int → List Int) (N : Nat) : Prop := (∀ l, (srt l).length = l.length) ∧ ∀ (H : Hp) (b cap capc : Nat) (l : List Int), l.length ≤ N → H b = some (.row (flat l.length (wH l)) capc true) →
 Fn E.P (E.fn 160) [.slice (some ⟨b,0,none⟩) l.length cap] H (fun _ H'=>H'=H.put b (.row (flat l.length (wH (srt l))) capc true))
theorem zPf (hE : zV E) (h2 : wC E) (h3 : yZ E) (L4 : zJK E) : zFq E (fun l => xJ ltInt l.length l) 12 :=
 ⟨fun _=>vC _ _ _,fun _ _ _ _ l hl hb=>yWk hE h2 h3 L4 l hl hb⟩
theorem yYd (hE : zV E) (h2 : wC E) (h3 : yZ E) {srt : List Int → List Int} {N : Nat} (hS : zFq E srt N) (hN : N ≤ 1000000) {f : Value} {l : List (Int × Bool)} (hf : zGk f) (h1 : yW f = true) (hI : Iter E f H (fun xs => xs.Perm (jS l))) (hn : l.length ≤ N) :
  Fn E.P (E.fn 157) [f] H (fun u H'=>∃ ns,ns.Perm (l.map (·.1))∧xE H' u (srt ns)∧H.le H'):=by
 refine Fn.of_vks h3.c157 (by simp [zMG]) ?_
 simp only [zMG,zTP,yEn,zTI,zUd]
 simp only [go_sem,Nat.reduceBEq,reduceCtorEq]
 refine zP (by simp only [go_sem,reduceCtorEq]) (yWJ h3 hf h1 hI (by omega)) ?_
 rintro u H1 ⟨ns,ob,hp,hown,hle,hnew⟩
 have hlen:ns.length=l.length:=by rw [hp.length_eq]; simp
 cases ob with
 | none =>
  obtain⟨rfl,h0⟩:=hown
  simp only [go_sem,Nat.reduceEqDiff,Nat.reduceBEq,reduceCtorEq]
  refine zP (by simp only [go_sem,Nat.reduceEqDiff]) (yVW hE h2 h3) ?_
  rintro w H2 rfl
  simp only [go_sem,Nat.reduceEqDiff,Nat.reduceBEq]
  refine⟨ns,hp,?_,hle⟩
  have:srt ns = []:=List.length_eq_zero_iff.1 (by rw [hS.1,h0])
  rw [this]
  exact zG.nil
 | some b =>
  obtain⟨cap,rfl,hb⟩:=hown
  simp only [go_sem,Nat.reduceEqDiff,Nat.reduceBEq,reduceCtorEq]
  refine zP (by simp only [go_sem,Nat.reduceEqDiff]) (hS.2 H1 b cap _ ns (by omega) hb) ?_
  rintro w H2 rfl
  simp only [go_sem,Nat.reduceEqDiff,Nat.reduceBEq]
  refine⟨ns,hp,?_,zI hle (hnew b rfl) _⟩
  have hsl:(srt ns).length=ns.length:=hS.1 ns
  unfold xE
  rw [hsl]
  exact zG.ofRow (fun _ _=>rfl) (Hp.put_same ..)
end Go.SL
/- Contracts: the moments of a history. -/
namespace Go.SL
open Go
variable {E:Env} {H:Hp}
def zFK (e t:Int) (M:List (Int × Bool)):List (Int × Bool):=if decide (t≥0) && decide (t≤e) then xU t true M else M
def zBX (e : Int) (ts : List Int) (M : List (Int × Bool)) : Nat → List (Int × Bool)
 | 0=>M
 | k + 1=>zFK e (ts.getD k 0) (zBX e ts M k)
def zCg (e:Int) (ts:List Int) (M:List (Int × Bool)):List (Int × Bool):=zBX e ts M ts.length
def zDZ (vh vc vd vi:Value) (h:yA):List Value:=[vh,vc,S h.aname,.int .i64 h.atype,.int .i64 h.alife,vd,vi,.int .i64 h.drift,.int .i64 h.end_]
set_option maxHeartbeats 1000000 in
theorem yZp (h3 : yZ E) {b1 b6 m c1 c6 : Nat} {w1 w6 : Bool} {vh vc vd vi v : Value} {h : yA} {ts : List Int} {M : List (Int × Bool)} (hb1 : H b1 = some (.row (zDZ vh vc vd vi h) c1 w1)) (hb6 : H b6 = some (.row [.map (some m)] c6 w6)) (hM : zAu H m M)
  (hts:xE H v ts) (hn:ts.length≤1000000):Fn E.P (E.fn 155) [v,.pointer (some ⟨b1,0,none⟩),.pointer (some ⟨b6,0,none⟩)] H (fun _ H'=>H'=H.put m (.obj (.map (wG (zCg h.end_ ts M)) (zCg h.end_ ts M).length))):=by
 have hMm:H m=some (.obj (.map (wG M) M.length)):=hM
 have n1:b1≠m:=by rintro rfl; rw [hMm] at hb1; cases hb1
 have n6:b6≠m:=by rintro rfl; rw [hMm] at hb6; cases hb6
 obtain⟨a,cap,rfl,hsp,hr⟩:=hts
 unfold zDZ at hb1
 refine Fn.of_vks h3.c155 (by simp [zMS]) ?_
 simp only [zMS,zUy,zXu,zVG,zUt,zTR,zXH]
 simp only [go_sem,Nat.reduceEqDiff,Nat.reduceBEq,Nat.reduceAdd,reduceCtorEq]
 refine yP ts.length 0 (fun k fr' H' => fr' = [(1, ⟨true, .val (.pointer (some ⟨b1, 0, none⟩))⟩), (2, ⟨true, .val (.pointer (some ⟨b6, 0, none⟩))⟩), (6, ⟨true, .val (.slice a ts.length cap)⟩), (7, ⟨true, .val (.int .i64 ts.length)⟩), (8, ⟨true, .val (.int .i64 k)⟩)] ∧
  H'=H.put m (.obj (.map (wG (zBX h.end_ ts M k)) (zBX h.end_ ts M k).length))) (Nat.zero_le _) ⟨rfl,(zDT hMm).symm⟩ ?_
 rintro k fr' H' hk ⟨rfl,hH'⟩
 have e1:H' b1=some (.row [vh,vc,S h.aname,.int .i64 h.atype,.int .i64 h.alife,vd,vi,.int .i64 h.drift,.int .i64 h.end_] c1 w1):=by rw [hH',Hp.put_ne _ _ n1]; exact hb1
 have e6:H' b6=some (.row [.map (some m)] c6 w6):=by rw [hH',Hp.put_ne _ _ n6]; exact hb6
 have em:zAu H' m (zBX h.end_ ts M k):=by unfold zAu; rw [hH',Hp.put_same]
 by_cases hlt:k < ts.length
 ·have hd:decide ((k:Int) < (ts.length:Int))=true:=by simpa using hlt
  obtain⟨b,o,vs,c,wr,ha,hb,hi⟩:=hr (by omega)
  subst ha
  have nb:b≠m:=by rintro rfl; rw [hMm] at hb; cases hb
  have hb':H' b=some (.row vs c wr):=by rw [hH',Hp.put_ne _ _ nb]; exact hb
  have hi1:=(hi k hlt).1
  have hi2:=zH (hi k hlt).2 (j:=0) (by omega)
  simp only [wH,List.getD_cons_zero,Nat.add_zero,Nat.mul_one] at hi2
  have hsucc:zBX h.end_ ts M (k + 1)=zFK h.end_ (ts.getD k 0) (zBX h.end_ ts M k):=rfl
  obtain⟨t,ht⟩:∃ t,t=ts.getD k 0:=⟨_,rfl⟩
  rw [← ht] at hi2 hsucc
  have hks:IntKind.i64.wrap ((k:Int) + 1)=((k + 1:Nat):Int):=zQ (by omega)
  simp only [hd,hb',hi2,e1,Nat.mul_one,go_sem,Nat.reduceEqDiff,Nat.reduceBEq,Nat.reduceAdd,zC]
  rw [Nat.mul_one] at hi1
  refine⟨⟨by omega,by omega⟩,by omega,?_⟩
  unfold zFK at hsucc
  cases hq:(decide (t≥0) && decide (t≤h.end_))
  ·rw [hq,if_neg (by simp)] at hsucc
   refine⟨fun h=>⟨h,h⟩,fun h=>?_,fun _=>?_⟩
   ·cases h
   ·exact⟨hlt,hks,by rw [hsucc]; exact hH'⟩
  ·rw [hq,if_pos rfl] at hsucc
   refine⟨fun h=>⟨h,h⟩,fun _=>?_,fun h=>?_⟩
   ·simp only [e6,go_sem]
    refine yQF t true ?_ ?_ ?_ ?_ ?_ ?_ em ?_
    ·simp only [go_sem,Nat.reduceEqDiff]
    ·simp only [go_sem,Nat.reduceEqDiff]
    ·simp only [go_sem]
    ·simp only [go_sem,Nat.reduceEqDiff]
    ·simp only [go_sem,Nat.reduceEqDiff]
    ·simp only [go_sem]
    simp only [go_sem,Nat.reduceEqDiff,Nat.reduceBEq,zC]
    exact⟨hlt,hks,by rw [hsucc,hH',zHq]⟩
   ·cases h
 ·have hd:decide ((k:Int) < (ts.length:Int))=false:=by simpa using hlt
  have:k=ts.length:=by omega
  subst this
  simp only [hd,go_sem,Nat.reduceEqDiff,Nat.reduceBEq,zC]
  exact hH'
theorem yFu {H : Hp} {bs c : Nat} {ts : List Int} (hb : H bs = some (.row (ts.map fun n => Value.int .i64 n) c true)) : xE H (.slice (some ⟨bs, 0, none⟩) ts.length ts.length) ts := by
 refine zG.lit hb fun i hi=>⟨by simp; omega,?_⟩
 rw [Nat.mul_one,List.drop_eq_getElem_cons (by simpa using hi)]
 simp [wH,hi]
theorem yFf (h3 : yZ E) {K H' : Hp} {b1 b6 m c1 c6 bs : Nat} {w1 w6 : Bool} {vh vc vd vi : Value} {h : yA} {M : List (Int × Bool)} (k1 : K b1 = some (.row (zDZ vh vc vd vi h) c1 w1)) (k6 : K b6 = some (.row [.map (some m)] c6 w6)) (km : K m = none)
  (hle:K.le H') (hM:zAu H' m M) (hbs:H' bs=none) (ts:List Int) (hn:ts.length≤1000000) :
  FnV E (.func (.func (E.fn 155)) #[] #[.pointer (some ⟨b1,0,none⟩),.pointer (some ⟨b6,0,none⟩)]) [.slice (some ⟨bs,0,none⟩) ts.length ts.length] (H'.put bs (.row (ts.map fun n=>Value.int .i64 n) ts.length true)) (fun _ H''=>K.le H''∧zAu H'' m (zCg h.end_ ts M)):=by
 have hMm:H' m=some (.obj (.map (wG M) M.length)):=hM
 have nb:m≠bs:=by rintro rfl; rw [hMm] at hbs; cases hbs
 have hle1:K.le (H'.put bs (.row (ts.map fun n=>Value.int .i64 n) ts.length true)):=hle.trans (zM hbs _)
 have hM1:zAu (H'.put bs (.row (ts.map fun n=>Value.int .i64 n) ts.length true)) m M:=by unfold zAu; rw [Hp.put_ne _ _ nb]; exact hM
 refine wE h3.e155 ?_
 refine Fn.mono (yZp h3 (hle1 _ _ k1) (hle1 _ _ k6) hM1 (yFu (Hp.put_same ..)) hn) ?_
 rintro u H'' rfl
 exact⟨zI hle1 km _,Hp.put_same ..⟩
def zCV (e : Int) (cs : List yE) (M : List (Int × Bool)) : Nat → List (Int × Bool)
 | 0=>M
 | k + 1=>zCg e [(cs.getD k default).from_,(cs.getD k default).till] (zCV e cs M k)
def kZ (e : Int) (l : List zN) (M : List (Int × Bool)) : Nat → List (Int × Bool)
 | 0=>M
 | k + 1=>zCg e [(l.getD k default).from_,(l.getD k default).till] (kZ e l M k)
def zDX (d:Int) (g:kT):List Int:=[IntKind.i64.wrap (g.from_ + d),IntKind.i64.wrap (IntKind.i64.wrap (g.till - d) + 1),IntKind.i64.wrap (IntKind.i64.wrap (g.till + d) + 1)]
def zKb (e d:Int) (s:zF) (M:List (Int × Bool)):List (Int × Bool):=if decide ((s.sigs.length:Int) > 0) then zCg e (zDX d (s.sigs.getD 0 default)) M else M
def xY (d:Int) (x:Bs × (zF × List zN)):List zN:=zEw d x.2.1 (yC x.2.2)
def zGF (h : yA) (x : Bs × (zF × List zN)) (M : List (Int × Bool)) : List (Int × Bool) :=
 zKb h.end_ h.drift x.2.1 (kZ h.end_ (xY h.drift x) (kZ h.end_ (yC x.2.2) M (yC x.2.2).length) (xY h.drift x).length)
def zBj (h : yA) (A : yU) (M : List (Int × Bool)) : Nat → List (Int × Bool)
 | 0=>M
 | k + 1=>zGF h (A.getD k default) (zBj h A M k)
def moments (h:yA):List (Int × Bool):=zBj h (uH h) (zCV h.end_ h.copies [] h.copies.length) (uH h).length
set_option maxRecDepth 8000 in
set_option maxHeartbeats 8000000 in
theorem yGN (hE : zV E) (h2 : wC E) (h3 : yZ E) (L : zEQ E) {srt : List Int → List Int} {N : Nat} (hS : zFq E srt N) (hN : N ≤ 1000000) (hB : qT E H) (hB2 : qC E H) {v : Value} {h : yA} (hh : vS H v h) (hn : h.copies.length ≤ 12)
  (hsz:yO h=true→zME h.copies) (hzo:yO h=true→zDv h) (hml:yO h=true→(moments h).length≤N) :
  Fn E.P (E.fn 158) [v] H (fun u H' => H.le H' ∧ (yO h = false → u = .tuple #[.slice none 0 0, .int .i64 1]) ∧
   (yO h=true→∃ w ns,u = .tuple #[w,.int .i64 0]∧ns.Perm ((moments h).map (·.1))∧xE H' w (srt ns))):=by
 have hh0:=hh
 obtain⟨vh,vz,vd,vi,rfl,g1,g2,g3,g5⟩:=hh
 have o1:=zG.one g1
 have o2:=g2.one
 have o3:=zG.one g3
 have o5:=zG.one g5
 obtain⟨z,⟨a,cap,rfl,hs,hr⟩,hdeep⟩:=g2
 refine Fn.of_vks h3.c158 (by simp [zNv]) ?_
 simp only [zNv,zXA,zYV,yDZ,zTX,yCo,zXF,zYT,zTk,yAM,zOY,zRv,zPz,zRF,zOU,zOT,zQj,zPl,zPD]
 simp only [go_sem,Nat.reduceEqDiff,Nat.reduceBEq,Nat.reduceAdd,reduceCtorEq]
 intro b1 hb1
 obtain⟨HA,hHA⟩:∃ y,y=H.put b1 (.row [vh,.slice a h.copies.length cap,S h.aname,.int .i64 h.atype,.int .i64 h.alife,vd,vi,.int .i64 h.drift,.int .i64 h.end_] 9 true):=⟨_,rfl⟩
 have hA1:HA b1=some (.row (zDZ vh (.slice a h.copies.length cap) vd vi h) 9 true):=by rw [hHA,Hp.put_same]; rfl
 have hleA:H.le HA:=by rw [hHA]; exact zM hb1 _
 have hA1':=hA1
 unfold zDZ at hA1'
 have hall:=yTk hE h2 h3 L (hB.mono hleA) (hB2.mono hleA) (hh0.mono hleA) hn hsz hzo
 rw [← hHA]
 simp only [hA1',go_sem,Nat.reduceAdd]
 refine zP (by simp only [go_sem,Nat.reduceEqDiff]) hall ?_
 rintro u H2 ⟨hle2,hbad,hpost⟩
 cases hv:yO h
 ·rw [hbad hv]
  simp only [go_sem,Nat.reduceLT,Nat.reduceEqDiff,Nat.reduceBEq,Nat.reduceAdd,zC,bne,Int.reduceBEq]
  exact hleA.trans hle2
 obtain⟨vo,dv,gv,fv,sv,hw,hsl2,hdat⟩:=hpost hv
 subst hw
 have hzo':=hzo hv
 have hel:=zDV hzo' (wA h).length (Nat.le_refl _)
 have hAl:=zCQ hzo' (wA h).length (Nat.le_refl _)
 have hmm:=hml hv
 unfold moments at hmm ⊢
 obtain⟨A,hAA⟩:∃ A,A=uH h:=⟨_,rfl⟩
 change ∀ e∈uH h,_ at hel
 change (uH h).length≤_ at hAl
 rw [← hAA] at hsl2 hdat hel hAl hmm ⊢
 obtain⟨oa,oc,hvo⟩:=hsl2.sl
 subst hvo
 simp only [Hp.put_same,go_sem,Nat.reduceLT,Nat.reduceEqDiff,Nat.reduceBEq,Nat.reduceAdd,zC,bne]
 intro m hm b6 hb6
 obtain⟨HB,hHB⟩:∃ y,y=(H2.put m (.obj (.map #[] 0))).put b6 (.row [.map (some m)] 1 true):=⟨_,rfl⟩
 rw [← hHB]
 have n6m:b6≠m:=by rintro rfl; rw [Hp.put_same] at hb6; cases hb6
 have hB6:HB b6=some (.row [.map (some m)] 1 true):=by rw [hHB,Hp.put_same]
 have hBm:zAu HB m []:=by unfold zAu; rw [hHB,Hp.put_ne _ _ (Ne.symm n6m),Hp.put_same]; rfl
 have hle2B:H2.le HB:=by rw [hHB]; exact(zM hm _).trans (zM hb6 _)
 obtain⟨K,hK⟩:∃ y,y=HB.del m:=⟨_,rfl⟩
 have km:K m=none:=by rw [hK,Hp.del_same]
 have kB:K.le HB:=by rw [hK]; exact yNU _ _
 have k2:H2.le K:=by rw [hK]; exact zIW hm hle2B
 have k6:K b6=some (.row [.map (some m)] 1 true):=by rw [hK,Hp.del_ne _ n6m]; exact hB6
 have k1:=k2 _ _ (hle2 _ _ hA1)
 have kH:=(hleA.trans hle2).trans k2
 have kB1:=kB _ _ k1
 unfold zDZ at kB1
 simp only [zXa,kB1,go_sem,Nat.reduceLeDiff,Nat.reduceEqDiff,Nat.reduceBEq,Nat.reduceAdd]
 refine yP h.copies.length 0 (fun k fr' H' => fr' = [(1, ⟨true, .val (.pointer (some ⟨b1, 0, none⟩))⟩), (4, ⟨true, .val (.slice oa A.length oc)⟩), (6, ⟨true, .val (.pointer (some ⟨b6, 0, none⟩))⟩), (7, ⟨true, .val (.func (.func (E.fn 155)) #[] #[.pointer (some ⟨b1, 0, none⟩), .pointer (some ⟨b6, 0, none⟩)])⟩), (28, ⟨true, .val (.slice a h.copies.length cap)⟩), (29, ⟨true, .val (.int .i64 h.copies.length)⟩), (30, ⟨true, .val (.int .i64 k)⟩)] ∧
  K.le H'∧zAu H' m (zCV h.end_ h.copies [] k)) (Nat.zero_le _) ⟨rfl,kB,hBm⟩ ?_
 rintro k fr' H' hk ⟨rfl,hle,hM⟩
 by_cases hlt:k < h.copies.length
 ·have hd:decide ((k:Int) < (h.copies.length:Int))=true:=by simpa using hlt
  obtain⟨b,o,vs,c,wr,ha,hb,hi⟩:=hr (by omega)
  subst ha
  have hb':=hle _ _ (kH _ _ hb)
  have hi1:=(hi k hlt).1
  have hi2:=(hi k hlt).2
  have hz1:yW (z k)=true:=by obtain⟨d,g,h,_⟩:=hdeep k hlt; exact zG.one h
  have hsucc:zCV h.end_ h.copies [] (k + 1)=zCg h.end_ [(h.copies.getD k default).from_,(h.copies.getD k default).till] (zCV h.end_ h.copies [] k):=rfl
  have hks:IntKind.i64.wrap ((k:Int) + 1)=((k + 1:Nat):Int):=zQ (by omega)
  simp only [hd,hb',hi2,zAf,hz1,go_sem,Nat.reduceLeDiff,Nat.reduceEqDiff,Nat.reduceBEq,Nat.reduceAdd,zC]
  refine⟨⟨by omega,by omega⟩,hi1,?_⟩
  intro bs hbs
  have hadd:=yFf h3 k1 k6 km hle hM hbs [(h.copies.getD k default).from_,(h.copies.getD k default).till] (by simp)
  refine wU (by simp only [go_sem,Nat.reduceEqDiff]) (by simp only [go_sem,Nat.reduceEqDiff]) hadd ?_
  rintro w H3 ⟨hle3,hM3⟩
  simp only [go_sem,Nat.reduceEqDiff,Nat.reduceBEq,zC]
  exact⟨hlt,hks,hle3,by rw [hsucc]; exact hM3⟩
 have hd:decide ((k:Int) < (h.copies.length:Int))=false:=by simpa using hlt
 have:k=h.copies.length:=by omega
 subst this
 simp only [hd,go_sem,Nat.reduceLeDiff,Nat.reduceEqDiff,Nat.reduceBEq,Nat.reduceAdd,zC]
 obtain⟨M0,hM0⟩:∃ y,y=zCV h.end_ h.copies [] h.copies.length:=⟨_,rfl⟩
 rw [← hM0] at hM hmm ⊢
 obtain⟨ab,acp,hsv2,_,hrow⟩:=hsl2
 cases hsv2
 refine yP A.length 0 (fun k fr' H'=>fr' = [(1,⟨true,.val (.pointer (some ⟨b1,0,none⟩))⟩),(6,⟨true,.val (.pointer (some ⟨b6,0,none⟩))⟩),(7,⟨true,.val (.func (.func (E.fn 155)) #[] #[.pointer (some ⟨b1,0,none⟩),.pointer (some ⟨b6,0,none⟩)])⟩),(42,⟨true,.val (.slice oa A.length oc)⟩),(43,⟨true,.val (.int .i64 A.length)⟩),(44,⟨true,.val (.int .i64 k)⟩)]∧K.le H'∧zAu H' m (zBj h A M0 k)) (Nat.zero_le _) ⟨rfl,hle,hM⟩ ?_
 rintro k fr' H' hk ⟨rfl,hle,hM⟩
 by_cases hlt:k < A.length
 ·have hd:decide ((k:Int) < (A.length:Int))=true:=by simpa using hlt
  obtain⟨b,o,vs,c,wr,ha,hb,hi⟩:=hrow (by omega)
  subst ha
  have hb':=hle _ _ (k2 _ _ hb)
  have hi1:=(hi k hlt).1
  have hi2:=(hi k hlt).2
  have hdk:=hdat k hlt
  have hek:=(hel _ (yY hlt)).num
  have hsucc:zBj h A M0 (k + 1)=zGF h (A.getD k default) (zBj h A M0 k):=rfl
  have hks:IntKind.i64.wrap ((k:Int) + 1)=((k + 1:Nat):Int):=zQ (by have:=hzo'.num; omega)
  obtain⟨x,hx⟩:∃ x,A.getD k default=x:=⟨_,rfl⟩
  rw [hx] at hdk hsucc hek
  obtain⟨MK,hMK⟩:∃ y,y=zBj h A M0 k:=⟨_,rfl⟩
  rw [← hMK] at hM hsucc
  obtain⟨hdd,hgg,hff,huu⟩:=hdk
  change wP H2 (sv k) (xY h.drift x) at huu
  have p1:=zG.one hdd
  have p2:=zG.one hgg
  have hnl:=kK x.2.2
  have hul : (xY h.drift x).length ≤ (yC x.2.2).length := by
   have:=kK ((yC x.2.2).map (zAC h.drift x.2.1))
   rw [List.length_map] at this
   exact this
  obtain⟨fa,fc,hfv,_,hfr⟩:=hff
  obtain⟨ua,uc,huv,_,hur⟩:=huu
  simp only [uA,kA,hx,hfv,huv] at hi2
  simp only [hd,hb',hi2,p1,p2,go_sem,Nat.reduceEqDiff,Nat.reduceBEq,Nat.reduceAdd,zC]
  refine⟨⟨by omega,by omega⟩,hi1,?_⟩
  simp only [zNL,go_sem,Nat.reduceLeDiff,Nat.reduceEqDiff,Nat.reduceBEq,Nat.reduceAdd]
  refine yP (yC x.2.2).length 0 (fun j fr' H' => fr' = [(1, ⟨true, .val (.pointer (some ⟨b1, 0, none⟩))⟩), (6, ⟨true, .val (.pointer (some ⟨b6, 0, none⟩))⟩), (7, ⟨true, .val (.func (.func (E.fn 155)) #[] #[.pointer (some ⟨b1, 0, none⟩), .pointer (some ⟨b6, 0, none⟩)])⟩), (11, ⟨true, .box [S x.1, S x.2.1.name, .int .i64 x.2.1.type, .int .i64 x.2.1.life, dv k, gv k, .slice fa (yC x.2.2).length fc, .slice ua (xY h.drift x).length uc]⟩), (42, ⟨true, .val (.slice (some ⟨b, o, none⟩) A.length oc)⟩), (43, ⟨true, .val (.int .i64 A.length)⟩), (44, ⟨true, .val (.int .i64 k)⟩), (49, ⟨true, .val (.slice fa (yC x.2.2).length fc)⟩), (50, ⟨true, .val (.int .i64 (yC x.2.2).length)⟩), (51, ⟨true, .val (.int .i64 j)⟩)] ∧
   K.le H'∧zAu H' m (kZ h.end_ (yC x.2.2) MK j)) (Nat.zero_le _) ⟨rfl,hle,hM⟩ ?_
  rintro j fr' HJ hj ⟨rfl,hleJ,hMJ⟩
  by_cases hltj:j < (yC x.2.2).length
  ·have hdj:decide ((j:Int) < ((yC x.2.2).length:Int))=true:=by simpa using hltj
   obtain⟨b2,o2,vs2,c2,wr2,ha2,hb2,hiw⟩:=hfr (by omega)
   subst ha2
   have hbj:=hleJ _ _ (k2 _ _ hb2)
   have hj1:=(hiw j hltj).1
   have hj2:=(hiw j hltj).2
   simp only [yN] at hj2
   have hsj:kZ h.end_ (yC x.2.2) MK (j + 1)=zCg h.end_ [((yC x.2.2).getD j default).from_,((yC x.2.2).getD j default).till] (kZ h.end_ (yC x.2.2) MK j):=rfl
   have hjs:IntKind.i64.wrap ((j:Int) + 1)=((j + 1:Nat):Int):=zQ (by omega)
   simp only [zQQ,zNx,hdj,hbj,hj2,go_sem,Nat.reduceLeDiff,Nat.reduceEqDiff,Nat.reduceBEq,Nat.reduceAdd,zC]
   refine⟨⟨by omega,by omega⟩,hj1,?_⟩
   intro bs hbs
   have hadd:=yFf h3 k1 k6 km hleJ hMJ hbs [((yC x.2.2).getD j default).from_,((yC x.2.2).getD j default).till] (by simp)
   refine wU (by simp only [go_sem,Nat.reduceEqDiff]) (by simp only [go_sem,Nat.reduceEqDiff]) hadd ?_
   rintro w H3 ⟨hle3,hM3⟩
   simp only [go_sem,Nat.reduceEqDiff,Nat.reduceBEq,zC]
   exact⟨hltj,hjs,hle3,by rw [hsj]; exact hM3⟩
  have hdj:decide ((j:Int) < ((yC x.2.2).length:Int))=false:=by simpa using hltj
  have:j=(yC x.2.2).length:=by omega
  subst this
  simp only [hdj,go_sem,Nat.reduceEqDiff,Nat.reduceBEq,zC]
  obtain⟨MF,hMF⟩:∃ y,y=kZ h.end_ (yC x.2.2) MK (yC x.2.2).length:=⟨_,rfl⟩
  rw [← hMF] at hMJ
  have hleJ1:=hleJ
  have hMJ1:=hMJ
  simp only [zQJ,go_sem,Nat.reduceEqDiff,Nat.reduceBEq,Nat.reduceAdd]
  refine yP (xY h.drift x).length 0 (fun j fr' H' => fr' = [(1, ⟨true, .val (.pointer (some ⟨b1, 0, none⟩))⟩), (6, ⟨true, .val (.pointer (some ⟨b6, 0, none⟩))⟩), (7, ⟨true, .val (.func (.func (E.fn 155)) #[] #[.pointer (some ⟨b1, 0, none⟩), .pointer (some ⟨b6, 0, none⟩)])⟩), (11, ⟨true, .box [S x.1, S x.2.1.name, .int .i64 x.2.1.type, .int .i64 x.2.1.life, dv k, gv k, .slice fa (yC x.2.2).length fc, .slice ua (xY h.drift x).length uc]⟩), (42, ⟨true, .val (.slice (some ⟨b, o, none⟩) A.length oc)⟩), (43, ⟨true, .val (.int .i64 A.length)⟩), (44, ⟨true, .val (.int .i64 k)⟩), (64, ⟨true, .val (.slice ua (xY h.drift x).length uc)⟩), (65, ⟨true, .val (.int .i64 (xY h.drift x).length)⟩), (66, ⟨true, .val (.int .i64 j)⟩)] ∧
   K.le H'∧zAu H' m (kZ h.end_ (xY h.drift x) MF j)) (Nat.zero_le _) ⟨rfl,hleJ1,hMJ1⟩ ?_
  rintro j fr' HJ hj ⟨rfl,hleJ,hMJ⟩
  by_cases hltj:j < (xY h.drift x).length
  ·have hdj:decide ((j:Int) < ((xY h.drift x).length:Int))=true:=by simpa using hltj
   obtain⟨b2,o2,vs2,c2,wr2,ha2,hb2,hiw⟩:=hur (by omega)
   subst ha2
   have hbj:=hleJ _ _ (k2 _ _ hb2)
   have hj1:=(hiw j hltj).1
   have hj2:=(hiw j hltj).2
   simp only [yN] at hj2
   have hsj:kZ h.end_ (xY h.drift x) MF (j + 1)=zCg h.end_ [((xY h.drift x).getD j default).from_,((xY h.drift x).getD j default).till] (kZ h.end_ (xY h.drift x) MF j):=rfl
   have hjs:IntKind.i64.wrap ((j:Int) + 1)=((j + 1:Nat):Int):=zQ (by omega)
   simp only [zRL,zRC,hdj,hbj,hj2,go_sem,Nat.reduceLeDiff,Nat.reduceEqDiff,Nat.reduceBEq,Nat.reduceAdd,zC]
   refine⟨⟨by omega,by omega⟩,hj1,?_⟩
   intro bs hbs
   have hadd:=yFf h3 k1 k6 km hleJ hMJ hbs [((xY h.drift x).getD j default).from_,((xY h.drift x).getD j default).till] (by simp)
   refine wU (by simp only [go_sem,Nat.reduceEqDiff]) (by simp only [go_sem,Nat.reduceEqDiff]) hadd ?_
   rintro w H3 ⟨hle3,hM3⟩
   simp only [go_sem,Nat.reduceEqDiff,Nat.reduceBEq,zC]
   exact⟨hltj,hjs,hle3,by rw [hsj]; exact hM3⟩
  have hdj:decide ((j:Int) < ((xY h.drift x).length:Int))=false:=by simpa using hltj
  have:j=(xY h.drift x).length:=by omega
  subst this
  simp only [hdj,go_sem,Nat.reduceEqDiff,Nat.reduceBEq,zC]
  obtain⟨MU,hMU⟩:∃ y,y=kZ h.end_ (xY h.drift x) MF (xY h.drift x).length:=⟨_,rfl⟩
  rw [← hMU] at hMJ
  have hME:zGF h x MK=zKb h.end_ h.drift x.2.1 MU:=by unfold zGF; rw [← hMF,← hMU]
  rw [hME] at hsucc
  unfold zKb at hsucc
  obtain⟨sa,sc,hgv,_,hgr⟩:=hgg
  cases hsg:decide (((x.2.1.sigs.length:Nat):Int) > 0)
  ·rw [hsg,if_neg (by simp)] at hsucc
   simp only [zIw,hgv,hsg,go_sem,Nat.reduceLeDiff,Nat.reduceEqDiff,Nat.reduceBEq,Nat.reduceAdd,zC]
   exact⟨hlt,hks,hleJ,by rw [hsucc]; exact hMJ⟩
  ·rw [hsg,if_pos rfl] at hsucc
   have hpos:0 < x.2.1.sigs.length:=by rw [decide_eq_true_eq] at hsg; omega
   obtain⟨b2,o2,vs2,c2,wr2,ha2,hb2,hi3⟩:=hgr hpos
   subst ha2
   have hbj:=hleJ _ _ (k2 _ _ hb2)
   have hj1:=(hi3 0 hpos).1
   have hj2:=(hi3 0 hpos).2
   have hB1:=hleJ _ _ k1
   unfold zDZ at hB1
   obtain⟨g,hgd⟩:∃ g,x.2.1.sigs.getD 0 default=g:=⟨_,rfl⟩
   simp only [zBi,hgd,Nat.zero_mul,Nat.add_zero] at hj2 hj1
   rw [hgd] at hsucc
   simp only [zIw,zQV,zNC,hgv,hsg,hbj,hj2,hB1,go_sem,Nat.reduceLeDiff,Nat.reduceEqDiff,Nat.reduceBEq,Nat.reduceAdd,Int.reduceToNat,Int.reduceLE,zC]
   refine⟨by omega,by omega,?_⟩
   intro bs hbs
   have hadd:=yFf h3 k1 k6 km hleJ hMJ hbs (zDX h.drift g) (by simp [zDX])
   refine wU (by simp only [go_sem,Nat.reduceEqDiff]) (by simp only [go_sem,Nat.reduceEqDiff]) hadd ?_
   rintro w H3 ⟨hle3,hM3⟩
   simp only [go_sem,Nat.reduceEqDiff,Nat.reduceBEq,zC]
   exact⟨hlt,hks,hle3,by rw [hsucc]; exact hM3⟩
 have hd:decide ((k:Int) < (A.length:Int))=false:=by simpa using hlt
 have:k=A.length:=by omega
 subst this
 have hB6':=hle _ _ k6
 simp only [hd,zOc,hB6',go_sem,Nat.reduceEqDiff,Nat.reduceBEq,Nat.reduceAdd,zC]
 refine zP (by simp only [go_sem,Nat.reduceEqDiff]) (yXG h3 m) ?_
 rintro u H3 ⟨bk,hbk,rfl,hH3⟩
 have hMm:H' m=some (.obj (.map (wG (zBj h A M0 A.length)) (zBj h A M0 A.length).length)):=hM
 have nbk:m≠bk:=by rintro rfl; rw [hMm] at hbk; cases hbk
 have hM3:zAu H3 m (zBj h A M0 A.length):=by unfold zAu; rw [hH3,Hp.put_ne _ _ nbk]; exact hMm
 have h3k:H3 bk=some (.row [.map (some m)] 1 true):=by rw [hH3,Hp.put_same]
 have hle3:H'.le H3:=by rw [hH3]; exact zM hbk _
 simp only [go_sem,Nat.reduceBEq]
 refine zP (by simp only [go_sem,Nat.reduceEqDiff]) (yYd hE h2 h3 hS hN (l:=zBj h A M0 A.length) trivial rfl (yWC h3 h3k hM3) hmm) ?_
 rintro w H4 ⟨ns,hp,hins,hle4⟩
 obtain⟨wa,wc,hw⟩:=zG.sl hins
 simp only [hw,go_sem,Nat.reduceEqDiff,Nat.reduceBEq]
 rw [hw] at hins
 exact⟨((kH.trans hle).trans hle3).trans hle4,_,ns,rfl,hp,hins⟩
end Go.SL
/- Sorting any number of integers: from the kit's walk to a contract. -/
namespace Go.SL
open Go
open Go.Sort (grow putRow Holds)
def zPe (P : Program) (f : FuncId) : Prop := ∀ (blk off cap : Nat) (zs : List Int) (w : World), Holds (Value.int .i64) w blk off zs.toArray → blk < w.heap.size → zs.length < 4611686018427387904 →
 Calls P f #[.slice (some ⟨blk,off,none⟩) zs.length cap] w fun e w'=>e = .returned (.tuple #[])∧∃ n os,w'=grow (putRow (Value.int .i64) (Sort.ahead w n) blk off (zs.mergeSort fun x y=>decide (x≤y)).toArray) os
def pZ (l:List Int):List Int:=l.mergeSort fun x y=>decide (x≤y)
theorem zXg (l : List Int) : flat l.length (wH l) = l.map fun n => Value.int .i64 n := by
 apply List.ext_getElem
 ·rw [xR (sz:=1) (fun i _=>rfl)]; simp
 ·intro i h1 h2
  have hi:i < l.length:=by simpa using h2
  have:=zKh l hi
  rw [List.getD_eq_getElem?_getD,List.getElem?_eq_getElem h1] at this
  simp only [Option.getD_some] at this
  rw [this]
  simp [hi]
theorem zLx (l:List Int):(pZ l).length=l.length:=List.length_mergeSort _
theorem zJA {l l' : List Int} (hl : l'.length = l.length) {c : Array Value} (hp : (l.map fun n => Value.int .i64 n) <+: c.toList) : (l'.map fun n => Value.int .i64 n) <+: (Sort.putCells (Value.int .i64) 0 l'.toArray c).toList := by
 have hcs : l.length ≤ c.size := by
  have:=hp.length_le
  rwa [List.length_map,Array.length_toList] at this
 rw [List.prefix_iff_eq_take]
 apply List.ext_getElem?
 intro i
 by_cases hi:i < l'.length
 ·have hic:i < c.size:=by omega
  have e1:(l'.map fun n=>Value.int .i64 n)[i]? = some (.int .i64 l'[i]):=by simp [hi]
  have e2:(Sort.putCells (Value.int .i64) 0 l'.toArray c)[i]? = some (.int .i64 l'[i]):=by simp [Sort.putCells,hic,hi]
  rw [e1,List.getElem?_take_of_lt (by simpa using hi),← e2,Array.getElem?_toList]
 ·rw [List.getElem?_eq_none (by simp; omega),List.getElem?_eq_none (by simp; omega)]
theorem yVp {P : Program} {f : FuncId} (h : zPe P f) {H : Hp} {b cap capc : Nat} {l : List Int} (hl : l.length ≤ 1000000) (hb : H b = some (.row (flat l.length (wH l)) capc true)) :
  Fn P f [.slice (some ⟨b,0,none⟩) l.length cap] H (fun _ H'=>H'=H.put b (.row (flat l.length (wH (pZ l))) capc true)):=by
 intro w hw
 obtain⟨c,T,fz,hc,hsz,hp,hf⟩:=hw _ _ hb
 rw [zXg] at hp
 have hcs : l.length ≤ c.size := by
  have:=hp.length_le
  rwa [List.length_map,Array.length_toList] at this
 have hlt:b < w.heap.size:=hw.lt hb
 have hH : Holds (Value.int .i64) w b 0 l.toArray := by
  intro j hj
  have hj':j < l.length:=by simpa using hj
  have e : c.toList[j]? = some (Value.int .i64 l[j]) := by
   obtain⟨t,ht⟩:=hp
   rw [← ht,List.getElem?_append_left (by simpa using hj')]
   simp [hj']
  rw [Array.getElem?_toList] at e
  have:=hf rfl j (by omega)
  refine⟨?_,?_⟩
  ·simp [World.cell?,hc,e,hj']
  ·simp [World.frozen?,hc]
   omega
 refine(h b 0 cap l w hH hlt (by omega)).mono ?_
 rintro e w' ⟨rfl,n,os,rfl⟩
 change ∃ v H',_
 obtain⟨c',hc'⟩:∃ y,y=Sort.putCells (Value.int .i64) 0 (pZ l).toArray c:=⟨_,rfl⟩
 have hsz':c'.size=capc:=by rw [hc',Sort.putCells,Array.size_mapIdx]; exact hsz
 have hnew : (grow (putRow (Value.int .i64) (Sort.ahead w n) b 0 (pZ l).toArray) os).heap[b]? = some (.cells c' T fz) := by
  rw [Sort.heap_grow_old _ _ (by simpa using hlt)]
  unfold putRow Sort.mapBlock
  simp only [Sort.heap_ahead,Array.getElem?_modify,hc,if_true,Option.map_some,Sort.onCells,hc']
 have hold : ∀ a, a < w.heap.size → a ≠ b → (grow (putRow (Value.int .i64) (Sort.ahead w n) b 0 (pZ l).toArray) os).heap[a]? = w.heap[a]? := by
  intro a ha hne
  rw [Sort.heap_grow_old _ _ (by simpa using ha)]
  unfold putRow Sort.mapBlock
  simp only [Sort.heap_ahead,Array.getElem?_modify,if_neg (Ne.symm hne)]
 have hms:(pZ l).length=l.length:=zLx l
 have hfl:=zXg (pZ l)
 rw [hms] at hfl
 have hok : (xD.row (flat l.length (wH (pZ l))) capc true).ok (some (.cells c' T fz)) :=
  ⟨c',T,fz,rfl,hsz',by rw [hfl,hc']; exact zJA hms hp,hf⟩
 refine⟨_,_,rfl,fun a o ha=>?_,⟨rfl,rfl,rfl,by simp,fun a ha hn=>hold a ha (by rintro rfl; rw [hb] at hn; cases hn),fun a o ha=>?_,fun a ha ht=>?_⟩,rfl⟩
 ·by_cases e:a=b
  ·subst e
   rw [Hp.put_same] at ha
   cases ha
   change xD.ok ((grow (putRow (Value.int .i64) (Sort.ahead w n) a 0 (pZ l).toArray) os).heap[a]?) _
   rw [hnew]; exact hok
  ·rw [Hp.put_ne _ _ e] at ha
   change xD.ok ((grow (putRow (Value.int .i64) (Sort.ahead w n) b 0 (pZ l).toArray) os).heap[a]?) _
   rw [hold a (hw.lt ha) e]; exact hw a o ha
 ·by_cases e:a=b
  ·subst e; left; rw [hb]; simp
  ·rw [Hp.put_ne _ _ e] at ha; left; rw [ha]; simp
 ·by_cases e:a=b
  ·subst e
   change shp ((grow (putRow (Value.int .i64) (Sort.ahead w n) a 0 (pZ l).toArray) os).heap[a]?)=_∧_
   rw [hnew,hc]
   refine⟨?_,by rw [Hp.put_same]; exact fun h=>h⟩
   show some (T,fz,c'.size)=some (T,fz,c.size)
   rw [hsz',hsz]
  ·change shp ((grow (putRow (Value.int .i64) (Sort.ahead w n) b 0 (pZ l).toArray) os).heap[a]?)=_∧_
   rw [hold a ha e,Hp.put_ne _ _ e]
   exact⟨rfl,ht⟩
theorem yJG {E : Env} (h : zPe E.P (E.fn 160)) : zFq E pZ 1000000 :=
 ⟨zLx,fun _ _ _ _ _ hl hb=>yVp h hl hb⟩
end Go.SL
