/- Contracts: sorting few numbers. -/
import Derived.Test.YthedjffolgeomaaGreatDoorANplQ
import Derived.Test.YthedjffolgeomaaGreatDoorANplV5
import Derived.Test.YthedjffolgeomaaGreatDoorANplO
import Derived.Test.YthedjffolgeomaaGreatDoorANplV3
namespace Go.SL
open Go
variable {E:Env} {H:Hp}
structure zJF (E : Env) : Prop where
 less:∀ (H:Hp) (a b:Int),yB E 169 [.int .i64 a,.int .i64 b] H (.bool (decide (a < b)))
def ltInt (a b:Int):Bool:=decide (a < b)
theorem zSU (l : List Int) {k : Nat} (hk : k < l.length) : (flat l.length (vP l)).getD k undef = .int .i64 (l.getD k 0) := by
 have h:=pK (n:=l.length) (sz:=1) (row:=vP l) (fun i _=>rfl) k hk
 have:=zK (j:=0) h (by omega)
 simpa only [vP,List.getD_cons_zero,Nat.mul_one,Nat.add_zero] using this
theorem yCq (l : List Int) {k : Nat} (hk : k < l.length) (x : Int) : (flat l.length (vP l)).take k ++ [.int .i64 x] ++ (flat l.length (vP l)).drop (k + 1) = flat l.length (vP (l.set k x)) := by
 have h:=zIj (n:=l.length) (sz:=1) (row:=vP l) (fun i _=>rfl) hk (r:=[.int .i64 x]) rfl
 rw [Nat.mul_one] at h
 rw [h]
 apply xW
 intro i _
 by_cases e:i=k
 ·subst e; simp [vP,hk]
 ·simp [vP,e,Ne.symm e]
set_option maxHeartbeats 1000000 in
theorem yWa (h3 : yW E) (L4 : zJF E) {b cap capc : Nat} (l : List Int) (hn : l.length ≤ 1000000) (hH : H b = some (.row (flat l.length (vP l)) capc true)) :
  Fn E.P (E.fn 163) [.slice (some ⟨b,0,none⟩) l.length cap,.int .i64 0,.int .i64 l.length] H (fun _ H'=>H'=H.put b (.row (flat l.length (vP (xG ltInt l.length l))) capc true)):=by
 refine Fn.of_vks h3.c163 (by simp [zHn]) ?_
 simp only [zHn,zKq,zJB,zKa,zJI,zKn,zJC,zKm]
 simp only [go_sem,Nat.reduceEqDiff,Nat.reduceBEq,Nat.reduceAdd,reduceCtorEq,Int.reduceAdd,zC]
 refine yK (l.length - 1) 0 (fun k fr' H' => fr' = [(0, ⟨true, .val (.slice (some ⟨b, 0, none⟩) l.length cap)⟩), (1, ⟨true, .val (.int .i64 0)⟩), (2, ⟨true, .val (.int .i64 l.length)⟩), (6, ⟨true, .val (.int .i64 ((k + 1 : Nat) : Int))⟩)] ∧
  H'=H.put b (.row (flat l.length (vP (xG ltInt (k + 1) l))) capc true)) (Nat.zero_le _) ⟨rfl,(zDV hH).symm⟩ ?_
 rintro k fr' H' hk ⟨rfl,rfl⟩
 by_cases hlt:k + 1 < l.length
 ·have hd:decide (((k + 1:Nat):Int) < (l.length:Int))=true:=by rw [decide_eq_true_eq]; omega
  simp only [hd,go_sem,Nat.reduceEqDiff,Nat.reduceBEq,reduceCtorEq,zC]
  refine pZ (fun m fr' H' => ∃ L : List Int, L.length = l.length ∧ pI ltInt m L = xG ltInt (k + 2) l ∧ m ≤ k + 1 ∧
   fr' = [(0,⟨true,.val (.slice (some ⟨b,0,none⟩) l.length cap)⟩),(1,⟨true,.val (.int .i64 0)⟩),(2,⟨true,.val (.int .i64 l.length)⟩),(6,⟨true,.val (.int .i64 ((k + 1:Nat):Int))⟩),(7,⟨true,.val (.int .i64 ((m:Nat):Int))⟩)] ∧
   H'=H.put b (.row (flat l.length (vP L)) capc true)) (k + 1) ⟨xG ltInt (k + 1) l,vB _ _ _,rfl,Nat.le_refl _,rfl,rfl⟩ ?_
  rintro m fr' H' ⟨L,hL,hT,hm,rfl,rfl⟩
  have hGb:(H.put b (.row (flat l.length (vP L)) capc true)) b=some (.row (flat l.length (vP L)) capc true):=Hp.put_same ..
  have hfl:(flat l.length (vP L)).length=l.length:=by rw [xS (sz:=1) (fun i _=>rfl),Nat.mul_one]
  cases m with
  | zero =>
   have hT':L=xG ltInt (k + 2) l:=hT
   have hd2:decide (((0:Nat):Int) > 0)=false:=by decide
   simp only [hd2,hGb,undef,go_sem,Nat.reduceEqDiff,Nat.reduceBEq,reduceCtorEq,zC]
   refine qY (by intro x h; cases h) (by intro f a h; cases h) ?_ (fun hg=>?_) (fun hg=>?_)
   ·simp only [go_sem,Nat.reduceEqDiff,reduceCtorEq]
   ·simp only [go_sem,Nat.reduceEqDiff,reduceCtorEq] at hg
   ·simp only [hGb,undef,↓vH,↓vU,↓yA,go_sem,Nat.reduceEqDiff,Nat.reduceBEq,reduceCtorEq,zC]
    rw [hT']
    refine⟨by omega,?_,?_⟩
    ·exact zR (by omega)
    ·rfl
  | succ j =>
   have hd2:decide (((j + 1:Nat):Int) > 0)=true:=by rw [decide_eq_true_eq]; omega
   have e1:IntKind.i64.wrap (((j + 1:Nat):Int) - 1)=(j:Int):=by rw [yZ]<;>omega
   have hj1:j + 1 < l.length:=by omega
   have g1:=zSU L (k:=j + 1) (by omega)
   have g0:=zSU L (k:=j) (by omega)
   rw [hL] at g1 g0
   simp only [hd2,e1,hGb,g1,g0,hfl,Nat.mul_one,go_sem,Nat.reduceEqDiff,Nat.reduceBEq,reduceCtorEq,zC]
   refine⟨⟨by omega,by omega⟩,by omega,⟨by omega,by omega⟩,by omega,?_⟩
   refine qY (by intro x h; cases h) (by intro f a h; cases h) ?_ (fun _=>⟨?_,_,Fn.same (L4.less _ (L.getD (j + 1) 0) (L.getD j 0)),?_⟩) (fun hg=>?_)
   ·simp only [go_sem,Nat.reduceEqDiff,reduceCtorEq]
   ·simp only [go_sem,Nat.reduceEqDiff,reduceCtorEq]
   ·rintro v H'' ⟨rfl,rfl⟩
    simp only [hGb,go_sem,Nat.reduceEqDiff,Nat.reduceBEq,reduceCtorEq,zC]
    have hlt':ltInt (L.getD (j + 1) 0) (L.getD j 0)=decide (L.getD (j + 1) 0 < L.getD j 0):=rfl
    have hins:pI ltInt (j + 1) L=if ltInt (L.getD (j + 1) 0) (L.getD j 0) then pI ltInt j (swp L j) else L:=rfl
    rw [hins] at hT
    refine⟨fun hc=>?_,fun hc=>?_⟩
    ·rw [hlt',hc,if_pos rfl] at hT
     have s1:=yCq L (k:=j + 1) (by omega) (L.getD j 0)
     have s2:=yCq (L.set (j + 1) (L.getD j 0)) (k:=j) (by simp; omega) (L.getD (j + 1) 0)
     rw [hL] at s1
     rw [List.length_set,hL] at s2
     simp only [e1,hGb,g1,g0,hfl,Nat.mul_one,jW,go_sem,Nat.reduceEqDiff,Nat.reduceBEq,reduceCtorEq,zC]
     refine⟨⟨by omega,by omega⟩,by omega,⟨by omega,by omega⟩,by omega,⟨by omega,by omega⟩,by omega,⟨by omega,by omega⟩,?_⟩
     rw [s1,Hp.put_same]
     refine⟨by rw [xS (sz:=1) (fun i _=>rfl)]; omega,j,by omega,swp L j,by rw [zCn]; exact hL,hT,by omega,rfl,?_⟩
     rw [s2]; rfl
    ·rw [hlt',hc,if_neg (by simp)] at hT
     rw [hT]
     refine⟨by omega,?_,?_⟩
     ·exact zR (by omega)
     ·rfl
   ·simp only [go_sem,Nat.reduceEqDiff,reduceCtorEq] at hg
 ·have hd:decide (((k + 1:Nat):Int) < (l.length:Int))=false:=by rw [decide_eq_false_iff_not]; omega
  simp only [hd,go_sem,Nat.reduceEqDiff,Nat.reduceBEq,reduceCtorEq,zC]
  have e : xG ltInt (k + 1) l = xG ltInt l.length l := by
   rcases Nat.lt_or_ge 0 l.length with h | h
   ·rw [show k + 1=l.length by omega]
   ·have:l = []:=by simpa using h
    subst this
    have:k=0:=by simpa using hk
    subst this
    rfl
  rw [e]
theorem yVW (h3 : yW E) (L4 : zJF E) {b cap capc : Nat} (m : Int) (l : List Int) (hn : l.length ≤ 12) (hH : H b = some (.row (flat l.length (vP l)) capc true)) :
  Fn E.P (E.fn 162) [.slice (some ⟨b,0,none⟩) l.length cap,.int .i64 0,.int .i64 l.length,.int .i64 m] H (fun _ H'=>H'=H.put b (.row (flat l.length (vP (xG ltInt l.length l))) capc true)):=by
 refine Fn.of_vks h3.c162 (by simp [zHf]) ?_
 simp only [zHf,zKw,zKb,zJz,zKo,zJJ]
 simp only [go_sem,Nat.reduceEqDiff,Nat.reduceBEq,Nat.reduceAdd,reduceCtorEq]
 refine zT 0 0 (fun _=>[(0,⟨true,.val (.slice (some ⟨b,0,none⟩) l.length cap)⟩),(1,⟨true,.val (.int .i64 0)⟩),(2,⟨true,.val (.int .i64 l.length)⟩),(3,⟨true,.val (.int .i64 m)⟩),(8,⟨true,.val (.bool true)⟩),(9,⟨true,.val (.bool true)⟩)]) (fun _=>True) (Nat.le_refl _) rfl trivial ?_
 intro k hk _
 have e1:IntKind.i64.wrap ((l.length:Int) - 0)=(l.length:Int):=by rw [Int.sub_zero]; exact zLC (by omega)
 have d1:decide ((l.length:Int)≤12)=true:=by simp; omega
 simp only [e1,d1,go_sem,Nat.reduceEqDiff,Nat.reduceBEq,reduceCtorEq,zC]
 refine zM ?_ (yWa h3 L4 l (by omega) hH) ?_
 ·simp only [go_sem,Nat.reduceEqDiff,reduceCtorEq]
 rintro u H' rfl
 simp only [go_sem,Nat.reduceBEq]
theorem yWp (_hE : zX E) (h2 : xZ E) (h3 : yW E) (L4 : zJF E) {b cap capc : Nat} (l : List Int) (hn : l.length ≤ 12) (hH : H b = some (.row (flat l.length (vP l)) capc true)) :
  Fn E.P (E.fn 160) [.slice (some ⟨b,0,none⟩) l.length cap] H (fun _ H'=>H'=H.put b (.row (flat l.length (vP (xG ltInt l.length l))) capc true)):=by
 refine Fn.of_vks h3.c160 (by simp [zHt]) ?_
 simp only [zHt,zKv,zJZ]
 have e1:=yHZ (n:=l.length) (by omega)
 simp only [e1,go_sem,Nat.reduceEqDiff,Nat.reduceBEq,reduceCtorEq]
 refine zE _ ?_ (fun _=>⟨?_,zHj h2 l.length (by omega)⟩) ?_<;>simp only [go_sem,Nat.reduceEqDiff,Nat.reduceBEq,reduceCtorEq]
 refine zM ?_ (yVW h3 L4 _ l hn hH) ?_
 ·simp only [go_sem,Nat.reduceEqDiff,reduceCtorEq]
 rintro u H' rfl
 simp only [go_sem,Nat.reduceBEq]
theorem yVM (h3 : yW E) (v : Value) : Fn E.P (E.fn 163) [v, .int .i64 0, .int .i64 0] H (fun _ H' => H' = H) := by
 refine Fn.of_vks h3.c163 (by simp [zHn]) ?_
 simp only [zHn,zKq,zJB,zKa,zJI,zKn,zJC,zKm]
 simp only [go_sem,Nat.reduceEqDiff,Nat.reduceBEq,Nat.reduceAdd,reduceCtorEq,Int.reduceAdd,zC]
 refine zT 0 0 (fun _=>[(0,⟨true,.val v⟩),(1,⟨true,.val (.int .i64 0)⟩),(2,⟨true,.val (.int .i64 0)⟩),(6,⟨true,.val (.int .i64 1)⟩)]) (fun _=>True) (Nat.le_refl _) rfl trivial ?_
 intro k hk _
 simp only [zGU,go_sem,Nat.reduceEqDiff,Nat.reduceBEq,reduceCtorEq,Int.reduceLT,zC]
theorem yVX (h3 : yW E) (v : Value) (m : Int) : Fn E.P (E.fn 162) [v, .int .i64 0, .int .i64 0, .int .i64 m] H (fun _ H' => H' = H) := by
 refine Fn.of_vks h3.c162 (by simp [zHf]) ?_
 simp only [zHf,zKw,zKb,zJz,zKo,zJJ]
 simp only [go_sem,Nat.reduceEqDiff,Nat.reduceBEq,Nat.reduceAdd,reduceCtorEq]
 refine zT 0 0 (fun _=>[(0,⟨true,.val v⟩),(1,⟨true,.val (.int .i64 0)⟩),(2,⟨true,.val (.int .i64 0)⟩),(3,⟨true,.val (.int .i64 m)⟩),(8,⟨true,.val (.bool true)⟩),(9,⟨true,.val (.bool true)⟩)]) (fun _=>True) (Nat.le_refl _) rfl trivial ?_
 intro k hk _
 simp only [wi0,zIk,go_sem,Nat.reduceEqDiff,Nat.reduceBEq,reduceCtorEq,Int.reduceLE,Int.reduceSub,zC]
 refine zM ?_ (yVM h3 v) ?_
 ·simp only [go_sem,Nat.reduceEqDiff,reduceCtorEq]
 rintro u H' rfl
 simp only [go_sem,Nat.reduceBEq]
theorem yVq (_hE : zX E) (h2 : xZ E) (h3 : yW E) : Fn E.P (E.fn 160) [.slice none 0 0] H (fun _ H' => H' = H) := by
 refine Fn.of_vks h3.c160 (by simp [zHt]) ?_
 simp only [zHt,zKv,zJZ]
 have e1:IntKind.u64.wrap (0:Int)=((0:Nat):Int):=by decide
 have cN:((0:Nat):Int)=0:=rfl
 simp only [cN,e1,go_sem,Nat.reduceEqDiff,Nat.reduceBEq,reduceCtorEq]
 refine zE _ ?_ (fun _=>⟨?_,zHj h2 0 (by omega)⟩) ?_<;>simp only [go_sem,Nat.reduceEqDiff,Nat.reduceBEq,reduceCtorEq]
 refine zM ?_ (yVX h3 _ _) ?_
 ·simp only [go_sem,Nat.reduceEqDiff,reduceCtorEq]
 rintro u H' rfl
 simp only [go_sem,Nat.reduceBEq]
end Go.SL
/- Rules: maps of numbers whose entries' births are known; calls of values in a larger memory; ranging over keys. -/
namespace Go.SL
open Go
variable {E:Env} {H:Hp}
theorem Fn.weaken {P : Program} {f : FuncId} {args : List Value} {H : Hp} {Q : Value → Hp → Prop} (h : Fn P f args H (fun u H' => ∃ Hi : Hp, Hi.le H' ∧ Q u Hi)) : Fn P f args H Q := fun w hw =>
 (h w hw).mono fun _ _ ⟨v,_H',he,hs,hk,Hi,hle,hq⟩=>⟨v,Hi,he,hs.le hle,⟨hk.os,hk.tape,hk.output,hk.size,hk.same,fun b o hb=>hk.fresh b o (hle b o hb),fun b hb ht=>⟨(hk.shape b hb ht).1,fun hx=>(hk.shape b hb ht).2 (hx.le hle)⟩⟩,hq⟩
theorem FnV.frame {x : Value} {args : List Value} {G H : Hp} {Q : Value → Hp → Prop} (h : FnV E x args G Q) (hle : G.le H) :
  FnV E x args H (fun u H''=>∃ H2,Q u H2∧H2.le H''∧∀ c o,H c=some o→G c=none→H2 c=none∧H'' c=some o):=by
 intro w hw
 refine(h w (hw.le hle)).mono ?_
 rintro e w' ⟨v,H2,he,hs,hk,hq⟩
 have hG : ∀ c, H c = none → G c = none := fun c hc => by
  cases hx:G c with
  | none=>rfl
  | some o=>rw [hle c o hx] at hc; cases hc
 refine⟨v,fun c=>match H2 c with | some o=>some o | none=>if G c=none then H c else none,he,?_,?_,H2,hq,?_,?_⟩
 ·intro b o hb
  simp only at hb
  cases h2:H2 b with
  | some o'=>rw [h2] at hb; simp only at hb; cases hb; exact hs b o h2
  | none =>
   rw [h2] at hb
   simp only at hb
   split at hb
   ·rename_i hg
    rw [hk.same b (hw.lt hb) hg]
    exact hw b o hb
   ·cases hb
 ·refine ⟨hk.os, hk.tape, hk.output, hk.size, fun b hb h0 => hk.same b hb (hG b h0), fun b o hb => ?_, fun b hb ht => by
   have hs2:=hk.shape b hb (fun hx=>ht (hx.le hle))
   refine⟨hs2.1,fun hx=>?_⟩
   cases h2:H2 b with
   | some o=>simp only [h2] at hx; exact hs2.2 (by rw [h2]; exact hx)
   | none =>
    simp only [h2] at hx
    split at hx
    ·exact ht hx
    ·exact hx.elim⟩
  cases h2:H2 b with
  | some o' =>
   rcases hk.fresh b o' h2 with hx | hx
   ·exact .inl fun h0=>hx (hG b h0)
   ·exact .inr hx
  | none =>
   rw [h2] at hb
   simp only at hb
   split at hb
   ·exact .inl (by rw [hb]; simp)
   ·cases hb
 ·intro c o hc
  simp only [hc]
 ·intro c o hc hg
  have hn : H2 c = none := by
   cases h2:H2 c with
   | none=>rfl
   | some o' =>
    rcases hk.fresh c o' h2 with hx | hx
    ·exact absurd hg hx
    ·exact absurd (hw.lt hc) (Nat.not_lt.2 hx)
  exact⟨hn,by simp only [hn,hg,if_true]; exact hc⟩
def wE (l:List (Int × Bool)):Array MapEntry:=(l.mapIdx fun i e=>{ key:=.int .i64 e.1,val:=.bool e.2,born:=i }).toArray
theorem qG (l:List (Int × Bool)):(wE l).size=l.length:=by simp [wE]
theorem zAy (l : List (Int × Bool)) {i : Nat} (hi : i < (wE l).size) : (wE l)[i] = { key := .int .i64 (l.getD i default).1, val := .bool (l.getD i default).2, born := i } := by
 have hl:i < l.length:=by rw [qG] at hi; exact hi
 simp [wE,hl]
theorem ySB (l : List (Int × Bool)) : (wE l).toList.map (fun e => (e.key, e.val)) = l.map fun e => (Value.int .i64 e.1, Value.bool e.2) := by
 apply List.ext_getElem
 ·simp [wE]
 ·intro i h1 h2
  simp [wE]
def zAz (H:Hp) (m:Nat) (l:List (Int × Bool)):Prop:=H m=some (.obj (.map (wE l) l.length))
theorem yID (l : List (Int × Bool)) (k : Int) (v : Bool) : (wE l).push { key := .int .i64 k, val := .bool v, born := l.length } = wE (l ++ [(k, v)]) := by
 apply Array.ext
 ·simp [wE]
 ·intro i h1 h2
  simp only [Array.size_push,qG] at h1
  rw [zAy]
  by_cases e:i < l.length
  ·rw [Array.getElem_push_lt (by rw [qG]; exact e),zAy]
   simp [List.getElem?_append_left e]
  ·have:i=l.length:=by omega
   subst this
   rw [Array.getElem_push]
   simp [qG]
theorem zPA (l l' : List (Int × Bool)) (hl : l'.length = l.length) (j : Nat) (k : Int) (v : Bool)
  (h:((wE l).toList.modify j fun e=>{ e with key:=.int .i64 k,val:=.bool v }).map (fun e=>(e.key,e.val))=l'.map fun e=>(Value.int .i64 e.1,Value.bool e.2)) :
  (wE l).modify j (fun e=>{ e with key:=.int .i64 k,val:=.bool v })=wE l':=by
 apply Array.ext
 ·simp [wE,hl]
 ·intro i h1 h2
  have hil:i < l.length:=by simpa [wE] using h1
  have hi':i < l'.length:=by omega
  have hkv:=congrArg (fun L=>L[i]?) h
  simp only [List.getElem?_map,List.getElem?_modify,List.getElem?_eq_getElem hi',Array.getElem?_toList,Array.getElem?_eq_getElem (show i < (wE l).size by rw [qG]; exact hil),Option.map_some] at hkv
  rw [Array.getElem_modify,zAy l' h2,zAy l (by rw [qG]; exact hil)]
  rw [zAy l (by rw [qG]; exact hil)] at hkv
  have hgd:l'.getD i default=l'[i]:=by rw [List.getD_eq_getElem?_getD,List.getElem?_eq_getElem hi']; rfl
  by_cases e:j=i
  ·have hkv':some (Value.int IntKind.i64 k,Value.bool v)=some (Value.int IntKind.i64 l'[i].1,Value.bool l'[i].2):=by rw [← hkv]; simp [e]
   simp only [Option.some.injEq,Prod.mk.injEq] at hkv'
   rw [if_pos e,hgd,← hkv'.1,← hkv'.2]
  ·have hkv':some (Value.int IntKind.i64 (l.getD i default).1,Value.bool (l.getD i default).2)=some (Value.int IntKind.i64 l'[i].1,Value.bool l'[i].2):=by rw [← hkv]; simp [e]
   simp only [Option.some.injEq,Prod.mk.injEq] at hkv'
   rw [if_neg e,hgd,hkv'.1,hkv'.2]
section
variable {fr:Fr} {Q:X→Fr→Hp→Prop} {k:List Item} {d:Option Nat} {r:List zA} {live:List Nat}
theorem zCM {κ ν : Type} [DecidableEq κ] {k : κ} {v u : ν} : ∀ {l : List (κ × ν)}, yI k l = some u → (xV k v l).length = l.length
 | [],h=>by cases h
 | (k', v') :: r, h => by
  simp only [yI] at h
  simp only [xV]
  split at h
  ·rename_i e; rw [if_pos e]; rfl
  ·rename_i e; rw [if_neg e,List.length_cons,zCM h]; rfl
theorem ySs {m x y : Arg} {l : List (Int × Bool)} {b : Nat} (key : Int) (val : Bool) (h1 : vok fr m) (h2 : vok fr x) (h3 : vok fr y) (hm : vo E fr m = .map (some b)) (hx : vo E fr x = .int .i64 key) (hy : vo E fr y = .bool val)
  (hM:zAz H b l) (h:zS E (.ops r live :: k) (setD fr d ⟨true,.val undef⟩) (H.put b (.obj (.map (wE (xV key val l)) (xV key val l).length))) Q) :
  zS E (.ops (⟨d,.upd false [.i] m x y,none⟩ :: r) live :: k) fr H Q:=by
 have hH:H b=some (.obj (.map (wE l) l.length)):=hM
 simp only [zS,kE,vI,qA,yY,xU] at h ⊢
 refine⟨trivial,fun _=>⟨h1,h2,h3,by rw [hx]; trivial,?_⟩,fun e=>by cases e⟩
 have hf:=zEo (enc:=fun n:Int=>Value.int .i64 n) (encv:=fun b:Bool=>Value.bool b) yRR key (wE l).toList l 0 (ySB l)
 simp only [hm,hH,hx,hy]
 cases hg:yI key l with
 | none =>
  rw [hf.1 hg]
  rw [zAt hg,List.length_append,← yID] at h
  exact h
 | some v =>
  obtain⟨j,_,hj,hmod⟩:=hf.2 v hg
  rw [hj]
  have hmm:=hmod (fun e=>{ e with key:=.int .i64 key,val:=.bool val }) val (fun e=>⟨rfl,rfl⟩)
  rw [Nat.sub_zero] at hmm
  have hee:=zPA l (xV key val l) (zCM hg) j key val hmm
  rw [zCM hg,← hee] at h
  exact h
end
def jL (l:List (Int × Bool)):List (List Value):=l.map fun e=>[Value.int .i64 e.1]
theorem zHQ (l : List (Int × Bool)) : jL l = (List.range l.length).map fun i => [Value.int .i64 (l.getD i default).1] := by
 apply List.ext_getElem
 ·simp [jL]
 ·intro i h1 h2
  have:i < l.length:=by simpa [jL] using h1
  simp [jL,this]
theorem zBI {s:Array Nat} {i:Nat}:s.contains i=true↔i∈s.toList:=by simp
set_option maxHeartbeats 1000000 in
theorem yZk (h3 : yW E) {G : Hp} {bp cp m : Nat} {wp : Bool} {l : List (Int × Bool)} (hp : G bp = some (.row [.map (some m)] cp wp)) (hm : zAz G m l) :
  Iter E (.func (.func (E.fn 172)) #[] #[.pointer (some ⟨bp,0,none⟩)]) G (fun xs=>xs.Perm (jL l)):=by
 intro y Inv Stop H hG hy h0
 refine yP h3.e172 ?_
 show Fn E.P (E.fn 172) [y,.pointer (some ⟨bp,0,none⟩)] H _
 refine Fn.weaken ?_
 have hle0:=hG _ _ h0
 have hp0:=hle0 _ _ hp
 have hm0:H m=some (.obj (.map (wE l) l.length)):=hle0 _ _ hm
 refine Fn.of_vks h3.c172 (by simp [zMW]) ?_
 simp only [zMW,zYh,zTS,yBO,yBv]
 simp only [hp0,go_sem,Nat.reduceBEq,reduceCtorEq]
 refine qO (by intro x h; cases h) (by intro f a h; cases h) ?_
 refine⟨?_,m,wE l,l.length,?_,hm0,?_⟩
 ·simp only [go_sem,Nat.reduceEqDiff,reduceCtorEq]
 ·simp only [go_sem,Nat.reduceEqDiff,reduceCtorEq]
 intro it hit
 simp only [go_sem,Nat.reduceEqDiff,Nat.reduceBEq,reduceCtorEq]
 refine pZ (fun k fr' H' => fr' = [(0, ⟨true, .val y⟩), (5, ⟨true, .val (.pointer (some ⟨it, 0, none⟩))⟩)] ∧ ∃ (seen : Array Nat) (Hi : Hp), k = zCB l.length seen ∧ Hi.le H' ∧ Hi it = none ∧ H' it = some (.obj (.mapIter (some m) l.length seen l.length)) ∧
  Inv (seen.toList.map fun i=>[Value.int .i64 (l.getD i default).1]) Hi∧seen.toList.Nodup∧∀ i∈seen.toList,i < l.length) (zCB l.length #[]) ⟨rfl,#[],H,rfl,zJ hit _,hit,Hp.put_same ..,h0,List.nodup_nil,fun i hi=>by cases hi⟩ ?_
 rintro k fr' H' ⟨rfl,seen,Hi,rfl,hle,hin,hiter,hinv,hnd,hlt⟩
 have hmi:H' m=some (.obj (.map (wE l) l.length)):=hle _ _ (hG _ _ hinv _ _ hm)
 have hborn:∀ i (hi:i < (wE l).size),(wE l)[i].born=i:=fun i hi=>by rw [zAy]
 simp only [go_sem]
 refine qO (by intro x h; cases h) (by intro f a h; cases h) ?_
 refine⟨?_,it,m,l.length,seen,l.length,wE l,l.length,?_,hiter,hmi,Nat.le_refl _,?_,?_,?_⟩
 ·simp only [go_sem,reduceCtorEq]
 ·simp only [go_sem,reduceCtorEq]
 ·intro e he
  obtain⟨i,hi,rfl⟩:=Array.getElem_of_mem he
  rw [hborn i hi]; rw [qG] at hi; exact hi
 ·intro hall
  simp only [go_sem,Nat.reduceLT,Nat.reduceEqDiff,Nat.reduceBEq,reduceCtorEq]
  refine⟨Hi,hle,.inl ⟨_,?_,hinv⟩⟩
  rw [zHQ]
  refine List.Perm.map _ ((List.perm_ext_iff_of_nodup hnd List.nodup_range).2 fun i=>?_)
  rw [List.mem_range]
  refine⟨hlt i,fun hi=>?_⟩
  have hi':i < (wE l).size:=by rw [qG]; exact hi
  have:=hall _ (Array.getElem_mem hi')
  rw [hborn i hi'] at this
  exact zBI.1 this
 ·intro e he hs
  obtain⟨i,hi,rfl⟩:=Array.getElem_of_mem he
  rw [hborn i hi] at hs
  have hil:i < l.length:=by rw [qG] at hi; exact hi
  have hni:i ∉ seen.toList:=fun hx=>by rw [zBI.2 hx] at hs; cases hs
  obtain⟨H1,hH1⟩:∃ x,x=H'.put it (.obj (.mapIter (some m) l.length (seen.push i) l.length)):=⟨_,rfl⟩
  have hle1:Hi.le H1:=by rw [hH1]; exact zH hle hin _
  have hit1:H1 it=some (.obj (.mapIter (some m) l.length (seen.push i) l.length)):=by rw [hH1,Hp.put_same]
  have hm1:H1 m=some (.obj (.map (wE l) l.length)):=hle1 _ _ (hG _ _ hinv _ _ hm)
  rw [hborn i hi,← hH1]
  simp only [go_sem,Nat.reduceLT,Nat.reduceEqDiff,Nat.reduceBEq,Nat.reduceAdd,reduceCtorEq]
  refine qO (by intro x h; cases h) (by intro f a h; cases h) ?_
  refine⟨?_,it,m,l.length,seen.push i,wE l,l.length,i,(wE l)[i],?_,hit1,hm1,by simp,zKL hborn hi,?_⟩
  ·simp only [go_sem,Nat.reduceEqDiff,reduceCtorEq]
  ·simp only [go_sem,Nat.reduceEqDiff,reduceCtorEq]
  rw [zAy l hi]
  have hcall:=(hy (seen.toList.map fun i=>[Value.int .i64 (l.getD i default).1]) [Value.int .i64 (l.getD i default).1] Hi ?_ hinv).frame hle1
  rotate_left
  ·refine⟨((List.range l.length).filter fun j=>!(seen.push i).contains j).map fun i=>[Value.int .i64 (l.getD i default).1],?_⟩
   rw [zHQ,← List.map_cons (f:=fun i=>[Value.int .i64 (l.getD i default).1]),← List.map_append]
   refine List.Perm.map _ ((List.perm_ext_iff_of_nodup ?_ List.nodup_range).2 fun j=>?_)
   ·rw [List.nodup_append]
    refine⟨hnd,List.nodup_cons.2 ⟨fun hx=>?_,List.nodup_range.filter _⟩,fun a ha b hb=>?_⟩
    ·have:=(List.mem_filter.1 hx).2
     simp at this
    ·rintro rfl
     rcases List.mem_cons.1 hb with rfl | hb
     ·exact hni ha
     ·have:=(List.mem_filter.1 hb).2
      rw [pN,zBI.2 ha] at this
      simp at this
   ·rw [List.mem_range,List.mem_append,List.mem_cons,List.mem_filter,List.mem_range]
    constructor
    ·rintro(h | rfl | h)
     ·exact hlt j h
     ·exact hil
     ·exact h.1
    ·intro hj
     by_cases hc:(seen.push i).contains j=true
     ·rw [pN,Bool.or_eq_true] at hc
      rcases hc with hc | hc
      ·exact .inl (zBI.1 hc)
      ·exact .inr (.inl (by simpa using hc))
     ·exact .inr (.inr ⟨hj,by simpa using hc⟩)
  simp only [go_sem,Nat.reduceLT,Nat.reduceEqDiff,Nat.reduceBEq,Nat.reduceAdd,reduceCtorEq]
  refine xA (by simp only [go_sem,Nat.reduceEqDiff,reduceCtorEq]) (by simp only [go_sem,Nat.reduceEqDiff,reduceCtorEq]) hcall ?_
  rintro w H2 ⟨Hj,hpost,hjle,hfr⟩
  have hitj:=hfr it _ hit1 hin
  rcases hpost with⟨rfl,hinv2⟩ | ⟨rfl,hstop⟩
  ·simp only [go_sem,Nat.reduceEqDiff,Nat.reduceBEq,reduceCtorEq]
   refine⟨zCB l.length (seen.push i),zHv hil hs,seen.push i,Hj,rfl,hjle,hitj.1,hitj.2,?_,?_,?_⟩
   ·rw [Array.toList_push,List.map_append]; exact hinv2
   ·rw [Array.toList_push,List.nodup_append]
    refine⟨hnd,by simp,fun a ha b hb=>?_⟩
    rintro rfl
    simp only [List.mem_singleton] at hb
    subst hb; exact hni ha
   ·rw [Array.toList_push]
    intro j hj
    rcases List.mem_append.1 hj with hj | hj
    ·exact hlt j hj
    ·simp only [List.mem_singleton] at hj
     subst hj; exact hil
  ·simp only [go_sem,Nat.reduceEqDiff,Nat.reduceBEq,reduceCtorEq]
   exact⟨Hj,hjle,.inr ⟨_,hstop⟩⟩
end Go.SL
/- Contracts: the keys of a map, collected and sorted. -/
namespace Go.SL
open Go
variable {E:Env} {H:Hp}
theorem yTZ {H' H3 : Hp} {bs : Nat} {p : xI} {ob : Option Nat} (hle : H.le H') (hbs : H' bs = none) (hob : ∀ b, ob = some b → H b = none) (hkeep : ∀ c o, (H'.put bs p) c = some o → some c ≠ ob → H3 c = some o) : H.le H3 :=
 fun c o hc=>hkeep c o (zJ hbs _ _ _ (hle _ _ hc)) (fun e=>by rw [hob c e.symm] at hc; cases hc)
theorem yRc {H' : Hp} {bs b' : Nat} {p : xI} {ob : Option Nat} (hle : H.le H') (hbs : H' bs = none) (hob : ∀ b, ob = some b → H b = none) (h : (H'.put bs p) b' = none ∨ some b' = ob) : H b' = none := by
 rcases h with h | h
 ·cases hq:H b' with
  | none=>rfl
  | some o=>rw [zJ hbs _ _ _ (hle _ _ hq)] at h; cases h
 ·exact hob b' h.symm
theorem yYd (h3 : yW E) (m : Nat) : Fn E.P (E.fn 156) [.map (some m)] H (fun u H' => ∃ b, H b = none ∧ u = .func (.func (E.fn 172)) #[] #[.pointer (some ⟨b, 0, none⟩)] ∧ H' = H.put b (.row [.map (some m)] 1 true)) := by
 refine Fn.of_vks h3.c156 (by simp [zMr]) ?_
 simp only [zMr,yDN,zTd]
 simp only [go_sem,Nat.reduceEqDiff,Nat.reduceBEq,reduceCtorEq]
 intro b hb
 exact⟨b,hb,rfl,rfl⟩
theorem yND {l : List (Int × Bool)} {xs : List (List Value)} (h : xs.Perm (jL l)) : ∃ ns : List Int, xs = ns.map (fun n => [Value.int .i64 n]) ∧ ns.Perm (l.map (·.1)) := by
 refine⟨xs.map fun v=>intOf (v.getD 0 undef),?_,?_⟩
 ·rw [List.map_map]
  have : ∀ x ∈ xs, x = ((fun n => [Value.int .i64 n]) ∘ fun v => intOf (v.getD 0 undef)) x := by
   intro x hx
   obtain⟨e,_,rfl⟩:=List.mem_map.1 (h.mem_iff.1 hx)
   rfl
  exact(List.map_congr_left fun x hx=>(this x hx).symm).trans (List.map_id' xs) |>.symm
 ·have:=h.map fun v=>intOf (v.getD 0 undef)
  have e : (jL l).map (fun v => intOf (v.getD 0 undef)) = l.map (·.1) := by
   unfold jL
   rw [List.map_map]; rfl
  rw [e] at this
  exact this
set_option maxHeartbeats 1000000 in
theorem xAA (h3 : yW E) {f : Value} {l : List (Int × Bool)} (hf : zFD f) (hI : Iter E f H (fun xs => xs.Perm (jL l))) (hn : l.length ≤ 1000000) :
  Fn E.P (E.fn 161) [.slice none 0 0,f] H (fun u H'=>∃ ns ob,ns.Perm (l.map (·.1))∧xX H' 1 u ns.length (vP ns) ob∧H.le H'∧∀ b,ob=some b→H b=none):=by
 refine Fn.of_vks h3.c161 (by simp [zNk]) ?_
 simp only [zNk,zYL,yBz,zTZ,yAg,zUS]
 simp only [go_sem,Nat.reduceEqDiff,Nat.reduceBEq,reduceCtorEq]
 intro b2 hb2
 have hperm_len:∀ {xs:List (List Value)},xs.Perm (jL l)→xs.length=l.length:=fun h=>by rw [h.length_eq]; simp [jL]
 refine zAM H (fun xs=>xs.Perm (jL l)) (fun pre H'=>H.le H'∧∃ u ob,H' b2=some (.row [u] 1 true)∧xX H' 1 u pre.length (fun i=>pre.getD i []) ob∧(∀ b,ob=some b→H b=none∧b≠b2)∧∀ i,i < pre.length→(pre.getD i []).length=1) ?_ ?_ ?_ ?_ ?_ ?_ ?_ ?_
 ·simp only [go_sem,Nat.reduceEqDiff]
 ·simp only [go_sem,Nat.reduceEqDiff]; exact hf
 ·simp only [go_sem,Nat.reduceEqDiff]; exact hI
 ·intro xs hxs x hx
  obtain⟨e,_,rfl⟩:=List.mem_map.1 (hxs.mem_iff.1 hx)
  rfl
 ·exact⟨zJ hb2 _,_,none,Hp.put_same ..,⟨rfl,rfl⟩,(fun b hb=>by cases hb),(fun i hi=>by cases hi)⟩
 ·intro pre H' h
  exact h.1
 ·rintro pre x H' ⟨suf,hS⟩ ⟨hle,u,ob,h2,hown,hob,hlen⟩
  have hxm:x∈jL l:=hS.mem_iff.1 (List.mem_append_right _ List.mem_cons_self)
  obtain⟨e,_,rfl⟩:=List.mem_map.1 hxm
  have hpl:=hperm_len hS
  rw [List.length_append,List.length_cons] at hpl
  obtain⟨ua,uc,hua⟩:=hown.sl
  subst hua
  simp only [h2,go_sem,Nat.reduceEqDiff,Nat.reduceBEq]
  intro bs hbs
  have hbs2:b2≠bs:=by rintro rfl; rw [h2] at hbs; cases hbs
  refine zAu (n:=pre.length) (row:=fun i=>pre.getD i []) (row':=fun i=>(pre ++ [[Value.int .i64 e.1]]).getD i []) (cells:=[.int .i64 e.1]) ?_ ?_ ?_ ?_ (Hp.put_same ..) rfl rfl (hown.put hbs) hlen ?_ ?_ (by omega) (by omega) ?_
  ·simp only [go_sem,Nat.reduceEqDiff]
  ·simp only [go_sem,Nat.reduceEqDiff]
  ·simp only [go_sem,Nat.reduceEqDiff]
  ·simp only [go_sem,Nat.reduceEqDiff]
  ·intro i hi
   simp [List.getElem?_append_left hi]
  ·simp
  intro v' H3 b' hO3 hkeep hb'
  obtain⟨va,vc,hv'⟩:=hO3.sl
  subst hv'
  have hob1:∀ b,ob=some b→H b=none:=fun b hb=>(hob b hb).1
  have h23:=hkeep b2 _ (by rw [Hp.put_ne _ _ hbs2]; exact h2) (fun e=>(hob b2 e.symm).2 rfl)
  have hle3:=yTZ hle hbs hob1 hkeep
  have hnew:=yRc hle hbs hob1 hb'
  have hb2' : b' ≠ b2 := by
   rintro rfl
   rcases hb' with hx | hx
   ·rw [Hp.put_ne _ _ hbs2,h2] at hx; cases hx
   ·exact(hob b' hx.symm).2 rfl
  simp only [h23,go_sem,Nat.reduceEqDiff,Nat.reduceBEq]
  refine⟨zH hle3 hb2 _,_,some b',Hp.put_same ..,?_,?_,?_⟩
  ·rw [List.length_append]
   exact hO3.keep fun b hb=>by cases hb; exact Hp.put_ne _ _ hb2'
  ·intro b hb
   cases hb
   exact⟨hnew,hb2'⟩
  ·rw [List.length_append]
   intro i hi
   by_cases e2:i < pre.length
   ·have:(pre ++ [[Value.int .i64 e.1]]).getD i []=pre.getD i []:=by simp [List.getElem?_append_left e2]
    rw [this]; exact hlen i e2
   ·have:i=pre.length:=by simp at hi; omega
    subst this
    simp
 ·rintro xs H' hxs ⟨hle,u,ob,h2,hown,hob,hlen⟩
  obtain⟨ns,hns,hp⟩:=yND hxs
  simp only [h2,go_sem,Nat.reduceEqDiff,Nat.reduceBEq]
  refine⟨ns,ob,hp,?_,hle,fun b hb=>(hob b hb).1⟩
  have hl:xs.length=ns.length:=by rw [hns]; simp
  rw [← hl]
  refine hown.row_congr fun i hi=>?_
  subst hns
  have hi':i < ns.length:=by omega
  simp [vP,hi']
theorem yXq (h3 : yW E) {f : Value} {l : List (Int × Bool)} (hf : zFD f) (_h1 : yV f = true) (hI : Iter E f H (fun xs => xs.Perm (jL l))) (hn : l.length ≤ 1000000) :
  Fn E.P (E.fn 159) [f] H (fun u H'=>∃ ns ob,ns.Perm (l.map (·.1))∧xX H' 1 u ns.length (vP ns) ob∧H.le H'∧∀ b,ob=some b→H b=none):=by
 refine Fn.of_vks h3.c159 (by simp [zMy]) ?_
 simp only [zMy,yEc,zWE]
 simp only [go_sem,Nat.reduceBEq,reduceCtorEq]
 refine zM (by simp only [go_sem,reduceCtorEq]) (xAA h3 hf hI hn) ?_
 rintro u H' ⟨ns,ob,hp,hown,hle,hnew⟩
 simp only [go_sem,Nat.reduceEqDiff,Nat.reduceBEq,reduceCtorEq]
 exact⟨ns,ob,hp,hown,hle,hnew⟩
def zQC (E : Env) (srt : List Int → List Int) (N : Nat) : Prop := (∀ l, (srt l).length = l.length) ∧ ∀ (H : Hp) (b cap capc : Nat) (l : List Int), l.length ≤ N → H b = some (.row (flat l.length (vP l)) capc true) →
 Fn E.P (E.fn 160) [.slice (some ⟨b,0,none⟩) l.length cap] H (fun _ H'=>H'=H.put b (.row (flat l.length (vP (srt l))) capc true))
theorem zOm (hE : zX E) (h2 : xZ E) (h3 : yW E) (L4 : zJF E) : zQC E (fun l => xG ltInt l.length l) 12 :=
 ⟨fun _=>vB _ _ _,fun _ _ _ _ l hl hb=>yWp hE h2 h3 L4 l hl hb⟩
theorem yZv (hE : zX E) (h2 : xZ E) (h3 : yW E) {srt : List Int → List Int} {N : Nat} (hS : zQC E srt N) (hN : N ≤ 1000000) {f : Value} {l : List (Int × Bool)} (hf : zFD f) (h1 : yV f = true) (hI : Iter E f H (fun xs => xs.Perm (jL l))) (hn : l.length ≤ N) :
  Fn E.P (E.fn 157) [f] H (fun u H'=>∃ ns,ns.Perm (l.map (·.1))∧wH H' u (srt ns)∧H.le H'):=by
 refine Fn.of_vks h3.c157 (by simp [zNb]) ?_
 simp only [zNb,yGh,zVa,yCH,yFc]
 simp only [go_sem,Nat.reduceBEq,reduceCtorEq]
 refine zM (by simp only [go_sem,reduceCtorEq]) (yXq h3 hf h1 hI (by omega)) ?_
 rintro u H1 ⟨ns,ob,hp,hown,hle,hnew⟩
 have hlen:ns.length=l.length:=by rw [hp.length_eq]; simp
 cases ob with
 | none =>
  obtain⟨rfl,h0⟩:=hown
  simp only [go_sem,Nat.reduceEqDiff,Nat.reduceBEq,reduceCtorEq]
  refine zM (by simp only [go_sem,Nat.reduceEqDiff]) (yVq hE h2 h3) ?_
  rintro w H2 rfl
  simp only [go_sem,Nat.reduceEqDiff,Nat.reduceBEq]
  refine⟨ns,hp,?_,hle⟩
  have:srt ns = []:=List.length_eq_zero_iff.1 (by rw [hS.1,h0])
  rw [this]
  exact zG.nil
 | some b =>
  obtain⟨cap,rfl,hb⟩:=hown
  simp only [go_sem,Nat.reduceEqDiff,Nat.reduceBEq,reduceCtorEq]
  refine zM (by simp only [go_sem,Nat.reduceEqDiff]) (hS.2 H1 b cap _ ns (by omega) hb) ?_
  rintro w H2 rfl
  simp only [go_sem,Nat.reduceEqDiff,Nat.reduceBEq]
  refine⟨ns,hp,?_,zH hle (hnew b rfl) _⟩
  have hsl:(srt ns).length=ns.length:=hS.1 ns
  unfold wH
  rw [hsl]
  exact zG.ofRow (fun _ _=>rfl) (Hp.put_same ..)
end Go.SL
