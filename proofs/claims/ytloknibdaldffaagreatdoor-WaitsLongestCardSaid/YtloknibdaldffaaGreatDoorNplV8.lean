/- Contracts: the text that tells a signed set (package history). -/
import Derived.Test.YtloknibdaldffaaGreatDoorNplQ
import Derived.Test.YtloknibdaldffaaGreatDoorNplW1
import Derived.Test.YtloknibdaldffaaGreatDoorNplO
import Derived.Test.YtloknibdaldffaaGreatDoorNplT14
import Derived.Test.YtloknibdaldffaaGreatDoorNplX18
import Derived.Test.YtloknibdaldffaaGreatDoorNplV5
import Derived.Test.YtloknibdaldffaaGreatDoorNplX19
namespace Go.SL
open Go
variable {E : Env} {H : Hp}
theorem vks_newT {fr : Fr} {Q : X → Fr → Hp → Prop} {k : List Item} {d : Option Nat} {r : List AOper} {live : List Nat} {kk : Nat} {zero : List Value} : vks E (.ops (⟨d, .newT kk zero, none⟩ :: r) live :: k) fr H Q =
  (∀ b,H b = none → vks E (.ops r live :: k) (setD fr d ⟨true,.val (.pointer (some ⟨b,0,none⟩))⟩) (H.put b (.obj (.cells zero.toArray (E.gl kk) (0,0)))) Q) := by
 simp [vks,evs,ev1,gok,gcond,big]
theorem KeepB.put {b bs : Nat} {ob : Option Nat} {o : AObj} (h : H bs = none) : KeepB H (H.put bs o) b ob ob := ⟨fun _c _o hc _ _ => le_put h _ _ _ hc,fun _c hc => .inl hc.symm⟩
def numT (n : Int) : Bs := 47 :: Lib.itoa n
theorem putT_eq (w : Bs) (ns : List Int) : putT w ns = w ++ (ns.flatMap numT ++ [47]) := rfl
theorem flatMap_succ {α : Type} [Inhabited α] (f : α → Bs) {l : List α} {k : Nat} (hk : k < l.length) : (l.take (k + 1)).flatMap f = (l.take k).flatMap f ++ f (l.getD k default) := by
 rw [List.take_add_one,List.getElem?_eq_getElem hk,List.getD_eq_getElem?_getD,List.getElem?_eq_getElem hk,List.flatMap_append]
 simp
theorem flatMap_take_le {α : Type} (f : α → Bs) (l : List α) (k : Nat) : ((l.take k).flatMap f).length ≤ (l.flatMap f).length := by
 conv => rhs; rw [← List.take_append_drop k l,List.flatMap_append,List.length_append]
 omega
def I64 (n : Int) : Prop := -9223372036854775808 ≤ n ∧ n ≤ 9223372036854775807
set_option maxHeartbeats 1000000 in
theorem fn132 (h3 : Codes3 E) (L : Lib3 E) {b : Nat} {l : Bs} {ob : Option Nat} (hB : BldAt E H b l ob) (h2 : Base2 E H) (w : Bs) {ns : List Int} {nv : Value} (hns : IntsAt H nv ns) (hr : ∀ n ∈ ns, I64 n) (hn : l.length + (putT w ns).length ≤ 900000000) (hm : ns.length ≤ 1000000) :
  Fn E.P (E.fn 132) [S w,nv,.pointer (some ⟨b,0,none⟩)] H (fun _ H' => ∃ ob',BldAt E H' b (l ++ putT w ns) ob' ∧ KeepB H H' b ob ob') := by
 have hlen : (putT w ns).length = w.length + ((ns.flatMap numT).length + 1) := by rw [putT_eq]; simp
 have hns' := hns
 obtain ⟨a,cap,rfl,hsp,hrow⟩ := hns
 refine Fn.of_vks h3.c132 (by simp [cf132]) ?_
 simp only [cf132,cf132_0,cf132_1,cf132_2,cf132_3,cf132_4,cf132_5,cf132_6,cf132_7]
 simp only [go_sem,Nat.reduceBEq,Nat.reduceAdd,reduceCtorEq]
 refine vks_call ?_ (fn135 h3 L hB w (by omega)) ?_
 ·simp only [go_sem,Nat.reduceEqDiff,reduceCtorEq]
 rintro u H1 ⟨ob1,hB1,hk1⟩
 simp only [go_sem,Nat.reduceEqDiff,Nat.reduceBEq,reduceCtorEq]
 refine vks_loopP ns.length 0 (fun k fr' G => fr' = [(2, ⟨true, .val (.pointer (some ⟨b, 0, none⟩))⟩), (9, ⟨true, .val (.slice a ns.length cap)⟩), (10, ⟨true, .val (.int .i64 ns.length)⟩), (11, ⟨true, .val (.int .i64 k)⟩)] ∧
  ∃ ob',BldAt E G b (l ++ w ++ (ns.take k).flatMap numT) ob' ∧ KeepB H G b ob ob') (Nat.zero_le _) ⟨rfl,ob1,by simpa using hB1,hk1⟩ ?_
 rintro k fr' G hk ⟨rfl,ob2,hB2,hk2⟩
 have hrl := hB.rows hk2
 have hfl := flatMap_take_le numT ns k
 by_cases hlt : k < ns.length
 ·have hd : decide ((k : Int) < (ns.length : Int)) = true := by simpa using hlt
  have hr' := (SlAt.rowmono hns' hrl)
  obtain ⟨a',cap',hv,_,hr'⟩ := hr'
  cases hv
  have hr' := hr' (by omega)
  obtain ⟨b0,o,vs,c,wr,ha,hb,hi⟩ := hr'
  subst ha
  have hi1 := (hi k hlt).1
  have hi2 := (hi k hlt).2
  have hsucc := flatMap_succ (α := Int) numT hlt
  have hfl' := flatMap_take_le numT ns (k + 1)
  have hrng := hr _ (getD_mem (α := Int) hlt)
  have hd0 : (default : Int) = 0 := rfl
  rw [hd0] at hsucc hrng
  obtain ⟨x,hx⟩ : ∃ y,ns.getD k 0 = y := ⟨_,rfl⟩
  have v0 : vs.getD (o + k) undef = .int .i64 x := by
   have := getD_of_take (j := 0) hi2 (by omega)
   simp only [rInt,hx,List.getD_cons_zero,Nat.mul_one,Nat.add_zero] at this
   exact this
  rw [hx] at hsucc hrng
  have hnl : (numT x).length = (Lib.itoa x).length + 1 := by simp [numT]
  rw [hsucc,List.length_append] at hfl'
  simp only [hd,hb,v0,Nat.mul_one,go_sem,Nat.reduceEqDiff,Nat.reduceBEq,binO]
  refine ⟨⟨by omega,by omega⟩,by omega,?_⟩
  have c47 : (47 : Int) = ((47 : UInt8).toNat : Int) := rfl
  refine vks_call ?_ (fn136 h3 L hB2 47 (by simp only [List.length_append]; omega)) ?_
  ·simp only [go_sem,Nat.reduceEqDiff]
  rintro u G1 ⟨ob3,hB3,hk3⟩
  have hrl3 := hrl.trans (hB2.rows hk3)
  simp only [go_sem,Nat.reduceEqDiff,Nat.reduceBEq]
  refine vks_call ?_ (L.itoa G1 x (h2.rowmono hrl3) hrng.1 hrng.2) ?_
  ·simp only [go_sem,Nat.reduceEqDiff]
  rintro u G2 ⟨rfl,hle⟩
  simp only [go_sem,Nat.reduceBEq]
  refine vks_call ?_ (fn135 h3 L (hB3.keep hle) (Lib.itoa x) (by simp only [List.length_append,List.length_singleton]; omega)) ?_
  ·simp only [go_sem,Nat.reduceEqDiff]
  rintro u G3 ⟨ob4,hB4,hk4⟩
  simp only [go_sem,Nat.reduceEqDiff,Nat.reduceBEq,binO]
  refine ⟨hlt,wrapS (by omega),ob4,?_,?_⟩
  ·rw [hsucc]
   have e : l ++ w ++ (ns.take k).flatMap numT ++ [47] ++ Lib.itoa x = l ++ w ++ ((ns.take k).flatMap numT ++ numT x) := by simp [numT]
   rw [← e]; exact hB4
  ·refine (hk2.trans hk3).trans (KeepB.trans ?_ hk4)
   exact ⟨fun c o hc _ _ => hle _ _ hc,fun c hc => .inl hc.symm⟩
 ·have hd : decide ((k : Int) < (ns.length : Int)) = false := by simpa using hlt
  have : k = ns.length := by omega
  subst this
  rw [List.take_length] at hB2 hfl
  simp only [hd,go_sem,Nat.reduceEqDiff,Nat.reduceBEq,binO]
  refine vks_call ?_ (fn136 h3 L hB2 47 (by simp only [List.length_append]; omega)) ?_
  ·simp only [go_sem,Nat.reduceEqDiff]
  rintro u G1 ⟨ob3,hB3,hk3⟩
  simp only [go_sem,Nat.reduceBEq]
  refine ⟨ob3,?_,hk2.trans hk3⟩
  have e : l ++ w ++ ns.flatMap numT ++ [47] = l ++ putT w ns := by rw [putT_eq]; simp
  rw [← e]; exact hB3
end Go.SL
/- Contract: the text of a signed set (package history). -/
namespace Go.SL
open Go
variable {E : Env} {H : Hp}
theorem ints_at {bs c cap : Nat} {wr : Bool} {ns : List Int} (hb : H bs = some (.row (ns.map fun n => .int .i64 n) c wr)) : IntsAt H (.slice (some ⟨bs, 0, none⟩) ns.length cap) ns := by
 refine SlAt.lit hb fun i hi => ⟨by simp; omega,?_⟩
 rw [Nat.mul_one,List.drop_eq_getElem_cons (by simpa using hi)]
 simp [rInt,hi]
structure RngS (s : SignedD) : Prop where
 type : I64 s.type
 life : I64 s.life
 data : ∀ d ∈ s.data,I64 d.n ∧ I64 d.m
 sigs : ∀ g ∈ s.sigs,I64 g.key ∧ I64 g.alg ∧ I64 g.from_ ∧ I64 g.till ∧ 0 ≤ g.sum ∧ g.sum ≤ 18446744073709551615
 nd : s.data.length ≤ 1000000
 ng : s.sigs.length ≤ 1000000
 len : (textOf s).length ≤ 800000000
def textHead (s : SignedD) : Bs := putT s.name [s.type,s.life,s.data.length]
theorem textOf_eq (s : SignedD) : textOf s = textHead s ++ (s.data.flatMap textD ++ s.sigs.flatMap textG) := rfl
set_option maxHeartbeats 2000000 in
theorem fn127 (h3 : Codes3 E) (L : Lib3 E) (h2 : Base2 E H) {s : SignedD} {dv gv : Value} (hd : DataAt H dv s.data) (hg : SigsAt H gv s.sigs) (hr : RngS s) :
  FnP E 127 [.agg #[S s.name,.int .i64 s.type,.int .i64 s.life,dv,gv]] H (S (textOf s)) := by
 have hd' := hd
 have hg' := hg
 obtain ⟨ad,cd,rfl,_,_⟩ := hd
 obtain ⟨ag,cg,rfl,_,_⟩ := hg
 have htl : (textOf s).length = (textHead s).length + ((s.data.flatMap textD).length + (s.sigs.flatMap textG).length) := by rw [textOf_eq]; simp
 have hlen := hr.len
 have hlp : ∀ (w : Bs) (ns : List Int),(putT w ns).length = w.length + ((ns.flatMap numT).length + 1) := fun w ns => by rw [putT_eq]; simp
 have hnd := hr.nd
 have hng := hr.ng
 refine Fn.of_vks h3.c127 (by simp [cf127]) ?_
 simp only [cf127,cf127_0,cf127_1,cf127_2,cf127_3,cf127_4,cf127_5,cf127_6,cf127_7,cf127_8,cf127_9,cf127_10,cf127_11,cf127_12,cf127_13,cf127_14,cf127_15]
 simp only [vks_newT,go_sem,Nat.reduceLeDiff,Nat.reduceEqDiff,Nat.reduceBEq,Nat.reduceAdd,reduceCtorEq]
 intro b hb
 obtain ⟨H1,hH1⟩ : ∃ y,y = H.put b (.obj (.cells #[.pointer none,.slice none 0 0] (E.gl 181) (0,0))) := ⟨_,rfl⟩
 have hle1 : H.le H1 := by rw [hH1]; exact le_put hb _
 have hB1 : BldAt E H1 b [] none := ⟨_,_,.inl rfl,by rw [hH1]; exact Hp.put_same ..,by simp,rfl,rfl⟩
 rw [← hH1]
 intro bs hbs
 have hk0 : KeepB H1 (H1.put bs (.row [.int .i64 s.type,.int .i64 s.life,.int .i64 s.data.length] 3 true)) b none none := KeepB.put hbs
 have hle2 : H1.le (H1.put bs (.row [.int .i64 s.type,.int .i64 s.life,.int .i64 s.data.length] 3 true)) := le_put hbs _
 have hns : IntsAt (H1.put bs (.row [.int .i64 s.type,.int .i64 s.life,.int .i64 s.data.length] 3 true)) (.slice (some ⟨bs,0,none⟩) 3 3) [s.type,s.life,s.data.length] := ints_at (ns := [s.type,s.life,s.data.length]) (c := 3) (wr := true) (cap := 3) (by rw [Hp.put_same]; rfl)
 refine vks_callv ?_ ?_ (FnV_of_Fn h3.e132 (fn132 h3 L (hB1.keep hle2) (h2.mono (hle1.trans hle2)) s.name hns ?_ (by simp only [List.length_nil]; show 0 + (textHead s).length ≤ _; omega) (by simp))) ?_
 ·simp only [go_sem,Nat.reduceEqDiff]
 ·simp only [go_sem,Nat.reduceEqDiff]
 ·intro n hn
  simp only [List.mem_cons,List.not_mem_nil,or_false] at hn
  rcases hn with rfl | rfl | rfl
  ·exact hr.type
  ·exact hr.life
  ·exact ⟨by omega,by omega⟩
 rintro u G ⟨ob1,hB2,hk1⟩
 have hB2' : BldAt E G b (textHead s) ob1 := hB2
 have hk1' := hk0.trans hk1
 simp only [go_sem,Nat.reduceLeDiff,Nat.reduceEqDiff,Nat.reduceBEq,Nat.reduceAdd]
 refine vks_loopP s.data.length 0 (fun k fr' G => fr' = [(1, ⟨true, .box [S s.name, .int .i64 s.type, .int .i64 s.life, .slice ad s.data.length cd, .slice ag s.sigs.length cg]⟩), (3, ⟨true, .val (.pointer (some ⟨b, 0, none⟩))⟩), (4, ⟨true, .val (.func (.func (E.fn 132)) #[] #[.pointer (some ⟨b, 0, none⟩)])⟩), (28, ⟨true, .val (.slice ad s.data.length cd)⟩), (29, ⟨true, .val (.int .i64 s.data.length)⟩), (30, ⟨true, .val (.int .i64 k)⟩)] ∧
  ∃ ob',BldAt E G b (textHead s ++ (s.data.take k).flatMap textD) ob' ∧ KeepB H1 G b none ob') (Nat.zero_le _) ⟨rfl,ob1,by simpa using hB2',hk1'⟩ ?_
 rintro k fr' G hk ⟨rfl,ob2,hB3,hk2⟩
 have hrl := (RowLe.of_le hle1).trans (hB1.rows hk2)
 have hfl := flatMap_take_le textD s.data k
 by_cases hlt : k < s.data.length
 ·have hdk : decide ((k : Int) < (s.data.length : Int)) = true := by simpa using hlt
  have hr' := SlAt.rowmono hd' hrl
  obtain ⟨a',cap',hv,_,hr'⟩ := hr'
  cases hv
  have hr' := hr' (by omega)
  obtain ⟨b0,o,vs,c,wr,ha,hb0,hi⟩ := hr'
  subst ha
  have hi1 := (hi k hlt).1
  have hi2 := (hi k hlt).2
  have hsucc := flatMap_succ textD hlt
  have hfl' := flatMap_take_le textD s.data (k + 1)
  have hrng := hr.data _ (getD_mem hlt)
  obtain ⟨x,hx⟩ : ∃ y,s.data.getD k default = y := ⟨_,rfl⟩
  rw [hx] at hsucc hrng
  rw [hsucc,List.length_append] at hfl'
  have htx : textD x = putT x.text [x.n,x.m] := rfl
  simp only [hdk,hb0,hi2,rDatum,hx,go_sem,Nat.reduceLeDiff,Nat.reduceEqDiff,Nat.reduceBEq,Nat.reduceAdd,binO]
  refine ⟨⟨by omega,by omega⟩,hi1,?_⟩
  intro bs hbs
  have hle3 : G.le (G.put bs (.row [.int .i64 x.n,.int .i64 x.m] 2 true)) := le_put hbs _
  have hns : IntsAt (G.put bs (.row [.int .i64 x.n,.int .i64 x.m] 2 true)) (.slice (some ⟨bs,0,none⟩) 2 2) [x.n,x.m] := ints_at (ns := [x.n,x.m]) (c := 2) (wr := true) (cap := 2) (by rw [Hp.put_same]; rfl)
  refine vks_callv ?_ ?_ (FnV_of_Fn h3.e132 (fn132 h3 L (hB3.keep hle3) (h2.rowmono (hrl.trans (RowLe.of_le hle3))) x.text hns ?_ (by rw [← htx]; simp only [List.length_append]; omega) (by simp))) ?_
  ·simp only [go_sem,Nat.reduceEqDiff]
  ·simp only [go_sem,Nat.reduceEqDiff]
  ·intro n hn
   simp only [List.mem_cons,List.not_mem_nil,or_false] at hn
   rcases hn with rfl | rfl
   ·exact hrng.1
   ·exact hrng.2
  rintro u G1 ⟨ob3,hB4,hk3⟩
  simp only [go_sem,Nat.reduceEqDiff,Nat.reduceBEq,binO]
  refine ⟨hlt,wrapS (by omega),ob3,?_,(hk2.trans (KeepB.put hbs)).trans hk3⟩
  rw [hsucc,← List.append_assoc]
  exact hB4
 ·have hdk : decide ((k : Int) < (s.data.length : Int)) = false := by simpa using hlt
  have : k = s.data.length := by omega
  subst this
  rw [List.take_length] at hB3 hfl
  simp only [hdk,go_sem,Nat.reduceLeDiff,Nat.reduceEqDiff,Nat.reduceBEq,Nat.reduceAdd,binO]
  refine vks_loopP s.sigs.length 0 (fun k fr' G => fr' = [(3, ⟨true, .val (.pointer (some ⟨b, 0, none⟩))⟩), (4, ⟨true, .val (.func (.func (E.fn 132)) #[] #[.pointer (some ⟨b, 0, none⟩)])⟩), (45, ⟨true, .val (.slice ag s.sigs.length cg)⟩), (46, ⟨true, .val (.int .i64 s.sigs.length)⟩), (47, ⟨true, .val (.int .i64 k)⟩)] ∧
   ∃ ob',BldAt E G b (textHead s ++ s.data.flatMap textD ++ (s.sigs.take k).flatMap textG) ob' ∧ KeepB H1 G b none ob') (Nat.zero_le _) ⟨rfl,ob2,by simpa using hB3,hk2⟩ ?_
  rintro k fr' G hk ⟨rfl,ob2,hB3,hk2⟩
  have hrl := (RowLe.of_le hle1).trans (hB1.rows hk2)
  have hfg := flatMap_take_le textG s.sigs k
  by_cases hlt : k < s.sigs.length
  ·have hdk : decide ((k : Int) < (s.sigs.length : Int)) = true := by simpa using hlt
   have hr' := SlAt.rowmono hg' hrl
   obtain ⟨a',cap',hv,_,hr'⟩ := hr'
   cases hv
   have hr' := hr' (by omega)
   obtain ⟨b0,o,vs,c,wr,ha,hb0,hi⟩ := hr'
   subst ha
   have hi1 := (hi k hlt).1
   have hi2 := (hi k hlt).2
   have hsucc := flatMap_succ textG hlt
   have hfl' := flatMap_take_le textG s.sigs (k + 1)
   have hrng := hr.sigs _ (getD_mem hlt)
   obtain ⟨x,hx⟩ : ∃ y,s.sigs.getD k default = y := ⟨_,rfl⟩
   rw [hx] at hsucc hrng
   rw [hsucc,List.length_append] at hfl'
   have htx : textG x = putT x.zone [x.key,x.alg,x.from_,x.till] ++ putT (Lib.itoa x.sum) [] := rfl
   rw [htx,List.length_append] at hfl'
   simp only [hdk,hb0,hi2,rSig,hx,go_sem,Nat.reduceLeDiff,Nat.reduceEqDiff,Nat.reduceBEq,Nat.reduceAdd,binO]
   refine ⟨⟨by omega,by omega⟩,hi1,?_⟩
   intro bs hbs
   have hle3 : G.le (G.put bs (.row [.int .i64 x.key,.int .i64 x.alg,.int .i64 x.from_,.int .i64 x.till] 4 true)) := le_put hbs _
   have hns : IntsAt (G.put bs (.row [.int .i64 x.key,.int .i64 x.alg,.int .i64 x.from_,.int .i64 x.till] 4 true)) (.slice (some ⟨bs,0,none⟩) 4 4) [x.key,x.alg,x.from_,x.till] := ints_at (ns := [x.key,x.alg,x.from_,x.till]) (c := 4) (wr := true) (cap := 4) (by rw [Hp.put_same]; rfl)
   refine vks_callv ?_ ?_ (FnV_of_Fn h3.e132 (fn132 h3 L (hB3.keep hle3) (h2.rowmono (hrl.trans (RowLe.of_le hle3))) x.zone hns ?_ (by simp only [List.length_append]; omega) (by simp))) ?_
   ·simp only [go_sem,Nat.reduceEqDiff]
   ·simp only [go_sem,Nat.reduceEqDiff]
   ·intro n hn
    simp only [List.mem_cons,List.not_mem_nil,or_false] at hn
    rcases hn with rfl | rfl | rfl | rfl
    ·exact hrng.1
    ·exact hrng.2.1
    ·exact hrng.2.2.1
    ·exact hrng.2.2.2.1
   rintro u G1 ⟨ob3,hB4,hk3⟩
   have hk3' := (hk2.trans (KeepB.put hbs)).trans hk3
   have hrl3 := (RowLe.of_le hle1).trans (hB1.rows hk3')
   simp only [go_sem,Nat.reduceEqDiff,Nat.reduceBEq,Nat.reduceAdd]
   refine vks_call ?_ (L.fmtU G1 x.sum (h2.rowmono hrl3) hrng.2.2.2.2.1 hrng.2.2.2.2.2) ?_
   ·simp only [go_sem,Nat.reduceEqDiff]
   rintro u G2 ⟨rfl,hle4⟩
   simp only [go_sem,Nat.reduceBEq]
   have hnil : IntsAt G2 (.slice none 0 0) [] := SlAt.nil
   refine vks_callv ?_ ?_ (FnV_of_Fn h3.e132 (fn132 h3 L (hB4.keep hle4) (h2.rowmono (hrl3.trans (RowLe.of_le hle4))) (Lib.itoa x.sum) hnil (fun n h => by cases h) (by simp only [List.length_append]; omega) (by simp))) ?_
   ·simp only [go_sem,Nat.reduceEqDiff]
   ·simp only [go_sem,Nat.reduceEqDiff]
   rintro u G3 ⟨ob4,hB5,hk4⟩
   simp only [go_sem,Nat.reduceEqDiff,Nat.reduceBEq,binO]
   refine ⟨hlt,wrapS (by omega),ob4,?_,hk3'.trans (KeepB.trans ⟨fun c o hc _ _ => hle4 _ _ hc,fun c hc => .inl hc.symm⟩ hk4)⟩
   rw [hsucc,htx]
   simp only [← List.append_assoc]
   exact hB5
  ·have hdk : decide ((k : Int) < (s.sigs.length : Int)) = false := by simpa using hlt
   have : k = s.sigs.length := by omega
   subst this
   rw [List.take_length] at hB3
   have etx : textHead s ++ s.data.flatMap textD ++ s.sigs.flatMap textG = textOf s := by rw [textOf_eq,List.append_assoc]
   rw [etx] at hB3
   have hne : textOf s ≠ [] := by rw [textOf_eq]; simp [textHead,putT]
   obtain ⟨p,v,hp,hbo,hobne,hbuf⟩ := hB3
   cases ob2 with
   | none => exact absurd hbuf.2 hne
   | some bb =>
    obtain ⟨_,cap,c,rfl,hbb,hsz,hle,htk⟩ := hbuf
    simp only [hdk,go_sem,Nat.reduceLeDiff,Nat.reduceEqDiff,Nat.reduceBEq,Nat.reduceAdd,binO]
    refine vks_call ?_ (L.str G b bb cap (textOf s) c p (fun e => hobne (by rw [e])) hbo hbb hsz hle htk hne (by omega)) ?_
    ·simp only [go_sem,Nat.reduceEqDiff]
    rintro u G1 ⟨rfl,rfl⟩
    simp only [go_sem,Nat.reduceEqDiff,Nat.reduceBEq]
    intro x o hx
    have hxb : x ≠ b := by rintro rfl; rw [hb] at hx; cases hx
    have hxbb : x ≠ bb := by
     rintro rfl
     rcases hk2.2 x rfl with h | h
     ·cases h
     ·rw [hle1 _ _ hx] at h; cases h.2
    rw [Hp.del_ne _ hxbb]
    exact hk2.1 x o (hle1 _ _ hx) hxb (by simp)
end Go.SL
/- Contracts: small functions of package history; its iterator over copies. -/
namespace Go.SL
open Go
variable {E : Env} {H : Hp}
theorem fn128 (hE : Codes E) (h3 : Codes3 E) {s : SignedD} {dv gv : Value} (hd : DataAt H dv s.data) (hg : SigsAt H gv s.sigs) (nd : s.data.length ≤ 1000000) (ng : s.sigs.length ≤ 1000000) :
  Fn E.P (E.fn 128) [.agg #[S s.name,.int .i64 s.type,.int .i64 s.life,dv,gv]] H (fun u H' => ∃ dv' gv',u = .agg #[S s.name,.int .i64 s.type,.int .i64 s.life,dv',gv'] ∧ DataAt H' dv' s.data ∧ SigsAt H' gv' s.sigs ∧ H.le H') := by
 have o1 := SlAt.one hd
 have o2 := SlAt.one hg
 refine Fn.of_vks h3.c128 (by simp [cf128]) ?_
 simp only [cf128,cf128_0,cf128_1,cf128_2,cf128_3]
 simp only [go_sem,Nat.reduceLeDiff,Nat.reduceEqDiff,Nat.reduceBEq,Nat.reduceAdd,reduceCtorEq]
 refine vks_call ?_ (fn22 hE hd (by omega)) ?_
 ·simp only [go_sem,Nat.reduceEqDiff]
 rintro u H1 hcl
 have hd1 : DataAt H1 u s.data := hcl.at (fun i _ => rfl)
 have hle1 := hcl.le
 have o3 := SlAt.one hd1
 obtain ⟨a1,c1,rfl⟩ := SlAt.sl hd1
 simp only [go_sem,Nat.reduceLeDiff,Nat.reduceEqDiff,Nat.reduceBEq,Nat.reduceAdd]
 refine vks_call ?_ (fn39 hE (SigsAt.mono hg hle1) (by omega)) ?_
 ·simp only [go_sem,Nat.reduceEqDiff]
 rintro u H2 hcl
 have hg2 : SigsAt H2 u s.sigs := hcl.at (fun i _ => rfl)
 have hle2 := hcl.le
 obtain ⟨a2,c2,rfl⟩ := SlAt.sl hg2
 simp only [go_sem,Nat.reduceEqDiff,Nat.reduceBEq,Nat.reduceAdd]
 exact ⟨_,_,rfl,DataAt.mono hd1 hle2,hg2,hle1.trans hle2⟩
def vCopy (cs : List CopyD) (z : Nat → Value) (i : Nat) : Value := .agg #[.int .i64 (cs.getD i default).host,.int .i64 (cs.getD i default).from_,.int .i64 (cs.getD i default).till,S (cs.getD i default).apex,z i]
theorem fn125 (h3 : Codes3 E) {bz c : Nat} {wr : Bool} {zone : Bs} (hb : H bz = some (.row [S zone] c wr)) (cs : List CopyD) (z : Nat → Value) (i : Nat) (_hz : one1 (z i) = true) :
  FnP E 125 [vCopy cs z i,.pointer (some ⟨bz,0,none⟩)] H (.bool ((cs.getD i default).apex == zone)) := by
 unfold vCopy
 refine Fn.of_vks h3.c125 (by simp [cf125]) ?_
 simp only [cf125,cf125_0,cf125_1]
 simp only [hb,go_sem,Nat.reduceLeDiff,Nat.reduceEqDiff,Nat.reduceBEq,Nat.reduceAdd,reduceCtorEq,binO]
def fidx (ok : CopyD → Bool) (cs : List CopyD) (n : Nat) : List Nat := (List.range n).filter fun i => ok (cs.getD i default)
theorem fidx_succ (ok : CopyD → Bool) (cs : List CopyD) (n : Nat) : fidx ok cs (n + 1) = fidx ok cs n ++ (if ok (cs.getD n default) then [n] else []) := by
 unfold fidx
 rw [List.range_succ,List.filter_append]
 congr 1
 by_cases h : ok (cs.getD n default) = true
 ·rw [if_pos h,List.filter_cons_of_pos (p := fun i => ok (cs.getD i default)) h]; rfl
 ·rw [if_neg h,List.filter_cons_of_neg (p := fun i => ok (cs.getD i default)) h]; rfl
theorem fidx_split (ok : CopyD → Bool) (cs : List CopyD) {k : Nat} (h : ok (cs.getD k default) = true) : ∀ n, k < n → ∃ suf, fidx ok cs n = fidx ok cs k ++ k :: suf
 | 0,hk => by omega
 | n + 1, hk => by
  rw [fidx_succ]
  by_cases e : k = n
  ·subst e; exact ⟨[],by rw [if_pos h]⟩
  ·obtain ⟨suf,hs⟩ := fidx_split ok cs h n (by omega)
   exact ⟨suf ++ (if ok (cs.getD n default) then [n] else []),by rw [hs]; simp⟩
def itC (ok : CopyD → Bool) (cs : List CopyD) (z : Nat → Value) : List (List Value) := (fidx ok cs cs.length).map fun i => [vCopy cs z i]
set_option maxHeartbeats 1000000 in
theorem it131 (h3 : Codes3 E) {G : Hp} {bh bf ch cf : Nat} {wh wf : Bool} {rest : List Value} {vh f a : Value} {cs : List CopyD} {z : Nat → Value} (hvc : SlAt G 5 a cs.length (rCopy cs z)) (hz : ∀ i, i < cs.length → one1 (z i) = true) (hn : cs.length ≤ 1000000)
  (hH : G bh = some (.row (vh :: a :: rest) ch wh)) (hF : G bf = some (.row [f] cf wf)) (ok : CopyD → Bool)
  (hok : ∀ H',G.le H' → ∀ i,i < cs.length → FnV E f [vCopy cs z i] H' (fun u H'' => u = .bool (ok (cs.getD i default)) ∧ H'' = H')) :
  Iter E (.func (.func (E.fn 131)) #[] #[.pointer (some ⟨bh,0,none⟩),.pointer (some ⟨bf,0,none⟩)]) G (fun xs => xs = itC ok cs z) := by
 intro y Inv Stop H hG hy h0
 refine FnV_of_Fn h3.e131 ?_
 show Fn E.P (E.fn 131) [y,.pointer (some ⟨bh,0,none⟩),.pointer (some ⟨bf,0,none⟩)] H _
 have hle0 := hG _ _ h0
 have hvc0 := hvc
 obtain ⟨aa,cap,rfl,hsp,hr⟩ := hvc
 have hH0 := hle0 _ _ hH
 refine Fn.of_vks h3.c131 (by simp [cf131]) ?_
 simp only [cf131,cf131_0,cf131_1,cf131_2,cf131_3,cf131_4]
 simp only [hH0,go_sem,Nat.reduceLeDiff,Nat.reduceEqDiff,Nat.reduceBEq,Nat.reduceAdd,reduceCtorEq]
 refine vks_loopP cs.length 0 (fun k fr' H' => fr' = [(0, ⟨true, .val y⟩), (2, ⟨true, .val (.pointer (some ⟨bf, 0, none⟩))⟩), (7, ⟨true, .val (.slice aa cs.length cap)⟩), (8, ⟨true, .val (.int .i64 cs.length)⟩), (9, ⟨true, .val (.int .i64 k)⟩)] ∧
  Inv ((fidx ok cs k).map fun i => [vCopy cs z i]) H') (Nat.zero_le _) ⟨rfl,h0⟩ ?_
 rintro k fr' H' hk ⟨rfl,hinv⟩
 have hle := hG _ _ hinv
 by_cases hlt : k < cs.length
 ·have hd : decide ((k : Int) < (cs.length : Int)) = true := by simpa using hlt
  have hr' := hr (by omega)
  obtain ⟨b,o,vs,c,wr,ha,hb,hi⟩ := hr'
  subst ha
  have hb1 := hle _ _ hb
  have hi1 := (hi k hlt).1
  have hi2 := (hi k hlt).2
  have hzk := hz k hlt
  have hF1 := hle _ _ hF
  have hsucc := fidx_succ ok cs k
  simp only [hd,hb1,hi2,rCopy,hzk,hF1,go_sem,Nat.reduceEqDiff,Nat.reduceBEq,Nat.reduceAdd,reduceCtorEq,binO]
  refine ⟨⟨by omega,by omega⟩,hi1,?_⟩
  refine vks_callv ?_ ?_ (hok H' hle k hlt) ?_
  ·simp only [go_sem,Nat.reduceEqDiff,reduceCtorEq]
  ·simp only [go_sem,Nat.reduceEqDiff,reduceCtorEq]
  rintro w H'' ⟨rfl,rfl⟩
  cases hokk : ok (cs.getD k default) with
  | true =>
   obtain ⟨suf,hsuf⟩ := fidx_split ok cs hokk cs.length hlt
   rw [hokk,if_pos rfl] at hsucc
   simp only [go_sem,Nat.reduceEqDiff,Nat.reduceBEq,Nat.reduceAdd,reduceCtorEq]
   refine vks_useB (by intro x h; cases h) (by intro f a h; cases h) ?_ ?_ ?_
   ·simp only [go_sem,Nat.reduceEqDiff,reduceCtorEq]
   ·simp only [go_sem,Nat.reduceEqDiff,reduceCtorEq]
   refine vks_callv ?_ ?_ (hy ((fidx ok cs k).map fun i => [vCopy cs z i]) [vCopy cs z k] H'' ⟨suf.map fun i => [vCopy cs z i],by simp only [itC,hsuf,List.map_append,List.map_cons]⟩ hinv) ?_
   ·simp only [go_sem,Nat.reduceEqDiff,reduceCtorEq]
   ·simp only [go_sem,Nat.reduceEqDiff,reduceCtorEq]
   rintro v H3 (⟨rfl,hi3⟩ | ⟨rfl,hs⟩)
   ·simp only [go_sem,Nat.reduceEqDiff,Nat.reduceBEq,reduceCtorEq,binO]
    refine ⟨hlt,wrapS (by omega),?_⟩
    rw [hsucc,List.map_append]; exact hi3
   ·simp only [go_sem,Nat.reduceEqDiff,Nat.reduceBEq,reduceCtorEq,binO]
    exact .inr ⟨_,hs⟩
  | false =>
   rw [hokk] at hsucc
   simp only [go_sem,Nat.reduceEqDiff,Nat.reduceBEq,Nat.reduceAdd,reduceCtorEq]
   refine vks_skipB (by intro x h; cases h) (by intro f a h; cases h) ?_ ?_ ?_
   ·simp only [go_sem,Nat.reduceEqDiff,reduceCtorEq]
   ·simp only [go_sem,Nat.reduceEqDiff,reduceCtorEq]
   simp only [undef,↓simT_pick_f,go_sem,Nat.reduceEqDiff,Nat.reduceBEq,reduceCtorEq,binO]
   refine ⟨hlt,wrapS (by omega),?_⟩
   rw [hsucc]; simpa using hinv
 ·have hd : decide ((k : Int) < (cs.length : Int)) = false := by simpa using hlt
  have : k = cs.length := by omega
  subst this
  simp only [hd,go_sem,Nat.reduceEqDiff,Nat.reduceBEq,Nat.reduceAdd,reduceCtorEq,binO]
  exact .inl ⟨_,rfl,hinv⟩
theorem fn126 (h3 : Codes3 E) {cs : List Value} (hl : cs.length = 9) (_h1 : cs.all one1 = true) {f : Value} (hf : f.cells = #[f]) :
  Fn E.P (E.fn 126) [.agg cs.toArray, f] H (fun u H' => ∃ bh bf, H bh = none ∧ H bf = none ∧ bf ≠ bh ∧ u = .func (.func (E.fn 131)) #[] #[.pointer (some ⟨bh, 0, none⟩), .pointer (some ⟨bf, 0, none⟩)] ∧
   H' = (H.put bh (.row cs 9 true)).put bf (.row [f] 1 true)) := by
 refine Fn.of_vks h3.c126 (by simp [cf126]) ?_
 simp only [cf126,cf126_0,cf126_1]
 simp only [go_sem,Nat.reduceEqDiff,Nat.reduceBEq,reduceCtorEq]
 intro b hb b1 hb1
 have hne : b1 ≠ b := by rintro rfl; rw [Hp.put_same] at hb1; cases hb1
 have hb2 : H b1 = none := by rwa [Hp.put_ne _ _ hne] at hb1
 refine ⟨b,b1,hb,hb2,hne,rfl,?_⟩
 change (H.put b (.row cs cs.length true)).put b1 (.row f.cells.toList f.cells.toList.length true) = _
 rw [hf,hl]; rfl
end Go.SL
/- What a walk over published sets keeps: rows of their own, their tags. -/
namespace Go.SL
open Go
variable {E : Env} {H : Hp}
section
variable {fr : Fr} {d : Option Nat} {K : Fr → Hp → Prop}
theorem big_pushR {sz bytes n c : Nat} {zero cells : List Value} {s x : Arg} {v : Value} {row row' : Nat → List Value} {ob : Option Nat} {bs : Nat} {wr : Bool} (h1 : vok fr s) (h2 : vok fr x) (hs : vo E fr s = v) (hx : vo E fr x = .slice (some ⟨bs, 0, none⟩) 1 1)
  (hb : H bs = some (.row cells c wr)) (hc : cells.length = sz) (hc1 : cells.all one1 = true) (hB : OwnR H sz v n row ob) (hl : ∀ i,i < n → (row i).length = sz) (hr : ∀ i,i < n → row' i = row i) (hrn : row' n = cells)
  (hn1 : (n + 1) * bytes ≤ 140737488355328) (hn2 : n + 1 ≤ 4611686018427387904) (hpos : 1 * bytes ≤ 140737488355328)
  (h : ∀ v' H' b',OwnR H' sz v' (n + 1) row' (some b') → (∀ c o,H c = some o → some c ≠ ob → H' c = some o) → (H b' = none ∨ some b' = ob) → K (setD fr d ⟨true,.val v'⟩) H') :
  big E (.app sz bytes zero s x) d fr H K := by
 have e1 : srcOk H sz (vo E fr x) := by rw [hx]; exact .inr ⟨rfl,by rw [hb]; show 0 + 1 * sz ≤ _; omega⟩
 have e2 : srcCells H sz (vo E fr x) = cells := by
  rw [hx]
  simp only [srcCells,hb,List.drop_zero,Nat.one_mul]
  exact List.take_of_length_le (by omega)
 have e3 : srcLen (vo E fr x) = 1 := by rw [hx]; rfl
 have e4 : (srcCells H sz (vo E fr x)).all one1 = true := by rw [e2]; exact hc1
 have hfp : flat (n + 1) row' = flat n row ++ cells := by rw [flat_succ,hrn,flat_congr hr]
 simp only [big]
 refine ⟨h1,h2,e1,e4,?_⟩
 cases ob with
 | none =>
  obtain ⟨rfl,rfl⟩ := hB
  simp only [hs,e2,e3]
  refine ⟨hpos,by omega,(fun h0 => by cases h0),fun _ b cap hbn => ?_⟩
  refine h _ _ b ⟨cap,rfl,?_⟩ (fun c o hc _ => le_put hbn _ _ _ hc) (.inl hbn)
  rw [Hp.put_same,hfp]; rfl
 | some b0 =>
  obtain ⟨cap,rfl,hH⟩ := hB
  have hfl := flat_len hl
  simp only [hs,hH,e2,e3]
  refine ⟨hn1,hn2,hfl,trivial,fun b cap' hbn => ?_⟩
  refine h _ _ b ⟨cap',rfl,?_⟩ (fun c o hc hne => ?_) ?_
  ·rw [Hp.put_same,hfp]
  ·have hcb : c ≠ b0 := by rintro rfl; exact hne rfl
   refine le_put hbn _ _ _ ?_
   rw [Hp.del_ne _ hcb]; exact hc
  ·by_cases e : b = b0
   ·exact .inr (by rw [e])
   ·rw [Hp.del_ne _ e] at hbn; exact .inl hbn
end
def ixsF : Nat → Groups → List (Bs × Nat)
 | _,[] => []
 | n,e :: r => (e.1,n) :: ixsF (n + 1) r
theorem ixsF_append (e : Bs × (SignedD × List SpanD)) : ∀ (n : Nat) (G : Groups), ixsF n (G ++ [e]) = ixsF n G ++ [(e.1, n + G.length)]
 | n,[] => rfl
 | n,x :: r => by simp only [List.cons_append,ixsF,ixsF_append e (n + 1) r,List.length_cons]; rw [Nat.add_right_comm]; rfl
theorem ixsF_set (k : Bs) (y : SignedD × List SpanD) : ∀ (n : Nat) (G : Groups) (i : Nat), (G.getD i default).1 = k → ixsF n (G.set i (k, y)) = ixsF n G
 | n,[],i,h => rfl
 | n, x :: r, 0, h => by
  have h' : x.1 = k := h
  simp only [List.set_cons_zero,ixsF,h']
 | n, x :: r, i + 1, h => by
  have h' : (r.getD i default).1 = k := h
  simp only [List.set_cons_succ,ixsF,ixsF_set k y (n + 1) r i h']
theorem ixsF_none {k : Bs} : ∀ {n : Nat} {G : Groups}, mget k (ixsF n G) = none → mget k G = none
 | n,[],h => rfl
 | n, x :: r, h => by
  simp only [ixsF,mget] at h
  split at h
  ·cases h
  ·rename_i hne
   have ih := ixsF_none h
   obtain ⟨k',u⟩ := x
   simp only [mget,if_neg hne,ih]
theorem ixsF_some {k : Bs} {i : Nat} : ∀ {n : Nat} {G : Groups}, mget k (ixsF n G) = some i → ∃ j, i = n + j ∧ j < G.length ∧ (G.getD j default).1 = k ∧ mget k G = some (G.getD j default).2 ∧ ∀ v, mput k v G = G.set j (k, v)
 | n,[],h => by cases h
 | n, x :: r, h => by
  obtain ⟨k',u⟩ := x
  simp only [ixsF,mget] at h
  split at h
  ·rename_i he
   cases h
   exact ⟨0,rfl,by simp,he.symm,by simp only [mget,if_pos he]; rfl,fun v => by simp only [mput,if_pos he]; rfl⟩
  ·rename_i hne
   obtain ⟨j,hj,hjl,hk,hg,hp⟩ := ixsF_some h
   refine ⟨j + 1,by omega,by simpa using hjl,hk,?_,fun v => ?_⟩
   ·simp only [mget,if_neg hne,hg]; rfl
   ·simp only [mput,if_neg hne,hp]; rfl
def ixs (G : Groups) : List (Bs × Nat) := ixsF 0 G
def heldRow (zn : Bs) (G : Groups) (dv gv fv : Nat → Value) (i : Nat) : List Value := rHeld zn (G.getD i default).2.1 (dv i) (gv i) (fv i) (.slice none 0 0)
structure PubAt (K H : Hp) (tg : Nat → Option Nat) (zn : Bs) (G : Groups) (v : Value) (dv gv fv : Nat → Value) (ob : Option Nat) (fb : Nat → Option Nat) : Prop where
 le : K.le H
 tag : ∀ b t,tg b = some t → K b = none ∧ H b ≠ none
 own : OwnR H 8 v G.length (heldRow zn G dv gv fv) ob
 otag : ∀ b,ob = some b → tg b = some 5
 data : ∀ i,i < G.length → DataAt K (dv i) (G.getD i default).2.1.data ∧ SigsAt K (gv i) (G.getD i default).2.1.sigs
 fresh : ∀ i,i < G.length → OwnR H 2 (fv i) (G.getD i default).2.2.length (rSpan (G.getD i default).2.2) (fb i)
 ftag : ∀ i,i < G.length → ∀ b,fb i = some b → tg b = some (6 + i)
structure PubV (H : Hp) (tg : Nat → Option Nat) (b4 b5 b6 b7 bm : Nat) (v : Value) (th : Bool) (om : AObj) (G : Groups) : Prop where
 v4 : H b4 = some (.row [.slice none 0 0] 1 true)
 v5 : H b5 = some (.row [.int .i64 0] 1 true)
 v6 : H b6 = some (.row [v] 1 true)
 v7 : H b7 = some (.row [.bool th] 1 true)
 vm : H bm = some om
 t4 : tg b4 = some 0
 t5 : tg b5 = some 1
 t6 : tg b6 = some 2
 t7 : tg b7 = some 3
 tm : tg bm = some 4
 map : ∀ H0 : Hp,MapAt (H0.put bm om) bm ((ixs G).map fun e => (S e.1,.int .i64 (e.2 : Int)))
section
variable {K : Hp} {tg : Nat → Option Nat} {zn : Bs} {G : Groups} {v : Value} {dv gv fv : Nat → Value} {ob : Option Nat} {fb : Nat → Option Nat}
theorem tag_ne {b c t u : Nat} (h1 : tg b = some t) (h2 : tg c = some u) (h : t ≠ u) : b ≠ c := by
 rintro rfl; rw [h1] at h2; cases h2; exact h rfl
theorem PubAt.put (h : PubAt K H tg zn G v dv gv fv ob fb) {b t : Nat} (o : AObj) (ht : tg b = some t) (h5 : t < 5) : PubAt K (H.put b o) tg zn G v dv gv fv ob fb where
 le := le_put_of_le h.le (h.tag b t ht).1 o
 tag := fun c u hc => ⟨(h.tag c u hc).1, by
  by_cases e : c = b
  ·rw [e,Hp.put_same]; simp
  ·rw [Hp.put_ne _ _ e]; exact (h.tag c u hc).2⟩
 own := h.own.keep fun c hc => Hp.put_ne _ _ (tag_ne (h.otag c hc) ht (by omega))
 otag := h.otag
 data := h.data
 fresh := fun i hi => (h.fresh i hi).keep fun c hc => Hp.put_ne _ _ (tag_ne (h.ftag i hi c hc) ht (by omega))
 ftag := h.ftag
theorem PubAt.mono {H' : Hp} (h : PubAt K H tg zn G v dv gv fv ob fb) (hl : H.le H') : PubAt K H' tg zn G v dv gv fv ob fb where
 le := h.le.trans hl
 tag := fun c u hc => ⟨(h.tag c u hc).1, by
  cases hq : H c with
  | none => exact absurd hq (h.tag c u hc).2
  | some o => rw [hl c o hq]; simp⟩
 own := h.own.mono hl
 otag := h.otag
 data := h.data
 fresh := fun i hi => (h.fresh i hi).mono hl
 ftag := h.ftag
theorem PubAt.frame {K2 H' : Hp} (h : PubAt K H tg zn G v dv gv fv ob fb) (h1 : K.le K2) (h2 : K2.le H') (h3 : ∀ c o, H c = some o → K c = none → K2 c = none ∧ H' c = some o) : PubAt K2 H' tg zn G v dv gv fv ob fb := by
 have hk : ∀ c u, tg c = some u → K2 c = none ∧ H' c = H c := fun c u hc => by
  have ht := h.tag c u hc
  cases hq : H c with
  | none => exact absurd hq ht.2
  | some o => exact h3 c o hq ht.1
 exact {
  le := h2
  tag := fun c u hc => ⟨(hk c u hc).1,by rw [(hk c u hc).2]; exact (h.tag c u hc).2⟩
  own := h.own.keep fun c hc => (hk c _ (h.otag c hc)).2
  otag := h.otag
  data := fun i hi => ⟨(h.data i hi).1.mono h1,(h.data i hi).2.mono h1⟩
  fresh := fun i hi => (h.fresh i hi).keep fun c hc => (hk c _ (h.ftag i hi c hc)).2
  ftag := h.ftag }
theorem PubV.frame {H' : Hp} {b4 b5 b6 b7 bm : Nat} {th : Bool} {om : AObj} (h : PubV H tg b4 b5 b6 b7 bm v th om G) (h3 : ∀ c u, tg c = some u → H' c = H c) : PubV H' tg b4 b5 b6 b7 bm v th om G :=
 ⟨(h3 _ _ h.t4).trans h.v4,(h3 _ _ h.t5).trans h.v5,(h3 _ _ h.t6).trans h.v6,(h3 _ _ h.t7).trans h.v7,(h3 _ _ h.tm).trans h.vm,h.t4,h.t5,h.t6,h.t7,h.tm,h.map⟩
theorem PubAt.frameV {K2 H' : Hp} (h : PubAt K H tg zn G v dv gv fv ob fb) (h3 : ∀ c o, H c = some o → K c = none → K2 c = none ∧ H' c = some o) : ∀ c u, tg c = some u → H' c = H c := fun c u hc => by
 have ht := h.tag c u hc
 cases hq : H c with
 | none => exact absurd hq ht.2
 | some o => exact (h3 c o hq ht.1).2
theorem PubV.mono {H' : Hp} {b4 b5 b6 b7 bm : Nat} {th : Bool} {om : AObj} (h : PubV H tg b4 b5 b6 b7 bm v th om G) (hl : H.le H') : PubV H' tg b4 b5 b6 b7 bm v th om G :=
 ⟨hl _ _ h.v4,hl _ _ h.v5,hl _ _ h.v6,hl _ _ h.v7,hl _ _ h.vm,h.t4,h.t5,h.t6,h.t7,h.tm,h.map⟩
def tgMove (tg : Nat → Option Nat) (b' t : Nat) (ob : Option Nat) : Nat → Option Nat := fun c => if c = b' then some t else if some c = ob then none else tg c
theorem tgMove_var {b' t : Nat} {c u : Nat} (hc : tg c = some u) (h1 : c ≠ b') (h2 : some c ≠ ob) : tgMove tg b' t ob c = some u := by
 unfold tgMove; rw [if_neg h1,if_neg h2,hc]
theorem PubAt.ne_new (h : PubAt K H tg zn G v dv gv fv ob fb) {c u b' : Nat} {o' : Option Nat} {t : Nat} (hc : tg c = some u) (ho : ∀ b, o' = some b → tg b = some t) (hut : u ≠ t) (hnew : H b' = none ∨ some b' = o') : c ≠ b' ∧ some c ≠ o' := by
 have h2 : some c ≠ o' := fun e => by have := ho c e.symm; rw [hc] at this; cases this; exact hut rfl
 refine ⟨?_,h2⟩
 rintro rfl
 rcases hnew with hn | hn
 ·exact (h.tag _ _ hc).2 hn
 ·exact h2 hn
theorem PubAt.push (h : PubAt K H tg zn G v dv gv fv ob fb) {H' : Hp} {v' d0 g0 : Value} {b' : Nat} {t : Bs} {s : SignedD}
  (hO : OwnR H' 8 v' (G.length + 1) (heldRow zn (G ++ [(t,(s,[]))]) (upd1 dv G.length d0) (upd1 gv G.length g0) (upd1 fv G.length (.slice none 0 0))) (some b'))
  (hkeep : ∀ c o,H c = some o → some c ≠ ob → H' c = some o) (hnew : H b' = none ∨ some b' = ob) (hd : DataAt K d0 s.data) (hg : SigsAt K g0 s.sigs) :
  PubAt K H' (tgMove tg b' 5 ob) zn (G ++ [(t,(s,[]))]) v' (upd1 dv G.length d0) (upd1 gv G.length g0) (upd1 fv G.length (.slice none 0 0)) (some b') (fun i => if i = G.length then none else fb i) where
 le := fun c o hc => hkeep c o (h.le c o hc) fun e => by have := (h.tag c 5 (h.otag c e.symm)).1; rw [this] at hc; cases hc
 tag := fun c u hc => by
  unfold tgMove at hc
  split at hc
  ·rename_i e
   subst e
   refine ⟨?_,hO.some_at⟩
   rcases hnew with hn | hn
   ·cases hq : K c with
    | none => rfl
    | some o => rw [h.le c o hq] at hn; cases hn
   ·exact (h.tag c 5 (h.otag c hn.symm)).1
  ·split at hc
   ·cases hc
   ·rename_i h1 h2
    have ht := h.tag c u hc
    refine ⟨ht.1,?_⟩
    cases hq : H c with
    | none => exact absurd hq ht.2
    | some o => rw [hkeep c o hq h2]; simp
 own := by rw [List.length_append]; exact hO
 otag := fun b hb => by cases hb; unfold tgMove; rw [if_pos rfl]
 data := fun i hi => by
  by_cases e : i = G.length
  ·subst e
   have : (G ++ [(t,(s,([] : List SpanD)))]).getD G.length default = (t,(s,[])) := by simp
   simp only [upd1,if_true,this]
   exact ⟨hd,hg⟩
  ·have hi' : i < G.length := by simp at hi; omega
   have : (G ++ [(t,(s,([] : List SpanD)))]).getD i default = G.getD i default := by simp [List.getElem?_append_left hi']
   simp only [upd1,if_neg e,this]
   exact h.data i hi'
 fresh := fun i hi => by
  by_cases e : i = G.length
  ·subst e
   have : (G ++ [(t,(s,([] : List SpanD)))]).getD G.length default = (t,(s,[])) := by simp
   simp only [upd1,if_true,this]
   exact ⟨rfl,rfl⟩
  ·have hi' : i < G.length := by simp at hi; omega
   have : (G ++ [(t,(s,([] : List SpanD)))]).getD i default = G.getD i default := by simp [List.getElem?_append_left hi']
   simp only [upd1,if_neg e,this]
   refine (h.fresh i hi').keep fun c hc => ?_
   have hct := h.ftag i hi' c hc
   have hne := (h.ne_new hct h.otag (by omega) hnew).2
   cases hq : H c with
   | none => exact absurd hq (h.tag c _ hct).2
   | some o => exact hkeep c o hq hne
 ftag := fun i hi b hb => by
  by_cases e : i = G.length
  ·simp only [if_pos e] at hb; cases hb
  ·have hi' : i < G.length := by simp at hi; omega
   simp only [if_neg e] at hb
   have hct := h.ftag i hi' b hb
   have hne := h.ne_new hct h.otag (by omega) hnew
   exact tgMove_var hct hne.1 hne.2
theorem PubV.push {G1 : Groups} {w : Value} {b4 b5 b6 b7 bm : Nat} {th : Bool} {om : AObj} (hV : PubV H tg b4 b5 b6 b7 bm w th om G1) (h : PubAt K H tg zn G v dv gv fv ob fb) {H' : Hp} {b' t : Nat} {o' : Option Nat} (h5 : 5 ≤ t)
  (ho : ∀ b,o' = some b → tg b = some t) (hkeep : ∀ c o,H c = some o → some c ≠ o' → H' c = some o) (hnew : H b' = none ∨ some b' = o') : PubV H' (tgMove tg b' t o') b4 b5 b6 b7 bm w th om G1 := by
 have k : ∀ c u o, tg c = some u → u < 5 → H c = some o → H' c = some o ∧ tgMove tg b' t o' c = some u := fun c u o hc hu hx => by
  have hne := h.ne_new hc ho (by omega) hnew
  exact ⟨hkeep c o hx hne.2,tgMove_var hc hne.1 hne.2⟩
 exact ⟨(k _ _ _ hV.t4 (by omega) hV.v4).1, (k _ _ _ hV.t5 (by omega) hV.v5).1, (k _ _ _ hV.t6 (by omega) hV.v6).1, (k _ _ _ hV.t7 (by omega) hV.v7).1, (k _ _ _ hV.tm (by omega) hV.vm).1,
  (k _ _ _ hV.t4 (by omega) hV.v4).2,(k _ _ _ hV.t5 (by omega) hV.v5).2,(k _ _ _ hV.t6 (by omega) hV.v6).2,(k _ _ _ hV.t7 (by omega) hV.v7).2,(k _ _ _ hV.tm (by omega) hV.vm).2,hV.map⟩
theorem getD_set_same {G : Groups} {i : Nat} (hi : i < G.length) (x : Bs × (SignedD × List SpanD)) : (G.set i x).getD i default = x := by simp [hi]
theorem getD_set_ne {G : Groups} {i j : Nat} (h : j ≠ i) (x : Bs × (SignedD × List SpanD)) : (G.set i x).getD j default = G.getD j default := by
 simp [Ne.symm h]
theorem heldRow_set {i : Nat} (hi : i < G.length) (k : Bs) (l : List SpanD) (j : Nat) : heldRow zn (G.set i (k, ((G.getD i default).2.1, l))) dv gv fv j = heldRow zn G dv gv fv j := by
 unfold heldRow
 by_cases e : j = i
 ·subst e; rw [getD_set_same hi]
 ·rw [getD_set_ne e]
theorem held_splice {n i : Nat} (hi : i < n) (x : Value) : (flat n (heldRow zn G dv gv fv)).take (i * 8 + 6) ++ [x] ++ (flat n (heldRow zn G dv gv fv)).drop (i * 8 + 6 + 1) = flat n (heldRow zn G dv gv (upd1 fv i x)) := by
 rw [flat_splice (sz := 8) (fun _ _ => rfl) hi (by omega)]
 apply flat_congr
 intro j _
 by_cases e : j = i
 ·subst e; simp [heldRow,rHeld,upd1]
 ·simp [heldRow,rHeld,upd1,e]
theorem PubAt.pushF (h : PubAt K H tg zn G v dv gv fv ob fb) {H' : Hp} {v' : Value} {b' i b0 cap : Nat} {sp : SpanD} (hi : i < G.length) (hv : v = .slice (some ⟨b0, 0, none⟩) G.length cap) (hob : ob = some b0)
  (hO : OwnR H' 2 v' ((G.getD i default).2.2.length + 1) (rSpan ((G.getD i default).2.2 ++ [sp])) (some b')) (hkeep : ∀ c o,H c = some o → some c ≠ fb i → H' c = some o) (hnew : H b' = none ∨ some b' = fb i) :
  PubAt K (H'.put b0 (.row (flat G.length (heldRow zn G dv gv (upd1 fv i v'))) (cap * 8) true)) (tgMove tg b' (6 + i) (fb i)) zn (G.set i ((G.getD i default).1,((G.getD i default).2.1,(G.getD i default).2.2 ++ [sp]))) v dv gv (upd1 fv i v') ob (fun j => if j = i then some b' else fb j) := by
 have hot := h.otag b0 hob
 have h0n := h.ne_new hot (h.ftag i hi) (by omega) hnew
 have hkle : ∀ c o, K c = some o → H' c = some o := fun c o hc => hkeep c o (h.le c o hc) fun e => by
  have := (h.tag c _ (h.ftag i hi c e.symm)).1
  rw [this] at hc; cases hc
 exact {
  le := fun c o hc => by
   rw [Hp.put_ne]
   ·exact hkle c o hc
   ·rintro rfl
    rw [(h.tag _ _ hot).1] at hc; cases hc
  tag := fun c u hc => by
   have hput : H' c ≠ none → (H'.put b0 (.row (flat G.length (heldRow zn G dv gv (upd1 fv i v'))) (cap * 8) true)) c ≠ none := fun hx => by
    by_cases e : c = b0
    ·rw [e,Hp.put_same]; simp
    ·rw [Hp.put_ne _ _ e]; exact hx
   unfold tgMove at hc
   split at hc
   ·rename_i e
    subst e
    refine ⟨?_,hput hO.some_at⟩
    rcases hnew with hn | hn
    ·cases hq : K c with
     | none => rfl
     | some o => rw [h.le c o hq] at hn; cases hn
    ·exact (h.tag c _ (h.ftag i hi c hn.symm)).1
   ·split at hc
    ·cases hc
    ·rename_i h1 h2
     have ht := h.tag c u hc
     refine ⟨ht.1,hput ?_⟩
     cases hq : H c with
     | none => exact absurd hq ht.2
     | some o => rw [hkeep c o hq h2]; simp
  own := by
   subst hv; subst hob
   rw [List.length_set]
   refine ⟨cap,rfl,?_⟩
   rw [Hp.put_same]
   congr 2
   exact (flat_congr fun j _ => heldRow_set hi _ _ j).symm
  otag := fun b hb => by
   rw [hob] at hb; cases hb
   exact tgMove_var hot h0n.1 h0n.2
  data := fun j hj => by
   rw [List.length_set] at hj
   by_cases e : j = i
   ·subst e; rw [getD_set_same hi]; exact h.data j hi
   ·rw [getD_set_ne e]; exact h.data j hj
  fresh := fun j hj => by
   rw [List.length_set] at hj
   by_cases e : j = i
   ·subst e
    rw [getD_set_same hi]
    simp only [upd1,if_true,List.length_append,List.length_cons,List.length_nil,Nat.zero_add]
    refine hO.keep fun c hc => ?_
    cases hc
    exact Hp.put_ne _ _ (Ne.symm h0n.1)
   ·rw [getD_set_ne e]
    simp only [upd1,if_neg e]
    refine (h.fresh j hj).keep fun c hc => ?_
    have hct := h.ftag j hj c hc
    have hne := h.ne_new hct (h.ftag i hi) (by omega) hnew
    rw [Hp.put_ne _ _ (tag_ne hct hot (by omega))]
    cases hq : H c with
    | none => exact absurd hq (h.tag c _ hct).2
    | some o => exact hkeep c o hq hne.2
  ftag := fun j hj b hb => by
   rw [List.length_set] at hj
   by_cases e : j = i
   ·subst e
    simp only [if_true] at hb
    cases hb
    unfold tgMove; rw [if_pos rfl]
   ·simp only [if_neg e] at hb
    have hct := h.ftag j hj b hb
    have hne := h.ne_new hct (h.ftag i hi) (by omega) hnew
    exact tgMove_var hct hne.1 hne.2 }
end
end Go.SL
/- Contracts: what a zone published; plain parts and pieces of the state. -/
namespace Go.SL
open Go
variable {E : Env} {H : Hp}
theorem pubStep_new {sp : SpanD} {G : Groups} {s : SignedD} (h : mget (textOf s) (ixs G) = none) :
  pubStep sp G s = (G ++ [(textOf s,(s,[]))]).set G.length (textOf s,(s,[] ++ [sp])) ∧ ixs (G ++ [(textOf s,(s,[]))]) = mput (textOf s) G.length (ixs G) := by
 have hg := ixsF_none h
 refine ⟨?_,?_⟩
 ·unfold pubStep
  rw [hg,mput_new hg]
  simp
 ·rw [mput_new h]
  unfold ixs
  rw [ixsF_append,Nat.zero_add]
theorem pubStep_old {sp : SpanD} {G : Groups} {s : SignedD} {i : Nat} (h : mget (textOf s) (ixs G) = some i) :
  i < G.length ∧ (G.getD i default).1 = textOf s ∧ pubStep sp G s = G.set i (textOf s,((G.getD i default).2.1,(G.getD i default).2.2 ++ [sp])) := by
 obtain ⟨j,hj,hjl,hk,hg,hp⟩ := ixsF_some h
 rw [Nat.zero_add] at hj
 subst hj
 refine ⟨hjl,hk,?_⟩
 unfold pubStep
 rw [hg,hp]
theorem ixs_set {G : Groups} {i : Nat} (y : SignedD × List SpanD) {k : Bs} (h : (G.getD i default).1 = k) : ixs (G.set i (k,y)) = ixs G := ixsF_set k y 0 G i h
theorem pubStep_len (sp : SpanD) (G : Groups) (s : SignedD) : (pubStep sp G s).length ≤ G.length + 1 := by
 unfold pubStep
 have := mput_len (textOf s) (match mget (textOf s) G with
  | some e => (e.1,e.2 ++ [sp])
  | none => (s,[sp])) G
 omega
theorem pubSets_len (sp : SpanD) (G : Groups) (ss : List SignedD) : ∀ k, (pubSets sp G ss k).length ≤ G.length + k
 | 0 => Nat.le_refl _
 | k + 1 => by
  have h1 := pubSets_len sp G ss k
  have h2 := pubStep_len sp (pubSets sp G ss k) (ss.getD k default)
  simp only [pubSets]; omega
theorem pubL_len {fs : List CopyD} {B : Nat} (h : ∀ i, i < fs.length → (fs.getD i default).sets.length ≤ B) : ∀ m, m ≤ fs.length → (pubL fs m).length ≤ m * B
 | 0,_ => by simp [pubL]
 | m + 1, hm => by
  have h1 := pubL_len h m (by omega)
  have h2 := pubSets_len (spanOf (fs.getD m default)) (pubL fs m) (fs.getD m default).sets (fs.getD m default).sets.length
  have h3 := h m (by omega)
  simp only [pubL,Nat.succ_mul]; omega
def SpB (G : Groups) (N : Nat) : Prop := ∀ e ∈ G,e.2.2.length ≤ N
theorem pubStep_sp {sp : SpanD} {G : Groups} {s : SignedD} {N : Nat} (h : SpB G N) : SpB (pubStep sp G s) (N + 1) := by
 intro e he
 unfold pubStep at he
 rcases mem_mput he with rfl | he
 ·cases hg : mget (textOf s) G with
  | none => simp
  | some e0 =>
   have := h _ (mget_mem hg)
   simp only [List.length_append,List.length_cons,List.length_nil] at this ⊢
   omega
 ·have := h e he; omega
theorem pubSets_sp {sp : SpanD} {G : Groups} {ss : List SignedD} {N : Nat} (h : SpB G N) : ∀ k, SpB (pubSets sp G ss k) (N + k)
 | 0 => h
 | k + 1 => by have := pubStep_sp (sp := sp) (s := ss.getD k default) (pubSets_sp (sp := sp) (ss := ss) h k); exact this
theorem pubL_sp {fs : List CopyD} {B : Nat} (h : ∀ i, i < fs.length → (fs.getD i default).sets.length ≤ B) : ∀ m, m ≤ fs.length → SpB (pubL fs m) (m * B)
 | 0,_ => fun e he => by simp [pubL] at he
 | m + 1, hm => by
  have h1 := pubSets_sp (sp := spanOf (fs.getD m default)) (ss := (fs.getD m default).sets) (pubL_sp h m (by omega)) (fs.getD m default).sets.length
  have h3 := h m (by omega)
  intro e he
  have := h1 e he
  rw [Nat.succ_mul]; omega
section
variable {tg : Nat → Option Nat} {b4 b5 b6 b7 bm : Nat} {v : Value} {th : Bool} {om : AObj} {G : Groups}
theorem PubV.put {b t : Nat} (h : PubV H tg b4 b5 b6 b7 bm v th om G) (o : AObj) (hb : tg b = some t) (h5 : 5 ≤ t) : PubV (H.put b o) tg b4 b5 b6 b7 bm v th om G :=
 ⟨(Hp.put_ne _ _ (tag_ne h.t4 hb (by omega))).trans h.v4,(Hp.put_ne _ _ (tag_ne h.t5 hb (by omega))).trans h.v5,(Hp.put_ne _ _ (tag_ne h.t6 hb (by omega))).trans h.v6,(Hp.put_ne _ _ (tag_ne h.t7 hb (by omega))).trans h.v7,(Hp.put_ne _ _ (tag_ne h.tm hb (by omega))).trans h.vm,h.t4,h.t5,h.t6,h.t7,h.tm,h.map⟩
theorem PubV.upd {G1 : Groups} (h : PubV H tg b4 b5 b6 b7 bm v th om G) {o : AObj} (hm : ∀ H0 : Hp, MapAt (H0.put bm o) bm ((ixs G1).map fun e => (S e.1, .int .i64 (e.2 : Int)))) : PubV (H.put bm o) tg b4 b5 b6 b7 bm v th o G1 :=
 ⟨(Hp.put_ne _ _ (tag_ne h.t4 h.tm (by omega))).trans h.v4,(Hp.put_ne _ _ (tag_ne h.t5 h.tm (by omega))).trans h.v5,(Hp.put_ne _ _ (tag_ne h.t6 h.tm (by omega))).trans h.v6,(Hp.put_ne _ _ (tag_ne h.t7 h.tm (by omega))).trans h.v7,Hp.put_same ..,h.t4,h.t5,h.t6,h.t7,h.tm,hm⟩
theorem PubV.st6 (h : PubV H tg b4 b5 b6 b7 bm v th om G) (v' : Value) : PubV (H.put b6 (.row [v'] 1 true)) tg b4 b5 b6 b7 bm v' th om G :=
 ⟨(Hp.put_ne _ _ (tag_ne h.t4 h.t6 (by omega))).trans h.v4,(Hp.put_ne _ _ (tag_ne h.t5 h.t6 (by omega))).trans h.v5,Hp.put_same ..,(Hp.put_ne _ _ (tag_ne h.t7 h.t6 (by omega))).trans h.v7,(Hp.put_ne _ _ (tag_ne h.tm h.t6 (by omega))).trans h.vm,h.t4,h.t5,h.t6,h.t7,h.tm,h.map⟩
theorem PubV.st7 (h : PubV H tg b4 b5 b6 b7 bm v th om G) (q : Bool) : PubV (H.put b7 (.row [.bool q] 1 true)) tg b4 b5 b6 b7 bm v q om G :=
 ⟨(Hp.put_ne _ _ (tag_ne h.t4 h.t7 (by omega))).trans h.v4,(Hp.put_ne _ _ (tag_ne h.t5 h.t7 (by omega))).trans h.v5,(Hp.put_ne _ _ (tag_ne h.t6 h.t7 (by omega))).trans h.v6,Hp.put_same ..,(Hp.put_ne _ _ (tag_ne h.tm h.t7 (by omega))).trans h.vm,h.t4,h.t5,h.t6,h.t7,h.tm,h.map⟩
theorem PubV.congr {G1 : Groups} (h : PubV H tg b4 b5 b6 b7 bm v th om G) (e : ixs G1 = ixs G) : PubV H tg b4 b5 b6 b7 bm v th om G1 :=
 ⟨h.v4,h.v5,h.v6,h.v7,h.vm,h.t4,h.t5,h.t6,h.t7,h.tm,by rw [e]; exact h.map⟩
end
def PubSt (H0 : Hp) (zn : Bs) (b4 b5 b6 b7 bm : Nat) (G : Groups) (th : Bool) (H : Hp) : Prop :=
 ∃ K tg v dv gv fv ob fb om,H0.le K ∧ PubAt K H tg zn G v dv gv fv ob fb ∧ PubV H tg b4 b5 b6 b7 bm v th om G
theorem PubSt.le {H0 : Hp} {zn : Bs} {b4 b5 b6 b7 bm : Nat} {G : Groups} {th : Bool} (h : PubSt H0 zn b4 b5 b6 b7 bm G th H) : H0.le H := by
 obtain ⟨K,tg,v,dv,gv,fv,ob,fb,om,h1,h2,_⟩ := h
 exact h1.trans h2.le
theorem PubSt.st7 {H0 : Hp} {zn : Bs} {b4 b5 b6 b7 bm : Nat} {G : Groups} {th : Bool} (h : PubSt H0 zn b4 b5 b6 b7 bm G th H) (q : Bool) : PubSt H0 zn b4 b5 b6 b7 bm G q (H.put b7 (.row [.bool q] 1 true)) := by
 obtain ⟨K,tg,v,dv,gv,fv,ob,fb,om,h1,h2,h3⟩ := h
 exact ⟨K,tg,v,dv,gv,fv,ob,fb,om,h1,h2.put _ h3.t7 (by omega),h3.st7 q⟩
theorem held_get (zn : Bs) (G : Groups) (dv gv fv : Nat → Value) {n i : Nat} (hi : i < n) : (flat n (heldRow zn G dv gv fv)).getD (i * 8 + 6) undef = fv i := by
 rw [flat_getD (sz := 8) (fun _ _ => rfl) hi (by omega)]; rfl
end Go.SL
