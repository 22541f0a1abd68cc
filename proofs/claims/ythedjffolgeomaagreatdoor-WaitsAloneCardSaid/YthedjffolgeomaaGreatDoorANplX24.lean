/- Contracts: sorting few names, further. -/
import Derived.Test.YthedjffolgeomaaGreatDoorANplV5
import Derived.Test.YthedjffolgeomaaGreatDoorANplX19
import Derived.Test.YthedjffolgeomaaGreatDoorANplT28
import Derived.Test.YthedjffolgeomaaGreatDoorANplQ
import Derived.Test.YthedjffolgeomaaGreatDoorANplO
namespace Go.SL
open Go
variable {E:Env} {H:Hp}
set_option maxHeartbeats 1000000 in
theorem yVB (h3 : yW E) {f : Value} (hf : zFS E f S uB) {b cap capc : Nat} (m : Int) (l : List Bs) (hn : l.length ≤ 12) (hH : H b = some (.row (flat l.length (kM l)) capc true)) :
  Fn E.P (E.fn 146) [.slice (some ⟨b,0,none⟩) l.length cap,.int .i64 0,.int .i64 l.length,.int .i64 m,f] H (fun _ H'=>H'=H.put b (.row (flat l.length (kM (xG qZ l.length l))) capc true)):=by
 refine Fn.of_vks h3.c146 (by simp [zHh]) ?_
 simp only [zHh,zJP,zKr,zJN,zJY,zJR]
 simp only [go_sem,Nat.reduceEqDiff,Nat.reduceBEq,Nat.reduceAdd,reduceCtorEq]
 refine zT 0 0 (fun _=>[(0,⟨true,.val (.slice (some ⟨b,0,none⟩) l.length cap)⟩),(1,⟨true,.val (.int .i64 0)⟩),(2,⟨true,.val (.int .i64 l.length)⟩),(3,⟨true,.val (.int .i64 m)⟩),(4,⟨true,.val f⟩),(10,⟨true,.val (.bool true)⟩),(11,⟨true,.val (.bool true)⟩)]) (fun _=>True) (Nat.le_refl _) rfl trivial ?_
 intro k hk _
 have e1:IntKind.i64.wrap ((l.length:Int) - 0)=(l.length:Int):=by rw [Int.sub_zero]; exact zLC (by omega)
 have d1:decide ((l.length:Int)≤12)=true:=by simp; omega
 simp only [e1,d1,go_sem,Nat.reduceEqDiff,Nat.reduceBEq,reduceCtorEq,zC]
 refine zM ?_ (yVJ h3 hf l (by omega) hH) ?_
 ·simp only [go_sem,Nat.reduceEqDiff,reduceCtorEq]
 rintro u H' rfl
 simp only [go_sem,Nat.reduceBEq]
theorem yVF (_hE : zX E) (h2 : xZ E) (h3 : yW E) {f : Value} (hf : zFS E f S uB) {b cap capc : Nat} (l : List Bs) (hn : l.length ≤ 12) (hH : H b = some (.row (flat l.length (kM l)) capc true)) :
  Fn E.P (E.fn 123) [.slice (some ⟨b,0,none⟩) l.length cap,f] H (fun _ H'=>H'=H.put b (.row (flat l.length (kM (xG qZ l.length l))) capc true)):=by
 refine Fn.of_vks h3.c123 (by simp [zHa]) ?_
 simp only [zHa,zKt,zKh]
 have e1:=yHZ (n:=l.length) (by omega)
 simp only [e1,go_sem,Nat.reduceEqDiff,Nat.reduceBEq,reduceCtorEq]
 refine zE _ ?_ (fun _=>⟨?_,zHj h2 l.length (by omega)⟩) ?_<;>simp only [go_sem,Nat.reduceEqDiff,Nat.reduceBEq,reduceCtorEq]
 refine zM ?_ (yVB h3 hf _ l hn hH) ?_
 ·simp only [go_sem,Nat.reduceEqDiff,reduceCtorEq]
 rintro u H' rfl
 simp only [go_sem,Nat.reduceBEq]
theorem yVD (h3 : yW E) (v f : Value) : Fn E.P (E.fn 147) [v, .int .i64 0, .int .i64 0, f] H (fun _ H' => H' = H) := by
 refine Fn.of_vks h3.c147 (by simp [zHq]) ?_
 simp only [zHq,zKu,zKd,zKe,zKg,zKj,zKi,zJH]
 simp only [go_sem,Nat.reduceEqDiff,Nat.reduceBEq,Nat.reduceAdd,reduceCtorEq,Int.reduceAdd,zC]
 refine zT 0 0 (fun _=>[(0,⟨true,.val v⟩),(1,⟨true,.val (.int .i64 0)⟩),(2,⟨true,.val (.int .i64 0)⟩),(3,⟨true,.val f⟩),(8,⟨true,.val (.int .i64 1)⟩)]) (fun _=>True) (Nat.le_refl _) rfl trivial ?_
 intro k hk _
 simp only [zGU,go_sem,Nat.reduceEqDiff,Nat.reduceBEq,reduceCtorEq,Int.reduceLT,zC]
theorem yVl (h3 : yW E) (v f : Value) (m : Int) : Fn E.P (E.fn 146) [v, .int .i64 0, .int .i64 0, .int .i64 m, f] H (fun _ H' => H' = H) := by
 refine Fn.of_vks h3.c146 (by simp [zHh]) ?_
 simp only [zHh,zJP,zKr,zJN,zJY,zJR]
 simp only [go_sem,Nat.reduceEqDiff,Nat.reduceBEq,Nat.reduceAdd,reduceCtorEq]
 refine zT 0 0 (fun _=>[(0,⟨true,.val v⟩),(1,⟨true,.val (.int .i64 0)⟩),(2,⟨true,.val (.int .i64 0)⟩),(3,⟨true,.val (.int .i64 m)⟩),(4,⟨true,.val f⟩),(10,⟨true,.val (.bool true)⟩),(11,⟨true,.val (.bool true)⟩)]) (fun _=>True) (Nat.le_refl _) rfl trivial ?_
 intro k hk _
 simp only [wi0,zIk,go_sem,Nat.reduceEqDiff,Nat.reduceBEq,reduceCtorEq,Int.reduceLE,Int.reduceSub,zC]
 refine zM ?_ (yVD h3 v f) ?_
 ·simp only [go_sem,Nat.reduceEqDiff,reduceCtorEq]
 rintro u H' rfl
 simp only [go_sem,Nat.reduceBEq]
theorem yVk (_hE : zX E) (h2 : xZ E) (h3 : yW E) (f : Value) : Fn E.P (E.fn 123) [.slice none 0 0, f] H (fun _ H' => H' = H) := by
 refine Fn.of_vks h3.c123 (by simp [zHa]) ?_
 simp only [zHa,zKt,zKh]
 have e1:IntKind.u64.wrap (0:Int)=((0:Nat):Int):=by decide
 have cN:((0:Nat):Int)=0:=rfl
 simp only [cN,e1,go_sem,Nat.reduceEqDiff,Nat.reduceBEq,reduceCtorEq]
 refine zE _ ?_ (fun _=>⟨?_,zHj h2 0 (by omega)⟩) ?_<;>simp only [go_sem,Nat.reduceEqDiff,Nat.reduceBEq,reduceCtorEq]
 refine zM ?_ (yVl h3 _ f _) ?_
 ·simp only [go_sem,Nat.reduceEqDiff,reduceCtorEq]
 rintro u H' rfl
 simp only [go_sem,Nat.reduceBEq]
end Go.SL
/- Contracts: the reference's list of apexes. -/
namespace Go.SL
open Go
variable {E:Env} {H:Hp}
theorem zFn (L : List Bs) : flat L.length (rS L) = L.map S := by
 apply List.ext_getElem?
 intro i
 by_cases hi:i < L.length
 ·have h:=pK (n:=L.length) (sz:=1) (row:=rS L) (fun _ _=>rfl) i hi
  have h2:=zK (o:=i * 1) (j:=0) h (by omega)
  have hl:=xS (n:=L.length) (sz:=1) (row:=rS L) (fun _ _=>rfl)
  rw [Nat.mul_one,Nat.add_zero] at h2
  rw [List.getD_eq_getElem?_getD,List.getElem?_eq_getElem (by rw [hl]; omega)] at h2
  rw [List.getElem?_eq_getElem (by rw [hl]; omega),List.getElem?_eq_getElem (by simpa using hi)]
  simp only [Option.getD_some] at h2
  rw [h2]
  simp [rS,hi]
 ·have hl:=xS (n:=L.length) (sz:=1) (row:=rS L) (fun _ _=>rfl)
  rw [List.getElem?_eq_none (by rw [hl]; omega),List.getElem?_eq_none (by simp; omega)]
def qP (L : List Bs) (a : Bs) : Nat → Nat → Nat
 | 0,k=>k
 | r + 1,k=>if uL (L.getD k []) a < 0 then qP L a r (k + 1) else k
theorem zIe (L : List Bs) (a : Bs) : ∀ r k, k ≤ qP L a r k ∧ qP L a r k ≤ k + r
 | 0,k=>⟨Nat.le_refl _,Nat.le_refl _⟩
 | r + 1, k => by
  have ih:=zIe L a r (k + 1)
  simp only [qP]
  split<;>omega
def zDP (L:List Bs) (a:Bs):List Bs:=if decide (qP L a L.length 0 < L.length) && L.getD (qP L a L.length 0) [] == a then L else L.take (qP L a L.length 0) ++ a :: L.drop (qP L a L.length 0)
def zBe (cs : List yE) : Nat → List Bs
 | 0=>[]
 | k + 1=>zDP (zBe cs k) (cs.getD k default).apex
theorem yTj {L : List Bs} {a x : Bs} (h : x ∈ zDP L a) : x ∈ L ∨ x = a := by
 unfold zDP at h
 split at h
 ·exact .inl h
 ·rcases List.mem_append.1 h with h | h
  ·exact .inl (List.mem_of_mem_take h)
  ·rcases List.mem_cons.1 h with h | h
   ·exact .inr h
   ·exact .inl (List.mem_of_mem_drop h)
theorem yRy (L : List Bs) (a : Bs) : (zDP L a).length ≤ L.length + 1 := by
 have:=zIe L a L.length 0
 unfold zDP
 split
 ·omega
 ·simp; omega
theorem zON (cs : List yE) : ∀ k, (zBe cs k).length ≤ k
 | 0=>Nat.le_refl _
 | k + 1 => by
  have:=zON cs k
  have:=yRy (zBe cs k) (cs.getD k default).apex
  simp only [zBe]; omega
theorem zJu {cs : List yE} (hs : ∀ c ∈ cs, c.apex.length ≤ 1000000) : ∀ k, k ≤ cs.length → ∀ x ∈ zBe cs k, x.length ≤ 1000000
 | 0,_,x,h=>by simp [zBe] at h
 | k + 1, hk, x, h => by
  rcases yTj h with h | rfl
  ·exact zJu hs k (by omega) x h
  ·exact hs _ (by rw [List.getD_eq_getElem?_getD,List.getElem?_eq_getElem (by omega)]; exact List.getElem_mem _)
theorem zIX (L : List Bs) {n : Nat} (hn : n < L.length) (x : Bs) : ((L.take (n + 1) ++ x :: L.drop (n + 1)).map S).take (n + 1) ++ [S (L.getD n [])] ++ ((L.take (n + 1) ++ x :: L.drop (n + 1)).map S).drop (n + 1 + 1) = (L.take n ++ L.getD n [] :: L.drop n).map S := by
 have h1:(L.take (n + 1)).length=n + 1:=by rw [List.length_take]; omega
 have h2:(L.take (n + 1) ++ x :: L.drop (n + 1)).take (n + 1)=L.take (n + 1):=by rw [List.take_append_of_le_length (by omega),List.take_of_length_le (by omega)]
 have h3 : (L.take (n + 1) ++ x :: L.drop (n + 1)).drop (n + 1 + 1) = L.drop (n + 1) := by
  rw [List.drop_append,h1,List.drop_of_length_le (by omega),show n + 1 + 1 - (n + 1)=1 by omega]; rfl
 have e1:L.take (n + 1)=L.take n ++ [L.getD n []]:=by rw [List.take_add_one,List.getElem?_eq_getElem hn,List.getD_eq_getElem?_getD,List.getElem?_eq_getElem hn]; rfl
 have e2:L.drop n=L.getD n [] :: L.drop (n + 1):=by rw [List.drop_eq_getElem_cons hn,List.getD_eq_getElem?_getD,List.getElem?_eq_getElem hn]; rfl
 rw [← List.map_take,← List.map_drop,h2,h3,e1,e2]
 simp only [List.map_append,List.map_cons,List.map_nil,List.append_assoc,List.cons_append,List.nil_append]
theorem zKW (L : List Bs) {n : Nat} (hn : n ≤ L.length) (x a : Bs) : ((L.take n ++ x :: L.drop n).map S).take n ++ [S a] ++ ((L.take n ++ x :: L.drop n).map S).drop (n + 1) = (L.take n ++ a :: L.drop n).map S := by
 have h1:(L.take n).length=n:=by rw [List.length_take]; omega
 have h2:(L.take n ++ x :: L.drop n).take n=L.take n:=by rw [List.take_append_of_le_length (by omega),List.take_of_length_le (by omega)]
 have h3 : (L.take n ++ x :: L.drop n).drop (n + 1) = L.drop n := by
  rw [List.drop_append,h1,List.drop_of_length_le (by omega),show n + 1 - n=1 by omega]; rfl
 rw [← List.map_take,← List.map_drop,h2,h3]
 simp
theorem zKS (L : List Bs) {n : Nat} (hn : n < L.length) (x : Bs) : ((L.take (n + 1) ++ x :: L.drop (n + 1)).map S).getD n undef = S (L.getD n []) := by
 have h1:(L.take (n + 1)).length=n + 1:=by rw [List.length_take]; omega
 rw [List.getD_eq_getElem?_getD,List.getElem?_map,List.getElem?_append_left (by omega),List.getElem?_take,if_pos (by omega),List.getD_eq_getElem?_getD,List.getElem?_eq_getElem hn]
 rfl
set_option maxRecDepth 4000 in
set_option maxHeartbeats 4000000 in
theorem yZs (h4 : xH E) {v : Value} {cs : List yE} (hv : qD H v cs) (hn : cs.length ≤ 1000000) (hs : ∀ c ∈ cs, c.apex.length ≤ 1000000) :
  Fn E.P (E.fn 195) [v] H (fun u H'=>∃ ob,zCo H' u (zBe cs cs.length) ob∧H.le H'∧∀ b,ob=some b→H b=none):=by
 obtain⟨z,⟨a,cap,rfl,hsp,hr⟩,hdeep⟩:=hv
 refine Fn.of_vks h4.c195 (by simp [zMs]) ?_
 simp only [zMs,yCy,zXi,zYS,zUE,zYl,yDt,yCx,zZa,yDm,zQf,zRC,zRL,zOw,zRv,zQm,yAL,zPn]
 simp only [go_sem,Nat.reduceEqDiff,Nat.reduceBEq,reduceCtorEq]
 refine yK cs.length 0 (fun k fr' H' => ∃ u ob, fr' = [(0, ⟨true, .val (.slice a cs.length cap)⟩), (3, ⟨true, .val u⟩), (4, ⟨true, .val (.int .i64 k)⟩)] ∧
  zCo H' u (zBe cs k) ob∧H.le H'∧∀ b,ob=some b→H b=none) (Nat.zero_le _) ⟨_,none,rfl,⟨rfl,rfl⟩,Hp.le.refl _,fun b h=>by cases h⟩ ?_
 rintro k fr' H' hk ⟨u,ob,rfl,hO,hle,hob⟩
 by_cases hlt:k < cs.length
 ·have hdl:decide ((k:Int) < (cs.length:Int))=true:=by simpa using hlt
  obtain⟨b,o,vs,c,wr,ha,hb,hi⟩:=hr (by omega)
  subst ha
  have hb1:=hle _ _ hb
  have hi1:=(hi k hlt).1
  have v3:=zK (hi k hlt).2 (j:=3) (by omega)
  simp only [jY,List.getD_cons_zero,List.getD_cons_succ] at v3
  have hns:zBe cs (k + 1)=zDP (zBe cs k) (cs.getD k default).apex:=rfl
  have hls:=zON cs k
  have hsm:=zJu hs k hk
  have hxs:(cs.getD k default).apex.length≤1000000:=hs _ (by rw [List.getD_eq_getElem?_getD,List.getElem?_eq_getElem (by omega)]; exact List.getElem_mem _)
  obtain⟨x,hx⟩:∃ x,x=(cs.getD k default).apex:=⟨_,rfl⟩
  obtain⟨L,hL⟩:∃ L,L=zBe cs k:=⟨_,rfl⟩
  rw [← hx] at v3 hxs hns
  rw [← hL] at hO hls hsm hns
  have hat:=hO.at
  obtain⟨au,cu,rfl⟩:=hO.sl
  have hpl:=zIe L x L.length 0
  have hins:zDP L x=if decide (qP L x L.length 0 < L.length) && L.getD (qP L x L.length 0) [] == x then L else L.take (qP L x L.length 0) ++ x :: L.drop (qP L x L.length 0):=rfl
  obtain⟨p,hp⟩:∃ p,p=qP L x L.length 0:=⟨_,rfl⟩
  rw [← hp] at hpl hins
  simp only [hdl,hb1,v3,go_sem,Nat.reduceEqDiff,Nat.reduceBEq,reduceCtorEq,zC]
  refine⟨⟨by omega,by omega⟩,by omega,?_⟩
  refine zFM (fun fr'' H''=>fr'' = [(0,⟨true,.val (.slice (some ⟨b,o,none⟩) cs.length cap)⟩),(3,⟨true,.val (.slice au L.length cu)⟩),(4,⟨true,.val (.int .i64 k)⟩),(5,⟨true,.val (S x)⟩),(6,⟨true,.val (.int .i64 p)⟩),(32,⟨true,.val (.bool false)⟩)]∧H''=H') ?_ ?_
  ·refine zT L.length 0 (fun j=>[(0,⟨true,.val (.slice (some ⟨b,o,none⟩) cs.length cap)⟩),(3,⟨true,.val (.slice au L.length cu)⟩),(4,⟨true,.val (.int .i64 k)⟩),(5,⟨true,.val (S x)⟩),(6,⟨true,.val (.int .i64 j)⟩)]) (fun j=>p=qP L x (L.length - j) j) (Nat.zero_le _) rfl hp ?_
   intro j hj hPj
   by_cases hlj:j < L.length
   ·have hdj:decide ((j:Int) < (L.length:Int))=true:=by simpa using hlj
    obtain⟨b2,o2,c2,cap2,vs2,wr2,hsl,hb2,hv,hvl⟩:=hat.str hlj
    cases hsl
    have hg:=zK (j:=0) hv (by omega)
    rw [Nat.mul_one,Nat.add_zero,List.getD_cons_zero] at hg
    rw [Nat.mul_one] at hvl
    have hys:=hsm _ (jG hlj)
    obtain⟨r,hr'⟩:∃ r,L.length - j=r + 1:=⟨L.length - j - 1,by omega⟩
    have hr2:L.length - (j + 1)=r:=by omega
    have hgo:qP L x (r + 1) j=if uL (L.getD j []) x < 0 then qP L x r (j + 1) else j:=rfl
    rw [hr',hgo] at hPj
    obtain⟨y,hy⟩:∃ y,y=L.getD j []:=⟨_,rfl⟩
    rw [← hy] at hg hys hPj
    simp only [hdj,hb2,hg,Nat.mul_one,go_sem,Nat.reduceEqDiff,Nat.reduceBEq,reduceCtorEq,zC]
    refine⟨⟨by omega,by omega⟩,by omega,?_⟩
    refine zE _ (by simp only [go_sem,Nat.reduceEqDiff,reduceCtorEq]) (fun _=>⟨by simp only [go_sem,Nat.reduceEqDiff,reduceCtorEq],yHX h4 y x hys hxs⟩) ?_
    by_cases hq:uL y x < 0
    ·have hqd:decide (uL y x < 0)=true:=by rw [decide_eq_true_eq]; exact hq
     rw [if_pos hq] at hPj
     simp only [hqd,go_sem,Nat.reduceEqDiff,Nat.reduceBEq,reduceCtorEq,zC]
     exact⟨hlj,zR (by omega),by rw [hr2]; exact hPj⟩
    ·have hqd:decide (uL y x < 0)=false:=by rw [decide_eq_false_iff_not]; exact hq
     rw [if_neg hq] at hPj
     simp only [hqd,hPj,go_sem,Nat.reduceEqDiff,Nat.reduceBEq,reduceCtorEq,zC]
   ·have hdj:decide ((j:Int) < (L.length:Int))=false:=by simpa using hlj
    have:j=L.length:=by omega
    subst this
    rw [Nat.sub_self] at hPj
    simp only [qP] at hPj
    simp only [hdj,↓vH,↓vU,go_sem,Nat.reduceEqDiff,Nat.reduceBEq,reduceCtorEq,zC]
    refine zE (.int .i64 0) (by simp only [go_sem,Nat.reduceEqDiff,reduceCtorEq]) (fun hg=>by simp only [go_sem,Nat.reduceEqDiff,reduceCtorEq] at hg) ?_
    simp only [hPj,↓yA,go_sem,Nat.reduceEqDiff,Nat.reduceBEq,reduceCtorEq,Int.reduceLT,zC,zGU]
  ·rintro fr'' H'' ⟨rfl,rfl⟩
   by_cases hpl2:p < L.length
   ·have e0:decide ((p:Int) < (L.length:Int))=true:=by rw [decide_eq_true_eq]; omega
    have e0':decide (p < L.length)=true:=by rw [decide_eq_true_eq]; omega
    rw [e0',Bool.true_and] at hins
    obtain⟨b2,o2,c2,cap2,vs2,wr2,hsl,hb2,hv,hvl⟩:=hat.str hpl2
    cases hsl
    have hg:=zK (j:=0) hv (by omega)
    rw [Nat.mul_one,Nat.add_zero,List.getD_cons_zero] at hg
    rw [Nat.mul_one] at hvl
    cases hq:(L.getD p [] == x)
    ·rw [hq,if_neg (by simp)] at hins
     simp only [e0,hq,hb2,hg,Nat.mul_one,go_sem,Nat.reduceEqDiff,Nat.reduceBEq,reduceCtorEq,zC]
     refine⟨⟨by omega,by omega⟩,by omega,?_⟩
     intro bs hbs
     refine zAu (n:=L.length) (row:=rS L) (row':=rS (L ++ [x])) (cells:=[S x]) ?_ ?_ ?_ ?_ (Hp.put_same ..) rfl rfl (xX.put hO hbs) (fun _ _=>rfl) (zFk L _) (zDT L _) (by omega) (by omega) ?_
     ·simp only [go_sem,Nat.reduceEqDiff,reduceCtorEq]
     ·simp only [go_sem,Nat.reduceEqDiff,reduceCtorEq]
     ·simp only [go_sem,Nat.reduceEqDiff,reduceCtorEq]
     ·simp only [go_sem,Nat.reduceEqDiff,reduceCtorEq]
     intro v' H3 b' hO3 hkeep hb'
     have hle3:=zGE hle hbs hob hkeep
     have hnew:=zEU hle hbs hob hb' b' rfl
     obtain⟨cap3,rfl,hH3⟩:=hO3
     have hH3' : H3 b' = some (.row ((L.take L.length ++ x :: L.drop L.length).map S) (cap3 * 1) true) := by
      rw [hH3,List.take_length,List.drop_length]
      have:=zFn (L ++ [x])
      rw [List.length_append] at this
      exact congrArg (fun l=>some (xI.row l (cap3 * 1) true)) this
     have e2:IntKind.i64.wrap (((L.length + 1:Nat):Int) - 1)=(L.length:Int):=by rw [yZ]<;>omega
     simp only [e2,go_sem,Nat.reduceEqDiff,Nat.reduceBEq,reduceCtorEq,zC]
     refine zFM (fun fr'' H'' => fr'' = [(0, ⟨true, .val (.slice (some ⟨b, o, none⟩) cs.length cap)⟩), (3, ⟨true, .val (.slice (some ⟨b', 0, none⟩) (L.length + 1) cap3)⟩), (4, ⟨true, .val (.int .i64 k)⟩), (5, ⟨true, .val (S x)⟩), (6, ⟨true, .val (.int .i64 p)⟩), (7, ⟨true, .val (.int .i64 p)⟩), (56, ⟨true, .val (.bool false)⟩)] ∧ H.le H'' ∧
      ∃ y,H'' b'=some (.row ((L.take p ++ y :: L.drop p).map S) (cap3 * 1) true)) ?_ ?_
     ·refine pZ (fun m fr' H' => ∃ n, m = n - p ∧ p ≤ n ∧ n ≤ L.length ∧ fr' = [(0, ⟨true, .val (.slice (some ⟨b, o, none⟩) cs.length cap)⟩), (3, ⟨true, .val (.slice (some ⟨b', 0, none⟩) (L.length + 1) cap3)⟩), (4, ⟨true, .val (.int .i64 k)⟩), (5, ⟨true, .val (S x)⟩), (6, ⟨true, .val (.int .i64 p)⟩), (7, ⟨true, .val (.int .i64 n)⟩)] ∧ H.le H' ∧
       ∃ y,H' b'=some (.row ((L.take n ++ y :: L.drop n).map S) (cap3 * 1) true)) (L.length - p) ⟨L.length,rfl,by omega,Nat.le_refl _,rfl,hle3,x,hH3'⟩ ?_
      rintro m fr' H4 ⟨n,rfl,hpn,hnL,rfl,hle4,y,hH4⟩
      by_cases hgt:n > p
      ·obtain⟨j,rfl⟩:∃ j,n=j + 1:=⟨n - 1,by omega⟩
       have e3:decide (((j + 1:Nat):Int) > (p:Int))=true:=by rw [decide_eq_true_eq]; omega
       have e4:IntKind.i64.wrap (((j + 1:Nat):Int) - 1)=(j:Int):=by rw [yZ]<;>omega
       have hsg:=zKS L (n:=j) (by omega) y
       have hss:=zIX L (n:=j) (by omega) y
       have hln:((L.take (j + 1) ++ y :: L.drop (j + 1)).map S).length=L.length + 1:=by simp; omega
       obtain⟨R,hR⟩:∃ R,R=(L.take (j + 1) ++ y :: L.drop (j + 1)).map S:=⟨_,rfl⟩
       rw [← hR] at hH4 hsg hss hln
       have hb6:j + 1≤R.length:=by omega
       have hb7:j + 1 + 1≤R.length:=by omega
       simp only [e3,e4,hH4,hsg,hss,hb6,hb7,toNat_ofNat',Nat.mul_one,go_sem,Nat.reduceEqDiff,Nat.reduceBEq,reduceCtorEq,zC]
       refine⟨⟨by omega,by omega⟩,⟨by omega,by omega⟩,j - p,by omega,j,rfl,by omega,by omega,rfl,zH hle4 hnew _,L.getD j [],?_⟩
       rw [Hp.put_same]
      ·have:n=p:=by omega
       subst this
       have e3:decide ((n:Int) > (n:Int))=false:=by rw [decide_eq_false_iff_not]; omega
       simp only [e3,go_sem,Nat.reduceEqDiff,Nat.reduceBEq,reduceCtorEq,zC]
       exact⟨hle4,y,hH4⟩
     ·rintro fr'' H5 ⟨rfl,hle5,y,hH5⟩
      have hss:=zKW L (n:=p) (by omega) y x
      have hln:((L.take p ++ y :: L.drop p).map S).length=L.length + 1:=by simp; omega
      obtain⟨R,hR⟩:∃ R,R=(L.take p ++ y :: L.drop p).map S:=⟨_,rfl⟩
      rw [← hR] at hH5 hss hln
      have hb6:p + 1≤R.length:=by omega
      simp only [hH5,hss,hb6,toNat_ofNat',Nat.mul_one,go_sem,Nat.reduceEqDiff,Nat.reduceBEq,reduceCtorEq,zC]
      refine⟨⟨by omega,by omega⟩,hlt,_,some b',⟨rfl,zR (by omega)⟩,?_,zH hle5 hnew _,fun b2 e=>by cases e; exact hnew⟩
      rw [hns,hins]
      have hlen2:(L.take p ++ x :: L.drop p).length=L.length + 1:=by simp; omega
      refine⟨cap3,by rw [hlen2],?_⟩
      rw [Hp.put_same,zFn,Nat.mul_one]
    ·rw [hq,if_pos rfl] at hins
     simp only [e0,hq,hb2,hg,Nat.mul_one,go_sem,Nat.reduceEqDiff,Nat.reduceBEq,reduceCtorEq,zC]
     exact⟨⟨by omega,by omega⟩,by omega,hlt,_,ob,⟨rfl,zR (by omega)⟩,by rw [hns,hins]; exact hO,hle,hob⟩
   ·have e0:decide ((p:Int) < (L.length:Int))=false:=by rw [decide_eq_false_iff_not]; omega
    have e0':decide (p < L.length)=false:=by rw [decide_eq_false_iff_not]; omega
    rw [e0',Bool.false_and,if_neg (by simp)] at hins
    simp only [e0,↓vH,↓vU,↓yA,go_sem,Nat.reduceEqDiff,Nat.reduceBEq,reduceCtorEq,zC]
    intro bs hbs
    refine zAu (n:=L.length) (row:=rS L) (row':=rS (L ++ [x])) (cells:=[S x]) ?_ ?_ ?_ ?_ (Hp.put_same ..) rfl rfl (xX.put hO hbs) (fun _ _=>rfl) (zFk L _) (zDT L _) (by omega) (by omega) ?_
    ·simp only [go_sem,Nat.reduceEqDiff,reduceCtorEq]
    ·simp only [go_sem,Nat.reduceEqDiff,reduceCtorEq]
    ·simp only [go_sem,Nat.reduceEqDiff,reduceCtorEq]
    ·simp only [go_sem,Nat.reduceEqDiff,reduceCtorEq]
    intro v' H3 b' hO3 hkeep hb'
    have hle3:=zGE hle hbs hob hkeep
    have hnew:=zEU hle hbs hob hb' b' rfl
    obtain⟨cap3,rfl,hH3⟩:=hO3
    have hH3' : H3 b' = some (.row ((L.take L.length ++ x :: L.drop L.length).map S) (cap3 * 1) true) := by
     rw [hH3,List.take_length,List.drop_length]
     have:=zFn (L ++ [x])
     rw [List.length_append] at this
     exact congrArg (fun l=>some (xI.row l (cap3 * 1) true)) this
    have e2:IntKind.i64.wrap (((L.length + 1:Nat):Int) - 1)=(L.length:Int):=by rw [yZ]<;>omega
    simp only [e2,go_sem,Nat.reduceEqDiff,Nat.reduceBEq,reduceCtorEq,zC]
    refine zFM (fun fr'' H'' => fr'' = [(0, ⟨true, .val (.slice (some ⟨b, o, none⟩) cs.length cap)⟩), (3, ⟨true, .val (.slice (some ⟨b', 0, none⟩) (L.length + 1) cap3)⟩), (4, ⟨true, .val (.int .i64 k)⟩), (5, ⟨true, .val (S x)⟩), (6, ⟨true, .val (.int .i64 p)⟩), (7, ⟨true, .val (.int .i64 p)⟩), (56, ⟨true, .val (.bool false)⟩)] ∧ H.le H'' ∧
     ∃ y,H'' b'=some (.row ((L.take p ++ y :: L.drop p).map S) (cap3 * 1) true)) ?_ ?_
    ·refine pZ (fun m fr' H' => ∃ n, m = n - p ∧ p ≤ n ∧ n ≤ L.length ∧ fr' = [(0, ⟨true, .val (.slice (some ⟨b, o, none⟩) cs.length cap)⟩), (3, ⟨true, .val (.slice (some ⟨b', 0, none⟩) (L.length + 1) cap3)⟩), (4, ⟨true, .val (.int .i64 k)⟩), (5, ⟨true, .val (S x)⟩), (6, ⟨true, .val (.int .i64 p)⟩), (7, ⟨true, .val (.int .i64 n)⟩)] ∧ H.le H' ∧
      ∃ y,H' b'=some (.row ((L.take n ++ y :: L.drop n).map S) (cap3 * 1) true)) (L.length - p) ⟨L.length,rfl,by omega,Nat.le_refl _,rfl,hle3,x,hH3'⟩ ?_
     rintro m fr' H4 ⟨n,rfl,hpn,hnL,rfl,hle4,y,hH4⟩
     by_cases hgt:n > p
     ·obtain⟨j,rfl⟩:∃ j,n=j + 1:=⟨n - 1,by omega⟩
      have e3:decide (((j + 1:Nat):Int) > (p:Int))=true:=by rw [decide_eq_true_eq]; omega
      have e4:IntKind.i64.wrap (((j + 1:Nat):Int) - 1)=(j:Int):=by rw [yZ]<;>omega
      have hsg:=zKS L (n:=j) (by omega) y
      have hss:=zIX L (n:=j) (by omega) y
      have hln:((L.take (j + 1) ++ y :: L.drop (j + 1)).map S).length=L.length + 1:=by simp; omega
      obtain⟨R,hR⟩:∃ R,R=(L.take (j + 1) ++ y :: L.drop (j + 1)).map S:=⟨_,rfl⟩
      rw [← hR] at hH4 hsg hss hln
      have hb6:j + 1≤R.length:=by omega
      have hb7:j + 1 + 1≤R.length:=by omega
      simp only [e3,e4,hH4,hsg,hss,hb6,hb7,toNat_ofNat',Nat.mul_one,go_sem,Nat.reduceEqDiff,Nat.reduceBEq,reduceCtorEq,zC]
      refine⟨⟨by omega,by omega⟩,⟨by omega,by omega⟩,j - p,by omega,j,rfl,by omega,by omega,rfl,zH hle4 hnew _,L.getD j [],?_⟩
      rw [Hp.put_same]
     ·have:n=p:=by omega
      subst this
      have e3:decide ((n:Int) > (n:Int))=false:=by rw [decide_eq_false_iff_not]; omega
      simp only [e3,go_sem,Nat.reduceEqDiff,Nat.reduceBEq,reduceCtorEq,zC]
      exact⟨hle4,y,hH4⟩
    ·rintro fr'' H5 ⟨rfl,hle5,y,hH5⟩
     have hss:=zKW L (n:=p) (by omega) y x
     have hln:((L.take p ++ y :: L.drop p).map S).length=L.length + 1:=by simp; omega
     obtain⟨R,hR⟩:∃ R,R=(L.take p ++ y :: L.drop p).map S:=⟨_,rfl⟩
     rw [← hR] at hH5 hss hln
     have hb6:p + 1≤R.length:=by omega
     simp only [hH5,hss,hb6,toNat_ofNat',Nat.mul_one,go_sem,Nat.reduceEqDiff,Nat.reduceBEq,reduceCtorEq,zC]
     refine⟨⟨by omega,by omega⟩,hlt,_,some b',⟨rfl,zR (by omega)⟩,?_,zH hle5 hnew _,fun b2 e=>by cases e; exact hnew⟩
     rw [hns,hins]
     have hlen2:(L.take p ++ x :: L.drop p).length=L.length + 1:=by simp; omega
     refine⟨cap3,by rw [hlen2],?_⟩
     rw [Hp.put_same,zFn,Nat.mul_one]
 ·have hdl:decide ((k:Int) < (cs.length:Int))=false:=by simpa using hlt
  have:k=cs.length:=by omega
  subst this
  simp only [hdl,go_sem,Nat.reduceEqDiff,Nat.reduceBEq,reduceCtorEq,zC]
  exact⟨ob,hO,hle,hob⟩
end Go.SL
/- Contracts: the longest wait. -/
namespace Go.SL
open Go
variable {E:Env} {H:Hp}
set_option maxHeartbeats 1000000 in
theorem yYr (h4 : xH E) {s : zF} {dv gv : Value} {d e : Int} (ho : zCC d s) (he : 0 ≤ e ∧ e ≤ 10000000) (_h1d : yV dv = true) (hg : xL H gv s.sigs) :
  yB E 197 [.agg #[S s.name,.int .i64 s.type,.int .i64 s.life,dv,gv],.int .i64 e,.int .i64 d] H (.int .i64 (wC d s e)):=by
 obtain⟨a,cap,rfl,hs0,hr⟩:=hg
 have l1:=ho.life
 have l2:=ho.d1
 have l3:=ho.d2
 have w1:IntKind.i64.wrap (e - 1)=e - 1:=by rw [yZ]<;>omega
 have w2:IntKind.i64.wrap (2 * d)=2 * d:=by rw [yZ]<;>omega
 have w3:IntKind.i64.wrap (e - 1 + max s.life 1)=e - 1 + max s.life 1:=by rw [yZ]<;>omega
 have w4:IntKind.i64.wrap (e - 1 + max s.life 1 + 2 * d)=e - 1 + max s.life 1 + 2 * d:=by rw [yZ]<;>omega
 refine Fn.of_vks h4.c197 (by simp [zLW]) ?_
 simp only [zLW,yBf,yCu,zTf,yDa,zZI]
 obtain⟨sg,hsig⟩:∃ sg,sg=s.sigs:=⟨_,rfl⟩
 have hsig:=hsig.symm
 rcases sg with _ | ⟨g,r⟩
 ·have hge:wC d s e=max (e - 1 + max s.life 1 + 2 * d) e:=by unfold wC; rw [hsig,Int.max_comm]
  have cN:decide (((s.sigs.length:Nat):Int) > 0)=false:=by rw [hsig]; rfl
  clear hsig
  simp only [w1,w2,w3,w4,cN,go_sem,Nat.reduceLeDiff,Nat.reduceEqDiff,Nat.reduceBEq,Nat.reduceAdd,reduceCtorEq,zC]
  rw [hge]
 ·have hgm:=ho.sigs g (by rw [hsig]; exact List.mem_cons_self)
  have hge:wC d s e=max (min (e - 1 + max s.life 1 + 2 * d) (g.till + d + 1)) e:=by unfold wC; rw [hsig,Int.max_comm]
  have hpos:0 < s.sigs.length:=by rw [hsig]; simp
  have hg0:s.sigs.getD 0 default=g:=by rw [hsig]; rfl
  have hr':=hr hpos
  obtain⟨b,o,vs,c,wr,ha,hb,hi⟩:=hr'
  subst ha
  have hi1:=(hi 0 hpos).1
  have hi2:=(hi 0 hpos).2
  have v4:=zK (o:=o + 0 * 6) (sz:=6) (j:=4) hi2 (by omega)
  simp only [zAf,hg0,List.getD_cons_zero,List.getD_cons_succ,Nat.zero_mul,Nat.add_zero] at v4 hi1
  have w5:IntKind.i64.wrap (g.till + d)=g.till + d:=by rw [yZ]<;>omega
  have w6:IntKind.i64.wrap (g.till + d + 1)=g.till + d + 1:=by rw [yZ]<;>omega
  have cN:decide (((s.sigs.length:Nat):Int) > 0)=true:=by rw [decide_eq_true_eq]; omega
  clear hsig
  simp only [w1,w2,w3,w4,w5,w6,hb,v4,cN,go_sem,Nat.reduceLeDiff,Nat.reduceEqDiff,Nat.reduceBEq,Nat.reduceAdd,reduceCtorEq,Int.reduceToNat,Int.reduceLE,zC]
  exact⟨by omega,by omega,by rw [hge]⟩
def zBE (cs:List yE) (zone:Bs) (i:Nat):Bool:=(cs.getD i default).apex == zone
def zCe (h:yO) (zone:Bs) (t:Int):Bool:=!yS h || !zL zone || decide (t < 0) || decide (t > h.end_)
def zCV (h:yO) (zone:Bs) (t:Int):Int:=if zCe h zone t then 0 else if wM (zBE h.copies zone) h.copies.length then uW h.copies zone t h.drift h.copies.length - t else 0
def zCw (h:yO) (zone:Bs) (t:Int):Int:=if zCe h zone t then 1 else if wM (zBE h.copies zone) h.copies.length then 0 else 4
structure zQT (h : yO) : Prop where
 till:∀ i,i < h.copies.length→0≤(h.copies.getD i default).till∧(h.copies.getD i default).till≤10000000
 sets:∀ i,i < h.copies.length→∀ s∈(h.copies.getD i default).sets,zCC h.drift s
theorem zIz.long {h : yO} (hv : yS h = true) : zQT h := by
 have hk:=qW.1 hv
 refine⟨fun i hi=>?_,fun i hi s hs=>?_⟩
 ·have h1:=hk.copy _ (yN hi)
  have h2:=hk.end2
  omega
 ·exact(zCF (hk.copy _ (yN hi)).2.2.2.2.2 s hs).grow hk.drift1 hk.drift2
theorem ySF {h : yO} (hk : zQT h) {zone : Bs} {t : Int} (h0 : 0 ≤ t) (h1 : t ≤ 10000000) (k : Nat) (hkn : k ≤ h.copies.length) : uW h.copies zone t h.drift k ≤ 20000000 := by
 rcases(zBZ h.copies zone t h.drift k).2.2 with he | ⟨i,hi,_,_,s,hs,he⟩
 ·omega
 ·rw [he]
  have:=hk.till i (by omega)
  exact zIP (hk.sets i (by omega) s hs) (by omega)
set_option maxRecDepth 4000 in
set_option maxHeartbeats 4000000 in
theorem zNo (hE : zX E) (h2 : xZ E) (h4 : xH E) (hB : qU E H) {v : Value} {h : yO} (hh : vV H v h) (hn : h.copies.length ≤ 12) (hset : ∀ i, i < h.copies.length → (h.copies.getD i default).sets.length ≤ 1000000) (zone : Bs) (t : Int) :
  yB E 186 [v,S zone,.int .i64 t] H (.tuple #[.int .i64 (zCV h zone t),.int .i64 (zCw h zone t)]):=by
 have fv:=zHg hE h2 hB hh hn
 obtain⟨vh,vz,vd,vi,rfl,g1,g2,g3,g5⟩:=hh
 have o1:=zG.one g1
 have o3:=zG.one g3
 have o5:=zG.one g5
 obtain⟨z,⟨a,cap,rfl,hs,hr⟩,hdeep⟩:=g2
 refine Fn.of_vks h4.c186 (by simp [zNs]) ?_
 simp only [zNs,zWt,yBG,zTa,zWo,yCr,yGa,zTt,zXl,yEV,yFJ,zOe,zQF,zRe,zRt,zQb,zQL,zQK,zQZ,zNv,zRx,zQW]
 obtain⟨qn,hqn⟩:∃ y,y=zCV h zone t:=⟨_,rfl⟩
 obtain⟨qe,hqe⟩:∃ y,y=zCw h zone t:=⟨_,rfl⟩
 rw [← hqn,← hqe]
 unfold zCV at hqn
 unfold zCw at hqe
 obtain⟨q1,hq1⟩:∃ y,y=zCe h zone t:=⟨_,rfl⟩
 have hq1':=hq1
 unfold zCe at hq1'
 rw [← hq1] at hqn hqe
 simp only [go_sem,Nat.reduceEqDiff,Nat.reduceBEq,Nat.reduceAdd,reduceCtorEq]
 refine zE _ (by simp only [go_sem]) (fun _=>⟨by simp only [go_sem,Nat.reduceEqDiff],fv⟩) ?_
 simp only [go_sem,Nat.reduceEqDiff,Nat.reduceBEq]
 refine zE _ (by simp only [go_sem,Nat.reduceEqDiff]) (fun hg=>⟨by simp only [go_sem,Nat.reduceEqDiff] at hg ⊢; exact hg,zFy hE zone⟩) ?_
 simp only [← hq1',go_sem,Nat.reduceLeDiff,Nat.reduceEqDiff,Nat.reduceBEq,Nat.reduceAdd,zC]
 refine⟨fun hc=>⟨hc,hc⟩,fun hc=>?_,fun hc=>?_⟩
 ·rw [hc,if_pos rfl] at hqn hqe
  rw [hqn,hqe]
 rw [hc] at hqn hqe hq1'
 rw [if_neg (by simp)] at hqn hqe
 have hq:=hq1'.symm
 simp only [Bool.or_eq_false_iff,decide_eq_false_iff_not,Bool.not_eq_false'] at hq
 obtain⟨⟨⟨hval,_⟩,ht0⟩,ht1⟩:=hq
 have hk:=zIz.long hval
 have hend:h.end_≤10000000:=(qW.1 hval).end2
 refine yK h.copies.length 0 (fun k fr' H'=>H'=H∧fr' = [(1,⟨true,.val (S zone)⟩),(2,⟨true,.val (.int .i64 t)⟩),(3,⟨true,.box [vh,.slice a h.copies.length cap,S h.aname,.int .i64 h.atype,.int .i64 h.alife,vd,vi,.int .i64 h.drift,.int .i64 h.end_]⟩),(8,⟨true,.val (.bool (wM (zBE h.copies zone) k))⟩),(9,⟨true,.val (.int .i64 (uW h.copies zone t h.drift k))⟩),(35,⟨true,.val (.slice a h.copies.length cap)⟩),(36,⟨true,.val (.int .i64 h.copies.length)⟩),(37,⟨true,.val (.int .i64 k)⟩)]) (Nat.zero_le _) ⟨rfl,rfl⟩ ?_
 rintro k fr' H' hkn ⟨rfl,rfl⟩
 by_cases hlt:k < h.copies.length
 ·have hdl:decide ((k:Int) < (h.copies.length:Int))=true:=by simpa using hlt
  obtain⟨b,o,vs,c,wr,ha,hb,hi⟩:=hr (by omega)
  subst ha
  have hi1:=(hi k hlt).1
  have hi2:=(hi k hlt).2
  have hzk:=hdeep k hlt
  have hz1:yV (z k)=true:=by obtain⟨d,g,h,_⟩:=hzk; exact zG.one h
  have htl:=hk.till k hlt
  have hgr:=hk.sets k hlt
  have hsl:=hset k hlt
  have hany:wM (zBE h.copies zone) (k + 1)=(wM (zBE h.copies zone) k || zBE h.copies zone k):=rfl
  have hai:zBE h.copies zone k=((h.copies.getD k default).apex == zone):=rfl
  have hlc:uW h.copies zone t h.drift (k + 1)=if (h.copies.getD k default).apex=zone∧(h.copies.getD k default).from_ < t then zAX h.drift (min (h.copies.getD k default).till t) (h.copies.getD k default).sets (uW h.copies zone t h.drift k) (h.copies.getD k default).sets.length else uW h.copies zone t h.drift k:=rfl
  have hks:IntKind.i64.wrap ((k:Int) + 1)=((k + 1:Nat):Int):=zR (by omega)
  obtain⟨x,hx⟩:∃ x,h.copies.getD k default=x:=⟨_,rfl⟩
  rw [hx] at hzk htl hgr hsl hai hlc
  simp only [jY,hx] at hi2
  obtain⟨A,hA⟩:∃ A,A=uW h.copies zone t h.drift k:=⟨_,rfl⟩
  rw [← hA] at hlc
  rw [← hA]
  cases hz:(x.apex == zone)
  ·have hne:¬ x.apex=zone:=by simpa using hz
   rw [hai,hz,Bool.or_false] at hany
   rw [if_neg (fun h=>hne h.1)] at hlc
   simp only [hdl,hb,hi2,hz1,hz,go_sem,Nat.reduceLeDiff,Nat.reduceEqDiff,Nat.reduceBEq,Nat.reduceAdd,zC]
   exact⟨⟨by omega,by omega⟩,hi1,hlt,by rw [hany],by rw [hlc],hks⟩
  ·have heq:x.apex=zone:=by simpa using hz
   rw [hai,hz,Bool.or_true] at hany
   by_cases hf:x.from_ < t
   ·have hfd:decide (x.from_≥t)=false:=by rw [decide_eq_false_iff_not]; omega
    rw [if_pos ⟨heq,hf⟩] at hlc
    obtain⟨sd,sg,⟨sa,scap,hzv,ssp,sr⟩,sdeep⟩:=hzk
    simp only [hdl,hb,hi2,hz,hfd,hzv,go_sem,Nat.reduceLeDiff,Nat.reduceEqDiff,Nat.reduceBEq,Nat.reduceAdd,zC]
    refine⟨⟨by omega,by omega⟩,hi1,?_⟩
    obtain⟨e,he⟩:∃ e,e=min x.till t:=⟨_,rfl⟩
    have he2:0≤e∧e≤10000000:=by omega
    rw [← he] at hlc
    rw [← he]
    refine yK x.sets.length 0 (fun j fr'' H''=>H''=H'∧fr'' = [(1,⟨true,.val (S zone)⟩),(2,⟨true,.val (.int .i64 t)⟩),(3,⟨true,.box [vh,.slice (some ⟨b,o,none⟩) h.copies.length cap,S h.aname,.int .i64 h.atype,.int .i64 h.alife,vd,vi,.int .i64 h.drift,.int .i64 h.end_]⟩),(8,⟨true,.val (.bool true)⟩),(9,⟨true,.val (.int .i64 (zAX h.drift e x.sets A j))⟩),(12,⟨true,.val (.int .i64 e)⟩),(35,⟨true,.val (.slice (some ⟨b,o,none⟩) h.copies.length cap)⟩),(36,⟨true,.val (.int .i64 h.copies.length)⟩),(37,⟨true,.val (.int .i64 k)⟩),(56,⟨true,.val (.slice sa x.sets.length scap)⟩),(57,⟨true,.val (.int .i64 x.sets.length)⟩),(58,⟨true,.val (.int .i64 j)⟩)]) (Nat.zero_le _) ⟨rfl,rfl⟩ ?_
    rintro j fr'' H'' hjn ⟨rfl,rfl⟩
    by_cases hlj:j < x.sets.length
    ·have hdj:decide ((j:Int) < (x.sets.length:Int))=true:=by simpa using hlj
     obtain⟨b2,o2,vs2,c2,wr2,ha2,hb2,hi2'⟩:=sr (by omega)
     subst ha2
     have hj1:=(hi2' j hlj).1
     have hj2:=(hi2' j hlj).2
     have hdd:=zG.one (sdeep j hlj).1
     have hgg:=(sdeep j hlj).2
     have hg1:=zG.one hgg
     have hgo:=hgr _ (yN hlj)
     have hls:zAX h.drift e x.sets A (j + 1)=max (zAX h.drift e x.sets A j) (wC h.drift (x.sets.getD j default) e):=rfl
     have hjs:IntKind.i64.wrap ((j:Int) + 1)=((j + 1:Nat):Int):=zR (by omega)
     obtain⟨y,hy⟩:∃ y,x.sets.getD j default=y:=⟨_,rfl⟩
     rw [hy] at hgg hgo hls
     simp only [xD,hy] at hj2
     simp only [hdj,hb2,hj2,hdd,hg1,go_sem,Nat.reduceLeDiff,Nat.reduceEqDiff,Nat.reduceBEq,Nat.reduceAdd,reduceCtorEq,zC]
     refine⟨⟨by omega,by omega⟩,hj1,?_⟩
     refine zM ?_ (Fn.same (yYr h4 hgo he2 hdd hgg)) ?_
     ·simp only [go_sem,Nat.reduceEqDiff]
     rintro u H3 ⟨rfl,rfl⟩
     simp only [go_sem,Nat.reduceEqDiff,Nat.reduceBEq,zC]
     exact⟨hlj,by rw [hls],hjs⟩
    ·have hdj:decide ((j:Int) < (x.sets.length:Int))=false:=by simpa using hlj
     have:j=x.sets.length:=by omega
     subst this
     simp only [hdj,go_sem,Nat.reduceEqDiff,Nat.reduceBEq,Nat.reduceAdd,reduceCtorEq,zC]
     exact⟨hlt,by rw [hany],by rw [hlc],hks⟩
   ·have hfd:decide (x.from_≥t)=true:=by rw [decide_eq_true_eq]; omega
    rw [if_neg (fun h=>hf h.2)] at hlc
    simp only [hdl,hb,hi2,hz1,hz,hfd,go_sem,Nat.reduceLeDiff,Nat.reduceEqDiff,Nat.reduceBEq,Nat.reduceAdd,zC]
    exact⟨⟨by omega,by omega⟩,hi1,hlt,by rw [hany],by rw [hlc],hks⟩
 ·have hdl:decide ((k:Int) < (h.copies.length:Int))=false:=by simpa using hlt
  have:k=h.copies.length:=by omega
  subst this
  have hub:=ySF hk (zone:=zone) (t:=t) (by omega) (by omega) h.copies.length (Nat.le_refl _)
  have hlb:=(zBZ h.copies zone t h.drift h.copies.length).1
  have w9:IntKind.i64.wrap (uW h.copies zone t h.drift h.copies.length - t)=uW h.copies zone t h.drift h.copies.length - t:=by rw [yZ]<;>omega
  cases hq:wM (zBE h.copies zone) h.copies.length
  ·rw [hq,if_neg (by simp)] at hqn hqe
   simp only [hdl,hqn,hqe,go_sem,Nat.reduceEqDiff,Nat.reduceBEq,Nat.reduceAdd,zC]
  ·rw [hq,if_pos rfl] at hqn hqe
   simp only [hdl,hqn,hqe,w9,go_sem,Nat.reduceEqDiff,Nat.reduceBEq,Nat.reduceAdd,zC]
end Go.SL
/- Contracts: the zones of a history. -/
namespace Go.SL
open Go
variable {E:Env} {H:Hp}
def zAP (h:yO):List Bs:=(xJ h.copies h.copies.length).map (·.1)
def wB (h:yO):List Bs:=xG qZ (zAP h).length (zAP h)
theorem zHS (cs:List yE) (k:Nat):(xJ cs k).length≤k:=zLl _ k
theorem map_fst (l:List (Bs × Bool)):(l.map fun e=>S e.1)=(l.map (·.1)).map S:=by rw [List.map_map]; rfl
set_option maxHeartbeats 1000000 in
theorem yZe (hE : zX E) (h2 : xZ E) (h3 : yW E) (hB : qU E H) {v : Value} {h : yO} (hh : vV H v h) (hn : h.copies.length ≤ 12) :
  Fn E.P (E.fn 124) [v] H (fun u H'=>H.le H'∧(yS h=false→u = .tuple #[.slice none 0 0,.int .i64 1])∧(yS h=true→∃ vz,u = .tuple #[vz,.int .i64 0]∧zG H' 1 vz (wB h).length (rS (wB h)))):=by
 have fv:=zHg hE h2 hB hh hn
 obtain⟨vh,vz,vd,vi,rfl,g1,g2,g3,g5⟩:=hh
 have o1:=zG.one g1
 have o2:=g2.one
 have o3:=zG.one g3
 have o5:=zG.one g5
 have f1:=yIL h2 g2 (by omega)
 refine Fn.of_vks h3.c124 (by simp [zLN]) ?_
 simp only [zLN,zXA,zTQ,yFZ,zZB,zUT,yGs]
 simp only [go_sem,Nat.reduceEqDiff,Nat.reduceBEq,Nat.reduceAdd,reduceCtorEq]
 refine zE _ (by simp only [go_sem]) (fun _=>⟨by simp only [go_sem,Nat.reduceEqDiff],fv⟩) ?_
 cases hv:yS h
 ·simp only [go_sem,Nat.reduceLeDiff,Nat.reduceEqDiff,Nat.reduceBEq,Nat.reduceAdd]
 ·simp only [go_sem,Nat.reduceLeDiff,Nat.reduceEqDiff,Nat.reduceBEq,Nat.reduceAdd]
  refine zM ?_ f1 ?_
  ·simp only [go_sem,Nat.reduceEqDiff]
  rintro u H1 ⟨hle,hcase⟩
  have hl:=zHS h.copies h.copies.length
  have hml:(zAP h).length=(xJ h.copies h.copies.length).length:=by unfold zAP; simp
  rcases hcase with⟨rfl,hnil⟩ | ⟨b,cp,hb,rfl,hH⟩
  ·have hz : wB h = [] := by
    have:zAP h = []:=by unfold zAP; rw [hnil]; rfl
    unfold wB; rw [this]; rfl
   simp only [go_sem,Nat.reduceEqDiff,Nat.reduceBEq]
   refine zM ?_ (yVk hE h2 h3 _) ?_
   ·simp only [go_sem,Nat.reduceEqDiff]
   rintro u H2 rfl
   simp only [hz,go_sem,Nat.reduceEqDiff,Nat.reduceBEq]
   exact⟨hle,_,rfl,zG.nil⟩
  ·have hH' : H1 b = some (.row (flat (zAP h).length (kM (zAP h))) (cp * 1) true) := by
    rw [hH,map_fst]
    exact congrArg (fun l=>some (xI.row l (cp * 1) true)) (zFn (zAP h)).symm
   rw [← hml]
   simp only [go_sem,Nat.reduceEqDiff,Nat.reduceBEq]
   refine zM ?_ (yVF hE h2 h3 (yVo hE h3) (zAP h) (by omega) hH') ?_
   ·simp only [go_sem,Nat.reduceEqDiff]
   rintro u H2 rfl
   have hlen:(wB h).length=(zAP h).length:=vB ..
   simp only [go_sem,Nat.reduceEqDiff,Nat.reduceBEq]
   refine⟨zH hle hb _,_,rfl,?_⟩
   rw [hlen]
   exact zG.ofRow (fun _ _=>rfl) (Hp.put_same ..)
end Go.SL
