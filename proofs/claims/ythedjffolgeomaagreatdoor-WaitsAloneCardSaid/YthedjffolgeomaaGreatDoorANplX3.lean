/- Contracts: the reference's labels and names. -/
import Derived.Test.YthedjffolgeomaaGreatDoorANplQ
import Derived.Test.YthedjffolgeomaaGreatDoorANplO
import Derived.Test.YthedjffolgeomaaGreatDoorANplV1
namespace Go.SL
open Go
variable {E:Env} {H:Hp}
def ySr (s:Bs) (i:Nat):Bool:=!(!(bI s i == 45 && decide (i > 0) && decide ((i:Int) < (s.length:Int) - 1)) && (decide (bI s i < 97) || decide (bI s i > 122)) && (decide (bI s i < 48) || decide (bI s i > 57)))
theorem zJa (s:Bs):zBL s=(zP (ySr s) s.length && (decide (1≤s.length) && decide (s.length≤12))):=rfl
set_option maxHeartbeats 1000000 in
theorem yYq (h4 : xH E) (s : Bs) (hn : s.length ≤ 1000000000) : yB E 216 [S s] H (.bool (zBL s)) := by
 refine Fn.of_vks h4.c216 (by simp [zMn]) ?_
 simp only [zMn,zXM,zXR,zTp,zYD,yED,zUa,zZG,zWb,zXz]
 simp only [go_sem,Nat.reduceBEq,reduceCtorEq]
 refine zT s.length 0 (fun k=>[(0,⟨true,.val (S s)⟩),(3,⟨true,.val (.int .i64 k)⟩)]) (fun k=>zP (ySr s) k=true) (Nat.zero_le _) rfl rfl ?_
 intro k hk hP
 by_cases hlt:k < s.length
 ·have hd:decide ((k:Int) < (s.length:Int))=true:=by simpa using hlt
  have e0:decide ((k:Int) > 0)=decide (k > 0):=by rw [Bool.eq_iff_iff,decide_eq_true_eq,decide_eq_true_eq]; omega
  have e1:IntKind.i64.wrap ((s.length:Int) - 1)=(s.length:Int) - 1:=by rw [yZ]<;>omega
  have hlp:ySr s k = !(!(bI s k == 45 && decide (k > 0) && decide ((k:Int) < (s.length:Int) - 1)) && (decide (bI s k < 97) || decide (bI s k > 122)) && (decide (bI s k < 48) || decide (bI s k > 57))):=rfl
  simp only [hd,e0,e1,go_sem,Nat.reduceEqDiff,Nat.reduceBEq,reduceCtorEq,zC]
  generalize (bI s k == 45 && decide (k > 0))=q1 at *
  generalize decide ((k:Int) < (s.length:Int) - 1)=q2 at *
  generalize decide (bI s k < 97)=q3 at *
  generalize decide (bI s k > 122)=q4 at *
  generalize decide (bI s k < 48)=q5 at *
  generalize decide (bI s k > 57)=q6 at *
  refine⟨⟨by omega,by omega⟩,fun h=>⟨h,h⟩,fun h=>⟨h,fun h'=>by rw [h,h']; rfl⟩,fun h=>⟨h,fun h'=>by rw [h,h']; rfl⟩,fun hc=>?_,fun hc=>⟨hlt,zR (by omega),yJ hP (by rw [hlp,hc]; rfl)⟩⟩
  rw [zJa,zY hlt (by rw [hlp,hc]; rfl)]; rfl
 ·have hd:decide ((k:Int) < (s.length:Int))=false:=by simpa using hlt
  have:k=s.length:=by omega
  subst this
  have e2:decide ((s.length:Int)≥1)=decide (1≤s.length):=by rw [Bool.eq_iff_iff,decide_eq_true_eq,decide_eq_true_eq]; omega
  have e3:decide ((s.length:Int)≤12)=decide (s.length≤12):=by rw [Bool.eq_iff_iff,decide_eq_true_eq,decide_eq_true_eq]; omega
  simp only [hd,e2,e3,go_sem,Nat.reduceEqDiff,Nat.reduceBEq,reduceCtorEq,zC]
  rw [zJa,hP]; rfl
end Go.SL
/- Contracts: the reference's parts of a name, and when it is valid. -/
namespace Go.SL
open Go
variable {E:Env} {H:Hp}
theorem yRj (a b : Bs) : (⟨a.toArray⟩ : ByteArray) ++ ⟨b.toArray⟩ = ⟨(a ++ b).toArray⟩ := by
 apply ByteArray.ext
 simp
theorem zDe (s : Bs) : ∀ k, (xQ s k).length ≤ k + 1
 | 0=>by simp [xQ]
 | k + 1 => by
  have ih:=zDe s k
  simp only [xQ]
  split
  ·simp; omega
  ·simp; omega
theorem zFr (s : Bs) : ∀ k, ∀ x ∈ xQ s k, x.length ≤ k
 | 0,x,h=>by simp [xQ] at h; subst h; simp
 | k + 1, x, h => by
  have ih:=zFr s k
  simp only [xQ] at h
  split at h
  ·rcases List.mem_append.1 h with h | h
   ·have:=ih x h; omega
   ·simp at h; subst h; simp
  ·rcases List.mem_append.1 h with h | h
   ·have:=ih x (List.dropLast_subset _ h); omega
   ·simp at h; subst h
    have hne:=zGJ s k
    have : (xQ s k).getLastD [] ∈ xQ s k := by
     rw [List.getLastD_eq_getLast?,List.getLast?_eq_some_getLast hne]; exact List.getLast_mem hne
    have:=ih _ this
    simp at this ⊢; omega
def zGV (H:Hp) (v:Value) (l:List Bs) (b:Nat):Prop:=∃ cap,v = .slice (some ⟨b,0,none⟩) l.length cap∧H b=some (.row (l.map S) (cap * 1) true)
def rS (l:List Bs) (i:Nat):List Value:=[S (l.getD i [])]
theorem zGV.at {v : Value} {l : List Bs} {b : Nat} (h : zGV H v l b) : zG H 1 v l.length (rS l) := by
 obtain⟨cap,rfl,hb⟩:=h
 refine⟨_,_,rfl,(fun h=>by cases h),fun _=>⟨b,0,_,_,_,rfl,hb,fun i hi=>⟨by simp; omega,?_⟩⟩⟩
 rw [Nat.zero_add,Nat.mul_one,List.drop_eq_getElem_cons (by simpa using hi)]
 simp [rS,hi]
set_option maxHeartbeats 1000000 in
theorem yTr (h4 : xH E) (s : Bs) (hn : s.length ≤ 1000000) : Fn E.P (E.fn 215) [S s] H (fun u H' => ∃ b, zGV H' u (wQ s) b ∧ H b = none ∧ H.le H') := by
 refine Fn.of_vks h4.c215 (by simp [zLU]) ?_
 simp only [zLU,yBa,yAV,zZu,yAN,yBd,yDo,yEx,yBg,zYc]
 simp only [go_sem,Nat.reduceEqDiff,Nat.reduceBEq,reduceCtorEq]
 intro b0 hb0
 refine yK s.length 0 (fun k fr' H' => ∃ b cap, fr' = [(0, ⟨true, .val (S s)⟩), (3, ⟨true, .val (.slice (some ⟨b, 0, none⟩) (xQ s k).length cap)⟩), (4, ⟨true, .val (.int .i64 k)⟩)] ∧
  H.le H'∧H b=none∧H' b=some (.row ((xQ s k).map S) (cap * 1) true)) (Nat.zero_le _) ⟨b0,1,rfl,zJ hb0 _,hb0,Hp.put_same ..⟩ ?_
 rintro k fr' H' hk ⟨b,cap,rfl,hle,hHb,hb⟩
 have hlen:=zDe s k
 have hsum:=zFr s k
 have hne:=zGJ s k
 by_cases hlt:k < s.length
 ·have hd:decide ((k:Int) < (s.length:Int))=true:=by simpa using hlt
  have hsucc:xQ s (k + 1)=if s.getD k 0=46 then xQ s k ++ [[]] else (xQ s k).dropLast ++ [(xQ s k).getLastD [] ++ [s.getD k 0]]:=rfl
  obtain⟨L,hL⟩:∃ y,y=xQ s k:=⟨_,rfl⟩
  rw [← hL] at hlen hsum hne hsucc hb
  rw [← hL]
  have hpos:0 < L.length:=List.length_pos_iff.2 hne
  have hbI : (bI s k == 46) = decide (s.getD k 0 = 46) := by
   rw [Bool.eq_iff_iff,beq_iff_eq,decide_eq_true_eq]
   unfold bI
   constructor
   ·intro h; exact UInt8.toNat_inj.1 (by have:((46:UInt8).toNat:Int)=46:=rfl; omega)
   ·intro h; rw [h]; rfl
  simp only [hd,hbI,go_sem,Nat.reduceEqDiff,Nat.reduceBEq,reduceCtorEq,zC]
  refine⟨⟨by omega,by omega⟩,fun hc=>?_,fun hc=>?_⟩
  ·have hc':s.getD k 0=46:=by simpa using hc
   rw [if_pos hc'] at hsucc
   intro bs hbs
   have hbs2:(H'.put bs (.row [S []] 1 true)) bs=some (.row [S []] 1 true):=Hp.put_same ..
   have hnbs:b≠bs:=by rintro rfl; rw [hb] at hbs; cases hbs
   have hb2:(H'.put bs (.row [S []] 1 true)) b=some (.row (L.map S) (cap * 1) true):=by rw [Hp.put_ne _ _ hnbs]; exact hb
   have hsO:pG (H'.put bs (.row [S []] 1 true)) 1 (.slice (some ⟨bs,0,none⟩) 1 1):=.inr ⟨rfl,by rw [hbs2]; simp⟩
   have hsC:zN (H'.put bs (.row [S []] 1 true)) 1 (.slice (some ⟨bs,0,none⟩) 1 1) = [S []]:=by simp [zN,hbs2]
   refine zAl (b0:=b) (n:=L.length) (cap0:=cap) (capc:=cap * 1) (vs:=L.map S) ?_ ?_ hsO (by show(zN (H'.put bs (.row [S []] 1 true)) 1 (.slice (some ⟨bs,0,none⟩) 1 1)).all yV=true; rw [hsC]; rfl) ?_ (by show(L.length + 1) * 16≤_; omega) (by show L.length + 1≤_; omega) hb2 (by simp) rfl ?_
   ·simp only [go_sem,Nat.reduceEqDiff,reduceCtorEq]
   ·simp only [go_sem,Nat.reduceEqDiff,reduceCtorEq]
   ·simp only [go_sem,Nat.reduceEqDiff,reduceCtorEq]
   intro b1 cap1 hb1
   simp only [zV,hsC,go_sem,Nat.reduceEqDiff,Nat.reduceBEq,reduceCtorEq,zC]
   have hdle:H.le ((H'.put bs (.row [S []] 1 true)).del b):=zEO hHb (hle.trans (zJ hbs _))
   refine⟨hlt,b1,cap1,⟨by rw [hsucc]; simp,zR (by omega)⟩,hdle.trans (zJ hb1 _),?_,?_⟩
   ·cases hq:H b1 with
    | none=>rfl
    | some o=>rw [hdle _ _ hq] at hb1; cases hb1
   ·rw [Hp.put_same,hsucc]; simp
  ·have hc':¬ s.getD k 0=46:=by simpa using hc
   rw [if_neg hc'] at hsucc
   have e1:IntKind.i64.wrap ((L.length:Int) - 1)=((L.length - 1:Nat):Int):=by rw [yZ]<;>omega
   have e2:IntKind.i64.wrap ((k:Int) + 1)=((k + 1:Nat):Int):=zR (by omega)
   have v0 : (L.map S).getD (L.length - 1) undef = S (L.getD (L.length - 1) []) := by
    simp [List.getD_eq_getElem?_getD,List.getElem?_eq_getElem (show L.length - 1 < L.length by omega)]
   have hx : (s.drop k).take (k + 1 - k) = [s.getD k 0] := by
    rw [show k + 1 - k=1 by omega,List.drop_eq_getElem_cons hlt,List.getD_eq_getElem?_getD,List.getElem?_eq_getElem hlt]; rfl
   have hsz:(L.getD (L.length - 1) []).length≤k:=hsum _ (by rw [List.getD_eq_getElem?_getD,List.getElem?_eq_getElem (show L.length - 1 < L.length by omega)]; exact List.getElem_mem _)
   have hcond:((L.getD (L.length - 1) []).length≤9223372036854775806)=True:=eq_true (by omega)
   have hlast : L.getLastD [] = L.getD (L.length - 1) [] := by
    rw [List.getLastD_eq_getLast?,List.getLast?_eq_getElem?,List.getD_eq_getElem?_getD]
   rw [hlast] at hsucc
   simp only [hcond,hb,e1,e2,v0,hx,yRj,Nat.mul_one,List.length_map,jW,go_sem,Nat.reduceLeDiff,Nat.reduceEqDiff,Nat.reduceBEq,reduceCtorEq,zC]
   refine⟨⟨by omega,by omega⟩,by omega,⟨⟨by omega,by omega⟩,by omega,by omega⟩,⟨by omega,by omega⟩,by omega,hlt,b,cap,by rw [hsucc]; simp; omega,zH hle hHb _,hHb,?_⟩
   rw [Hp.put_same,hsucc,List.map_append,List.dropLast_eq_take,List.map_take,List.drop_of_length_le (l:=L.map S) (by simp; omega)]
   simp
 ·have hd:decide ((k:Int) < (s.length:Int))=false:=by simpa using hlt
  have:k=s.length:=by omega
  subst this
  simp only [hd,go_sem,Nat.reduceEqDiff,Nat.reduceBEq,reduceCtorEq,zC]
  exact⟨b,⟨cap,rfl,hb⟩,hHb,hle⟩
end Go.SL
/- Contracts: the reference's names. -/
namespace Go.SL
open Go
variable {E:Env} {H:Hp}
theorem yWl (l : List Bs) {k : Nat} (hk : k < l.length) : (l.map S).getD k undef = S (l.getD k []) := by
 simp [List.getD_eq_getElem?_getD,List.getElem?_eq_getElem hk]
def zFJ (l:List Bs) (i:Nat):Bool:=zBL (l.getD i []) || (i == 0 && l.getD i [] == [42])
theorem zKY (s:Bs):vK s=(s == [46] || (decide (s.length≤60) && (zP (zFJ (wQ s)) (wQ s).length && decide ((wQ s).length≤8)))):=rfl
set_option maxHeartbeats 1000000 in
theorem zEe (h4 : xH E) (s : Bs) : yB E 198 [S s] H (.bool (vK s)) := by
 refine Fn.of_vks h4.c198 (by simp [zNh]) ?_
 simp only [zNh,yDI,zZD,zXG,yAz,yFn,yAi,yFE,zWp,zWX,zNC,zSe,zVn,zRp]
 rw [zKY]
 by_cases h46:s = [46]
 ·subst h46
  have e0:(([46]:Bs) == [46])=true:=rfl
  simp only [e0,go_sem,Nat.reduceLeDiff,Nat.reduceEqDiff,Nat.reduceBEq,reduceCtorEq,zC,zIk]
 ·have e0:(s == [46])=false:=by simpa using h46
  by_cases h60:s.length≤60
  ·have e1:decide ((s.length:Int) > 60)=false:=by rw [decide_eq_false_iff_not]; omega
   have e1':decide (s.length≤60)=true:=by simpa using h60
   simp only [e0,e1,e1',go_sem,Nat.reduceEqDiff,Nat.reduceBEq,reduceCtorEq,zC]
   refine zM ?_ (yTr h4 s (by omega)) ?_
   ·simp only [go_sem,Nat.reduceEqDiff,reduceCtorEq]
   rintro u H1 ⟨b,⟨cap,rfl,hb⟩,hHb,hle⟩
   obtain⟨L,hL⟩:∃ y,y=wQ s:=⟨_,rfl⟩
   have hlen:L.length≤s.length + 1:=by rw [hL]; exact zDe s s.length
   have hsum:∀ x∈L,x.length≤s.length:=by rw [hL]; exact zFr s s.length
   rw [← hL] at hb ⊢
   simp only [go_sem,Nat.reduceEqDiff,Nat.reduceBEq,reduceCtorEq]
   refine yK L.length 0 (fun k fr' H'=>H'=H1∧zP (zFJ L) k=true∧fr' = [(3,⟨true,.val (.slice (some ⟨b,0,none⟩) L.length cap)⟩),(4,⟨true,.val (.int .i64 k)⟩)]) (Nat.zero_le _) ⟨rfl,rfl,rfl⟩ ?_
   rintro k fr' H' hk ⟨rfl,hP,rfl⟩
   by_cases hlt:k < L.length
   ·have hd:decide ((k:Int) < (L.length:Int))=true:=by simpa using hlt
    have hg:=yWl L hlt
    have hx:(L.getD k []).length≤s.length:=hsum _ (by rw [List.getD_eq_getElem?_getD,List.getElem?_eq_getElem hlt]; exact List.getElem_mem _)
    simp only [hd,hb,hg,Nat.mul_one,List.length_map,go_sem,Nat.reduceEqDiff,Nat.reduceBEq,zC]
    refine⟨⟨by omega,by omega⟩,by omega,?_⟩
    refine zE _ (by simp only [go_sem]) (fun _=>⟨by simp only [go_sem,Nat.reduceEqDiff],yYq h4 (L.getD k []) (by omega)⟩) ?_
    have hlN:zFJ L k=(zBL (L.getD k []) || (k == 0 && L.getD k [] == [42])):=rfl
    have h0k : decide ((k : Int) > 0) = !(k == 0) := by
     rw [Bool.eq_iff_iff,decide_eq_true_eq]; simp; omega
    have hsucc:IntKind.i64.wrap ((k:Int) + 1)=((k + 1:Nat):Int):=zR (by omega)
    cases hq:zBL (L.getD k [])
    ·cases hk0:(k == 0)
     ·have h0k':decide ((k:Int) > 0)=true:=by rw [h0k,hk0]; rfl
      have hf:zP (zFJ L) L.length=false:=zY hlt (by rw [hlN,hq,hk0]; rfl)
      simp only [h0k',hf,hb,hg,Nat.mul_one,List.length_map,go_sem,Nat.reduceEqDiff,Nat.reduceBEq,zC]
      exact hle
     ·have h0k':decide ((k:Int) > 0)=false:=by rw [h0k,hk0]; rfl
      cases hst:(L.getD k [] == [42])
      ·have hf:zP (zFJ L) L.length=false:=zY hlt (by rw [hlN,hq,hk0,hst]; rfl)
       simp only [h0k',hf,hst,hb,hg,Nat.mul_one,List.length_map,go_sem,Nat.reduceEqDiff,Nat.reduceBEq,zC]
       exact⟨⟨by omega,by omega⟩,by omega,hle⟩
      ·have ht:zP (zFJ L) (k + 1)=true:=yJ hP (by rw [hlN,hq,hk0,hst]; rfl)
       simp only [h0k',ht,hst,hb,hg,hsucc,Nat.mul_one,List.length_map,go_sem,Nat.reduceEqDiff,Nat.reduceBEq,zC]
       exact⟨⟨by omega,by omega⟩,by omega,hlt⟩
    ·have ht:zP (zFJ L) (k + 1)=true:=yJ hP (by rw [hlN,hq]; rfl)
     simp only [ht,hsucc,hb,hg,Nat.mul_one,List.length_map,go_sem,Nat.reduceEqDiff,Nat.reduceBEq,zC]
     exact hlt
   ·have hd:decide ((k:Int) < (L.length:Int))=false:=by simpa using hlt
    have:k=L.length:=by omega
    subst this
    have e8:decide ((L.length:Int)≤8)=decide (L.length≤8):=by rw [Bool.eq_iff_iff,decide_eq_true_eq,decide_eq_true_eq]; omega
    simp only [hd,hP,e8,go_sem,Nat.reduceEqDiff,Nat.reduceBEq,zC]
    exact hle
  ·have e1:decide ((s.length:Int) > 60)=true:=by rw [decide_eq_true_eq]; omega
   have e1':decide (s.length≤60)=false:=by rw [decide_eq_false_iff_not]; exact h60
   simp only [e0,e1,e1',go_sem,Nat.reduceEqDiff,Nat.reduceBEq,reduceCtorEq,zC]
theorem zBt {s : Bs} (h : vK s = true) : s.length ≤ 60 := by
 rw [zKY,Bool.or_eq_true,Bool.and_eq_true,decide_eq_true_eq,beq_iff_eq] at h
 rcases h with rfl | ⟨h,_⟩
 ·simp
 ·exact h
theorem zGV.sl {v:Value} {l:List Bs} {b:Nat} (h:zGV H v l b):∃ a c,v = .slice a l.length c:=by obtain⟨c,rfl,_⟩:=h; exact⟨_,c,rfl⟩
theorem zJh (h4 : xH E) (s : Bs) (hn : s.length ≤ 1000000) : Fn E.P (E.fn 217) [S s] H (fun u H' => zG H' 1 u (xP s).length (rS (xP s)) ∧ H.le H') := by
 refine Fn.of_vks h4.c217 (by simp [zLO]) ?_
 simp only [zLO,zTi,yGe,yEQ,yFy]
 unfold xP
 by_cases h46:s = [46]
 ·subst h46
  have e0:(([46]:Bs) == [46])=true:=rfl
  simp only [e0,go_sem,Nat.reduceEqDiff,Nat.reduceBEq,reduceCtorEq,zC]
  exact zG.nil
 ·have e0:(s == [46])=false:=by simpa using h46
  simp only [e0,if_neg h46,go_sem,Nat.reduceEqDiff,Nat.reduceBEq,reduceCtorEq,zC]
  refine zM ?_ (yTr h4 s (by omega)) ?_
  ·simp only [go_sem,Nat.reduceEqDiff,reduceCtorEq]
  rintro u H1 ⟨b,hO,hHb,hle⟩
  have hS:=hO.at
  obtain⟨cap,rfl,hb⟩:=hO
  simp only [go_sem,Nat.reduceEqDiff,Nat.reduceBEq,reduceCtorEq]
  exact⟨hS,hle⟩
theorem zG.str {v : Value} {l : List Bs} (h : zG H 1 v l.length (rS l)) {k : Nat} (hk : k < l.length) : ∃ b o c cap vs wr, v = .slice (some ⟨b, o, none⟩) l.length cap ∧ H b = some (.row vs c wr) ∧ (vs.drop (o + k * 1)).take 1 = [S (l.getD k [])] ∧ o + k * 1 + 1 ≤ vs.length := by
 obtain⟨a,cap,rfl,hsp,hr⟩:=h
 obtain⟨b,o,vs,c,wr,rfl,hb,hi⟩:=hr (by omega)
 exact⟨b,o,c,cap,vs,wr,rfl,hb,(hi k hk).2,(hi k hk).1⟩
def zCp (s:Bs):Bool:=decide (0 < (xP s).length) && (xP s).getD 0 [] == [42]
theorem yTm (h4 : xH E) (s : Bs) (hn : s.length ≤ 1000000) : yB E 199 [S s] H (.bool (zCp s)) := by
 refine Fn.of_vks h4.c199 (by simp [zMF]) ?_
 simp only [zMF,zUP,zTX,yBc]
 simp only [go_sem,Nat.reduceBEq,reduceCtorEq]
 refine zM ?_ (zJh h4 s hn) ?_
 ·simp only [go_sem,reduceCtorEq]
 rintro u H1 ⟨hS,hle⟩
 unfold zCp
 obtain⟨L,hL⟩:∃ y,y=xP s:=⟨_,rfl⟩
 rw [← hL] at hS ⊢
 by_cases h0:0 < L.length
 ·have hd:decide ((L.length:Int) > 0)=true:=by rw [decide_eq_true_eq]; omega
  have hd':decide (0 < L.length)=true:=by rw [decide_eq_true_eq]; omega
  obtain⟨b,o,c,cap,vs,wr,rfl,hb,hv,hvl⟩:=hS.str h0
  have hg:=zK (j:=0) hv (by omega)
  rw [Nat.zero_mul,Nat.add_zero,List.getD_cons_zero] at hg
  simp only [hd,hd',hb,hg,go_sem,Nat.reduceEqDiff,Nat.reduceBEq,reduceCtorEq,Int.reduceToNat,Int.reduceLE,zC]
  exact⟨by omega,by omega,hle⟩
 ·obtain⟨a,c,rfl⟩:=hS.sl
  have hd:decide ((L.length:Int) > 0)=false:=by rw [decide_eq_false_iff_not]; omega
  have hd':decide (0 < L.length)=false:=by rw [decide_eq_false_iff_not]; omega
  simp only [hd,hd',↓vH,↓vU,↓yA,go_sem,Nat.reduceEqDiff,Nat.reduceBEq,reduceCtorEq,zC]
  exact hle
end Go.SL
/- Contracts: the reference's order of names. -/
namespace Go.SL
open Go
variable {E:Env} {H:Hp}
def zJT (l m:List Bs) (i:Nat):Bool:=l.getD (l.length - m.length + i) [] == m.getD i []
def rIn (s z:Bs):Bool:=decide ((xP z).length≤(xP s).length) && zP (zJT (xP s) (xP z)) (xP z).length
theorem yUx (s z:Bs):rIn s z=(decide ((xP z).length≤(xP s).length) && zP (zJT (xP s) (xP z)) (xP z).length):=rfl
theorem zDc (s : Bs) : (xP s).length ≤ s.length + 1 := by
 unfold xP; split
 ·simp
 ·exact zDe s s.length
set_option maxHeartbeats 1000000 in
theorem yHA (h4 : xH E) (s z : Bs) (hn : s.length ≤ 1000000) (hz : z.length ≤ 1000000) : yB E 206 [S s, S z] H (.bool (rIn s z)) := by
 refine Fn.of_vks h4.c206 (by simp [zMz]) ?_
 simp only [zMz,yBI,zUp,zZQ,zXS,yAf,zTz,yFX,yEk,yFH,zXn,zPr]
 rw [yUx]
 simp only [go_sem,Nat.reduceEqDiff,Nat.reduceBEq,reduceCtorEq]
 refine zM ?_ (zJh h4 s hn) ?_
 ·simp only [go_sem,Nat.reduceEqDiff,reduceCtorEq]
 rintro u H1 ⟨hS,hle⟩
 obtain⟨a1,c1,rfl⟩:=hS.sl
 simp only [go_sem,Nat.reduceEqDiff,Nat.reduceBEq,reduceCtorEq]
 refine zM ?_ (zJh h4 z hz) ?_
 ·simp only [go_sem,Nat.reduceEqDiff]
 rintro u H2 ⟨hZ,hle2⟩
 obtain⟨a2,c2,rfl⟩:=hZ.sl
 have hS2:=hS.mono hle2
 have hlS:=zDc s
 have hlZ:=zDc z
 obtain⟨L,hL⟩:∃ y,y=xP s:=⟨_,rfl⟩
 obtain⟨M,hM⟩:∃ y,y=xP z:=⟨_,rfl⟩
 rw [← hL] at hS2 hlS ⊢
 rw [← hM] at hZ hlZ ⊢
 have hle3:=hle.trans hle2
 by_cases hc:M.length≤L.length
 ·have hd:decide ((M.length:Int) > (L.length:Int))=false:=by rw [decide_eq_false_iff_not]; omega
  have hd':decide (M.length≤L.length)=true:=by rw [decide_eq_true_eq]; omega
  simp only [hd,hd',go_sem,Nat.reduceEqDiff,Nat.reduceBEq,zC]
  refine zT M.length 0 (fun k=>[(5,⟨true,.val (.slice a1 L.length c1)⟩),(6,⟨true,.val (.slice a2 M.length c2)⟩),(7,⟨true,.val (.int .i64 k)⟩)]) (fun k=>zP (zJT L M) k=true) (Nat.zero_le _) rfl rfl ?_
  intro k hk hP
  by_cases hlt:k < M.length
  ·have hdl:decide ((k:Int) < (M.length:Int))=true:=by simpa using hlt
   have hi:L.length - M.length + k < L.length:=by omega
   obtain⟨b,o,c,cap,vs,wr,hsl,hb,hv,hvl⟩:=hS2.str hi
   obtain⟨b',o',c',cap',vs',wr',hsl',hb',hv',hvl'⟩:=hZ.str hlt
   cases hsl
   cases hsl'
   have hg:=zK (j:=0) hv (by omega)
   have hg':=zK (j:=0) hv' (by omega)
   rw [Nat.mul_one,Nat.add_zero,List.getD_cons_zero] at hg hg'
   rw [Nat.mul_one] at hvl hvl'
   have e1:IntKind.i64.wrap ((L.length:Int) - (M.length:Int))=((L.length - M.length:Nat):Int):=by rw [yZ]<;>omega
   have e2:IntKind.i64.wrap (((L.length - M.length:Nat):Int) + (k:Int))=((L.length - M.length + k:Nat):Int):=by rw [yZ]<;>omega
   have e3:IntKind.i64.wrap ((k:Int) + 1)=((k + 1:Nat):Int):=zR (by omega)
   have hin:zJT L M k=(L.getD (L.length - M.length + k) [] == M.getD k []):=rfl
   simp only [hdl,e1,e2,Nat.mul_one,hb,hb',hg,hg',go_sem,Nat.reduceEqDiff,Nat.reduceBEq,zC]
   refine⟨⟨by omega,by omega⟩,by omega,⟨by omega,by omega⟩,by omega,fun h=>⟨(zY hlt (by rw [hin,h])).symm,hle3⟩,fun h=>⟨hlt,e3,yJ hP (by rw [hin,h])⟩⟩
  ·have hdl:decide ((k:Int) < (M.length:Int))=false:=by simpa using hlt
   have:k=M.length:=by omega
   subst this
   simp only [hdl,hP,go_sem,Nat.reduceEqDiff,Nat.reduceBEq,zC]
   exact hle3
 ·have hd:decide ((M.length:Int) > (L.length:Int))=true:=by rw [decide_eq_true_eq]; omega
  have hd':decide (M.length≤L.length)=false:=by rw [decide_eq_false_iff_not]; omega
  simp only [hd,hd',go_sem,Nat.reduceEqDiff,Nat.reduceBEq,zC]
  exact hle3
def zDK : List Bs → List Bs → Int
 | [],[]=>0
 | [],_ :: _=>-1
 | _ :: _,[]=>1
 | x :: r,y :: r'=>if Op.bytesLess x y then -1 else if !(Op.bytesLess x y || x == y) then 1 else zDK r r'
def uL (a b:Bs):Int:=zDK (xP a).reverse (xP b).reverse
theorem zFZ (l : List Bs) {k : Nat} (h : k < l.length) : l.reverse.drop k = l.getD (l.length - (k + 1)) [] :: l.reverse.drop (k + 1) := by
 rw [List.drop_eq_getElem_cons (by simpa using h),List.getElem_reverse,List.getD_eq_getElem?_getD,List.getElem?_eq_getElem (by omega)]
 simp only [Option.getD_some]
 congr 2
 omega
set_option maxHeartbeats 1000000 in
theorem yHX (h4 : xH E) (s z : Bs) (hn : s.length ≤ 1000000) (hz : z.length ≤ 1000000) : yB E 196 [S s, S z] H (.int .i64 (uL s z)) := by
 refine Fn.of_vks h4.c196 (by simp [zMH]) ?_
 simp only [zMH,zUo,zVI,yFd,yDc,yCF,zZA,zVf,yAl,zTP,zRU,zRO,yEi,zPN,zQA,zRr,zPU,zPV]
 unfold uL
 simp only [go_sem,Nat.reduceEqDiff,Nat.reduceBEq,reduceCtorEq]
 refine zM ?_ (zJh h4 s hn) ?_
 ·simp only [go_sem,Nat.reduceEqDiff,reduceCtorEq]
 rintro u H1 ⟨hS,hle⟩
 obtain⟨a1,c1,rfl⟩:=hS.sl
 simp only [go_sem,Nat.reduceEqDiff,Nat.reduceBEq,reduceCtorEq]
 refine zM ?_ (zJh h4 z hz) ?_
 ·simp only [go_sem,Nat.reduceEqDiff]
 rintro u H2 ⟨hZ,hle2⟩
 obtain⟨a2,c2,rfl⟩:=hZ.sl
 have hS2:=hS.mono hle2
 have hlS:=zDc s
 have hlZ:=zDc z
 obtain⟨L,hL⟩:∃ y,y=xP s:=⟨_,rfl⟩
 obtain⟨M,hM⟩:∃ y,y=xP z:=⟨_,rfl⟩
 rw [← hL] at hS2 hlS ⊢
 rw [← hM] at hZ hlZ ⊢
 have hle3:=hle.trans hle2
 simp only [go_sem,Nat.reduceEqDiff,Nat.reduceBEq]
 refine zT (min L.length M.length) 0 (fun k=>[(5,⟨true,.val (.slice a1 L.length c1)⟩),(6,⟨true,.val (.slice a2 M.length c2)⟩),(7,⟨true,.val (.int .i64 ((k + 1:Nat):Int))⟩)]) (fun k=>zDK L.reverse M.reverse=zDK (L.reverse.drop k) (M.reverse.drop k)) (Nat.zero_le _) rfl rfl ?_
 intro k hk hP
 rw [hP]
 by_cases hlt:k < min L.length M.length
 ·have hi:L.length - (k + 1) < L.length:=by omega
  have hj:M.length - (k + 1) < M.length:=by omega
  have hd1:decide (((k + 1:Nat):Int)≤(L.length:Int))=true:=by rw [decide_eq_true_eq]; omega
  have hd2:decide (((k + 1:Nat):Int)≤(M.length:Int))=true:=by rw [decide_eq_true_eq]; omega
  obtain⟨b,o,c,cap,vs,wr,hsl,hb,hv,hvl⟩:=hS2.str hi
  obtain⟨b',o',c',cap',vs',wr',hsl',hb',hv',hvl'⟩:=hZ.str hj
  cases hsl
  cases hsl'
  have hg:=zK (j:=0) hv (by omega)
  have hg':=zK (j:=0) hv' (by omega)
  rw [Nat.mul_one,Nat.add_zero,List.getD_cons_zero] at hg hg'
  rw [Nat.mul_one] at hvl hvl'
  have e1:IntKind.i64.wrap ((L.length:Int) - ((k + 1:Nat):Int))=((L.length - (k + 1):Nat):Int):=by rw [yZ]<;>omega
  have e2:IntKind.i64.wrap ((M.length:Int) - ((k + 1:Nat):Int))=((M.length - (k + 1):Nat):Int):=by rw [yZ]<;>omega
  have e3:IntKind.i64.wrap (((k + 1:Nat):Int) + 1)=((k + 1 + 1:Nat):Int):=zR (by omega)
  have hr : zDK (L.reverse.drop k) (M.reverse.drop k) = if Op.bytesLess (L.getD (L.length - (k + 1)) []) (M.getD (M.length - (k + 1)) []) then -1 else if !(Op.bytesLess (L.getD (L.length - (k + 1)) []) (M.getD (M.length - (k + 1)) []) || L.getD (L.length - (k + 1)) [] == M.getD (M.length - (k + 1)) []) then 1 else zDK (L.reverse.drop (k + 1)) (M.reverse.drop (k + 1)) := by
   rw [zFZ L (by omega),zFZ M (by omega)]; rfl
  rw [hr]
  cases hq:Op.bytesLess (L.getD (L.length - (k + 1)) []) (M.getD (M.length - (k + 1)) [])
  ·cases hq2:(L.getD (L.length - (k + 1)) [] == M.getD (M.length - (k + 1)) [])
   ·simp only [hd1,hd2,hq,hq2,e1,e2,Nat.mul_one,hb,hb',hg,hg',go_sem,Nat.reduceEqDiff,Nat.reduceBEq,reduceCtorEq,Int.reduceEq,zC]
    refine⟨⟨by omega,by omega⟩,by omega,⟨by omega,by omega⟩,by omega,?_⟩
    exact hle3
   ·rw [hq,hq2] at hr
    simp only [hd1,hd2,hq,hq2,e1,e2,e3,Nat.mul_one,hb,hb',hg,hg',go_sem,Nat.reduceEqDiff,Nat.reduceBEq,zC]
    refine⟨⟨by omega,by omega⟩,by omega,⟨by omega,by omega⟩,by omega,?_⟩
    exact hlt
  ·simp only [hd1,hd2,hq,e1,e2,Nat.mul_one,hb,hb',hg,hg',go_sem,Nat.reduceEqDiff,Nat.reduceBEq,reduceCtorEq,zC]
   refine⟨⟨by omega,by omega⟩,by omega,⟨by omega,by omega⟩,by omega,?_⟩
   exact hle3
 ·by_cases hL':k < L.length
  ·have hM':k=M.length:=by omega
   have hd1:decide (((k + 1:Nat):Int)≤(L.length:Int))=true:=by rw [decide_eq_true_eq]; omega
   have hd2:decide (((k + 1:Nat):Int)≤(M.length:Int))=false:=by rw [decide_eq_false_iff_not]; omega
   have hd3:decide ((L.length:Int) < (M.length:Int))=false:=by rw [decide_eq_false_iff_not]; omega
   have hd4:decide ((L.length:Int) > (M.length:Int))=true:=by rw [decide_eq_true_eq]; omega
   have hr : zDK (L.reverse.drop k) (M.reverse.drop k) = 1 := by
    rw [zFZ L (by omega),List.drop_of_length_le (l:=M.reverse) (by simp; omega)]; rfl
   rw [hr]
   simp only [hd1,hd2,hd3,hd4,go_sem,Nat.reduceEqDiff,Nat.reduceBEq,reduceCtorEq,Int.reduceEq,zC]
   exact hle3
  ·have hd1:decide (((k + 1:Nat):Int)≤(L.length:Int))=false:=by rw [decide_eq_false_iff_not]; omega
   have hd4:decide ((L.length:Int) > (M.length:Int))=false:=by rw [decide_eq_false_iff_not]; omega
   by_cases hM':k < M.length
   ·have hd3:decide ((L.length:Int) < (M.length:Int))=true:=by rw [decide_eq_true_eq]; omega
    have hr : zDK (L.reverse.drop k) (M.reverse.drop k) = -1 := by
     rw [zFZ M (by omega),List.drop_of_length_le (l:=L.reverse) (by simp; omega)]; rfl
    rw [hr]
    simp only [hd1,hd3,go_sem,Nat.reduceEqDiff,Nat.reduceBEq,reduceCtorEq,zC]
    exact hle3
   ·have hd3:decide ((L.length:Int) < (M.length:Int))=false:=by rw [decide_eq_false_iff_not]; omega
    have hr : zDK (L.reverse.drop k) (M.reverse.drop k) = 0 := by
     rw [List.drop_of_length_le (l:=M.reverse) (by simp; omega),List.drop_of_length_le (l:=L.reverse) (by simp; omega)]; rfl
    rw [hr]
    simp only [hd1,hd3,hd4,go_sem,Nat.reduceEqDiff,Nat.reduceBEq,reduceCtorEq,Int.reduceEq,zC]
    exact hle3
set_option maxHeartbeats 1000000 in
theorem yYn (h4 : xH E) (s z : Bs) : yB E 218 [S s, S z] H (.tuple #[.int .i64 (if vK s && vK z then uL s z else 0), .int .i64 (if vK s && vK z then 0 else 11)]) := by
 refine Fn.of_vks h4.c218 (by simp [zLt]) ?_
 simp only [zLt,zTn,yEn,zUq,yDS,yBM,zVb]
 simp only [go_sem,Nat.reduceEqDiff,Nat.reduceBEq,reduceCtorEq]
 refine zE _ (by simp only [go_sem]) (fun _=>⟨by simp only [go_sem,Nat.reduceEqDiff,reduceCtorEq],zEe h4 s⟩) ?_
 simp only [go_sem,Nat.reduceEqDiff,Nat.reduceBEq,reduceCtorEq]
 refine zE _ (by simp only [go_sem]) (fun _=>⟨by simp only [go_sem,Nat.reduceEqDiff,reduceCtorEq],zEe h4 z⟩) ?_
 cases hs1:vK s<;>cases hz1:vK z<;>simp only [go_sem,Nat.reduceEqDiff,Nat.reduceBEq,reduceCtorEq]
 refine zE _ (by simp only [go_sem]) (fun _=>⟨by simp only [go_sem,Nat.reduceEqDiff,reduceCtorEq],yHX h4 s z (Nat.le_trans (zBt hs1) (by omega)) (Nat.le_trans (zBt hz1) (by omega))⟩) ?_
 simp only [go_sem,Nat.reduceEqDiff,Nat.reduceBEq,reduceCtorEq]
end Go.SL
