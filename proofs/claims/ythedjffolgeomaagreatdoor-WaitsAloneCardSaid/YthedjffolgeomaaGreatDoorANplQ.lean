/- The lemmas by which a walk steps, as one set. -/
import Derived.Test.YthedjffolgeomaaGreatDoorANplO
import Derived.Lib.ItoaNum
namespace Go.SL
open Go
attribute [go_sem] yTP yUF yVf yOY yRU ySJ yTN yGK yTF yRg yUL ySt
attribute [go_sem] yTO yQU yTV yUK yQT zOc zSH zSw yRd ySA yVi yRI
attribute [go_sem] yHs yWo Value.cells yTk ySu yPa yHd yRz yOT yRq xC List.all_cons
attribute [go_sem] List.all_nil zAV Fr.vals List.take_zero List.take_succ_cons List.drop_succ_cons List.nil_append List.append_nil List.cons_append List.drop_nil List.getD_cons_zero List.getD_cons_succ
attribute [go_sem] Nat.le_refl List.toList_toArray yZb yZR yZa yST yRl yWu yTf yTi yQW yGy
attribute [go_sem] Fr.start wV pX zAk List.contains_cons List.contains_nil zHl Bool.true_or Bool.or_true Bool.false_or Bool.or_false yIr
attribute [go_sem] yUc yXa toNat_ofNat' Value.bool.injEq Value.int.injEq qA yY zBg xN setD vok vo
attribute [go_sem] pok pvo vZ zFa pP zBa zHY zIF zDo kA qH zAL
attribute [go_sem] kP zCi Fr.set Fr.get Fr.keep PV.isLp List.filter_cons List.filter_nil zBC Fr.upb zCu zBF
attribute [go_sem] pT.ok pT.val yVm yVV yNf intOf List.map_cons List.map_nil Bool.not_true Bool.not_false Bool.and_true Bool.true_and
attribute [go_sem] Bool.and_false Bool.false_and Bool.and_self beq_self_eq_true true_and and_true forall_const true_implies implies_true Option.getD_some Option.getD_none cond_true
attribute [go_sem] cond_false Option.isSome_some yJf yGP yUQ ySe Nat.succ_ne_self Nat.one_ne_zero imp_self Bool.not_eq_true' Bool.not_eq_false' Nat.sub_zero
attribute [go_sem] List.drop_zero false_implies Bool.false_eq_true Bool.true_eq_false if_true if_false Nat.zero_add Nat.add_zero Nat.zero_mul Nat.mul_zero List.length_cons List.length_nil
attribute [go_sem] Option.some.injEq List.cons.injEq Prod.mk.injEq SV.mk.injEq PV.val.injEq PV.box.injEq List.size_toArray
attribute [go_sem] Js Jt Jn Jm Jc Jf Jl Jk Jp Jx Jw Ji Je Ja Jr Ju Jv Jz Kf Kg Kl Km Kb Kc Ke Kx Kn
end Go.SL
/- Contracts: slices.Clone. -/
namespace Go.SL
open Go
variable {E:Env} {H:Hp}
theorem xBj (hE : zX E) {v : Value} {l : List xO} (h : xF H v l) (hn : l.length ≤ 1099511627) : Fn E.P (E.fn 22) [v] H (fun u H' => zFe H 3 l.length (pR l) u H') := by
 have hsrc:=zG.src h
 have hall:(flat l.length (pR l)).all yV=true:=zIf fun i _=>rfl
 obtain⟨a,cap,rfl,hs,hr⟩:=h
 refine Fn.of_vks hE.c22 (by simp [yHJ]) ?_
 simp only [yHJ,yOc,yIY,yPd,yLe]
 simp only [zIH,go_sem,Nat.reduceEqDiff,Nat.reduceBEq,reduceCtorEq]
 refine⟨fun h=>?_,fun h=>?_⟩
 ·have ha:a=none:=by simpa using h
  subst ha
  exact .inl ⟨rfl,hsrc.1,rfl⟩
 ·intro b5 hb5
  have hle:H.le (H.put b5 (.row [] 0 true)):=zJ hb5 _
  have h':zG (H.put b5 (.row [] 0 true)) 3 (.slice a l.length cap) l.length (pR l):=zG.mono ⟨a,cap,rfl,hs,hr⟩ hle
  have hsrc':=zG.src h'
  refine zAl (b0:=b5) (n:=0) (cap0:=0) (vs:=[]) (capc:=0) ?_ ?_ hsrc'.1 ?_ ?_ ?_ ?_ (Hp.put_same ..) rfl rfl ?_
  ·simp only [go_sem,Nat.reduceEqDiff,reduceCtorEq]
  ·simp only [go_sem,Nat.reduceEqDiff,reduceCtorEq]
  ·exact(congrArg (fun l=>List.all l yV) hsrc'.2.2).trans hall
  ·simp only [go_sem,Nat.reduceEqDiff,reduceCtorEq]
  ·show(0 + l.length) * _≤_; omega
  ·show 0 + l.length≤_; omega
  intro b cap' hb
  rw [zUw hb5] at hb ⊢
  have e1:zN (H.put b5 (.row [] 0 true)) 3 (.slice a l.length cap)=flat l.length (pR l):=hsrc'.2.2
  simp only [zV,e1,go_sem,Nat.reduceEqDiff,Nat.reduceBEq,reduceCtorEq]
  exact .inr ⟨b,cap',hb,rfl,rfl⟩
theorem xBz (hE : zX E) {v : Value} {l : List kI} (h : xL H v l) (hn : l.length ≤ 1099511627) : Fn E.P (E.fn 39) [v] H (fun u H' => zFe H 6 l.length (zAf l) u H') := by
 have hsrc:=zG.src h
 have hall:(flat l.length (zAf l)).all yV=true:=zIf fun i _=>rfl
 obtain⟨a,cap,rfl,hs,hr⟩:=h
 refine Fn.of_vks hE.c39 (by simp [yHw]) ?_
 simp only [yHw,yJO,yMH,yLP,yJC]
 simp only [zIH,go_sem,Nat.reduceEqDiff,Nat.reduceBEq,reduceCtorEq]
 refine⟨fun h=>?_,fun h=>?_⟩
 ·have ha:a=none:=by simpa using h
  subst ha
  exact .inl ⟨rfl,hsrc.1,rfl⟩
 ·intro b5 hb5
  have hle:H.le (H.put b5 (.row [] 0 true)):=zJ hb5 _
  have h':zG (H.put b5 (.row [] 0 true)) 6 (.slice a l.length cap) l.length (zAf l):=zG.mono ⟨a,cap,rfl,hs,hr⟩ hle
  have hsrc':=zG.src h'
  refine zAl (b0:=b5) (n:=0) (cap0:=0) (vs:=[]) (capc:=0) ?_ ?_ hsrc'.1 ?_ ?_ ?_ ?_ (Hp.put_same ..) rfl rfl ?_
  ·simp only [go_sem,Nat.reduceEqDiff,reduceCtorEq]
  ·simp only [go_sem,Nat.reduceEqDiff,reduceCtorEq]
  ·exact(congrArg (fun l=>List.all l yV) hsrc'.2.2).trans hall
  ·simp only [go_sem,Nat.reduceEqDiff,reduceCtorEq]
  ·show(0 + l.length) * _≤_; omega
  ·show 0 + l.length≤_; omega
  intro b cap' hb
  rw [zUw hb5] at hb ⊢
  have e1:zN (H.put b5 (.row [] 0 true)) 6 (.slice a l.length cap)=flat l.length (zAf l):=hsrc'.2.2
  simp only [zV,e1,go_sem,Nat.reduceEqDiff,Nat.reduceBEq,reduceCtorEq]
  exact .inr ⟨b,cap',hb,rfl,rfl⟩
end Go.SL
/- Few copies, few sets. -/
namespace Go.SL
open Go
end Go.SL
/- Contracts of the leaves: strings, numbers. -/
namespace Go.SL
open Go
variable {E:Env} {H:Hp}
theorem xBT (hE : zX E) (a b : Bs) : yB E 64 [S a, S b] H (.bool (zBU a b)) := by
 refine Fn.of_vks hE.c64 (by simp [yHC]) ?_
 simp only [yHC,yJm,yKL]
 simp only [go_sem,Nat.reduceEqDiff,Nat.reduceBEq,reduceCtorEq,zC]
 simp [zBU]
theorem yRf (hE : zX E) (a b : Bs) : yB E 44 [S a, S b] H (.bool (zBU a b)) := by
 refine Fn.of_vks hE.c44 (by simp [yHl]) ?_
 simp only [yHl,yLU,yKq]
 simp only [go_sem,Nat.reduceEqDiff,Nat.reduceBEq,reduceCtorEq]
 refine zE _ ?_ (fun _=>⟨?_,xBT hE a b⟩) ?_<;>simp only [go_sem,Nat.reduceEqDiff,Nat.reduceBEq,reduceCtorEq]
theorem yXu (hE : zX E) (a b : Bs) (ha : a.length ≤ 1099511627776) : yB E 101 [S a, S b] H (.bool (zBR a b)) := by
 refine Fn.of_vks hE.c101 (by simp [zMN]) ?_
 simp only [zMN,zXd,zZr]
 simp only [go_sem,Nat.reduceEqDiff,Nat.reduceBEq,reduceCtorEq,zC]
 have e:b.length≤a.length→IntKind.i64.wrap ((a.length:Int) - (b.length:Int))=((a.length - b.length:Nat):Int):=fun h=>by rw [yZ]<;>omega
 refine⟨fun h=>⟨h,h⟩,fun h=>?_,fun h=>⟨h,h⟩,?_⟩
 ·simp at h; simp [h,e h]
 ·by_cases h:b.length≤a.length
  ·simp [zBR,h,e h,List.take_of_length_le]
  ·simp [zBR,h]
theorem xBA (hE : zX E) (a b : Bs) (ha : a.length ≤ 1099511627776) : yB E 94 [S a, S b] H (.bool (zBR a b)) := by
 refine Fn.of_vks hE.c94 (by simp [yIC]) ?_
 simp only [yIC,yPy,yMa]
 simp only [go_sem,Nat.reduceEqDiff,Nat.reduceBEq,reduceCtorEq]
 refine zE _ ?_ (fun _=>⟨?_,yXu hE a b ha⟩) ?_<;>simp only [go_sem,Nat.reduceEqDiff,Nat.reduceBEq,reduceCtorEq]
theorem yVz (hE : zX E) (a : Bs) (ha : a.length ≤ 60) : yB E 90 [S a, .int .u8 46] H (.int .i64 (ixI (lastIx 46 a))) := by
 refine Fn.of_vks hE.c90 (by simp [yGA]) ?_
 simp only [yGA,yPF,yLb]
 simp only [go_sem,Nat.reduceEqDiff,Nat.reduceBEq,reduceCtorEq]
 refine zE _ ?_ (fun _=>⟨?_,hE.lastIx H a ha⟩) ?_<;>simp only [go_sem,Nat.reduceEqDiff,Nat.reduceBEq,reduceCtorEq]
theorem yWO (hE : zX E) (a b : Bs) : yB E 103 [S a, S b] H (.int .i64 (wJ a b)) := by
 refine Fn.of_vks hE.c103 (by simp [zMQ]) ?_
 simp only [zMQ,zUD,zXT]
 simp only [go_sem,Nat.reduceEqDiff,Nat.reduceBEq,reduceCtorEq]
 refine zE _ ?_ (fun _=>⟨?_,hE.cmpStr H a b⟩) ?_<;>simp only [go_sem,Nat.reduceEqDiff,Nat.reduceBEq,reduceCtorEq]
theorem yWm (hE : zX E) (a : Int) : yB E 88 [.int .i64 a] H (.bool false) := by
 refine Fn.of_vks hE.c88 (by simp [yIu]) ?_
 simp only [yIu,yIZ,yMT]
 simp only [go_sem,Nat.reduceEqDiff,Nat.reduceBEq,reduceCtorEq,zC]
 simp
theorem yTw (hE : zX E) (a : Bs) : yB E 100 [S a] H (.bool false) := by
 refine Fn.of_vks hE.c100 (by simp [zLK]) ?_
 simp only [zLK,yBl,zYp]
 simp only [go_sem,Nat.reduceEqDiff,Nat.reduceBEq,reduceCtorEq,zC]
theorem zOq (hE : zX E) (a b : Int) : yB E 89 [.int .i64 a, .int .i64 b] H (.int .i64 (vC a b)) := by
 refine Fn.of_vks hE.c89 (by simp [yGV]) ?_
 simp only [yGV,yPE,yMc,yPM,yIV,yPc,yPZ,yMX,yKg,yQb,yNL,yFU,yFT,yCC,zYG]
 simp only [go_sem,Nat.reduceEqDiff,Nat.reduceBEq,reduceCtorEq]
 refine zE _ ?_ (fun _=>⟨?_,yWm hE a⟩) ?_<;>simp only [go_sem,Nat.reduceEqDiff,Nat.reduceBEq,reduceCtorEq]
 refine zE _ ?_ (fun _=>⟨?_,yWm hE b⟩) ?_<;>simp only [go_sem,Nat.reduceEqDiff,Nat.reduceBEq,reduceCtorEq,zC]
 grind [vC]
theorem xCj (hE : zX E) (a b : Bs) : yB E 92 [S a, S b] H (.int .i64 (wJ a b)) := by
 refine Fn.of_vks hE.c92 (by simp [yIj]) ?_
 simp only [yIj,yNs,yOo,yKj,yPe,yNK,yOw,yQo,yMd,yPr,yJU,zUc,zZW,zYF,zZP]
 simp only [go_sem,Nat.reduceEqDiff,Nat.reduceBEq,reduceCtorEq]
 refine zE _ ?_ (fun _=>⟨?_,yTw hE a⟩) ?_<;>simp only [go_sem,Nat.reduceEqDiff,Nat.reduceBEq,reduceCtorEq]
 refine zE _ ?_ (fun _=>⟨?_,yTw hE b⟩) ?_<;>simp only [go_sem,Nat.reduceEqDiff,Nat.reduceBEq,reduceCtorEq,zC]
 grind [wJ]
theorem zKl (hE : zX E) (x a b : Int) : yB E 74 [.int .i64 x, .int .i64 a, .int .i64 b] H (.bool (zZ x a b)) := by
 refine Fn.of_vks hE.c74 (by simp [yGX]) ?_
 simp only [yGX,yML,yNu]
 simp only [go_sem,Nat.reduceEqDiff,Nat.reduceBEq,Nat.reduceAdd,reduceCtorEq,zC]
 simp [zZ]
theorem yWb (hE : zX E) (x a b : Int) : yB E 99 [.int .u8 x, .int .u8 a, .int .u8 b] H (.bool (zZ x a b)) := by
 refine Fn.of_vks hE.c99 (by simp [yGY]) ?_
 simp only [yGY,yPt,yMP]
 simp only [go_sem,Nat.reduceEqDiff,Nat.reduceBEq,Nat.reduceAdd,reduceCtorEq,zC]
 simp [zZ]
theorem yWc (hE : zX E) (a : Bs) : yB E 76 [S a] H (.bool (pL a)) := by
 refine Fn.of_vks hE.c76 (by simp [yGE]) ?_
 simp only [yGE,yQg,yKt]
 simp only [go_sem,Nat.reduceBEq,reduceCtorEq]
 refine zE _ ?_ (fun _=>⟨?_,yRf hE a [42]⟩) ?_<;>simp only [go_sem,Nat.reduceEqDiff,Nat.reduceBEq,reduceCtorEq]
 simp [pL]
theorem yVj (hE : zX E) (x : Int) : yB E 53 [.int .i64 x] H (.bool (kY x)) := by
 refine Fn.of_vks hE.c53 (by simp [yHQ]) ?_
 simp only [yHQ,yLm,yKK]
 simp only [go_sem,Nat.reduceEqDiff,Nat.reduceBEq,reduceCtorEq,zC]
 simp [kY]
theorem xBJ (hE : zX E) (t : Int) (b : Bool) : yB E 83 [.int .i64 t, .bool b] H (.bool (zBn t b)) := by
 refine Fn.of_vks hE.c83 (by simp [yGH]) ?_
 simp only [yGH,yNY,yMW,yJM,yOG,yKA,yLS,yQu,yOy,yJR]
 simp only [go_sem,Nat.reduceEqDiff,Nat.reduceBEq,reduceCtorEq,zC]
 grind [zBn]
theorem xBy (hE : zX E) (a : Bs) : yB E 66 [S a] H (.bool (vX a)) := by
 refine Fn.of_vks hE.c66 (by simp [yIg]) ?_
 simp only [yIg,yLE,yQt,yMK,yOb,yJA,yKN,yKZ,yOv,yIT,yJl,zZU]
 simp only [go_sem,Nat.reduceEqDiff,Nat.reduceBEq,reduceCtorEq,Int.reduceToNat,Int.reduceLE,zC]
 have e:1≤a.length→a.length≤12→IntKind.i64.wrap ((a.length:Int) - 1)=((a.length - 1:Nat):Int):=fun h h'=>by rw [yZ]<;>omega
 refine⟨fun h=>?_,fun h=>?_,fun h=>?_,fun h=>?_⟩
 ·simp at h; simp; omega
 ·simp at h; simp [h]; rw [e (by omega) (by omega)]; omega
 ·by_cases h1:1≤a.length∧a.length≤12
  ·rw [e h1.1 h1.2,Int.toNat_natCast] at h
   simp [vX,h]
  ·have:(decide ((a.length:Int) < 1) || decide ((a.length:Int) > 12))=true:=by simp; omega
   simp [vX,this]
 ·have h1:1≤a.length∧a.length≤12:=by simp at h; omega
  rw [e h1.1 h1.2,Int.toNat_natCast] at h
  have h2:vX a=zP (fun i=>okc (bI a i)) a.length:=by simp [vX,h]
  refine zT a.length 0 (fun k=>[(0,⟨true,.val (S a)⟩),(27,⟨true,.val (.int .i64 a.length)⟩),(28,⟨true,.val (.int .i64 k)⟩)]) (fun k=>zP (fun i=>okc (bI a i)) k=true) (Nat.zero_le _) rfl rfl ?_
  intro k hk hP
  simp only [go_sem,Nat.reduceEqDiff,Nat.reduceBEq,reduceCtorEq,zC]
  rw [zR (by omega)]
  have hF:k < a.length→okc (bI a k)=false→zP (fun i=>okc (bI a i)) a.length=false:=fun h1 h2=>zY h1 h2
  have hS:okc (bI a k)=true→zP (fun i=>okc (bI a i)) (k + 1)=true:=fun h=>yJ hP h
  clear e h
  grind [okc]
theorem xBI (hE : zX E) (a : Bs) : yB E 91 [S a] H (.bool (kU a)) := by
 refine Fn.of_vks hE.c91 (by simp [yIp]) ?_
 simp only [yIp,yMu,yKc,yJL,yLu,yPK,yMI,yNG,yKo,yKp,yJI,zZj]
 simp only [go_sem,Nat.reduceBEq,reduceCtorEq]
 refine zE _ ?_ (fun _=>⟨?_,zKl hE _ _ _⟩) ?_<;>simp only [go_sem,Nat.reduceEqDiff,Nat.reduceBEq,reduceCtorEq,Int.reduceToNat,Int.reduceLE,zC]
 have e:zZ a.length 1 40=true→IntKind.i64.wrap ((a.length:Int) - 1)=((a.length - 1:Nat):Int):=fun h=>by simp [zZ] at h; rw [yZ]<;>omega
 have e':zZ a.length 1 40=true→1≤a.length∧a.length≤40:=fun h=>by simp [zZ] at h; omega
 refine⟨fun h=>?_,fun h=>?_,fun h=>?_,fun h=>?_⟩
 ·exact⟨h,by have:=e' h; omega⟩
 ·refine⟨h,h,?_⟩
  simp at h; rw [e h.1]; have:=e' h.1; omega
 ·by_cases h1:zZ a.length 1 40=true
  ·rw [e h1,Int.toNat_natCast] at h
   simp [kU,h]
  ·simp [kU,h1]
 ·have h1:zZ a.length 1 40=true:=by simp at h; exact h.1.1
  rw [e h1,Int.toNat_natCast] at h
  have h2:kU a=zP (fun i=>!(!zZ (bI a i) 97 122 && !zZ (bI a i) 48 57 && bI a i != 32)) a.length:=by simp [kU,h]
  have h3:=e' h1
  refine zT a.length 0 (fun k=>[(0,⟨true,.val (S a)⟩),(23,⟨true,.val (.int .i64 a.length)⟩),(24,⟨true,.val (.int .i64 k)⟩)]) (fun k=>zP (fun i=>!(!zZ (bI a i) 97 122 && !zZ (bI a i) 48 57 && bI a i != 32)) k=true) (Nat.zero_le _) rfl rfl ?_
  intro k hk hP
  simp only [go_sem,Nat.reduceEqDiff,Nat.reduceBEq,reduceCtorEq,zC]
  have hF:k < a.length→(!(!zZ (bI a k) 97 122 && !zZ (bI a k) 48 57 && bI a k != 32))=false→zP (fun i=>!(!zZ (bI a i) 97 122 && !zZ (bI a i) 48 57 && bI a i != 32)) a.length=false:=fun h1 h2=>zY h1 h2
  have hS:(!(!zZ (bI a k) 97 122 && !zZ (bI a k) 48 57 && bI a k != 32))=true→zP (fun i=>!(!zZ (bI a i) 97 122 && !zZ (bI a i) 48 57 && bI a i != 32)) (k + 1)=true:=fun h=>yJ hP h
  clear e e' h
  refine⟨fun h=>⟨by simp at h; omega,?_⟩,by grind⟩
  refine zE _ ?_ (fun _=>⟨?_,yWb hE (bI a k) 97 122⟩) ?_<;>simp only [go_sem,Nat.reduceEqDiff,Nat.reduceBEq,reduceCtorEq]
  refine zE _ ?_ (fun hg=>⟨?_,yWb hE (bI a k) 48 57⟩) ?_<;>simp only [go_sem,Nat.reduceEqDiff,Nat.reduceBEq,reduceCtorEq,zC]
  ·simp only [go_sem,Nat.reduceEqDiff,reduceCtorEq] at hg; exact hg
  ·rw [zR (by omega)]
   grind
end Go.SL
/- Contracts: comparing equal data. -/
namespace Go.SL
open Go
variable {E:Env} {H:Hp}
end Go.SL
/- Contract: internal/bytealg.LastIndexByteString. -/
namespace Go.SL
open Go
variable {E:Env} {H:Hp}
theorem yWx (x : UInt8) : ((x.toNat : Int) == 46) = decide (x = 46) := by
 rw [Bool.eq_iff_iff,beq_iff_eq,decide_eq_true_eq]
 constructor
 ·intro h
  apply UInt8.toNat_inj.1
  have:x.toNat=46:=by omega
  rw [this]; rfl
 ·rintro rfl; rfl
theorem xCs (hc : zB E (E.fn 98) yIf = true) (l : Bs) (hl : l.length ≤ 60) : yB E 98 [S l, .int .u8 46] H (.int .i64 (ixI (lastIx 46 l))) := by
 refine Fn.of_vks hc (by simp [yIf]) ?_
 simp only [yIf,yPO,yNN,yOK,yIN,yLD,yIP,yIO]
 have e0:IntKind.i64.wrap ((l.length:Int) - 1)=(l.length:Int) - 1:=yZ (by omega)
 simp only [e0,go_sem,Nat.reduceEqDiff,Nat.reduceBEq,reduceCtorEq,zC]
 refine pZ (fun m fr' H'=>m≤l.length∧fr' = [(0,⟨true,.val (S l)⟩),(1,⟨true,.val (.int .u8 46)⟩),(5,⟨true,.val (.int .i64 ((m:Int) - 1))⟩)]∧H'=H∧lastIx 46 l=uP 46 l m) l.length ⟨Nat.le_refl _,rfl,rfl,rfl⟩ ?_
 rintro m fr' H' ⟨hm,rfl,rfl,hx⟩
 cases m with
 | zero =>
  have hd:decide (((0:Nat):Int) - 1≥0)=false:=by decide
  simp only [hd,go_sem,Nat.reduceEqDiff,Nat.reduceBEq,reduceCtorEq,zC]
  rw [hx]; rfl
 | succ j =>
  have hd:decide (((j + 1:Nat):Int) - 1≥0)=true:=by rw [decide_eq_true_eq]; omega
  have e1:(((j + 1:Nat):Int) - 1).toNat=j:=by omega
  have e2:IntKind.i64.wrap ((((j + 1:Nat):Int) - 1) - 1)=(j:Int) - 1:=by rw [yZ]<;>omega
  simp only [hd,e1,e2,go_sem,Nat.reduceEqDiff,Nat.reduceBEq,reduceCtorEq,zC]
  have hb:(bI l j == 46)=decide (l.getD j 0=46):=yWx _
  simp only [uP] at hx
  refine⟨by omega,fun h=>?_,fun h=>?_⟩
  ·rw [hb,decide_eq_true_eq] at h
   rw [hx,if_pos h]
   simp only [ixI]; omega
  ·rw [hb,decide_eq_false_iff_not] at h
   exact⟨j,by omega,by omega,rfl,by rw [hx,if_neg h]⟩
end Go.SL
/- What is owed of the library; contracts: strings.Builder. -/
namespace Go.SL
open Go
variable {E:Env} {H:Hp}
def pD (l:Bs):List Value:=l.map fun b=>.int .u8 b.toNat
theorem zAG (l:Bs):(pD l).length=l.length:=by simp [pD]
theorem yHz (l w:Bs):pD (l ++ w)=pD l ++ pD w:=by simp [pD]
theorem yHb (l:Bs):(pD l).all yV=true:=by simp [pD,yV]
def zCY:List Value:=[.int .u64 1,.int .u64 10,.int .u64 100,.int .u64 1000,.int .u64 10000,.int .u64 100000,.int .u64 1000000,.int .u64 10000000,.int .u64 100000000,.int .u64 1000000000,.int .u64 10000000000,.int .u64 100000000000,.int .u64 1000000000000,.int .u64 10000000000000,.int .u64 100000000000000,.int .u64 1000000000000000,.int .u64 10000000000000000,.int .u64 100000000000000000,.int .u64 1000000000000000000,.int .u64 10000000000000000000]
def uD (E:Env) (H:Hp):Prop:=∃ wr,H (E.gl 180)=some (.row zCY 20 wr)
theorem uD.mono {H' : Hp} (h : uD E H) (hl : H.le H') : uD E H' := by
 obtain⟨wr,h⟩:=h
 exact⟨wr,hl _ _ h⟩
structure zBz (E : Env) : Prop where
 chk : ∀ (H : Hp) (b : Nat) (p v : Value), H b = some (.obj (.cells #[p, v] (E.gl 181) (0, 0))) → (p = .pointer none ∨ p = .pointer (some ⟨b, 0, none⟩)) →
  Fn E.P (E.fn 145) [.pointer (some ⟨b,0,none⟩)] H (fun _ H'=>H'=H.put b (.obj (.cells #[.pointer (some ⟨b,0,none⟩),v] (E.gl 181) (0,0))))
 str : ∀ (H : Hp) (b bb cap : Nat) (l : Bs) (c : Array Value) (p : Value), bb ≠ b → H b = some (.obj (.cells #[p, .slice (some ⟨bb, 0, none⟩) l.length cap] (E.gl 181) (0, 0))) → H bb = some (.obj (.cells c (E.gl 182) (0, 0))) →
  c.size=cap→l.length≤cap→c.toList.take l.length=pD l→l≠[]→l.length≤1000000000→Fn E.P (E.fn 134) [.pointer (some ⟨b,0,none⟩)] H (fun u H'=>u=S l∧H'=H.del bb)
 itoa:∀ (H:Hp) (n:Int),uD E H→-9223372036854775808≤n→n≤9223372036854775807→yB E 137 [.int .i64 n] H (S (Lib.itoa n))
 fmtU:∀ (H:Hp) (n:Int),uD E H→0≤n→n≤18446744073709551615→yB E 133 [.int .u64 n,.int .i64 10] H (S (Lib.itoa n))
def zBJ (E : Env) (H : Hp) (v : Value) (l : Bs) : Option Nat → Prop
 | none=>v = .slice none 0 0∧l = []
 | some bb=>l≠[]∧∃ cap c,v = .slice (some ⟨bb,0,none⟩) l.length cap∧H bb=some (.obj (.cells c (E.gl 182) (0,0)))∧c.size=cap∧l.length≤cap∧c.toList.take l.length=pD l
def vW (E:Env) (H:Hp) (b:Nat) (l:Bs) (ob:Option Nat):Prop:=∃ p v,(p = .pointer none∨p = .pointer (some ⟨b,0,none⟩))∧H b=some (.obj (.cells #[p,v] (E.gl 181) (0,0)))∧ob≠some b∧zBJ E H v l ob
def vE (H H':Hp) (b:Nat) (ob ob':Option Nat):Prop:=(∀ c o,H c=some o→c≠b→some c≠ob→H' c=some o)∧∀ c,ob'=some c→some c=ob∨(c≠b∧H c=none)
theorem vE.refl {b:Nat} {ob:Option Nat}:vE H H b ob ob:=⟨fun _ _ h _ _=>h,fun _ h=>.inl h.symm⟩
theorem vE.trans {H' H'' : Hp} {b : Nat} {ob ob' ob'' : Option Nat} (h : vE H H' b ob ob') (k : vE H' H'' b ob' ob'') : vE H H'' b ob ob'' := by
 refine⟨fun c o hc hb ho=>k.1 c o (h.1 c o hc hb ho) hb ?_,fun c hc=>?_⟩
 ·intro e
  rcases h.2 c e.symm with h2 | h2
  ·exact ho h2
  ·rw [h2.2] at hc; cases hc
 ·rcases k.2 c hc with h2 | h2
  ·exact h.2 c h2.symm
  ·by_cases e:some c=ob
   ·exact .inl e
   ·refine .inr ⟨h2.1,?_⟩
    cases hq:H c with
    | none=>rfl
    | some o=>rw [h.1 c o hq h2.1 e] at h2; cases h2.2
def pJ (H H':Hp):Prop:=∀ c vs cap wr,H c=some (.row vs cap wr)→H' c=some (.row vs cap wr)
theorem pJ.refl:pJ H H:=fun _ _ _ _ h=>h
theorem pJ.trans {H' H'':Hp} (h:pJ H H') (k:pJ H' H''):pJ H H'':=fun c vs cap wr hc=>k c vs cap wr (h c vs cap wr hc)
theorem pJ.of_le {H':Hp} (h:H.le H'):pJ H H':=fun _c _vs _cap _wr hc=>h _ _ hc
theorem zG.rowmono {H' : Hp} {sz : Nat} {v : Value} {n : Nat} {row : Nat → List Value} (h : zG H sz v n row) (hl : pJ H H') : zG H' sz v n row := by
 obtain⟨a,cap,hv,hs,hr⟩:=h
 refine⟨a,cap,hv,hs,fun hn=>?_⟩
 obtain⟨b,o,vs,c,wr,ha,hb,hi⟩:=hr hn
 exact⟨b,o,vs,c,wr,ha,hl _ _ _ _ hb,hi⟩
theorem uD.rowmono {H' : Hp} (h : uD E H) (hl : pJ H H') : uD E H' := by
 obtain⟨wr,h⟩:=h
 exact⟨wr,hl _ _ _ _ h⟩
theorem vW.rows {H' : Hp} {b : Nat} {l : Bs} {ob ob' : Option Nat} (h : vW E H b l ob) (k : vE H H' b ob ob') : pJ H H' := by
 obtain⟨p,v,_,hb,hne,hbuf⟩:=h
 intro c vs cap wr hc
 refine k.1 c _ hc (by rintro rfl; rw [hb] at hc; cases hc) ?_
 rintro rfl
 obtain⟨_,_,_,_,hbb,_⟩:=hbuf
 rw [hbb] at hc; cases hc
theorem zBJ.keep {H' : Hp} {v : Value} {l : Bs} {ob : Option Nat} (h : zBJ E H v l ob) (hk : ∀ b, ob = some b → H' b = H b) : zBJ E H' v l ob := by
 cases ob with
 | none=>exact h
 | some bb =>
  obtain⟨h0,cap,c,h1,h2,h3⟩:=h
  exact⟨h0,cap,c,h1,(hk bb rfl).trans h2,h3⟩
theorem zBJ.sl {v : Value} {l : Bs} {ob : Option Nat} (h : zBJ E H v l ob) : ∃ a c, v = .slice a l.length c := by
 cases ob with
 | none=>obtain⟨rfl,rfl⟩:=h; exact⟨_,_,rfl⟩
 | some bb=>obtain⟨_,cap,c,rfl,_⟩:=h; exact⟨_,_,rfl⟩
theorem vW.keep {H' : Hp} {b : Nat} {l : Bs} {ob : Option Nat} (h : vW E H b l ob) (hl : H.le H') : vW E H' b l ob := by
 obtain⟨p,v,hp,hb,hne,hbuf⟩:=h
 refine⟨p,v,hp,hl _ _ hb,hne,?_⟩
 cases ob with
 | none=>exact hbuf
 | some bb =>
  obtain⟨h0,cap,c,h1,h2,h3⟩:=hbuf
  exact⟨h0,cap,c,h1,hl _ _ h2,h3⟩
section
variable {fr:Fr} {Q:X→Fr→Hp→Prop} {k:List Item} {d:Option Nat} {r:List zA} {live:List Nat}
theorem zRu {zero : List Value} {s x : Arg} {v : Value} {l w : Bs} {ob : Option Nat} (h1 : vok fr s) (h2 : vok fr x) (h3 : pG H 1 (vo E fr x)) (hsrc : zN H 1 (vo E fr x) = pD w) (hlen : zV (vo E fr x) = w.length)
  (hs:vo E fr s=v) (hB:zBJ E H v l ob) (hn:l.length + w.length≤1000000000)
  (h:∀ v' H' ob',zBJ E H' v' (l ++ w) ob'→(∀ c o,H c=some o→some c≠ob→H' c=some o)→(∀ c,ob'=some c→some c=ob∨H c=none)→zS E (.ops r live :: k) (setD fr d ⟨true,.val v'⟩) H' Q) :
  zS E (.ops (⟨d,.appT 182 1 zero s x,none⟩ :: r) live :: k) fr H Q:=by
 refine qO (by intro x h; cases h) (by intro f a h; cases h) ⟨h1,h2,h3,by rw [hsrc]; exact yHb w,?_⟩
 rw [hs,hsrc,hlen]
 cases ob with
 | none =>
  obtain⟨rfl,rfl⟩:=hB
  refine⟨by omega,by omega,fun h0=>?_,fun hp b cap rest hb hc hr=>?_⟩
  ·have:w = []:=List.length_eq_zero_iff.1 h0
   subst this
   exact h _ _ none ⟨rfl,rfl⟩ (fun _ _ h _=>h) (fun c h=>by cases h)
  ·refine h _ _ (some b) ⟨fun e=>?_,cap,_,by simp,Hp.put_same ..,by simp [zAG,hr]; omega,by simpa using hc,?_⟩ (fun c o hc _=>zJ hb _ _ _ hc) (fun c e=>by cases e; exact .inr hb)
   ·rw [List.nil_append] at e; subst e; simp at hp
   ·rw [List.toList_toArray,List.nil_append,List.take_append_of_le_length (by rw [zAG]; exact Nat.le_refl _),List.take_of_length_le (by rw [zAG]; exact Nat.le_refl _)]
 | some b0 =>
  obtain⟨hne,cap0,c,rfl,hH,hsz,hle,htk⟩:=hB
  refine⟨by omega,by omega,hle,c,hH,hsz,fun b cap rest hb hc hr=>?_⟩
  rw [htk]
  refine h _ _ (some b) ⟨by simp [hne],cap,_,by simp,Hp.put_same ..,by simp [zAG,hr]; omega,by simpa using hc,?_⟩ (fun c o hc hne=>?_) (fun c e=>?_)
  ·rw [List.toList_toArray,← yHz,List.take_append_of_le_length (by rw [zAG]; exact Nat.le_refl _),List.take_of_length_le (by rw [zAG]; exact Nat.le_refl _)]
  ·refine zJ hb _ _ _ ?_
   rw [Hp.del_ne _ (by rintro rfl; exact hne rfl)]; exact hc
  ·cases e
   by_cases e:b=b0
   ·exact .inl (by rw [e])
   ·exact .inr (by rw [Hp.del_ne _ e] at hb; exact hb)
end
theorem xAK (w:Bs):pG H 1 (S w)∧zN H 1 (S w)=pD w∧zV (S w)=w.length:=⟨rfl,by simp [zN,pD],by simp [zV]⟩
theorem zRa {H2 : Hp} {b : Nat} {l' : Bs} {ob ob' : Option Nat} {p v v' : Value} (hb : H b = some (.obj (.cells #[p, v] (E.gl 181) (0, 0)))) (hne : ob ≠ some b)
  (hbuf:zBJ E H2 v' l' ob') (hk:∀ c o,(H.put b (.obj (.cells #[.pointer (some ⟨b,0,none⟩),v] (E.gl 181) (0,0)))) c=some o→some c≠ob→H2 c=some o) (hf:∀ c,ob'=some c→some c=ob∨(H.put b (.obj (.cells #[.pointer (some ⟨b,0,none⟩),v] (E.gl 181) (0,0)))) c=none) :
  vW E (H2.put b (.obj (.cells #[.pointer (some ⟨b,0,none⟩),v'] (E.gl 181) (0,0)))) b l' ob'∧vE H (H2.put b (.obj (.cells #[.pointer (some ⟨b,0,none⟩),v'] (E.gl 181) (0,0)))) b ob ob':=by
 have hne' : ob' ≠ some b := fun e => by
  rcases hf b e with h | h
  ·exact hne h.symm
  ·rw [Hp.put_same] at h; cases h
 refine⟨⟨_,_,.inr rfl,Hp.put_same ..,hne',hbuf.keep fun c hc=>?_⟩,fun c o hc hcb ho=>?_,fun c hc=>?_⟩
 ·rw [Hp.put_ne]; rintro rfl; exact hne' hc
 ·rw [Hp.put_ne _ _ hcb]; exact hk c o (by rw [Hp.put_ne _ _ hcb]; exact hc) ho
 ·rcases hf c hc with h | h
  ·exact .inl h
  ·by_cases e:c=b
   ·subst e; rw [Hp.put_same] at h; cases h
   ·rw [Hp.put_ne _ _ e] at h; exact .inr ⟨e,h⟩
theorem yIk (h3 : yW E) (L : zBz E) {b : Nat} {l : Bs} {ob : Option Nat} (hB : vW E H b l ob) (w : Bs) (hn : l.length + w.length ≤ 1000000000) :
  Fn E.P (E.fn 135) [.pointer (some ⟨b,0,none⟩),S w] H (fun _ H'=>∃ ob',vW E H' b (l ++ w) ob'∧vE H H' b ob ob'):=by
 obtain⟨p,v,hp,hb,hne,hbuf⟩:=hB
 refine Fn.of_vks h3.c135 (by simp [zMD]) ?_
 simp only [zMD,zXc,zYH,yEu,yCD]
 simp only [go_sem,Nat.reduceEqDiff,Nat.reduceBEq,reduceCtorEq]
 refine zM ?_ (L.chk H b p v hb hp) ?_
 ·simp only [go_sem,Nat.reduceEqDiff,reduceCtorEq]
 rintro u H1 rfl
 simp only [go_sem,Nat.reduceEqDiff,Nat.reduceBEq,reduceCtorEq]
 refine qO (by intro x h; cases h) (by intro f a h; cases h) ⟨?_,b,1,_,_,_,v,?_,Hp.put_same ..,rfl,?_⟩
 ·simp only [go_sem,Nat.reduceEqDiff,reduceCtorEq]
 ·simp only [go_sem,Nat.reduceEqDiff,reduceCtorEq]
 simp only [go_sem,Nat.reduceEqDiff,Nat.reduceBEq,reduceCtorEq]
 have hbuf1:zBJ E (H.put b (.obj (.cells #[.pointer (some ⟨b,0,none⟩),v] (E.gl 181) (0,0)))) v l ob:=hbuf.keep fun c hc=>by rw [Hp.put_ne]; rintro rfl; exact hne hc
 have hsrc:=xAK (H:=H.put b (.obj (.cells #[.pointer (some ⟨b,0,none⟩),v] (E.gl 181) (0,0)))) w
 refine zRu (w:=w) ?_ ?_ hsrc.1 hsrc.2.1 hsrc.2.2 ?_ hbuf1 hn ?_
 ·simp only [go_sem,Nat.reduceEqDiff,reduceCtorEq]
 ·simp only [go_sem,Nat.reduceEqDiff,reduceCtorEq]
 ·simp only [go_sem,Nat.reduceEqDiff,reduceCtorEq]
 intro v' H2 ob' hbuf2 hk hf
 have hd:=zRa hb hne hbuf2 hk hf
 obtain⟨a',c',rfl⟩:=hbuf2.sl
 simp only [go_sem,Nat.reduceEqDiff,Nat.reduceBEq,reduceCtorEq]
 refine qO (by intro x h; cases h) (by intro f a h; cases h) ⟨?_,?_,?_,?_,b,1,#[.pointer (some ⟨b,0,none⟩),v],_,?_,hk b _ (Hp.put_same ..) (fun e=>hne e.symm),(by simp),?_⟩
 ·simp only [go_sem,Nat.reduceEqDiff,reduceCtorEq]
 ·simp only [go_sem,Nat.reduceEqDiff,reduceCtorEq]
 ·simp only [go_sem,Nat.reduceEqDiff,reduceCtorEq]
 ·simp only [go_sem,Nat.reduceEqDiff,reduceCtorEq]
 ·simp only [go_sem,Nat.reduceEqDiff,reduceCtorEq]
 simp only [go_sem,Nat.reduceEqDiff,Nat.reduceBEq,Nat.reduceAdd,reduceCtorEq]
 exact⟨ob',hd⟩
theorem yHM (h3 : yW E) (L : zBz E) {b : Nat} {l : Bs} {ob : Option Nat} (hB : vW E H b l ob) (c : UInt8) (hn : l.length ≤ 900000000) :
  Fn E.P (E.fn 136) [.pointer (some ⟨b,0,none⟩),.int .u8 c.toNat] H (fun _ H'=>∃ ob',vW E H' b (l ++ [c]) ob'∧vE H H' b ob ob'):=by
 obtain⟨p,v,hp,hb,hne,hbuf⟩:=hB
 refine Fn.of_vks h3.c136 (by simp [zMS]) ?_
 simp only [zMS,yAt,zXq,yGn,yBj]
 simp only [go_sem,Nat.reduceEqDiff,Nat.reduceBEq,reduceCtorEq]
 refine zM ?_ (L.chk H b p v hb hp) ?_
 ·simp only [go_sem,Nat.reduceEqDiff,reduceCtorEq]
 rintro u H1 rfl
 simp only [go_sem,Nat.reduceEqDiff,Nat.reduceBEq,reduceCtorEq]
 refine qO (by intro x h; cases h) (by intro f a h; cases h) ⟨?_,b,1,_,_,_,v,?_,Hp.put_same ..,rfl,?_⟩
 ·simp only [go_sem,Nat.reduceEqDiff,reduceCtorEq]
 ·simp only [go_sem,Nat.reduceEqDiff,reduceCtorEq]
 simp only [go_sem,Nat.reduceEqDiff,Nat.reduceBEq,reduceCtorEq]
 intro bs hbs
 obtain⟨H1,hH1⟩:∃ y,y=H.put b (.obj (.cells #[.pointer (some ⟨b,0,none⟩),v] (E.gl 181) (0,0))):=⟨_,rfl⟩
 rw [← hH1] at hbs ⊢
 have hbuf1 : zBJ E (H1.put bs (.row [.int .u8 c.toNat] 1 true)) v l ob := hbuf.keep fun x hx => by
  have e1:x≠b:=by rintro rfl; exact hne hx
  rw [Hp.put_ne,hH1,Hp.put_ne _ _ e1]
  rintro rfl
  subst hx
  obtain⟨_,_,_,_,hbb,_⟩:=hbuf
  rw [hH1,Hp.put_ne _ _ e1,hbb] at hbs; cases hbs
 have hbsG:(H1.put bs (.row [.int .u8 c.toNat] 1 true)) bs=some (.row [.int .u8 c.toNat] 1 true):=Hp.put_same ..
 refine zRu (w:=[c]) ?_ ?_ (.inr ⟨rfl,by rw [hbsG]; simp⟩) (by show zN (H1.put bs (.row [.int .u8 c.toNat] 1 true)) 1 (.slice (some ⟨bs,0,none⟩) 1 1)=_; simp [zN,hbsG,pD]) rfl ?_ hbuf1 (by simp; omega) ?_
 ·simp only [go_sem,Nat.reduceEqDiff,reduceCtorEq]
 ·simp only [go_sem,Nat.reduceEqDiff,reduceCtorEq]
 ·simp only [go_sem,Nat.reduceEqDiff,reduceCtorEq]
 intro v' H2 ob' hbuf2 hk hf
 have hk':∀ c o,H1 c=some o→some c≠ob→H2 c=some o:=fun x o hx ho=>hk x o (zJ hbs _ _ _ hx) ho
 have hf' : ∀ c, ob' = some c → some c = ob ∨ H1 c = none := fun x hx => by
  rcases hf x hx with h | h
  ·exact .inl h
  ·refine .inr ?_
   cases hq:H1 x with
   | none=>rfl
   | some o=>rw [zJ hbs _ _ _ hq] at h; cases h
 have hb1:H1 b=some (.obj (.cells #[.pointer (some ⟨b,0,none⟩),v] (E.gl 181) (0,0))):=by rw [hH1,Hp.put_same]
 rw [hH1] at hk' hf'
 have hd:=zRa hb hne hbuf2 hk' hf'
 obtain⟨a',c',rfl⟩:=hbuf2.sl
 simp only [go_sem,Nat.reduceEqDiff,Nat.reduceBEq,reduceCtorEq]
 refine qO (by intro x h; cases h) (by intro f a h; cases h) ⟨?_,?_,?_,?_,b,1,#[.pointer (some ⟨b,0,none⟩),v],_,?_,hk' b _ (Hp.put_same ..) (fun e=>hne e.symm),(by simp),?_⟩
 ·simp only [go_sem,Nat.reduceEqDiff,reduceCtorEq]
 ·simp only [go_sem,Nat.reduceEqDiff,reduceCtorEq]
 ·simp only [go_sem,Nat.reduceEqDiff,reduceCtorEq]
 ·simp only [go_sem,Nat.reduceEqDiff,reduceCtorEq]
 ·simp only [go_sem,Nat.reduceEqDiff,reduceCtorEq]
 simp only [go_sem,Nat.reduceEqDiff,Nat.reduceAdd,reduceCtorEq]
 exact⟨ob',hd⟩
end Go.SL
