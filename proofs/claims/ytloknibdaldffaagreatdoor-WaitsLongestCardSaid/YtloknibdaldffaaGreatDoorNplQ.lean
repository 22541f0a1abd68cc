/- The lemmas by which a walk steps, as one set. -/
import Derived.Test.YtloknibdaldffaaGreatDoorNplO
import Derived.Test.YtloknibdaldffaaGreatDoorNplO7
import Derived.Lib.ItoaNum
namespace Go.SL
open Go
attribute [go_sem] vks_nil vks_seq vks_reg vks_block vks_skip vks_sim0 vks_sim vks_opsnil vks_blk vks_exit vks_ret vks_goal
attribute [go_sem] unw_nil unw_code unw_ops unw_opd unw_goal unw_blk_exit unw_blk_ret vks_cond_eq vks_newH vks_boxH vks_st vks_mksl
attribute [go_sem] vks_mkmap0 vks_mk Value.cells one1_str one1_int one1_bool one1_slice one1_ptr one1_func one1_map splice List.all_cons
attribute [go_sem] List.all_nil bindps Fr.vals List.take_zero List.take_succ_cons List.drop_succ_cons List.nil_append List.append_nil List.cons_append List.drop_nil List.getD_cons_zero List.getD_cons_succ
attribute [go_sem] Nat.le_refl List.toList_toArray LG_eq LP_eq LM_eq RetQ_ret RetQ_nrm ex_row vks_regd vks_regl vks_dsim vks_opdnil
attribute [go_sem] Fr.start dsts stabs Stable List.contains_cons List.contains_nil put_put Bool.true_or Bool.or_true Bool.false_or Bool.or_false le_refl_eq
attribute [go_sem] strOf_S bI_eq toNat_ofNat' Value.bool.injEq Value.int.injEq gok gcond simC simT setD vok vo
attribute [go_sem] pok pvo cellsOfPV offOfPV rowThere part1 szOf ptrOk shiftPV allok fillT fillC
attribute [go_sem] bnd bndC Fr.set Fr.get Fr.keep PV.isLp List.filter_cons List.filter_nil argsFr Fr.upb resOk resVal
attribute [go_sem] ARes.ok ARes.val S_size S_data S_extract intOf List.map_cons List.map_nil Bool.not_true Bool.not_false Bool.and_true Bool.true_and
attribute [go_sem] Bool.and_false Bool.false_and Bool.and_self beq_self_eq_true true_and and_true forall_const true_implies implies_true Option.getD_some Option.getD_none cond_true
attribute [go_sem] cond_false Option.isSome_some beq_true' beq_false' cond_or cond_and Nat.succ_ne_self Nat.one_ne_zero imp_self Bool.not_eq_true' Bool.not_eq_false' Nat.sub_zero
attribute [go_sem] List.drop_zero false_implies Bool.false_eq_true Bool.true_eq_false if_true if_false Nat.zero_add Nat.add_zero Nat.zero_mul Nat.mul_zero List.length_cons List.length_nil
attribute [go_sem] Option.some.injEq List.cons.injEq Prod.mk.injEq SV.mk.injEq PV.val.injEq PV.box.injEq List.size_toArray
attribute [go_sem] Js Jt Jn Jm Jc Jf Jl Jk Jp Jx Jw Ji Je Ja Jr Ju Jv Jz Kf Kg Kl Km Kb Kc Ke Kx Kn
end Go.SL
/- Contracts of the leaves: strings, numbers. -/
namespace Go.SL
open Go
variable {E : Env} {H : Hp}
theorem fn64 (hE : Codes E) (a b : Bs) : FnP E 64 [S a, S b] H (.bool (hasPre a b)) := by
 refine Fn.of_vks hE.c64 (by simp [cf64]) ?_
 simp only [cf64,cf64_0,cf64_1]
 simp only [go_sem,Nat.reduceEqDiff,Nat.reduceBEq,reduceCtorEq,binO]
 simp [hasPre]
theorem fn44 (hE : Codes E) (a b : Bs) : FnP E 44 [S a, S b] H (.bool (hasPre a b)) := by
 refine Fn.of_vks hE.c44 (by simp [cf44]) ?_
 simp only [cf44,cf44_0,cf44_1]
 simp only [go_sem,Nat.reduceEqDiff,Nat.reduceBEq,reduceCtorEq]
 refine vks_callp _ ?_ (fun _ => ⟨?_,fn64 hE a b⟩) ?_ <;> simp only [go_sem,Nat.reduceEqDiff,Nat.reduceBEq,reduceCtorEq]
theorem fn101 (hE : Codes E) (a b : Bs) (ha : a.length ≤ 1099511627776) : FnP E 101 [S a, S b] H (.bool (hasSuf a b)) := by
 refine Fn.of_vks hE.c101 (by simp [cf101]) ?_
 simp only [cf101,cf101_0,cf101_1]
 simp only [go_sem,Nat.reduceEqDiff,Nat.reduceBEq,reduceCtorEq,binO]
 have e : b.length ≤ a.length → IntKind.i64.wrap ((a.length : Int) - (b.length : Int)) = ((a.length - b.length : Nat) : Int) := fun h => by rw [wrapI] <;> omega
 refine ⟨fun h => ⟨h,h⟩,fun h => ?_,fun h => ⟨h,h⟩,?_⟩
 ·simp at h; simp [h,e h]
 ·by_cases h : b.length ≤ a.length
  ·simp [hasSuf,h,e h,List.take_of_length_le]
  ·simp [hasSuf,h]
theorem fn94 (hE : Codes E) (a b : Bs) (ha : a.length ≤ 1099511627776) : FnP E 94 [S a, S b] H (.bool (hasSuf a b)) := by
 refine Fn.of_vks hE.c94 (by simp [cf94]) ?_
 simp only [cf94,cf94_0,cf94_1]
 simp only [go_sem,Nat.reduceEqDiff,Nat.reduceBEq,reduceCtorEq]
 refine vks_callp _ ?_ (fun _ => ⟨?_,fn101 hE a b ha⟩) ?_ <;> simp only [go_sem,Nat.reduceEqDiff,Nat.reduceBEq,reduceCtorEq]
theorem fn90 (hE : Codes E) (a : Bs) (ha : a.length ≤ 60) : FnP E 90 [S a, .int .u8 46] H (.int .i64 (ixI (lastIx 46 a))) := by
 refine Fn.of_vks hE.c90 (by simp [cf90]) ?_
 simp only [cf90,cf90_0,cf90_1]
 simp only [go_sem,Nat.reduceEqDiff,Nat.reduceBEq,reduceCtorEq]
 refine vks_callp _ ?_ (fun _ => ⟨?_,hE.lastIx H a ha⟩) ?_ <;> simp only [go_sem,Nat.reduceEqDiff,Nat.reduceBEq,reduceCtorEq]
theorem fn103 (hE : Codes E) (a b : Bs) : FnP E 103 [S a, S b] H (.int .i64 (cmpBs a b)) := by
 refine Fn.of_vks hE.c103 (by simp [cf103]) ?_
 simp only [cf103,cf103_0,cf103_1]
 simp only [go_sem,Nat.reduceEqDiff,Nat.reduceBEq,reduceCtorEq]
 refine vks_callp _ ?_ (fun _ => ⟨?_,hE.cmpStr H a b⟩) ?_ <;> simp only [go_sem,Nat.reduceEqDiff,Nat.reduceBEq,reduceCtorEq]
theorem fn88 (hE : Codes E) (a : Int) : FnP E 88 [.int .i64 a] H (.bool false) := by
 refine Fn.of_vks hE.c88 (by simp [cf88]) ?_
 simp only [cf88,cf88_0,cf88_1]
 simp only [go_sem,Nat.reduceEqDiff,Nat.reduceBEq,reduceCtorEq,binO]
 simp
theorem fn100 (hE : Codes E) (a : Bs) : FnP E 100 [S a] H (.bool false) := by
 refine Fn.of_vks hE.c100 (by simp [cf100]) ?_
 simp only [cf100,cf100_0,cf100_1]
 simp only [go_sem,Nat.reduceEqDiff,Nat.reduceBEq,reduceCtorEq,binO]
theorem fn89 (hE : Codes E) (a b : Int) : FnP E 89 [.int .i64 a, .int .i64 b] H (.int .i64 (cmpInt a b)) := by
 refine Fn.of_vks hE.c89 (by simp [cf89]) ?_
 simp only [cf89,cf89_0,cf89_1,cf89_2,cf89_3,cf89_4,cf89_5,cf89_6,cf89_7,cf89_8,cf89_9,cf89_10,cf89_11,cf89_12,cf89_13]
 simp only [go_sem,Nat.reduceEqDiff,Nat.reduceBEq,reduceCtorEq]
 refine vks_callp _ ?_ (fun _ => ⟨?_,fn88 hE a⟩) ?_ <;> simp only [go_sem,Nat.reduceEqDiff,Nat.reduceBEq,reduceCtorEq]
 refine vks_callp _ ?_ (fun _ => ⟨?_,fn88 hE b⟩) ?_ <;> simp only [go_sem,Nat.reduceEqDiff,Nat.reduceBEq,reduceCtorEq,binO]
 grind [cmpInt]
theorem fn92 (hE : Codes E) (a b : Bs) : FnP E 92 [S a, S b] H (.int .i64 (cmpBs a b)) := by
 refine Fn.of_vks hE.c92 (by simp [cf92]) ?_
 simp only [cf92,cf92_0,cf92_1,cf92_2,cf92_3,cf92_4,cf92_5,cf92_6,cf92_7,cf92_8,cf92_9,cf92_10,cf92_11,cf92_12,cf92_13]
 simp only [go_sem,Nat.reduceEqDiff,Nat.reduceBEq,reduceCtorEq]
 refine vks_callp _ ?_ (fun _ => ⟨?_,fn100 hE a⟩) ?_ <;> simp only [go_sem,Nat.reduceEqDiff,Nat.reduceBEq,reduceCtorEq]
 refine vks_callp _ ?_ (fun _ => ⟨?_,fn100 hE b⟩) ?_ <;> simp only [go_sem,Nat.reduceEqDiff,Nat.reduceBEq,reduceCtorEq,binO]
 grind [cmpBs]
theorem fn74 (hE : Codes E) (x a b : Int) : FnP E 74 [.int .i64 x, .int .i64 a, .int .i64 b] H (.bool (withinI x a b)) := by
 refine Fn.of_vks hE.c74 (by simp [cf74]) ?_
 simp only [cf74,cf74_0,cf74_1]
 simp only [go_sem,Nat.reduceEqDiff,Nat.reduceBEq,Nat.reduceAdd,reduceCtorEq,binO]
 simp [withinI]
theorem fn99 (hE : Codes E) (x a b : Int) : FnP E 99 [.int .u8 x, .int .u8 a, .int .u8 b] H (.bool (withinI x a b)) := by
 refine Fn.of_vks hE.c99 (by simp [cf99]) ?_
 simp only [cf99,cf99_0,cf99_1]
 simp only [go_sem,Nat.reduceEqDiff,Nat.reduceBEq,Nat.reduceAdd,reduceCtorEq,binO]
 simp [withinI]
theorem fn76 (hE : Codes E) (a : Bs) : FnP E 76 [S a] H (.bool (isWildB a)) := by
 refine Fn.of_vks hE.c76 (by simp [cf76]) ?_
 simp only [cf76,cf76_0,cf76_1]
 simp only [go_sem,Nat.reduceBEq,reduceCtorEq]
 refine vks_callp _ ?_ (fun _ => ⟨?_,fn44 hE a [42]⟩) ?_ <;> simp only [go_sem,Nat.reduceEqDiff,Nat.reduceBEq,reduceCtorEq]
 simp [isWildB]
theorem fn53 (hE : Codes E) (x : Int) : FnP E 53 [.int .i64 x] H (.bool (addrOk x)) := by
 refine Fn.of_vks hE.c53 (by simp [cf53]) ?_
 simp only [cf53,cf53_0,cf53_1]
 simp only [go_sem,Nat.reduceEqDiff,Nat.reduceBEq,reduceCtorEq,binO]
 simp [addrOk]
theorem fn83 (hE : Codes E) (t : Int) (b : Bool) : FnP E 83 [.int .i64 t, .bool b] H (.bool (fitsApexB t b)) := by
 refine Fn.of_vks hE.c83 (by simp [cf83]) ?_
 simp only [cf83,cf83_0,cf83_1,cf83_2,cf83_3,cf83_4,cf83_5,cf83_6,cf83_7,cf83_8]
 simp only [go_sem,Nat.reduceEqDiff,Nat.reduceBEq,reduceCtorEq,binO]
 grind [fitsApexB]
theorem fn66 (hE : Codes E) (a : Bs) : FnP E 66 [S a] H (.bool (isLabelB a)) := by
 refine Fn.of_vks hE.c66 (by simp [cf66]) ?_
 simp only [cf66,cf66_0,cf66_1,cf66_2,cf66_3,cf66_4,cf66_5,cf66_6,cf66_7,cf66_8,cf66_9,cf66_10]
 simp only [go_sem,Nat.reduceEqDiff,Nat.reduceBEq,reduceCtorEq,Int.reduceToNat,Int.reduceLE,binO]
 have e : 1 ≤ a.length → a.length ≤ 12 → IntKind.i64.wrap ((a.length : Int) - 1) = ((a.length - 1 : Nat) : Int) := fun h h' => by rw [wrapI] <;> omega
 refine ⟨fun h => ?_,fun h => ?_,fun h => ?_,fun h => ?_⟩
 ·simp at h; simp; omega
 ·simp at h; simp [h]; rw [e (by omega) (by omega)]; omega
 ·by_cases h1 : 1 ≤ a.length ∧ a.length ≤ 12
  ·rw [e h1.1 h1.2,Int.toNat_natCast] at h
   simp [isLabelB,h]
  ·have : (decide ((a.length : Int) < 1) || decide ((a.length : Int) > 12)) = true := by simp; omega
   simp [isLabelB,this]
 ·have h1 : 1 ≤ a.length ∧ a.length ≤ 12 := by simp at h; omega
  rw [e h1.1 h1.2,Int.toNat_natCast] at h
  have h2 : isLabelB a = allN (fun i => okc (bI a i)) a.length := by simp [isLabelB,h]
  refine vks_loopN a.length 0 (fun k => [(0,⟨true,.val (S a)⟩),(27,⟨true,.val (.int .i64 a.length)⟩),(28,⟨true,.val (.int .i64 k)⟩)]) (fun k => allN (fun i => okc (bI a i)) k = true) (Nat.zero_le _) rfl rfl ?_
  intro k hk hP
  simp only [go_sem,Nat.reduceEqDiff,Nat.reduceBEq,reduceCtorEq,binO]
  rw [wrapS (by omega)]
  have hF : k < a.length → okc (bI a k) = false → allN (fun i => okc (bI a i)) a.length = false := fun h1 h2 => allN_false h1 h2
  have hS : okc (bI a k) = true → allN (fun i => okc (bI a i)) (k + 1) = true := fun h => allN_succ hP h
  clear e h
  grind [okc]
theorem fn91 (hE : Codes E) (a : Bs) : FnP E 91 [S a] H (.bool (isFreeB a)) := by
 refine Fn.of_vks hE.c91 (by simp [cf91]) ?_
 simp only [cf91,cf91_0,cf91_1,cf91_2,cf91_3,cf91_4,cf91_5,cf91_6,cf91_7,cf91_8,cf91_9,cf91_10]
 simp only [go_sem,Nat.reduceBEq,reduceCtorEq]
 refine vks_callp _ ?_ (fun _ => ⟨?_,fn74 hE _ _ _⟩) ?_ <;> simp only [go_sem,Nat.reduceEqDiff,Nat.reduceBEq,reduceCtorEq,Int.reduceToNat,Int.reduceLE,binO]
 have e : withinI a.length 1 40 = true → IntKind.i64.wrap ((a.length : Int) - 1) = ((a.length - 1 : Nat) : Int) := fun h => by simp [withinI] at h; rw [wrapI] <;> omega
 have e' : withinI a.length 1 40 = true → 1 ≤ a.length ∧ a.length ≤ 40 := fun h => by simp [withinI] at h; omega
 refine ⟨fun h => ?_,fun h => ?_,fun h => ?_,fun h => ?_⟩
 ·exact ⟨h,by have := e' h; omega⟩
 ·refine ⟨h,h,?_⟩
  simp at h; rw [e h.1]; have := e' h.1; omega
 ·by_cases h1 : withinI a.length 1 40 = true
  ·rw [e h1,Int.toNat_natCast] at h
   simp [isFreeB,h]
  ·simp [isFreeB,h1]
 ·have h1 : withinI a.length 1 40 = true := by simp at h; exact h.1.1
  rw [e h1,Int.toNat_natCast] at h
  have h2 : isFreeB a = allN (fun i => !(!withinI (bI a i) 97 122 && !withinI (bI a i) 48 57 && bI a i != 32)) a.length := by simp [isFreeB,h]
  have h3 := e' h1
  refine vks_loopN a.length 0 (fun k => [(0,⟨true,.val (S a)⟩),(23,⟨true,.val (.int .i64 a.length)⟩),(24,⟨true,.val (.int .i64 k)⟩)]) (fun k => allN (fun i => !(!withinI (bI a i) 97 122 && !withinI (bI a i) 48 57 && bI a i != 32)) k = true) (Nat.zero_le _) rfl rfl ?_
  intro k hk hP
  simp only [go_sem,Nat.reduceEqDiff,Nat.reduceBEq,reduceCtorEq,binO]
  have hF : k < a.length → (!(!withinI (bI a k) 97 122 && !withinI (bI a k) 48 57 && bI a k != 32)) = false → allN (fun i => !(!withinI (bI a i) 97 122 && !withinI (bI a i) 48 57 && bI a i != 32)) a.length = false := fun h1 h2 => allN_false h1 h2
  have hS : (!(!withinI (bI a k) 97 122 && !withinI (bI a k) 48 57 && bI a k != 32)) = true → allN (fun i => !(!withinI (bI a i) 97 122 && !withinI (bI a i) 48 57 && bI a i != 32)) (k + 1) = true := fun h => allN_succ hP h
  clear e e' h
  refine ⟨fun h => ⟨by simp at h; omega,?_⟩,by grind⟩
  refine vks_callp _ ?_ (fun _ => ⟨?_,fn99 hE (bI a k) 97 122⟩) ?_ <;> simp only [go_sem,Nat.reduceEqDiff,Nat.reduceBEq,reduceCtorEq]
  refine vks_callp _ ?_ (fun hg => ⟨?_,fn99 hE (bI a k) 48 57⟩) ?_ <;> simp only [go_sem,Nat.reduceEqDiff,Nat.reduceBEq,reduceCtorEq,binO]
  ·simp only [go_sem,Nat.reduceEqDiff,reduceCtorEq] at hg; exact hg
  ·rw [wrapS (by omega)]
   grind
end Go.SL
/- Contracts: slices.Clone. -/
namespace Go.SL
open Go
variable {E : Env} {H : Hp}
theorem fn22 (hE : Codes E) {v : Value} {l : List DatumD} (h : DataAt H v l) (hn : l.length ≤ 1099511627) : Fn E.P (E.fn 22) [v] H (fun u H' => Cloned H 3 l.length (rDatum l) u H') := by
 have hsrc := SlAt.src h
 have hall : (flat l.length (rDatum l)).all one1 = true := flat_all fun i _ => rfl
 obtain ⟨a,cap,rfl,hs,hr⟩ := h
 refine Fn.of_vks hE.c22 (by simp [cf22]) ?_
 simp only [cf22,cf22_0,cf22_1,cf22_2,cf22_3]
 simp only [nilEq,go_sem,Nat.reduceEqDiff,Nat.reduceBEq,reduceCtorEq]
 refine ⟨fun h => ?_,fun h => ?_⟩
 ·have ha : a = none := by simpa using h
  subst ha
  exact .inl ⟨rfl,hsrc.1,rfl⟩
 ·intro b5 hb5
  have hle : H.le (H.put b5 (.row [] 0 true)) := le_put hb5 _
  have h' : SlAt (H.put b5 (.row [] 0 true)) 3 (.slice a l.length cap) l.length (rDatum l) := SlAt.mono ⟨a,cap,rfl,hs,hr⟩ hle
  have hsrc' := SlAt.src h'
  refine vks_appS (b0 := b5) (n := 0) (cap0 := 0) (vs := []) (capc := 0) ?_ ?_ hsrc'.1 ?_ ?_ ?_ ?_ (Hp.put_same ..) rfl rfl ?_
  ·simp only [go_sem,Nat.reduceEqDiff,reduceCtorEq]
  ·simp only [go_sem,Nat.reduceEqDiff,reduceCtorEq]
  ·exact (congrArg (fun l => List.all l one1) hsrc'.2.2).trans hall
  ·simp only [go_sem,Nat.reduceEqDiff,reduceCtorEq]
  ·show (0 + l.length) * _ ≤ _; omega
  ·show 0 + l.length ≤ _; omega
  intro b cap' hb
  rw [del_put hb5] at hb ⊢
  have e1 : srcCells (H.put b5 (.row [] 0 true)) 3 (.slice a l.length cap) = flat l.length (rDatum l) := hsrc'.2.2
  simp only [srcLen,e1,go_sem,Nat.reduceEqDiff,Nat.reduceBEq,reduceCtorEq]
  exact .inr ⟨b,cap',hb,rfl,rfl⟩
theorem fn39 (hE : Codes E) {v : Value} {l : List SigD} (h : SigsAt H v l) (hn : l.length ≤ 1099511627) : Fn E.P (E.fn 39) [v] H (fun u H' => Cloned H 6 l.length (rSig l) u H') := by
 have hsrc := SlAt.src h
 have hall : (flat l.length (rSig l)).all one1 = true := flat_all fun i _ => rfl
 obtain ⟨a,cap,rfl,hs,hr⟩ := h
 refine Fn.of_vks hE.c39 (by simp [cf39]) ?_
 simp only [cf39,cf39_0,cf39_1,cf39_2,cf39_3]
 simp only [nilEq,go_sem,Nat.reduceEqDiff,Nat.reduceBEq,reduceCtorEq]
 refine ⟨fun h => ?_,fun h => ?_⟩
 ·have ha : a = none := by simpa using h
  subst ha
  exact .inl ⟨rfl,hsrc.1,rfl⟩
 ·intro b5 hb5
  have hle : H.le (H.put b5 (.row [] 0 true)) := le_put hb5 _
  have h' : SlAt (H.put b5 (.row [] 0 true)) 6 (.slice a l.length cap) l.length (rSig l) := SlAt.mono ⟨a,cap,rfl,hs,hr⟩ hle
  have hsrc' := SlAt.src h'
  refine vks_appS (b0 := b5) (n := 0) (cap0 := 0) (vs := []) (capc := 0) ?_ ?_ hsrc'.1 ?_ ?_ ?_ ?_ (Hp.put_same ..) rfl rfl ?_
  ·simp only [go_sem,Nat.reduceEqDiff,reduceCtorEq]
  ·simp only [go_sem,Nat.reduceEqDiff,reduceCtorEq]
  ·exact (congrArg (fun l => List.all l one1) hsrc'.2.2).trans hall
  ·simp only [go_sem,Nat.reduceEqDiff,reduceCtorEq]
  ·show (0 + l.length) * _ ≤ _; omega
  ·show 0 + l.length ≤ _; omega
  intro b cap' hb
  rw [del_put hb5] at hb ⊢
  have e1 : srcCells (H.put b5 (.row [] 0 true)) 6 (.slice a l.length cap) = flat l.length (rSig l) := hsrc'.2.2
  simp only [srcLen,e1,go_sem,Nat.reduceEqDiff,Nat.reduceBEq,reduceCtorEq]
  exact .inr ⟨b,cap',hb,rfl,rfl⟩
end Go.SL
/- Contract: internal/bytealg.LastIndexByteString. -/
namespace Go.SL
open Go
variable {E : Env} {H : Hp}
theorem byte46 (x : UInt8) : ((x.toNat : Int) == 46) = decide (x = 46) := by
 rw [Bool.eq_iff_iff,beq_iff_eq,decide_eq_true_eq]
 constructor
 ·intro h
  apply UInt8.toNat_inj.1
  have : x.toNat = 46 := by omega
  rw [this]; rfl
 ·rintro rfl; rfl
theorem fn98 (hc : chkFunc E (E.fn 98) cf98 = true) (l : Bs) (hl : l.length ≤ 60) : FnP E 98 [S l, .int .u8 46] H (.int .i64 (ixI (lastIx 46 l))) := by
 refine Fn.of_vks hc (by simp [cf98]) ?_
 simp only [cf98,cf98_0,cf98_1,cf98_2,cf98_3,cf98_4,cf98_5,cf98_6]
 have e0 : IntKind.i64.wrap ((l.length : Int) - 1) = (l.length : Int) - 1 := wrapI (by omega)
 simp only [e0,go_sem,Nat.reduceEqDiff,Nat.reduceBEq,reduceCtorEq,binO]
 refine vks_loopM (fun m fr' H' => m ≤ l.length ∧ fr' = [(0,⟨true,.val (S l)⟩),(1,⟨true,.val (.int .u8 46)⟩),(5,⟨true,.val (.int .i64 ((m : Int) - 1))⟩)] ∧ H' = H ∧ lastIx 46 l = lastIxN 46 l m) l.length ⟨Nat.le_refl _,rfl,rfl,rfl⟩ ?_
 rintro m fr' H' ⟨hm,rfl,rfl,hx⟩
 cases m with
 | zero =>
  have hd : decide (((0 : Nat) : Int) - 1 ≥ 0) = false := by decide
  simp only [hd,go_sem,Nat.reduceEqDiff,Nat.reduceBEq,reduceCtorEq,binO]
  rw [hx]; rfl
 | succ j =>
  have hd : decide (((j + 1 : Nat) : Int) - 1 ≥ 0) = true := by rw [decide_eq_true_eq]; omega
  have e1 : (((j + 1 : Nat) : Int) - 1).toNat = j := by omega
  have e2 : IntKind.i64.wrap ((((j + 1 : Nat) : Int) - 1) - 1) = (j : Int) - 1 := by rw [wrapI] <;> omega
  simp only [hd,e1,e2,go_sem,Nat.reduceEqDiff,Nat.reduceBEq,reduceCtorEq,binO]
  have hb : (bI l j == 46) = decide (l.getD j 0 = 46) := byte46 _
  simp only [lastIxN] at hx
  refine ⟨by omega,fun h => ?_,fun h => ?_⟩
  ·rw [hb,decide_eq_true_eq] at h
   rw [hx,if_pos h]
   simp only [ixI]; omega
  ·rw [hb,decide_eq_false_iff_not] at h
   exact ⟨j,by omega,by omega,rfl,by rw [hx,if_neg h]⟩
end Go.SL
/- What is owed of the library; contracts: strings.Builder. -/
namespace Go.SL
open Go
variable {E : Env} {H : Hp}
def bytesV (l : Bs) : List Value := l.map fun b => .int .u8 b.toNat
theorem bytesV_len (l : Bs) : (bytesV l).length = l.length := by simp [bytesV]
theorem bytesV_app (l w : Bs) : bytesV (l ++ w) = bytesV l ++ bytesV w := by simp [bytesV]
theorem bytesV_one (l : Bs) : (bytesV l).all one1 = true := by simp [bytesV,one1]
def pow10Cells : List Value := [.int .u64 1,.int .u64 10,.int .u64 100,.int .u64 1000,.int .u64 10000,.int .u64 100000,.int .u64 1000000,.int .u64 10000000,.int .u64 100000000,.int .u64 1000000000,.int .u64 10000000000,.int .u64 100000000000,.int .u64 1000000000000,.int .u64 10000000000000,.int .u64 100000000000000,.int .u64 1000000000000000,.int .u64 10000000000000000,.int .u64 100000000000000000,.int .u64 1000000000000000000,.int .u64 10000000000000000000]
def Base2 (E : Env) (H : Hp) : Prop := ∃ wr,H (E.gl 180) = some (.row pow10Cells 20 wr)
theorem Base2.mono {H' : Hp} (h : Base2 E H) (hl : H.le H') : Base2 E H' := by
 obtain ⟨wr,h⟩ := h
 exact ⟨wr,hl _ _ h⟩
structure Lib3 (E : Env) : Prop where
 chk : ∀ (H : Hp) (b : Nat) (p v : Value), H b = some (.obj (.cells #[p, v] (E.gl 181) (0, 0))) → (p = .pointer none ∨ p = .pointer (some ⟨b, 0, none⟩)) →
  Fn E.P (E.fn 145) [.pointer (some ⟨b,0,none⟩)] H (fun _ H' => H' = H.put b (.obj (.cells #[.pointer (some ⟨b,0,none⟩),v] (E.gl 181) (0,0))))
 str : ∀ (H : Hp) (b bb cap : Nat) (l : Bs) (c : Array Value) (p : Value), bb ≠ b → H b = some (.obj (.cells #[p, .slice (some ⟨bb, 0, none⟩) l.length cap] (E.gl 181) (0, 0))) → H bb = some (.obj (.cells c (E.gl 182) (0, 0))) →
  c.size = cap → l.length ≤ cap → c.toList.take l.length = bytesV l → l ≠ [] → l.length ≤ 1000000000 → Fn E.P (E.fn 134) [.pointer (some ⟨b,0,none⟩)] H (fun u H' => u = S l ∧ H' = H.del bb)
 itoa : ∀ (H : Hp) (n : Int),Base2 E H → -9223372036854775808 ≤ n → n ≤ 9223372036854775807 → FnP E 137 [.int .i64 n] H (S (Lib.itoa n))
 fmtU : ∀ (H : Hp) (n : Int),Base2 E H → 0 ≤ n → n ≤ 18446744073709551615 → FnP E 133 [.int .u64 n,.int .i64 10] H (S (Lib.itoa n))
def BufAt (E : Env) (H : Hp) (v : Value) (l : Bs) : Option Nat → Prop
 | none => v = .slice none 0 0 ∧ l = []
 | some bb => l ≠ [] ∧ ∃ cap c,v = .slice (some ⟨bb,0,none⟩) l.length cap ∧ H bb = some (.obj (.cells c (E.gl 182) (0,0))) ∧ c.size = cap ∧ l.length ≤ cap ∧ c.toList.take l.length = bytesV l
def BldAt (E : Env) (H : Hp) (b : Nat) (l : Bs) (ob : Option Nat) : Prop := ∃ p v,(p = .pointer none ∨ p = .pointer (some ⟨b,0,none⟩)) ∧ H b = some (.obj (.cells #[p,v] (E.gl 181) (0,0))) ∧ ob ≠ some b ∧ BufAt E H v l ob
def KeepB (H H' : Hp) (b : Nat) (ob ob' : Option Nat) : Prop := (∀ c o,H c = some o → c ≠ b → some c ≠ ob → H' c = some o) ∧ ∀ c,ob' = some c → some c = ob ∨ (c ≠ b ∧ H c = none)
theorem KeepB.refl {b : Nat} {ob : Option Nat} : KeepB H H b ob ob := ⟨fun _ _ h _ _ => h,fun _ h => .inl h.symm⟩
theorem KeepB.trans {H' H'' : Hp} {b : Nat} {ob ob' ob'' : Option Nat} (h : KeepB H H' b ob ob') (k : KeepB H' H'' b ob' ob'') : KeepB H H'' b ob ob'' := by
 refine ⟨fun c o hc hb ho => k.1 c o (h.1 c o hc hb ho) hb ?_,fun c hc => ?_⟩
 ·intro e
  rcases h.2 c e.symm with h2 | h2
  ·exact ho h2
  ·rw [h2.2] at hc; cases hc
 ·rcases k.2 c hc with h2 | h2
  ·exact h.2 c h2.symm
  ·by_cases e : some c = ob
   ·exact .inl e
   ·refine .inr ⟨h2.1,?_⟩
    cases hq : H c with
    | none => rfl
    | some o => rw [h.1 c o hq h2.1 e] at h2; cases h2.2
def RowLe (H H' : Hp) : Prop := ∀ c vs cap wr,H c = some (.row vs cap wr) → H' c = some (.row vs cap wr)
theorem RowLe.refl : RowLe H H := fun _ _ _ _ h => h
theorem RowLe.trans {H' H'' : Hp} (h : RowLe H H') (k : RowLe H' H'') : RowLe H H'' := fun c vs cap wr hc => k c vs cap wr (h c vs cap wr hc)
theorem RowLe.of_le {H' : Hp} (h : H.le H') : RowLe H H' := fun _c _vs _cap _wr hc => h _ _ hc
theorem SlAt.rowmono {H' : Hp} {sz : Nat} {v : Value} {n : Nat} {row : Nat → List Value} (h : SlAt H sz v n row) (hl : RowLe H H') : SlAt H' sz v n row := by
 obtain ⟨a,cap,hv,hs,hr⟩ := h
 refine ⟨a,cap,hv,hs,fun hn => ?_⟩
 obtain ⟨b,o,vs,c,wr,ha,hb,hi⟩ := hr hn
 exact ⟨b,o,vs,c,wr,ha,hl _ _ _ _ hb,hi⟩
theorem Base2.rowmono {H' : Hp} (h : Base2 E H) (hl : RowLe H H') : Base2 E H' := by
 obtain ⟨wr,h⟩ := h
 exact ⟨wr,hl _ _ _ _ h⟩
theorem BldAt.rows {H' : Hp} {b : Nat} {l : Bs} {ob ob' : Option Nat} (h : BldAt E H b l ob) (k : KeepB H H' b ob ob') : RowLe H H' := by
 obtain ⟨p,v,_,hb,hne,hbuf⟩ := h
 intro c vs cap wr hc
 refine k.1 c _ hc (by rintro rfl; rw [hb] at hc; cases hc) ?_
 rintro rfl
 obtain ⟨_,_,_,_,hbb,_⟩ := hbuf
 rw [hbb] at hc; cases hc
theorem BufAt.keep {H' : Hp} {v : Value} {l : Bs} {ob : Option Nat} (h : BufAt E H v l ob) (hk : ∀ b, ob = some b → H' b = H b) : BufAt E H' v l ob := by
 cases ob with
 | none => exact h
 | some bb =>
  obtain ⟨h0,cap,c,h1,h2,h3⟩ := h
  exact ⟨h0,cap,c,h1,(hk bb rfl).trans h2,h3⟩
theorem BufAt.sl {v : Value} {l : Bs} {ob : Option Nat} (h : BufAt E H v l ob) : ∃ a c, v = .slice a l.length c := by
 cases ob with
 | none => obtain ⟨rfl,rfl⟩ := h; exact ⟨_,_,rfl⟩
 | some bb => obtain ⟨_,cap,c,rfl,_⟩ := h; exact ⟨_,_,rfl⟩
theorem BldAt.keep {H' : Hp} {b : Nat} {l : Bs} {ob : Option Nat} (h : BldAt E H b l ob) (hl : H.le H') : BldAt E H' b l ob := by
 obtain ⟨p,v,hp,hb,hne,hbuf⟩ := h
 refine ⟨p,v,hp,hl _ _ hb,hne,?_⟩
 cases ob with
 | none => exact hbuf
 | some bb =>
  obtain ⟨h0,cap,c,h1,h2,h3⟩ := hbuf
  exact ⟨h0,cap,c,h1,hl _ _ h2,h3⟩
section
variable {fr : Fr} {Q : X → Fr → Hp → Prop} {k : List Item} {d : Option Nat} {r : List AOper} {live : List Nat}
theorem vks_appB {zero : List Value} {s x : Arg} {v : Value} {l w : Bs} {ob : Option Nat} (h1 : vok fr s) (h2 : vok fr x) (h3 : srcOk H 1 (vo E fr x)) (hsrc : srcCells H 1 (vo E fr x) = bytesV w) (hlen : srcLen (vo E fr x) = w.length)
  (hs : vo E fr s = v) (hB : BufAt E H v l ob) (hn : l.length + w.length ≤ 1000000000)
  (h : ∀ v' H' ob',BufAt E H' v' (l ++ w) ob' → (∀ c o,H c = some o → some c ≠ ob → H' c = some o) → (∀ c,ob' = some c → some c = ob ∨ H c = none) → vks E (.ops r live :: k) (setD fr d ⟨true,.val v'⟩) H' Q) :
  vks E (.ops (⟨d,.appT 182 1 zero s x,none⟩ :: r) live :: k) fr H Q := by
 refine vks_big (by intro x h; cases h) (by intro f a h; cases h) ⟨h1,h2,h3,by rw [hsrc]; exact bytesV_one w,?_⟩
 rw [hs,hsrc,hlen]
 cases ob with
 | none =>
  obtain ⟨rfl,rfl⟩ := hB
  refine ⟨by omega,by omega,fun h0 => ?_,fun hp b cap rest hb hc hr => ?_⟩
  ·have : w = [] := List.length_eq_zero_iff.1 h0
   subst this
   exact h _ _ none ⟨rfl,rfl⟩ (fun _ _ h _ => h) (fun c h => by cases h)
  ·refine h _ _ (some b) ⟨fun e => ?_,cap,_,by simp,Hp.put_same ..,by simp [bytesV_len,hr]; omega,by simpa using hc,?_⟩ (fun c o hc _ => le_put hb _ _ _ hc) (fun c e => by cases e; exact .inr hb)
   ·rw [List.nil_append] at e; subst e; simp at hp
   ·rw [List.toList_toArray,List.nil_append,List.take_append_of_le_length (by rw [bytesV_len]; exact Nat.le_refl _),List.take_of_length_le (by rw [bytesV_len]; exact Nat.le_refl _)]
 | some b0 =>
  obtain ⟨hne,cap0,c,rfl,hH,hsz,hle,htk⟩ := hB
  refine ⟨by omega,by omega,hle,c,hH,hsz,fun b cap rest hb hc hr => ?_⟩
  rw [htk]
  refine h _ _ (some b) ⟨by simp [hne],cap,_,by simp,Hp.put_same ..,by simp [bytesV_len,hr]; omega,by simpa using hc,?_⟩ (fun c o hc hne => ?_) (fun c e => ?_)
  ·rw [List.toList_toArray,← bytesV_app,List.take_append_of_le_length (by rw [bytesV_len]; exact Nat.le_refl _),List.take_of_length_le (by rw [bytesV_len]; exact Nat.le_refl _)]
  ·refine le_put hb _ _ _ ?_
   rw [Hp.del_ne _ (by rintro rfl; exact hne rfl)]; exact hc
  ·cases e
   by_cases e : b = b0
   ·exact .inl (by rw [e])
   ·exact .inr (by rw [Hp.del_ne _ e] at hb; exact hb)
end
theorem srcS (w : Bs) : srcOk H 1 (S w) ∧ srcCells H 1 (S w) = bytesV w ∧ srcLen (S w) = w.length := ⟨rfl,by simp [srcCells,bytesV],by simp [srcLen]⟩
theorem bld_done {H2 : Hp} {b : Nat} {l' : Bs} {ob ob' : Option Nat} {p v v' : Value} (hb : H b = some (.obj (.cells #[p, v] (E.gl 181) (0, 0)))) (hne : ob ≠ some b)
  (hbuf : BufAt E H2 v' l' ob') (hk : ∀ c o,(H.put b (.obj (.cells #[.pointer (some ⟨b,0,none⟩),v] (E.gl 181) (0,0)))) c = some o → some c ≠ ob → H2 c = some o) (hf : ∀ c,ob' = some c → some c = ob ∨ (H.put b (.obj (.cells #[.pointer (some ⟨b,0,none⟩),v] (E.gl 181) (0,0)))) c = none) :
  BldAt E (H2.put b (.obj (.cells #[.pointer (some ⟨b,0,none⟩),v'] (E.gl 181) (0,0)))) b l' ob' ∧ KeepB H (H2.put b (.obj (.cells #[.pointer (some ⟨b,0,none⟩),v'] (E.gl 181) (0,0)))) b ob ob' := by
 have hne' : ob' ≠ some b := fun e => by
  rcases hf b e with h | h
  ·exact hne h.symm
  ·rw [Hp.put_same] at h; cases h
 refine ⟨⟨_,_,.inr rfl,Hp.put_same ..,hne',hbuf.keep fun c hc => ?_⟩,fun c o hc hcb ho => ?_,fun c hc => ?_⟩
 ·rw [Hp.put_ne]; rintro rfl; exact hne' hc
 ·rw [Hp.put_ne _ _ hcb]; exact hk c o (by rw [Hp.put_ne _ _ hcb]; exact hc) ho
 ·rcases hf c hc with h | h
  ·exact .inl h
  ·by_cases e : c = b
   ·subst e; rw [Hp.put_same] at h; cases h
   ·rw [Hp.put_ne _ _ e] at h; exact .inr ⟨e,h⟩
theorem fn135 (h3 : Codes3 E) (L : Lib3 E) {b : Nat} {l : Bs} {ob : Option Nat} (hB : BldAt E H b l ob) (w : Bs) (hn : l.length + w.length ≤ 1000000000) :
  Fn E.P (E.fn 135) [.pointer (some ⟨b,0,none⟩),S w] H (fun _ H' => ∃ ob',BldAt E H' b (l ++ w) ob' ∧ KeepB H H' b ob ob') := by
 obtain ⟨p,v,hp,hb,hne,hbuf⟩ := hB
 refine Fn.of_vks h3.c135 (by simp [cf135]) ?_
 simp only [cf135,cf135_0,cf135_1,cf135_2,cf135_3]
 simp only [go_sem,Nat.reduceEqDiff,Nat.reduceBEq,reduceCtorEq]
 refine vks_call ?_ (L.chk H b p v hb hp) ?_
 ·simp only [go_sem,Nat.reduceEqDiff,reduceCtorEq]
 rintro u H1 rfl
 simp only [go_sem,Nat.reduceEqDiff,Nat.reduceBEq,reduceCtorEq]
 refine vks_big (by intro x h; cases h) (by intro f a h; cases h) ⟨?_,b,1,_,_,_,v,?_,Hp.put_same ..,rfl,?_⟩
 ·simp only [go_sem,Nat.reduceEqDiff,reduceCtorEq]
 ·simp only [go_sem,Nat.reduceEqDiff,reduceCtorEq]
 simp only [go_sem,Nat.reduceEqDiff,Nat.reduceBEq,reduceCtorEq]
 have hbuf1 : BufAt E (H.put b (.obj (.cells #[.pointer (some ⟨b,0,none⟩),v] (E.gl 181) (0,0)))) v l ob := hbuf.keep fun c hc => by rw [Hp.put_ne]; rintro rfl; exact hne hc
 have hsrc := srcS (H := H.put b (.obj (.cells #[.pointer (some ⟨b,0,none⟩),v] (E.gl 181) (0,0)))) w
 refine vks_appB (w := w) ?_ ?_ hsrc.1 hsrc.2.1 hsrc.2.2 ?_ hbuf1 hn ?_
 ·simp only [go_sem,Nat.reduceEqDiff,reduceCtorEq]
 ·simp only [go_sem,Nat.reduceEqDiff,reduceCtorEq]
 ·simp only [go_sem,Nat.reduceEqDiff,reduceCtorEq]
 intro v' H2 ob' hbuf2 hk hf
 have hd := bld_done hb hne hbuf2 hk hf
 obtain ⟨a',c',rfl⟩ := hbuf2.sl
 simp only [go_sem,Nat.reduceEqDiff,Nat.reduceBEq,reduceCtorEq]
 refine vks_big (by intro x h; cases h) (by intro f a h; cases h) ⟨?_,?_,?_,?_,b,1,#[.pointer (some ⟨b,0,none⟩),v],_,?_,hk b _ (Hp.put_same ..) (fun e => hne e.symm),(by simp),?_⟩
 ·simp only [go_sem,Nat.reduceEqDiff,reduceCtorEq]
 ·simp only [go_sem,Nat.reduceEqDiff,reduceCtorEq]
 ·simp only [go_sem,Nat.reduceEqDiff,reduceCtorEq]
 ·simp only [go_sem,Nat.reduceEqDiff,reduceCtorEq]
 ·simp only [go_sem,Nat.reduceEqDiff,reduceCtorEq]
 simp only [go_sem,Nat.reduceEqDiff,Nat.reduceBEq,Nat.reduceAdd,reduceCtorEq]
 exact ⟨ob',hd⟩
theorem fn136 (h3 : Codes3 E) (L : Lib3 E) {b : Nat} {l : Bs} {ob : Option Nat} (hB : BldAt E H b l ob) (c : UInt8) (hn : l.length ≤ 900000000) :
  Fn E.P (E.fn 136) [.pointer (some ⟨b,0,none⟩),.int .u8 c.toNat] H (fun _ H' => ∃ ob',BldAt E H' b (l ++ [c]) ob' ∧ KeepB H H' b ob ob') := by
 obtain ⟨p,v,hp,hb,hne,hbuf⟩ := hB
 refine Fn.of_vks h3.c136 (by simp [cf136]) ?_
 simp only [cf136,cf136_0,cf136_1,cf136_2,cf136_3]
 simp only [go_sem,Nat.reduceEqDiff,Nat.reduceBEq,reduceCtorEq]
 refine vks_call ?_ (L.chk H b p v hb hp) ?_
 ·simp only [go_sem,Nat.reduceEqDiff,reduceCtorEq]
 rintro u H1 rfl
 simp only [go_sem,Nat.reduceEqDiff,Nat.reduceBEq,reduceCtorEq]
 refine vks_big (by intro x h; cases h) (by intro f a h; cases h) ⟨?_,b,1,_,_,_,v,?_,Hp.put_same ..,rfl,?_⟩
 ·simp only [go_sem,Nat.reduceEqDiff,reduceCtorEq]
 ·simp only [go_sem,Nat.reduceEqDiff,reduceCtorEq]
 simp only [go_sem,Nat.reduceEqDiff,Nat.reduceBEq,reduceCtorEq]
 intro bs hbs
 obtain ⟨H1,hH1⟩ : ∃ y,y = H.put b (.obj (.cells #[.pointer (some ⟨b,0,none⟩),v] (E.gl 181) (0,0))) := ⟨_,rfl⟩
 rw [← hH1] at hbs ⊢
 have hbuf1 : BufAt E (H1.put bs (.row [.int .u8 c.toNat] 1 true)) v l ob := hbuf.keep fun x hx => by
  have e1 : x ≠ b := by rintro rfl; exact hne hx
  rw [Hp.put_ne,hH1,Hp.put_ne _ _ e1]
  rintro rfl
  subst hx
  obtain ⟨_,_,_,_,hbb,_⟩ := hbuf
  rw [hH1,Hp.put_ne _ _ e1,hbb] at hbs; cases hbs
 have hbsG : (H1.put bs (.row [.int .u8 c.toNat] 1 true)) bs = some (.row [.int .u8 c.toNat] 1 true) := Hp.put_same ..
 refine vks_appB (w := [c]) ?_ ?_ (.inr ⟨rfl,by rw [hbsG]; simp⟩) (by show srcCells (H1.put bs (.row [.int .u8 c.toNat] 1 true)) 1 (.slice (some ⟨bs,0,none⟩) 1 1) = _; simp [srcCells,hbsG,bytesV]) rfl ?_ hbuf1 (by simp; omega) ?_
 ·simp only [go_sem,Nat.reduceEqDiff,reduceCtorEq]
 ·simp only [go_sem,Nat.reduceEqDiff,reduceCtorEq]
 ·simp only [go_sem,Nat.reduceEqDiff,reduceCtorEq]
 intro v' H2 ob' hbuf2 hk hf
 have hk' : ∀ c o,H1 c = some o → some c ≠ ob → H2 c = some o := fun x o hx ho => hk x o (le_put hbs _ _ _ hx) ho
 have hf' : ∀ c, ob' = some c → some c = ob ∨ H1 c = none := fun x hx => by
  rcases hf x hx with h | h
  ·exact .inl h
  ·refine .inr ?_
   cases hq : H1 x with
   | none => rfl
   | some o => rw [le_put hbs _ _ _ hq] at h; cases h
 have hb1 : H1 b = some (.obj (.cells #[.pointer (some ⟨b,0,none⟩),v] (E.gl 181) (0,0))) := by rw [hH1,Hp.put_same]
 rw [hH1] at hk' hf'
 have hd := bld_done hb hne hbuf2 hk' hf'
 obtain ⟨a',c',rfl⟩ := hbuf2.sl
 simp only [go_sem,Nat.reduceEqDiff,Nat.reduceBEq,reduceCtorEq]
 refine vks_big (by intro x h; cases h) (by intro f a h; cases h) ⟨?_,?_,?_,?_,b,1,#[.pointer (some ⟨b,0,none⟩),v],_,?_,hk' b _ (Hp.put_same ..) (fun e => hne e.symm),(by simp),?_⟩
 ·simp only [go_sem,Nat.reduceEqDiff,reduceCtorEq]
 ·simp only [go_sem,Nat.reduceEqDiff,reduceCtorEq]
 ·simp only [go_sem,Nat.reduceEqDiff,reduceCtorEq]
 ·simp only [go_sem,Nat.reduceEqDiff,reduceCtorEq]
 ·simp only [go_sem,Nat.reduceEqDiff,reduceCtorEq]
 simp only [go_sem,Nat.reduceEqDiff,Nat.reduceAdd,reduceCtorEq]
 exact ⟨ob',hd⟩
end Go.SL
