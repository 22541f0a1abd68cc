/- Plain law: what the reference calls valid the program calls valid: names and sets. -/
import Derived.Test.YthedjffolgeomaaGreatDoorANplW6
import Derived.Test.YthedjffolgeomaaGreatDoorANplX7
import Derived.Test.YthedjffolgeomaaGreatDoorANplX19
namespace Go.SL
open Go
theorem zJS : ∀ x y : List Bs, uG x y ≠ 0
 | [],_=>by simp [uG]
 | _ :: _,[]=>by simp [uG]
 | a :: x, b :: y => by
  rw [zAj]
  split
  ·assumption
  ·exact zJS x y
theorem zXp : ∀ x y : List Bs, zDK x y = if x = y then 0 else uG x y
 | [],[]=>rfl
 | [],_ :: _=>rfl
 | _ :: _,[]=>rfl
 | a :: x, b :: y => by
  rw [zAj]
  simp only [zDK,zXp x y]
  by_cases e:a=b
  ·subst e
   have h0:wJ a a=0:=vJ.2 rfl
   simp [zCI,h0]
  ·have h0:wJ a b≠0:=fun h=>e (vJ.1 h)
   have hb:(a == b)=false:=by simpa using e
   have hne:¬ (a :: x=b :: y):=fun h=>e (List.cons.inj h).1
   rw [if_neg hne,if_pos h0]
   unfold wJ
   cases hl:Op.bytesLess a b
   ·simp [hb,e]
   ·simp
theorem zKB (a b : Bs) : uL a b = if a = b then 0 else uG (zU a) (zU b) := by
 unfold uL
 rw [← zAF,← zAF,zXp]
 by_cases e:a=b
 ·subst e; simp
 ·rw [if_neg e,if_neg (fun h=>e (zDZ h))]
theorem zNP {a b : Bs} (ha : zL a = true) (hb : zL b = true) (s t : Int) : zAi a b s t = vS a s b t := by
 unfold zAi vS vC
 rw [zBf,zBf,ha,hb,zKB]
 unfold uB
 rw [ha,hb]
 by_cases e:a=b
 ·simp [e]
 ·simp [e,zJS]
def Und (s z:Bs):Prop:=s=z∨∃ p,s=p ++ 46 :: z
theorem zEC {l : Bs} (h : lastIx 46 l = none) : (46 : UInt8) ∉ l := by
 intro hm
 obtain⟨i,hi,e⟩:=List.getElem_of_mem hm
 have:=(zAw 46 l l.length (Nat.le_refl _)).2 h i hi
 rw [List.getD_eq_getElem?_getD,List.getElem?_eq_getElem hi] at this
 exact this e
theorem yKI {s : Bs} {i : Nat} (hg : lastIx 46 s = some i) : ∀ j, i < j → j < s.length → s.getD j 0 ≠ 46 := by
 have key : ∀ k, k ≤ s.length → uP 46 s k = some i → ∀ j, i < j → j < k → s.getD j 0 ≠ 46 := by
  intro k
  induction k with
  | zero=>intro _ _ j _ h; omega
  | succ k ih =>
   intro hk hh j hj hjk
   simp only [uP] at hh
   split at hh
   ·cases hh; omega
   ·rename_i hne
    by_cases e:j=k
    ·subst e; exact hne
    ·exact ih (by omega) hh j hj (by omega)
 exact key s.length (Nat.le_refl _) hg
theorem zEF {l : Bs} {i : Nat} (h : lastIx 46 l = some i) : (46 : UInt8) ∉ l.drop (i + 1) := by
 intro hm
 obtain⟨j,hj,e⟩:=List.getElem_of_mem hm
 rw [List.length_drop] at hj
 have:=yKI h (i + 1 + j) (by omega) (by omega)
 rw [List.getElem_drop] at e
 rw [List.getD_eq_getElem?_getD,List.getElem?_eq_getElem (by omega)] at this
 exact this e
theorem zPE {a a' b b' : Bs} (hb : (46 : UInt8) ∉ b) (hb' : (46 : UInt8) ∉ b') (h : a ++ 46 :: b = a' ++ 46 :: b') : a = a' ∧ b = b' := by
 rcases List.append_eq_append_iff.1 h with⟨c,h1,h2⟩ | ⟨c,h1,h2⟩
 ·cases c with
  | nil=>simp at h1 h2; exact⟨h1.symm,h2⟩
  | cons x c =>
   simp only [List.cons_append,List.cons.injEq] at h2
   exact absurd (by rw [h2.2]; simp) hb
 ·cases c with
  | nil=>simp at h1 h2; exact⟨h1,h2.symm⟩
  | cons x c =>
   simp only [List.cons_append,List.cons.injEq] at h2
   exact absurd (by rw [h2.2]; simp) hb'
theorem zQY : ∀ (n m : Nat) (s z : Bs), s.length < n → z.length < m → (vA m z <+: vA n s ↔ Und s z)
 | 0,_,_,_,h,_=>by omega
 | _,0,_,_,_,h=>by omega
 | n + 1, m + 1, s, z, hn, hm => by
  cases ez:lastIx 46 z with
  | none =>
   have hz:=zEC ez
   have ez':vA (m + 1) z = [z]:=by simp [vA,ez]
   cases es:lastIx 46 s with
   | none =>
    have hs:=zEC es
    have es':vA (n + 1) s = [s]:=by simp [vA,es]
    rw [ez',es']
    constructor
    ·rintro⟨t,ht⟩
     simp at ht
     exact .inl ht.1.symm
    ·rintro(rfl | ⟨p,rfl⟩)
     ·exact List.prefix_refl _
     ·exact absurd (by simp) hs
   | some i =>
    have es':vA (n + 1) s=s.drop (i + 1) :: vA n (s.take i):=by simp [vA,es]
    have hsp:=zAh es
    have hd:=zEF es
    rw [ez',es']
    constructor
    ·rintro⟨t,ht⟩
     simp at ht
     exact .inr ⟨s.take i,by rw [ht.1]; exact hsp⟩
    ·rintro(rfl | ⟨p,hp⟩)
     ·rw [es] at ez; cases ez
     ·have:=zPE hz hd (hp.symm.trans hsp)
      rw [← this.2]
      exact⟨_,rfl⟩
  | some j =>
   have ez':vA (m + 1) z=z.drop (j + 1) :: vA m (z.take j):=by simp [vA,ez]
   have hzs:=zAh ez
   have hzd:=zEF ez
   have hj:=uV ez
   cases es:lastIx 46 s with
   | none =>
    have hs:=zEC es
    have es':vA (n + 1) s = [s]:=by simp [vA,es]
    rw [ez',es']
    constructor
    ·rintro⟨t,ht⟩
     simp at ht
     exact absurd ht.2.1 (zDu m _ (by omega))
    ·rintro(rfl | ⟨p,rfl⟩)
     ·rw [es] at ez; cases ez
     ·exact absurd (by simp) hs
   | some i =>
    have es':vA (n + 1) s=s.drop (i + 1) :: vA n (s.take i):=by simp [vA,es]
    have hsp:=zAh es
    have hd:=zEF es
    have hi:=uV es
    have ih:=zQY n m (s.take i) (z.take j) (by rw [List.length_take]; omega) (by rw [List.length_take]; omega)
    rw [ez',es',List.cons_prefix_cons,ih]
    constructor
    ·rintro⟨h1,h2 | ⟨p,h2⟩⟩
     ·left; rw [hsp,hzs,h1,h2]
     ·right
      refine⟨p,?_⟩
      rw [hsp,h2,← h1]
      conv=>rhs; rw [hzs]
      simp
    ·rintro(rfl | ⟨p,hp⟩)
     ·rw [es] at ez; cases ez; exact⟨rfl,.inl rfl⟩
     ·have hp' : s = (p ++ 46 :: z.take j) ++ 46 :: z.drop (j + 1) := by
       rw [hp]
       conv=>lhs; rw [hzs]
       simp
      have:=zPE hzd hd (hp'.symm.trans hsp)
      exact⟨this.2,.inr ⟨p,this.1.symm⟩⟩
theorem yQN (s z : Bs) : zU z <+: zU s ↔ (z = [46] ∨ (s ≠ [46] ∧ Und s z)) := by
 unfold zU
 by_cases hz:z = [46]
 ·subst hz; simp
 ·rw [if_neg hz]
  by_cases hs:s = [46]
  ·subst hs
   rw [if_pos rfl,List.prefix_nil]
   simp [hz,zDu]
  ·rw [if_neg hs,zQY _ _ _ _ (by omega) (by omega)]
   simp [hz,hs]
theorem zFg (s z : Bs) : rIn s z = true ↔ zU z <+: zU s := by
 rw [zAF,zAF]
 unfold rIn
 rw [Bool.and_eq_true,decide_eq_true_eq,yG]
 constructor
 ·rintro⟨h1,h2⟩
  rw [List.reverse_prefix]
  refine⟨(xP s).take ((xP s).length - (xP z).length),?_⟩
  have e : (xP s).drop ((xP s).length - (xP z).length) = xP z := by
   apply List.ext_getElem
   ·rw [List.length_drop]; omega
   ·intro i hi hi'
    have:=h2 i hi'
    unfold zJT at this
    rw [beq_iff_eq,List.getD_eq_getElem?_getD,List.getD_eq_getElem?_getD,List.getElem?_eq_getElem hi',List.getElem?_eq_getElem (by omega)] at this
    rw [List.getElem_drop]
    exact this
  conv=>lhs; rhs; rw [← e]
  exact List.take_append_drop _ _
 ·intro h
  rw [List.reverse_prefix] at h
  obtain⟨t,ht⟩:=h
  have hl:(xP s).length=t.length + (xP z).length:=by rw [← ht,List.length_append]
  refine⟨by omega,fun i hi=>?_⟩
  unfold zJT
  rw [beq_iff_eq,← ht,List.length_append]
  rw [List.getD_eq_getElem?_getD,List.getD_eq_getElem?_getD,List.getElem?_append_right (by omega)]
  congr 2
  omega
theorem yUT {s z : Bs} : Und s z ↔ (s == z || (decide (z.length < s.length) && zBR s z && bI s (s.length - z.length - 1) == 46)) = true := by
 rw [Bool.or_eq_true,beq_iff_eq,Bool.and_eq_true,Bool.and_eq_true,decide_eq_true_eq,beq_iff_eq]
 constructor
 ·rintro(rfl | ⟨p,rfl⟩)
  ·exact .inl rfl
  ·right
   refine⟨⟨by simp; omega,?_⟩,?_⟩
   ·unfold zBR
    rw [Bool.and_eq_true,decide_eq_true_eq,beq_iff_eq]
    refine⟨by simp; omega,?_⟩
    have:(p ++ 46 :: z).length - z.length=(p ++ [46]).length:=by simp; omega
    rw [this,show p ++ 46 :: z=(p ++ [46]) ++ z by simp]
    exact List.drop_left' rfl
   ·have:(p ++ 46 :: z).length - z.length - 1=p.length:=by simp; omega
    rw [this]
    unfold bI
    rw [List.getD_eq_getElem?_getD,List.getElem?_append_right (Nat.le_refl _)]
    simp
 ·rintro(h | ⟨⟨h1,h2⟩,h3⟩)
  ·exact .inl h
  ·right
   unfold zBR at h2
   rw [Bool.and_eq_true,decide_eq_true_eq,beq_iff_eq] at h2
   refine⟨s.take (s.length - z.length - 1),?_⟩
   have hlt:s.length - z.length - 1 < s.length:=by omega
   have e46 : s[s.length - z.length - 1] = 46 := by
    unfold bI at h3
    rw [List.getD_eq_getElem?_getD,List.getElem?_eq_getElem hlt] at h3
    simp only [Option.getD_some] at h3
    apply UInt8.toNat_inj.1
    have:(s[s.length - z.length - 1]).toNat=46:=by exact_mod_cast h3
    rw [this]; rfl
   have hd : s.drop (s.length - z.length - 1) = 46 :: z := by
    rw [List.drop_eq_getElem_cons hlt,e46,show s.length - z.length - 1 + 1=s.length - z.length by omega,h2.2]
   rw [← hd,List.take_append_drop]
theorem yUf {s : Bs} (hs : zL s = true) (h : s ≠ [46]) : ¬ Und [46] s := by
 rintro(e | ⟨p,hp⟩)
 ·exact h e.symm
 ·cases p with
  | nil =>
   simp at hp
   subst hp
   revert hs; decide
  | cons x p=>simp at hp
theorem zFH {s z : Bs} (hs : zL s = true) (hz : zL z = true) : pY s z = true ↔ zU z <+: zU s := by
 rw [yQN]
 unfold pY
 rw [hs,hz,Bool.true_and,Bool.true_and]
 by_cases h46:z = [46]
 ·subst h46; simp
 ·have hb:(z == [46])=false:=by simpa using h46
  rw [hb,Bool.or_false,← yUT]
  constructor
  ·intro h
   refine .inr ⟨?_,h⟩
   rintro rfl
   exact yUf hz h46 h
  ·rintro(h | ⟨_,h⟩)
   ·exact absurd h h46
   ·exact h
end Go.SL
/- Plain law: a set that the reference calls valid is valid. -/
namespace Go.SL
open Go
theorem yQY (x : UInt8) (n : Nat) (hn : n < 256) : ((x.toNat : Int) == (n : Int)) = (x == UInt8.ofNat n) := by
 rw [Bool.eq_iff_iff,beq_iff_eq,beq_iff_eq]
 constructor
 ·intro h
  apply UInt8.toNat_inj.1
  have:x.toNat=n:=by omega
  rw [this]; simp; omega
 ·rintro rfl
  simp; omega
theorem zLi (s : Bs) : zFl s = pL s := by
 cases s with
 | nil=>rfl
 | cons x r =>
  unfold zFl pL zBU bI
  have:=yQY x 42 (by omega)
  simp only [List.getD_cons_zero,List.length_cons,List.length_nil,List.take_succ_cons,List.take_zero]
  rw [show((x.toNat:Int) == 42)=(x == 42) from this]
  have e:(decide (0 < r.length + 1))=true:=by simp
  have e2:(decide (0 + 1≤r.length + 1))=true:=by simp
  rw [e,e2,Bool.true_and,Bool.true_and,Bool.eq_iff_iff,beq_iff_eq,beq_iff_eq]
  simp
theorem yRW (s : Bs) : zIA s = kU s := by
 unfold zIA kU
 have h : ∀ i, zFb s i = !(!zZ (bI s i) 97 122 && !zZ (bI s i) 48 57 && bI s i != 32) := by
  intro i
  unfold zFb zZ
  rw [Bool.eq_iff_iff]
  simp only [Bool.not_eq_true',Bool.and_eq_false_iff,Bool.or_eq_false_iff,decide_eq_false_iff_not,Bool.not_eq_false',Bool.and_eq_true,decide_eq_true_eq]
  constructor<;>rintro((h | h) | h)<;>first | exact .inr h | (refine .inl (.inl ?_); omega) | (refine .inl (.inr ?_); omega)
 have hf:zFb s=fun i=>!(!zZ (bI s i) 97 122 && !zZ (bI s i) 48 57 && bI s i != 32):=funext h
 rw [hf]
 congr 1
 unfold zZ
 rw [Bool.eq_iff_iff]
 simp only [Bool.and_eq_true,decide_eq_true_eq,bne_iff_ne,ne_eq,Bool.not_eq_true',Bool.or_eq_false_iff,Bool.not_eq_false',beq_eq_false_iff_ne]
 constructor
 ·rintro⟨⟨⟨h1,h2⟩,h3⟩,h4⟩; exact⟨⟨⟨by omega,by omega⟩,h3⟩,h4⟩
 ·rintro⟨⟨⟨h1,h2⟩,h3⟩,h4⟩; exact⟨⟨⟨by omega,by omega⟩,h3⟩,h4⟩
theorem yRa {a b : xO} (h : zFY a b = true) : zBj a b < 0 := by
 unfold zFY at h
 unfold zBj
 by_cases e:a.text=b.text
 ·rw [if_pos e] at h
  have e0:wJ a.text b.text=0:=vJ.2 e
  rw [if_neg (by simp [e0])]
  by_cases e2:a.n=b.n
  ·rw [if_pos e2] at h
   have:vC a.n b.n=0:=by unfold vC; rw [if_neg (by omega),if_neg (by omega)]
   rw [if_neg (by simp [this])]
   have h':a.m < b.m:=by simpa using h
   unfold vC; rw [if_pos h']; omega
  ·rw [if_neg e2] at h
   have h':a.n < b.n:=by simpa using h
   have:vC a.n b.n = -1:=by unfold vC; rw [if_pos h']
   rw [if_pos (by simp [this]),this]; omega
 ·rw [if_neg e] at h
  have:wJ a.text b.text < 0:=zAs.2 h
  rw [if_pos (by omega)]; exact this
theorem yHY {t : Int} {d : xO} (h1 : 1 ≤ t) (h8 : t ≤ 8) (h : zHZ t d = true) : xY (rules.getD t.toNat default) d = true := by
 have hc:t=1∨t=2∨t=3∨t=4∨t=5∨t=6∨t=7∨t=8:=by omega
 unfold zHZ at h
 rw [zBf,zLi,yRW] at h
 rcases hc with rfl | rfl | rfl | rfl | rfl | rfl | rfl | rfl
 ·simp [wIn] at h
  have e:rules.getD (1:Int).toNat default = ⟨0,1,1000000,0,0,false,false,true⟩:=rfl
  rw [e]
  simp [xY,zZ,qB,h]
 ·simp at h
  have e:rules.getD (2:Int).toNat default = ⟨1,0,0,0,0,false,false,false⟩:=rfl
  rw [e]
  simp [xY,zZ,qB,h]
 ·simp at h
  have e:rules.getD (3:Int).toNat default = ⟨1,0,0,0,0,false,true,false⟩:=rfl
  rw [e]
  simp [xY,zZ,qB,h]
 ·simp [wIn] at h
  have e:rules.getD (4:Int).toNat default = ⟨0,0,65535,0,100000,false,true,false⟩:=rfl
  rw [e]
  simp [xY,zZ,qB,h]
 ·simp at h
  have e:rules.getD (5:Int).toNat default = ⟨3,0,0,0,0,false,false,true⟩:=rfl
  rw [e]
  simp [xY,zZ,qB,h]
 ·simp [wIn] at h
  have e:rules.getD (6:Int).toNat default = ⟨0,1,1000000,1,3,false,false,false⟩:=rfl
  rw [e]
  simp [xY,zZ,qB,h]
 ·simp [wIn] at h
  have e:rules.getD (7:Int).toNat default = ⟨0,1,1000000,1,3,false,false,false⟩:=rfl
  rw [e]
  simp [xY,zZ,qB,h]
 ·simp [wIn] at h
  have e:rules.getD (8:Int).toNat default = ⟨2,2,510,0,0,true,false,true⟩:=rfl
  rw [e]
  simp [xY,zZ,qB,h]
theorem zSr:∀ t:Fin 9,(rules.getD t.val default).single=(decide (t.val=3) || decide (t.val=4)):=by decide
theorem yNR:∀ t:Fin 9,(rules.getD t.val default).wild=(decide (t.val=1) || decide (t.val=5) || decide (t.val=8)):=by decide
theorem zIu {n : Bs} {t l : Int} {ds : List xO} (h : zCN n t l ds = true) : wK n t l ds = true := by
 unfold zCN zBk zFU wIn at h
 rw [zBf,zLi] at h
 simp only [Bool.and_eq_true,Bool.not_eq_true',Bool.or_eq_false_iff,Bool.not_eq_false',decide_eq_true_eq] at h
 obtain⟨⟨⟨⟨⟨hn,ht⟩,hl⟩,hd⟩,hs⟩,hw,hall⟩:=h
 have hk:t.toNat < 9:=by omega
 have r1:=zSr ⟨t.toNat,hk⟩
 have r2:=yNR ⟨t.toNat,hk⟩
 simp only at r1 r2
 unfold wK zZ
 simp only [Bool.and_eq_true,decide_eq_true_eq]
 refine⟨⟨⟨⟨⟨⟨hn,by omega,by omega⟩,by omega,by omega⟩,by omega,by omega⟩,?_⟩,?_⟩,?_⟩
 ·rw [r1,Bool.not_eq_true',Bool.and_eq_false_iff]
  by_cases h34:t=3∨t=4
  ·right
   have hs' : ¬ ((ds.length : Int) > 1) := by
    intro hgt
    have e1:(t == 3 || t == 4)=true:=by rcases h34 with rfl | rfl<;>rfl
    have e2:decide ((ds.length:Int) > 1)=true:=by simpa using hgt
    rw [e1,e2] at hs; cases hs
   simp; omega
  ·left
   rw [Bool.or_eq_false_iff,decide_eq_false_iff_not,decide_eq_false_iff_not]; omega
 ·rw [r2,Bool.not_eq_true',Bool.and_eq_false_iff]
  cases hiw:pL n
  ·exact .inl rfl
  ·right
   rw [hiw,Bool.true_and] at hw
   simp only [Bool.and_eq_false_iff,bne_eq_false_iff_eq] at hw
   simp only [Bool.not_eq_false',Bool.or_eq_true,decide_eq_true_eq]
   omega
 ·rw [yG] at hall ⊢
  intro i hi
  have:=hall i hi
  unfold zHe at this
  rw [Bool.and_eq_true,Bool.or_eq_true,beq_iff_eq] at this
  rw [Bool.and_eq_true]
  refine⟨yHY (by omega) (by omega) this.1,?_⟩
  rw [Bool.not_eq_true',Bool.and_eq_false_iff,decide_eq_false_iff_not,decide_eq_false_iff_not]
  rcases this.2 with h0 | h0
  ·left; omega
  ·right
   have:=yRa h0
   omega
end Go.SL
/- Plain law: a zone that the reference calls valid is valid: order, apex, aliases. -/
namespace Go.SL
open Go
theorem zHz (s : Bs) (h : s.getD 0 0 ≠ 46) : ∀ k, ∃ w r, xQ s (k + 1) = (s.getD 0 0 :: w) :: r
 | 0=>⟨[],[],by simp only [xQ]; rw [if_neg h]; rfl⟩
 | k + 1 => by
  obtain⟨w,r,e⟩:=zHz s h k
  show ∃ w r,xQ s (k + 1 + 1)=_
  simp only [xQ] at e ⊢
  rw [e]
  split
  ·exact⟨w,r ++ [[]],rfl⟩
  ·cases r with
   | nil=>exact⟨w ++ [s.getD (k + 1) 0],[],rfl⟩
   | cons y r'=>exact⟨w,(y :: r').dropLast ++ [(y :: r').getLastD [] ++ [s.getD (k + 1) 0]],rfl⟩
theorem zOf {s : Bs} (hv : zL s = true) (h : pL s = true) : zCp s = true := by
 cases s with
 | nil=>cases h
 | cons x r =>
  have hx : x = 42 := by
   unfold pL zBU at h
   simp at h
   exact h
  subst hx
  have h46:(42 :: r:Bs)≠[46]:=by intro e; cases e
  obtain⟨w,l,e⟩:=zHz (42 :: r) (by simp) r.length
  have es:wQ (42 :: r)=(42 :: w) :: l:=e
  have ep:xP (42 :: r)=(42 :: w) :: l:=by unfold xP; rw [if_neg h46,es]
  rw [← zBf] at hv
  unfold vK at hv
  rw [es] at hv
  simp only [Bool.or_eq_true,beq_iff_eq,Bool.and_eq_true,yG] at hv
  rcases hv with hv | ⟨_,hv,_⟩
  ·exact absurd hv h46
  ·have h0:=hv 0 (by simp)
   simp only [List.getD_cons_zero,true_and] at h0
   unfold zCp
   rw [ep]
   rcases h0 with h0 | h0
   ·exfalso
    unfold zBL at h0
    rw [Bool.and_eq_true,yG] at h0
    have:=h0.1 0 (by simp)
    revert this
    simp [bI]
   ·simp [h0]
theorem zFC {a b : zF} (ha : zL a.name = true) (hb : zL b.name = true) (h : zAR a b) : vS a.name a.type b.name b.type < 0 ∧ ¬ vS b.name b.type a.name a.type < 0 := by
 unfold vS
 rcases h with⟨h1,h2⟩ | ⟨h1,h2⟩
 ·rw [if_pos h1,if_pos h1.symm]
  unfold vC
  rw [if_pos h2,if_neg (by omega),if_pos (by omega)]
  omega
 ·rw [if_neg h1,if_neg (Ne.symm h1)]
  unfold uB
  rw [ha,hb,Bool.and_self,if_pos rfl,if_pos rfl,if_neg h1,if_neg (Ne.symm h1)]
  refine⟨h2,fun h3=>?_⟩
  exact h1 (zDZ (zDg h2 h3))
theorem yIW {a b : zF} (ha : zL a.name = true) (hb : zL b.name = true) (h : ¬ vS a.name a.type b.name b.type ≥ 0) : zAR a b := by
 unfold vS at h
 split at h
 ·rename_i e
  refine .inl ⟨e,?_⟩
  unfold vC at h
  split at h
  ·assumption
  ·split at h<;>omega
 ·rename_i e
  refine .inr ⟨e,?_⟩
  unfold uB at h
  rw [ha,hb,Bool.and_self,if_pos rfl,if_neg e] at h
  omega
structure kG (apex : Bs) (ss : List zF) : Prop where
 apexOk:zL apex=true
 wild:pL apex=false
 len:ss.length≤20000
 recs:∀ i,i < ss.length→wK (sD ss i).name (sD ss i).type (sD ss i).life (sD ss i).data=true
 name:∀ i,i < ss.length→zL (sD ss i).name=true
 under:∀ i,i < ss.length→zU apex <+: zU (sD ss i).name
 before:∀ j i,i < j→j < ss.length→zAR (sD ss i) (sD ss j)
theorem ySQ {apex : Bs} {ss : List zF} (h : zDx apex ss = true) : kG apex ss := by
 unfold zDx at h
 simp only [Bool.and_eq_true,Bool.not_eq_true',decide_eq_true_eq] at h
 obtain⟨⟨⟨h1,h2⟩,h3⟩,h4⟩:=h
 rw [zBf] at h1
 rw [yG] at h4
 have hrec : ∀ i, i < ss.length → wK (sD ss i).name (sD ss i).type (sD ss i).life (sD ss i).data = true := by
  intro i hi
  have:=h4 i hi
  unfold zCx at this
  simp only [Bool.and_eq_true] at this
  exact zIu this.1.1
 have hname:∀ i,i < ss.length→zL (sD ss i).name=true:=fun i hi=>(zAK (hrec i hi)).1
 refine⟨h1,?_,h3,hrec,hname,fun i hi=>?_,?_⟩
 ·cases hw:pL apex
  ·rfl
  ·rw [zOf h1 hw] at h2; cases h2
 ·have:=h4 i hi
  unfold zCx at this
  simp only [Bool.and_eq_true] at this
  exact(zFg _ _).1 this.1.2
 ·have hadj : ∀ j, j + 1 < ss.length → zAR (sD ss j) (sD ss (j + 1)) := by
   intro j hj
   have:=h4 (j + 1) hj
   unfold zCx at this
   simp only [Bool.and_eq_true,Nat.add_sub_cancel,Bool.or_eq_true,beq_iff_eq,Bool.not_eq_true',decide_eq_false_iff_not] at this
   have hc:=this.2
   rw [zNP (hname j (by omega)) (hname (j + 1) hj)] at hc
   exact yIW (hname j (by omega)) (hname (j + 1) hj) (by omega)
  intro j
  induction j with
  | zero=>intro i hi; omega
  | succ j ih =>
   intro i hi hj
   by_cases e:i=j
   ·subst e; exact hadj i hj
   ·exact(ih i (by omega) (by omega)).trans (hadj j hj)
theorem yHv {apex : Bs} {ss : List zF} (h : kG apex ss) : vQ apex ss = true := by
 unfold vQ
 rw [Bool.and_eq_true,Bool.not_eq_true',Bool.or_eq_false_iff,Bool.or_eq_false_iff,yG]
 refine⟨⟨⟨by rw [h.apexOk]; rfl,h.wild⟩,by have:=h.len; rw [decide_eq_false_iff_not]; omega⟩,fun i hi=>?_⟩
 rw [Bool.and_eq_true,Bool.and_eq_true,Bool.or_eq_true,beq_iff_eq,Bool.not_eq_true',decide_eq_false_iff_not]
 refine⟨⟨h.recs i hi,(zFH (h.name i hi) h.apexOk).2 (h.under i hi)⟩,?_⟩
 by_cases e:i=0
 ·exact .inl e
 ·right
  have hb:=(zFC (h.name (i - 1) (by omega)) (h.name i hi) (h.before i (i - 1) (by omega) hi)).1
  show ¬ vS (sD ss (i - 1)).name (sD ss (i - 1)).type (sD ss i).name (sD ss i).type≥0
  omega
theorem zGK (c : Nat → Int) (n k : Nat) (h1 : ∀ a, a < k → c a < 0) (h2 : ∀ a, k ≤ a → a < n → ¬ c a < 0) : ∀ f i j, i ≤ k → k ≤ j → j ≤ n → j - i ≤ f → zGy c f i j = k
 | 0,i,j,hi,hj,_,hf=>by simp only [zGy]; omega
 | f + 1, i, j, hi, hj, hn, hf => by
  simp only [zGy]
  split
  ·rename_i hlt
   split
   ·rename_i hc
    have : (i + j) / 2 < k := by
     rcases Nat.lt_or_ge ((i + j) / 2) k with h | h
     ·exact h
     ·exact absurd hc (h2 _ h (by omega))
    exact zGK c n k h1 h2 f _ _ (by omega) hj hn (by omega)
   ·rename_i hc
    have : k ≤ (i + j) / 2 := by
     rcases Nat.lt_or_ge ((i + j) / 2) k with h | h
     ·exact absurd (h1 _ h) hc
     ·exact h
    exact zGK c n k h1 h2 f _ _ hi (by omega) (by omega) (by omega)
  ·omega
theorem ySm {apex : Bs} {ss : List zF} (h : kG apex ss) {k : Nat} (hk : k < ss.length) : zAa ss (sD ss k).name (sD ss k).type = true := by
 have hi : zEf ss (sD ss k).name (sD ss k).type = k := by
  unfold zEf
  refine zGK _ ss.length k (fun a ha=>?_) (fun a ha han=>?_) _ _ _ (Nat.zero_le _) (by omega) (Nat.le_refl _) (by omega)
  ·exact(zFC (h.name a (by omega)) (h.name k hk) (h.before k a ha hk)).1
  ·by_cases e:a=k
   ·subst e
    show ¬ vS (sD ss a).name (sD ss a).type (sD ss a).name (sD ss a).type < 0
    unfold vS vC
    rw [if_pos rfl,if_neg (by omega),if_neg (by omega)]; omega
   ·exact(zFC (h.name k hk) (h.name a han) (h.before a k (by omega) han)).2
 unfold zAa
 rw [hi,Bool.and_eq_true,decide_eq_true_eq,beq_iff_eq]
 refine⟨hk,?_⟩
 show vS (sD ss k).name (sD ss k).type (sD ss k).name (sD ss k).type=0
 unfold vS vC
 rw [if_pos rfl,if_neg (by omega),if_neg (by omega)]
theorem zPB {ss : List zF} {nm : Bs} {t : Int} : ∀ r k, ¬ kC ss nm t r k < 0 → ∃ i, k ≤ i ∧ i < k + r ∧ zNI ss nm t i = true
 | 0,k,h=>by simp [kC] at h
 | r + 1, k, h => by
  simp only [kC] at h
  split at h
  ·rename_i e; exact⟨k,Nat.le_refl _,by omega,e⟩
  ·obtain⟨i,h1,h2,h3⟩:=zPB r (k + 1) h
   exact⟨i,by omega,by omega,h3⟩
theorem yUC (t : Int) (a : Bool) : zBm t a = zBn t a := by
 unfold zBm zBn
 by_cases h3:t=3
 ·subst h3; cases a<;>rfl
 ·by_cases h6:t=6
  ·subst h6; cases a<;>rfl
  ·by_cases h4:t=4
   ·subst h4; cases a<;>rfl
   ·by_cases h7:t=7
    ·subst h7; cases a<;>rfl
    ·cases a<;>simp [h3,h6,h4,h7]
theorem zQP {apex : Bs} {ss : List zF} (h : kG apex ss) (h2 : zKf apex ss = true) : qF apex ss = true := by
 unfold zKf at h2
 rw [Bool.and_eq_true,Bool.not_eq_true',Bool.or_eq_false_iff,decide_eq_false_iff_not,decide_eq_false_iff_not,yG] at h2
 obtain⟨⟨h4,h2'⟩,hall⟩:=h2
 have key : ∀ t, ¬ kC ss apex t ss.length 0 < 0 → zAa ss apex t = true := by
  intro t ht
  obtain⟨i,_,hi,he⟩:=zPB _ _ ht
  unfold zNI at he
  rw [Bool.and_eq_true,beq_iff_eq,beq_iff_eq] at he
  have:=ySm h (k:=i) (by omega)
  unfold sD at this
  rw [he.1,he.2] at this
  exact this
 unfold qF
 rw [Bool.and_eq_true,Bool.and_eq_true,yG]
 refine⟨⟨key 4 h4,key 2 h2'⟩,fun i hi=>?_⟩
 have:=hall i hi
 unfold zHX at this
 rw [yUC] at this
 exact this
theorem zDE {s:Bs} (h:zL s=true):s≠[]:=by rintro rfl; revert h; decide
theorem yHp {apex : Bs} {ss : List zF} (h : kG apex ss) (h3 : zEX ss = true) : zCd ss = true := by
 unfold zEX at h3
 rw [yG] at h3
 unfold zCd
 rw [yG]
 intro i hi
 have hlast : ∀ k, 0 < k → k < ss.length → (sD ss (k - 1)).name = (sD ss k).name → zEM ss k = (sD ss k).name := by
  intro k h0 hk he
  unfold zEM
  have e0:(k == 0)=false:=by simp; omega
  rw [e0,he]; simp
 show((sD ss i).type != 3 || (!(decide (0 < i) && (sD ss (i - 1)).name == (sD ss i).name) && !(decide (i + 1 < ss.length) && (sD ss (i + 1)).name == (sD ss i).name && (sD ss (i + 1)).type != 8)))=true
 by_cases ht:(sD ss i).type=3
 ·have hb:((sD ss i).type != 3)=false:=by simp [ht]
  rw [hb,Bool.false_or,Bool.and_eq_true,Bool.not_eq_true',Bool.not_eq_true']
  constructor
  ·rw [Bool.and_eq_false_iff,decide_eq_false_iff_not]
   by_cases h0:0 < i
   ·right
    rw [beq_eq_false_iff_ne]
    intro he
    have:=h3 i hi
    unfold zDt at this
    rw [hlast i h0 hi he,ht,Bool.not_eq_true'] at this
    unfold zBd at this
    have hne:((sD ss i).name != [])=true:=by simpa using zDE (h.name i hi)
    rw [hne] at this
    simp at this
   ·exact .inl h0
  ·by_cases h1:i + 1 < ss.length
   ·by_cases he:(sD ss (i + 1)).name=(sD ss i).name
    ·have:=h3 (i + 1) h1
     unfold zDt at this
     have hl:=hlast (i + 1) (by omega) h1 (by rw [Nat.add_sub_cancel]; exact he.symm)
     rw [hl,Bool.not_eq_true'] at this
     unfold zBd at this
     have hne:((sD ss (i + 1)).name != [])=true:=by simpa using zDE (h.name (i + 1) h1)
     rw [hne,Bool.true_and,Bool.true_and,Bool.or_eq_false_iff] at this
     have ht3:((sD ss (i + 1)).type == 3)=false:=this.1
     have hal : jR ss (i + 1 + 1) = (sD ss (i + 1)).name := by
      have e1:jR ss (i + 1 + 1)=if (sD ss (i + 1)).type == 3 then (sD ss (i + 1)).name else jR ss (i + 1):=rfl
      have e2:jR ss (i + 1)=if (sD ss i).type == 3 then (sD ss i).name else jR ss i:=rfl
      rw [e1,ht3,e2,ht,he]; rfl
     rw [hal] at this
     have h8:=this.2
     have hn3:((sD ss (i + 1)).type != 3)=true:=by rw [bne,ht3]; rfl
     rw [beq_self_eq_true,hn3,Bool.true_and,Bool.true_and] at h8
     rw [h8,Bool.and_false]
    ·have:((sD ss (i + 1)).name == (sD ss i).name)=false:=by simpa using he
     rw [this,Bool.and_false,Bool.false_and]
   ·have:decide (i + 1 < ss.length)=false:=by simpa using h1
    rw [this,Bool.false_and,Bool.false_and]
 ·have:((sD ss i).type != 3)=true:=by simpa using ht
  rw [this,Bool.true_or]
end Go.SL
/- Plain law: a zone that the reference calls valid is valid: cuts, signatures. -/
namespace Go.SL
open Go
def uN (x y:List Bs):Prop:=uG x y < 0
theorem uN.refl : ∀ x : List Bs, uN x x
 | []=>by simp [uN,uG]
 | a :: x => by
  unfold uN
  rw [zAj,if_neg (by simp [vJ.2 rfl])]
  exact uN.refl x
theorem uN.trans {x y z:List Bs} (h1:uN x y) (h2:uN y z):uN x z:=zFt h1 h2
theorem uN.antisymm {x y:List Bs} (h1:uN x y) (h2:uN y x):x=y:=zDg h1 h2
theorem zIN : ∀ {p z : List Bs}, p <+: z → uN p z
 | [],z,_=>by cases z<;>simp [uN,uG]
 | a :: p,[],h=>by simp at h
 | a :: p, b :: z, h => by
  rw [List.cons_prefix_cons] at h
  obtain⟨rfl,h⟩:=h
  unfold uN
  rw [zAj,if_neg (by simp [vJ.2 rfl])]
  exact zIN h
theorem zJk : ∀ {p y z : List Bs}, uN p y → uN y z → p <+: z → p <+: y
 | [],_,_,_,_,_=>List.nil_prefix
 | a :: p,_,[],_,_,h=>by simp at h
 | a :: p,[],_ :: _,h,_,_=>by simp [uN,uG] at h
 | a :: p, b :: y, c :: z, h1, h2, h => by
  rw [List.cons_prefix_cons] at h
  obtain⟨rfl,h⟩:=h
  unfold uN at h1 h2
  rw [zAj] at h1 h2
  by_cases e:wJ a b=0
  ·have:=vJ.1 e
   subst this
   rw [if_neg (by simp [e])] at h1 h2
   rw [List.cons_prefix_cons]
   exact⟨rfl,zJk h1 h2 h⟩
  ·exfalso
   rw [if_pos e] at h1
   have e2:wJ b a≠0:=fun h=>e (vJ.2 (vJ.1 h).symm)
   rw [if_pos e2] at h2
   have:=zFV (zAs.1 h1) (zAs.1 h2)
   rw [zCI] at this; cases this
theorem yRx {p q z:List Bs} (hp:p <+: z) (hq:q <+: z):p <+: q∨q <+: p:=List.prefix_or_prefix_of_prefix hp hq
theorem zKF (a b : Bs) : uL a b ≤ 0 ↔ uN (zU a) (zU b) := by
 rw [zKB]
 unfold uN
 by_cases e:a=b
 ·subst e
  have:=uN.refl (zU a)
  unfold uN at this
  rw [if_pos rfl]
  exact⟨fun _=>this,fun _=>Int.le_refl _⟩
 ·rw [if_neg e]
  have:=zJS (zU a) (zU b)
  omega
def zGN (C:List Bs):Prop:=C.Pairwise fun a b=>a≠b∧uN (zU a) (zU b)
structure yPJ (C : List Bs) (k : Nat) (Hs : List Bs) : Prop where
 sub:∀ h∈Hs,h∈C.take k
 str:zGN Hs
 cov:∀ c∈C.take k,∃ h∈Hs,zU h <+: zU c
 top:∀ h∈Hs,∀ g∈Hs,zU h <+: zU g→h=g
theorem zAD {C : List Bs} {k : Nat} (hk : k < C.length) : C.take (k + 1) = C.take k ++ [C.getD k []] := by
 rw [List.take_add_one,List.getElem?_eq_getElem hk,List.getD_eq_getElem?_getD,List.getElem?_eq_getElem hk]; rfl
theorem zBr {C : List Bs} {k : Nat} (hk : k < C.length) : C.getD k [] ∈ C := by
 rw [List.getD_eq_getElem?_getD,List.getElem?_eq_getElem hk]; exact List.getElem_mem hk
theorem zPP {C : List Bs} (h : zGN C) {i j : Nat} (hij : i < j) (hj : j < C.length) : C.getD i [] ≠ C.getD j [] ∧ uN (zU (C.getD i [])) (zU (C.getD j [])) := by
 have:=List.pairwise_iff_getElem.1 h i j (by omega) hj hij
 rw [List.getD_eq_getElem?_getD,List.getElem?_eq_getElem (by omega),List.getD_eq_getElem?_getD,List.getElem?_eq_getElem hj]
 exact this
theorem zJE {C : List Bs} (h : zGN C) {i j : Nat} (hij : i ≤ j) (hj : j < C.length) : uN (zU (C.getD i [])) (zU (C.getD j [])) := by
 rcases Nat.lt_or_ge i j with h' | h'
 ·exact(zPP h h' hj).2
 ·have:i=j:=by omega
  subst this; exact uN.refl _
theorem zVX {C : List Bs} (hC : zGN C) : ∀ k, k ≤ C.length → yPJ C k (wA C k)
 | 0,_=>⟨fun h hh=>(by cases hh),List.Pairwise.nil,fun c hc=>(by simp at hc),fun h hh=>(by cases hh)⟩
 | k + 1, hk => by
  have ih:=zVX hC k (by omega)
  have hx : ∀ c ∈ C.take k, c ≠ C.getD k [] ∧ uN (zU c) (zU (C.getD k [])) := by
   intro c hc
   obtain⟨i,hi,rfl⟩:=List.getElem_of_mem hc
   rw [List.length_take] at hi
   have:=zPP hC (i:=i) (j:=k) (by omega) (by omega)
   rw [List.getD_eq_getElem?_getD,List.getElem?_eq_getElem (show i < C.length by omega)] at this
   rw [List.getElem_take]
   exact this
  have hlast : ∀ h ∈ wA C k, (wA C k).length ≠ 0 ∧ uN (zU h) (zU ((wA C k).getD ((wA C k).length - 1) [])) := by
   intro h hh
   obtain⟨i,hi,rfl⟩:=List.getElem_of_mem hh
   refine⟨by omega,?_⟩
   have:=zJE ih.str (i:=i) (j:=(wA C k).length - 1) (by omega) (by omega)
   rw [List.getD_eq_getElem?_getD,List.getElem?_eq_getElem hi] at this
   exact this
  rw [show wA C (k + 1)=if (wA C k).length == 0 || !rIn (C.getD k []) ((wA C k).getD ((wA C k).length - 1) []) then wA C k ++ [C.getD k []] else wA C k from rfl]
  split
  ·rename_i hc
   have hno : ∀ h ∈ wA C k, ¬ zU h <+: zU (C.getD k []) := by
    intro h hh hp
    obtain⟨h0,hl⟩:=hlast h hh
    rw [Bool.or_eq_true,beq_iff_eq,Bool.not_eq_true'] at hc
    rcases hc with hc | hc
    ·exact h0 hc
    ·have hm:(wA C k).getD ((wA C k).length - 1) []∈wA C k:=zBr (by omega)
     have h2:=(hx _ (ih.sub _ hm)).2
     have h3:=zJk hl h2 hp
     have h4:=ih.top h hh _ hm h3
     rw [← h4] at hc
     rw [(zFg _ _).2 hp] at hc; cases hc
   refine⟨fun h hh=>?_,?_,fun c hc'=>?_,fun h hh g hg hp=>?_⟩
   ·rw [zAD (by omega),List.mem_append]
    rcases List.mem_append.1 hh with hh | hh
    ·exact .inl (ih.sub h hh)
    ·exact .inr hh
   ·unfold zGN
    rw [List.pairwise_append]
    refine⟨ih.str,List.pairwise_singleton _ _,fun a ha b hb=>?_⟩
    rw [List.mem_singleton] at hb
    subst hb
    exact hx a (ih.sub a ha)
   ·rw [zAD (by omega),List.mem_append] at hc'
    rcases hc' with hc' | hc'
    ·obtain⟨h,hh,hp⟩:=ih.cov c hc'
     exact⟨h,List.mem_append_left _ hh,hp⟩
    ·rw [List.mem_singleton] at hc'
     subst hc'
     exact⟨_,List.mem_append_right _ (List.mem_singleton.2 rfl),List.prefix_refl _⟩
   ·rcases List.mem_append.1 hh with hh | hh
    ·rcases List.mem_append.1 hg with hg | hg
     ·exact ih.top h hh g hg hp
     ·rw [List.mem_singleton] at hg; subst hg
      exact absurd hp (hno h hh)
    ·rw [List.mem_singleton] at hh; subst hh
     rcases List.mem_append.1 hg with hg | hg
     ·exfalso
      have h2:=hx g (ih.sub g hg)
      exact h2.1 (zDZ (h2.2.antisymm (zIN hp)))
     ·rw [List.mem_singleton] at hg; exact hg.symm
  ·rename_i hc
   rw [Bool.not_eq_true,Bool.or_eq_false_iff,beq_eq_false_iff_ne,Bool.not_eq_false'] at hc
   have hm:(wA C k).getD ((wA C k).length - 1) []∈wA C k:=zBr (by omega)
   refine⟨fun h hh=>?_,ih.str,fun c hc'=>?_,ih.top⟩
   ·rw [zAD (by omega),List.mem_append]; exact .inl (ih.sub h hh)
   ·rw [zAD (by omega),List.mem_append] at hc'
    rcases hc' with hc' | hc'
    ·exact ih.cov c hc'
    ·rw [List.mem_singleton] at hc'
     subst hc'
     exact⟨_,hm,(zFg _ _).1 hc.2⟩
section
variable {apex:Bs} {ss:List zF}
theorem zFp : ∀ k c, c ∈ wP apex ss k ↔ ∃ i, i < k ∧ (sD ss i).type = 2 ∧ (sD ss i).name ≠ apex ∧ (sD ss i).name = c
 | 0,c=>by simp [wP]
 | k + 1, c => by
  rw [show wP apex ss (k + 1)=if (sD ss k).type == 2 && !((sD ss k).name == apex) then wP apex ss k ++ [(sD ss k).name] else wP apex ss k from rfl]
  have ih:=zFp k c
  split
  ·rename_i h
   rw [Bool.and_eq_true,beq_iff_eq,Bool.not_eq_true',beq_eq_false_iff_ne] at h
   rw [List.mem_append,ih,List.mem_singleton]
   constructor
   ·rintro(⟨i,hi,h1⟩ | rfl)
    ·exact⟨i,by omega,h1⟩
    ·exact⟨k,by omega,h.1,h.2,rfl⟩
   ·rintro⟨i,hi,h1,h2,h3⟩
    by_cases e:i=k
    ·subst e; exact .inr h3.symm
    ·exact .inl ⟨i,by omega,h1,h2,h3⟩
  ·rename_i h
   rw [ih]
   constructor
   ·rintro⟨i,hi,h1⟩; exact⟨i,by omega,h1⟩
   ·rintro⟨i,hi,h1,h2,h3⟩
    by_cases e:i=k
    ·subst e
     exfalso
     apply h
     rw [Bool.and_eq_true,beq_iff_eq,Bool.not_eq_true',beq_eq_false_iff_ne]
     exact⟨h1,h2⟩
    ·exact⟨i,by omega,h1,h2,h3⟩
theorem zIR (h : kG apex ss) : ∀ k, k ≤ ss.length → zGN (wP apex ss k)
 | 0,_=>List.Pairwise.nil
 | k + 1, hk => by
  have ih:=zIR h k (by omega)
  rw [show wP apex ss (k + 1)=if (sD ss k).type == 2 && !((sD ss k).name == apex) then wP apex ss k ++ [(sD ss k).name] else wP apex ss k from rfl]
  split
  ·rename_i hc
   rw [Bool.and_eq_true,beq_iff_eq] at hc
   unfold zGN
   rw [List.pairwise_append]
   refine⟨ih,List.pairwise_singleton _ _,fun a ha b hb=>?_⟩
   rw [List.mem_singleton] at hb
   subst hb
   obtain⟨i,hi,h1,_,rfl⟩:=(zFp k a).1 ha
   rcases h.before k i hi (by omega) with⟨_,h2⟩ | ⟨h2,h3⟩
   ·omega
   ·exact⟨h2,h3⟩
  ·exact ih
theorem zBD : ∀ k n, (yI n (wZ apex ss k)).getD false = true ↔ n ∈ wP apex ss k
 | 0,n=>by simp [wZ,wP,yI]
 | k + 1, n => by
  have ih:=zBD k n
  simp only [wZ]
  rw [show wP apex ss (k + 1)=if (sD ss k).type == 2 && !((sD ss k).name == apex) then wP apex ss k ++ [(sD ss k).name] else wP apex ss k from rfl]
  by_cases h:(sD ss k).type=2∧(sD ss k).name≠apex
  ·have h' : ((sD ss k).type == 2 && !((sD ss k).name == apex)) = true := by
    rw [Bool.and_eq_true,beq_iff_eq,Bool.not_eq_true',beq_eq_false_iff_ne]; exact h
   rw [if_pos (show(yF ss k).type=2∧(yF ss k).name≠apex from h),if_pos h',List.mem_append,List.mem_singleton]
   by_cases e:n=(sD ss k).name
   ·subst e
    have:yI (sD ss k).name (xV (yF ss k).name true (wZ apex ss k))=some true:=by rw [zAg]; exact if_pos rfl
    rw [this]; simp
   ·have:yI n (xV (yF ss k).name true (wZ apex ss k))=yI n (wZ apex ss k):=by rw [zAg,if_neg (show ¬ n=(yF ss k).name from e)]
    rw [this,ih]; simp [e]
  ·have h' : ¬ ((sD ss k).type == 2 && !((sD ss k).name == apex)) = true := by
    rw [Bool.and_eq_true,beq_iff_eq,Bool.not_eq_true',beq_eq_false_iff_ne]; exact h
   rw [if_neg (show ¬ ((yF ss k).type=2∧(yF ss k).name≠apex) from h),if_neg h']
   exact ih
def zIx (apex : Bs) (ss : List zF) (i : Nat) (b : Bs) : Prop :=
 (b = []∧∀ h∈wU apex ss,¬ zU h <+: zU (sD ss i).name)∨(b∈wU apex ss∧zU b <+: zU (sD ss i).name)
theorem jN (h:kG apex ss):yPJ (zDk apex ss) (zDk apex ss).length (wU apex ss):=zVX (zIR h _ (Nat.le_refl _)) _ (Nat.le_refl _)
theorem zDL (h : kG apex ss) {b : Bs} (hb : b ∈ wU apex ss) : b ∈ zDk apex ss ∧ ∃ i, i < ss.length ∧ (sD ss i).name = b := by
 have:=(jN h).sub b hb
 rw [List.take_length] at this
 obtain⟨i,hi,_,_,e⟩:=(zFp _ _).1 this
 exact⟨this,i,hi,e⟩
theorem zIM (h : kG apex ss) {i : Nat} {a b : Bs} (ha : zIx apex ss i a) (hb : zIx apex ss i b) : a = b := by
 rcases ha with⟨rfl,ha⟩ | ⟨ha,ha'⟩
 ·rcases hb with⟨rfl,_⟩ | ⟨hb,hb'⟩
  ·rfl
  ·exact absurd hb' (ha b hb)
 ·rcases hb with⟨rfl,hb⟩ | ⟨hb,hb'⟩
  ·exact absurd ha' (hb a ha)
  ·rcases yRx ha' hb' with hp | hp
   ·exact(jN h).top a ha b hb hp
   ·exact((jN h).top b hb a ha hp).symm
theorem zHi (h : kG apex ss) {i j : Nat} (hij : i ≤ j) (hj : j < ss.length) : uN (zU (sD ss i).name) (zU (sD ss j).name) := by
 rcases Nat.lt_or_ge i j with h' | h'
 ·rcases h.before j i h' hj with⟨e,_⟩ | ⟨_,h3⟩
  ·rw [e]; exact uN.refl _
  ·exact h3
 ·have:i=j:=by omega
  subst this; exact uN.refl _
theorem zFB (h : kG apex ss) {i : Nat} (hi : i < ss.length) {b : Bs} (hb : b ∈ wU apex ss) (hp : zU b <+: zU (sD ss i).name) (hne : b ≠ (sD ss i).name) : 0 < i ∧ zU b <+: zU (sD ss (i - 1)).name := by
 obtain⟨_,j,hj,e⟩:=zDL h hb
 have hji : j < i := by
  rcases Nat.lt_or_ge j i with h' | h'
  ·exact h'
  ·exfalso
   have h1:=zHi h h' hj
   rw [e] at h1
   exact hne (zDZ ((zIN hp).antisymm h1))
 refine⟨by omega,?_⟩
 have h1:=zHi h (i:=j) (j:=i - 1) (by omega) (by omega)
 rw [e] at h1
 exact zJk h1 (zHi h (by omega) hi) hp
theorem yPg (h : kG apex ss) : ∀ i, i < ss.length → zIx apex ss i (kS apex ss (i + 1)) := by
 intro i
 induction i with
 | zero =>
  intro hi
  have e : kS apex ss 1 = if (yI (sD ss 0).name (wZ apex ss ss.length)).getD false = true then (sD ss 0).name else [] := by
   show uR (wZ apex ss ss.length) [] (sD ss 0).name=_
   unfold uR
   simp
  rw [e]
  have hno : ∀ b ∈ wU apex ss, zU b <+: zU (sD ss 0).name → b = (sD ss 0).name := by
   intro b hb hp
   by_cases hne:b=(sD ss 0).name
   ·exact hne
   ·have:=(zFB h hi hb hp hne).1; omega
  split
  ·rename_i hc
   have hc':=(zBD _ _).1 hc
   obtain⟨g,hg,hp⟩:=(jN h).cov _ (by rw [List.take_length]; exact hc')
   have:=hno g hg hp
   subst this
   exact .inr ⟨hg,hp⟩
  ·rename_i hc
   refine .inl ⟨rfl,fun b hb hp=>?_⟩
   have:=hno b hb hp
   subst this
   exact hc ((zBD _ _).2 (zDL h hb).1)
 | succ i ih =>
  intro hi
  have ih:=ih (by omega)
  have hne : ∀ b ∈ wU apex ss, b ≠ [] := by
   intro b hb
   obtain⟨_,j,hj,e⟩:=zDL h hb
   rw [← e]; exact zDE (h.name j hj)
  have e:kS apex ss (i + 1 + 1)=uR (wZ apex ss ss.length) (kS apex ss (i + 1)) (sD ss (i + 1)).name:=rfl
  rw [e]
  have fin : (∀ b ∈ wU apex ss, zU b <+: zU (sD ss (i + 1)).name → b = (sD ss (i + 1)).name) →
    zIx apex ss (i + 1) (if (yI (sD ss (i + 1)).name (wZ apex ss ss.length)).getD false=true then (sD ss (i + 1)).name else []):=by
   intro hno
   split
   ·rename_i hc
    have hc':=(zBD _ _).1 hc
    obtain⟨g,hg,hp⟩:=(jN h).cov _ (by rw [List.take_length]; exact hc')
    have:=hno g hg hp
    subst this
    exact .inr ⟨hg,hp⟩
   ·rename_i hc
    refine .inl ⟨rfl,fun b hb hp=>?_⟩
    have:=hno b hb hp
    subst this
    exact hc ((zBD _ _).2 (zDL h hb).1)
  rcases ih with⟨ih0,ihn⟩ | ⟨ihm,ihp⟩
  ·rw [ih0]
   have e2 : uR (wZ apex ss ss.length) [] (sD ss (i + 1)).name = if (yI (sD ss (i + 1)).name (wZ apex ss ss.length)).getD false = true then (sD ss (i + 1)).name else [] := by
    unfold uR; simp
   rw [e2]
   refine fin fun b hb hp=>?_
   by_cases hq:b=(sD ss (i + 1)).name
   ·exact hq
   ·have:=(zFB h hi hb hp hq).2
    rw [Nat.add_sub_cancel] at this
    exact absurd this (ihn b hb)
  ·have hcne:=hne _ ihm
   obtain⟨_,j,hj,ej⟩:=zDL h ihm
   have hcv:zL (kS apex ss (i + 1))=true:=by rw [← ej]; exact h.name j hj
   by_cases hu:pY (sD ss (i + 1)).name (kS apex ss (i + 1))=true
   ·have e2 : uR (wZ apex ss ss.length) (kS apex ss (i + 1)) (sD ss (i + 1)).name = kS apex ss (i + 1) := by
     unfold uR; simp [hu,hcne]
    rw [e2]
    exact .inr ⟨ihm,(zFH (h.name _ hi) hcv).1 hu⟩
   ·have hu':pY (sD ss (i + 1)).name (kS apex ss (i + 1))=false:=by simpa using hu
    have e2 : uR (wZ apex ss ss.length) (kS apex ss (i + 1)) (sD ss (i + 1)).name = if (yI (sD ss (i + 1)).name (wZ apex ss ss.length)).getD false = true then (sD ss (i + 1)).name else [] := by
     unfold uR; simp [hu',hcne]
    rw [e2]
    refine fin fun b hb hp=>?_
    by_cases hq:b=(sD ss (i + 1)).name
    ·exact hq
    ·exfalso
     have h2:=(zFB h hi hb hp hq).2
     rw [Nat.add_sub_cancel] at h2
     have h3:b=kS apex ss (i + 1):=zIM h (i:=i) (.inr ⟨hb,h2⟩) (.inr ⟨ihm,ihp⟩)
     rw [h3] at hp
     exact hu ((zFH (h.name _ hi) hcv).2 hp)
theorem zIL (C : List Bs) (hC : zGN C) (nm : Bs) : ∀ r k, k + r = C.length → (∀ a, a < k → uN (zU (C.getD a [])) (zU nm)) →
  (∀ a,a < jO C nm r k→uN (zU (C.getD a [])) (zU nm))∧(jO C nm r k < C.length→¬ uN (zU (C.getD (jO C nm r k) [])) (zU nm))
 | 0,k,hk,h=>⟨h,fun hl=>by simp only [jO] at hl; omega⟩
 | r + 1, k, hk, h => by
  simp only [jO]
  by_cases hc:uL (C.getD k []) nm≤0
  ·rw [if_pos hc]
   refine zIL C hC nm r (k + 1) (by omega) (fun a ha=>?_)
   by_cases e:a=k
   ·subst e; exact(zKF _ _).1 hc
   ·exact h a (by omega)
  ·rw [if_neg hc]
   exact⟨h,fun _ hl=>hc ((zKF _ _).2 hl)⟩
theorem zJw (h : kG apex ss) : ∀ i, i < ss.length → (∀ a, a < uF (wU apex ss) ss (i + 1) → uN (zU ((wU apex ss).getD a [])) (zU (sD ss i).name)) ∧
  (uF (wU apex ss) ss (i + 1) < (wU apex ss).length→¬ uN (zU ((wU apex ss).getD (uF (wU apex ss) ss (i + 1)) [])) (zU (sD ss i).name)):=by
 intro i hi
 have hC:=(jN h).str
 have hb : ∀ a, a < uF (wU apex ss) ss i → uN (zU ((wU apex ss).getD a [])) (zU (sD ss i).name) := by
  cases i with
  | zero=>intro a ha; simp [uF] at ha
  | succ i=>exact fun a ha=>((zJw h i (by omega)).1 a ha).trans (zHi h (by omega) hi)
 have hle:=zDI (wU apex ss) ss i
 exact zIL (wU apex ss) hC (sD ss i).name _ _ (by omega) hb
termination_by i=>i
theorem yJB (h : kG apex ss) {i : Nat} (hi : i < ss.length) : zIx apex ss i (zHs (wU apex ss) ss i) := by
 have hs:=zJw h i hi
 have hle:=zDI (wU apex ss) ss (i + 1)
 unfold zHs
 generalize hp:uF (wU apex ss) ss (i + 1)=p at hs hle
 split
 ·rename_i hc
  rw [Bool.and_eq_true,Bool.not_eq_true',beq_eq_false_iff_ne] at hc
  exact .inr ⟨zBr (by omega),(zFg _ _).1 hc.2⟩
 ·rename_i hc
  refine .inl ⟨rfl,fun b hb hpre=>hc ?_⟩
  obtain⟨k,hk,rfl⟩:=List.getElem_of_mem hb
  have ek:(wU apex ss).getD k []=(wU apex ss)[k]:=by rw [List.getD_eq_getElem?_getD,List.getElem?_eq_getElem hk]; rfl
  have hle':uN (zU ((wU apex ss).getD k [])) (zU (sD ss i).name):=by rw [ek]; exact zIN hpre
  have hkp : k < p := by
   rcases Nat.lt_or_ge k p with h' | h'
   ·exact h'
   ·exact absurd ((zJE (jN h).str h' hk).trans hle') (hs.2 (by omega))
  have h1:=hs.1 (p - 1) (by omega)
  have h2:=zJE (jN h).str (i:=k) (j:=p - 1) (by omega) (by omega)
  have h3:=zJk h2 h1 (by rw [ek]; exact hpre)
  have h4:=(jN h).top _ (zBr hk) _ (zBr (show p - 1 < (wU apex ss).length by omega)) h3
  rw [Bool.and_eq_true,Bool.not_eq_true',beq_eq_false_iff_ne]
  refine⟨by omega,(zFg _ _).2 ?_⟩
  rw [← h4,ek]; exact hpre
theorem zLh (h : kG apex ss) {i : Nat} (hi : i < ss.length) : behind apex ss i = (vY apex ss).getD i [] := by
 have e : (vY apex ss).getD i [] = zHs (wU apex ss) ss i := by
  unfold vY
  rw [List.getD_eq_getElem?_getD,List.getElem?_map,List.getElem?_range hi]; rfl
 rw [e]
 exact zIM h (yPg h i hi) (yJB h hi)
theorem yUz (h : kG apex ss) (h4 : zHp apex ss = true) : zHr apex ss = true := by
 unfold zHp at h4
 rw [yG] at h4
 unfold zHr
 rw [yG]
 intro i hi
 have:=h4 i hi
 unfold zDJ at this
 rw [zLh h hi]
 show kD ((vY apex ss).getD i []) (sD ss i).name (sD ss i).type=true
 generalize (vY apex ss).getD i []=b at this ⊢
 unfold kD
 by_cases hb:b = []
 ·subst hb
  rw [if_pos rfl]
  simp at this
  simpa using this
 ·have hb':(b == [])=false:=by simpa using hb
  rw [if_neg hb]
  rw [hb'] at this
  by_cases hn:b=(sD ss i).name
  ·rw [if_pos hn]
   have hn':((sD ss i).name == b)=true:=by simp [hn]
   rw [hn'] at this
   simp at this ⊢
   omega
  ·rw [if_neg hn]
   have hn':((sD ss i).name == b)=false:=by simpa using Ne.symm hn
   rw [hn'] at this
   simp at this ⊢
   omega
theorem yRJ (h : kG apex ss) (h5 : zEs apex ss = true) : zHu apex ss = true := by
 unfold zEs at h5
 rw [yG] at h5
 unfold zHu
 rw [yG]
 intro i hi
 have:=h5 i hi
 unfold zCD at this
 have eo : (zFX apex ss).getD i false = zJp (vY apex ss) ss i := by
  unfold zFX
  rw [List.getD_eq_getElem?_getD,List.getElem?_map,List.getElem?_range hi]; rfl
 rw [eo] at this
 unfold zJp at this
 rw [zLh h hi]
 show(!(((vY apex ss).getD i [] != [] && ((sD ss i).type == 2 || (sD ss i).type == 1)) && decide ((sD ss i).sigs.length > 0)))=true
 generalize (vY apex ss).getD i []=b at this ⊢
 rw [Bool.not_eq_true',Bool.or_eq_false_iff] at this
 have h2:=this.2
 revert h2
 cases (b == [])<;>cases hd:decide ((sD ss i).sigs.length > 0)<;>cases h2:((sD ss i).type == 2)<;>cases h1:((sD ss i).type == 1)<;>simp_all [bne]
theorem yUM (h5 : zEs apex ss = true) : zEi apex ss = true := by
 unfold zEs at h5
 rw [yG] at h5
 unfold zEi
 rw [yG]
 intro i hi
 have:=h5 i hi
 unfold zCD at this
 rw [Bool.not_eq_true',Bool.or_eq_false_iff,Bool.not_eq_false'] at this
 have hs:=this.1
 unfold zFT at hs
 rw [Bool.and_eq_true,yG] at hs
 show qC apex (sD ss i).sigs=true
 unfold qC
 rw [Bool.and_eq_true,yG]
 refine⟨hs.1,fun k hk=>?_⟩
 have hk':=hs.2 k hk
 unfold zIE zDm zDv gD at hk'
 unfold zAb
 simp only [Bool.not_eq_true',Bool.or_eq_false_iff,Bool.not_eq_false',beq_iff_eq,decide_eq_false_iff_not,Bool.and_eq_true,Bool.and_eq_false_iff,bne_eq_false_iff_eq] at hk' ⊢
 obtain⟨⟨⟨⟨⟨⟨⟨⟨g1,g2⟩,g3⟩,g4⟩,g5⟩,g6⟩,g7⟩,g8⟩,⟨g9,g10⟩,g11⟩:=hk'
 refine⟨⟨⟨⟨⟨⟨g1,g2⟩,g3⟩,g4⟩,g5⟩,⟨g9,g10⟩,g11⟩,?_⟩
 by_cases h0:k=0
 ·left; omega
 ·right
  refine⟨⟨g6,g7⟩,?_⟩
  rcases g8 with g8 | g8
  ·exact absurd g8 h0
  ·exact g8
theorem yUw (h : zFR apex ss = true) : xB apex ss = true := by
 unfold zFR at h
 simp only [Bool.and_eq_true] at h
 obtain⟨⟨⟨⟨h1,h2⟩,h3⟩,h4⟩,h5⟩:=h
 have ho:=ySQ h1
 unfold xB
 rw [yHv ho,zQP ho h2,yHp ho h3,yUz ho h4,yRJ ho h5,yUM h5]; rfl
end
end Go.SL
