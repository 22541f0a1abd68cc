/- Plain law: the text of a signed set tells it from all others. -/
import Derived.Test.YthedjffolgeomaaGreatDoorMNplT29
import Derived.Lib.ItoaNum
import Derived.Test.YthedjffolgeomaaGreatDoorMNplQ
import Derived.Test.YthedjffolgeomaaGreatDoorMNplO
import Derived.Test.YthedjffolgeomaaGreatDoorMNplT14
namespace Go.SL
open Go
theorem pW {c : UInt8} : ∀ {w w' r r' : Bs}, c ∉ w → c ∉ w' → w ++ c :: r = w' ++ c :: r' → w = w' ∧ r = r'
 | [],[],_,_,_,_,h=>⟨rfl,by simpa using h⟩
 | [], y :: w', _, _, _, h2, h => by
  simp only [List.nil_append,List.cons_append,List.cons.injEq] at h
  exact absurd (h.1 ▸ List.mem_cons_self) h2
 | x :: w, [], _, _, h1, _, h => by
  simp only [List.nil_append,List.cons_append,List.cons.injEq] at h
  exact absurd (h.1 ▸ List.mem_cons_self) h1
 | x :: w, y :: w', _, _, h1, h2, h => by
  simp only [List.cons_append,List.cons.injEq] at h
  have:=pW (fun hm=>h1 (List.mem_cons_of_mem _ hm)) (fun hm=>h2 (List.mem_cons_of_mem _ hm)) h.2
  exact⟨by rw [h.1,this.1],this.2⟩
theorem yJn (d : Nat) (h : d < 10) : UInt8.ofNat (48 + d) ≠ 47 ∧ UInt8.ofNat (48 + d) ≠ 45 := by
 have:d=0∨d=1∨d=2∨d=3∨d=4∨d=5∨d=6∨d=7∨d=8∨d=9:=by omega
 rcases this with rfl | rfl | rfl | rfl | rfl | rfl | rfl | rfl | rfl | rfl<;>decide
theorem zUL {d e : Nat} (hd : d < 10) (he : e < 10) (h : UInt8.ofNat (48 + d) = UInt8.ofNat (48 + e)) : d = e := by
 have:=congrArg UInt8.toNat h
 rw [UInt8.toNat_ofNat',UInt8.toNat_ofNat'] at this
 omega
theorem zBc (u : Nat) : ∀ x ∈ Lib.decDigits u, x ≠ 47 ∧ x ≠ 45 := by
 induction u using Nat.strongRecOn with
 | ind u ih =>
  unfold Lib.decDigits
  split
  ·rename_i h
   intro x hx
   rw [List.mem_singleton.1 hx]
   exact yJn u h
  ·rename_i h
   intro x hx
   rcases List.mem_append.1 hx with hx | hx
   ·exact ih _ (by omega) x hx
   ·rw [List.mem_singleton.1 hx]
    exact yJn _ (by omega)
theorem zGQ (u : Nat) : Lib.decDigits u ≠ [] := by
 unfold Lib.decDigits
 split<;>simp
theorem zGg (u : Nat) : ∀ v, Lib.decDigits u = Lib.decDigits v → u = v := by
 induction u using Nat.strongRecOn with
 | ind u ih =>
  intro v h
  rw [Lib.decDigits] at h
  conv at h=>rhs; rw [Lib.decDigits]
  split at h
  ·rename_i hu
   split at h
   ·rename_i hv
    exact zUL hu hv (List.cons.inj h).1
   ·rename_i hv
    have hl:=congrArg List.length h
    simp at hl
    exact absurd hl (zGQ _)
  ·rename_i hu
   split at h
   ·rename_i hv
    have hl:=congrArg List.length h
    simp at hl
    exact absurd hl (zGQ _)
   ·rename_i hv
    have:=List.append_inj' h rfl
    have h1:=ih (u / 10) (by omega) _ this.1
    have h2:=zUL (d:=u % 10) (e:=v % 10) (by omega) (by omega) (List.cons.inj this.2).1
    omega
theorem wR (n : Int) : 47 ∉ Lib.itoa n := by
 unfold Lib.itoa
 split
 ·intro h
  rcases List.mem_cons.1 h with h | h
  ·exact absurd h (by decide)
  ·exact(zBc _ _ h).1 rfl
 ·exact fun h=>(zBc _ _ h).1 rfl
theorem kL {n m : Int} (h : Lib.itoa n = Lib.itoa m) : n = m := by
 unfold Lib.itoa at h
 split at h
 ·rename_i hn
  split at h
  ·rename_i hm
   have:=zGg _ _ (List.cons.inj h).2
   omega
  ·exact absurd rfl (zBc m.toNat 45 (h ▸ List.mem_cons_self)).2
 ·rename_i hn
  split at h
  ·exact absurd rfl (zBc n.toNat 45 (h ▸ List.mem_cons_self)).2
  ·rename_i hm
   have:=zGg _ _ h
   omega
def pP (w:Bs) (ns:List Int):Bs:=w ++ ((ns.flatMap fun n=>47 :: Lib.itoa n) ++ [47])
def jP (d:xN):Bs:=pP d.text [d.n,d.m]
def kP (g:kT):Bs:=pP g.zone [g.key,g.alg,g.from_,g.till] ++ pP (Lib.itoa g.sum) []
def xW (s:zF):Bs:=pP s.name [s.type,s.life,s.data.length] ++ (s.data.flatMap jP ++ s.sigs.flatMap kP)
def Plain (s:zF):Prop:=47 ∉ s.name∧(∀ d∈s.data,47 ∉ d.text)∧∀ g∈s.sigs,47 ∉ g.zone
theorem zLg : ∀ {l l' : List xN} {r r' : Bs}, l.length = l'.length → (∀ d ∈ l, 47 ∉ d.text) → (∀ d ∈ l', 47 ∉ d.text) → l.flatMap jP ++ r = l'.flatMap jP ++ r' → l = l' ∧ r = r'
 | [],[],_,_,_,_,_,h=>⟨rfl,by simpa using h⟩
 | [],_ :: _,_,_,hl,_,_,_=>by simp at hl
 | _ :: _,[],_,_,hl,_,_,_=>by simp at hl
 | d :: l, d' :: l', r, r', hl, h1, h2, h => by
  simp only [List.flatMap_cons,jP,pP,List.flatMap_nil,List.append_nil,List.append_assoc,List.cons_append,List.nil_append] at h
  obtain⟨e1,h⟩:=pW (h1 d List.mem_cons_self) (h2 d' List.mem_cons_self) h
  obtain⟨e2,h⟩:=pW (wR _) (wR _) h
  obtain⟨e3,h⟩:=pW (wR _) (wR _) h
  have:=zLg (l:=l) (l':=l') (by simpa using hl) (fun x hx=>h1 x (List.mem_cons_of_mem _ hx)) (fun x hx=>h2 x (List.mem_cons_of_mem _ hx)) h
  have a2:=kL e2
  have a3:=kL e3
  have hd : d = d' := by
   cases d; cases d'
   simp only at e1 a2 a3
   subst e1 a2 a3; rfl
  exact⟨by rw [hd,this.1],this.2⟩
theorem zLk : ∀ {l l' : List kT}, (∀ g ∈ l, 47 ∉ g.zone) → (∀ g ∈ l', 47 ∉ g.zone) → l.flatMap kP = l'.flatMap kP → l = l'
 | [],[],_,_,_=>rfl
 | [],g :: l',_,_,h=>by simp [kP,pP] at h
 | g :: l,[],_,_,h=>by simp [kP,pP] at h
 | d :: l, d' :: l', h1, h2, h => by
  simp only [List.flatMap_cons,kP,pP,List.flatMap_nil,List.append_nil,List.append_assoc,List.cons_append,List.nil_append] at h
  obtain⟨e1,h⟩:=pW (h1 d List.mem_cons_self) (h2 d' List.mem_cons_self) h
  obtain⟨e2,h⟩:=pW (wR _) (wR _) h
  obtain⟨e3,h⟩:=pW (wR _) (wR _) h
  obtain⟨e4,h⟩:=pW (wR _) (wR _) h
  obtain⟨e5,h⟩:=pW (wR _) (wR _) h
  obtain⟨e6,h⟩:=pW (wR _) (wR _) h
  have:=zLk (l:=l) (l':=l') (fun x hx=>h1 x (List.mem_cons_of_mem _ hx)) (fun x hx=>h2 x (List.mem_cons_of_mem _ hx)) h
  have a2:=kL e2
  have a3:=kL e3
  have a4:=kL e4
  have a5:=kL e5
  have a6:=kL e6
  have hd : d = d' := by
   cases d; cases d'
   simp only at e1 a2 a3 a4 a5 a6
   subst e1 a2 a3 a4 a5 a6; rfl
  rw [hd,this]
theorem yGX {s s' : zF} (h1 : Plain s) (h2 : Plain s') (h : xW s = xW s') : s = s' := by
 simp only [xW,pP,List.flatMap_cons,List.flatMap_nil,List.append_nil,List.append_assoc,List.cons_append,List.nil_append] at h
 obtain⟨e1,h⟩:=pW h1.1 h2.1 h
 obtain⟨e2,h⟩:=pW (wR _) (wR _) h
 obtain⟨e3,h⟩:=pW (wR _) (wR _) h
 obtain⟨e4,h⟩:=pW (wR _) (wR _) h
 have e4':=kL e4
 obtain⟨e5,h⟩:=zLg (by omega) h1.2.1 h2.2.1 h
 have e6:=zLk h1.2.2 h2.2.2 h
 have a2:=kL e2
 have a3:=kL e3
 cases s; cases s'
 simp only at e1 a2 a3 e5 e6
 subst e1 a2 a3 e5 e6; rfl
theorem zAx (c : UInt8) (l : Bs) : ∀ k, k ≤ l.length → (∀ i, uL c l k = some i → i < k ∧ l.getD i 0 = c) ∧ (uL c l k = none → ∀ j, j < k → l.getD j 0 ≠ c)
 | 0,_=>⟨fun i h=>(by cases h),fun _ j h=>by omega⟩
 | k + 1, hk => by
  have ih:=zAx c l k (by omega)
  simp only [uL]
  split
  ·rename_i he
   exact⟨fun i h=>by cases h; exact⟨by omega,he⟩,fun h=>by cases h⟩
  ·rename_i he
   refine⟨fun i h=>⟨by have:=(ih.1 i h).1; omega,(ih.1 i h).2⟩,fun h j hj=>?_⟩
   by_cases e:j=k
   ·subst e; exact he
   ·exact ih.2 h j (by omega)
theorem zQp : ∀ (n : Nat) (l : Bs), l.length < n → ∀ x ∈ l, x = 46 ∨ ∃ y ∈ wZ n l, x ∈ y
 | 0,_,h,_,_=>by omega
 | n + 1, l, h, x, hx => by
  simp only [wZ]
  cases hg:lastIx 46 l with
  | none=>exact .inr ⟨l,by simp,hx⟩
  | some i =>
   have hs:=(zAx 46 l l.length (Nat.le_refl _)).1 i hg
   have hsplit : l = l.take i ++ 46 :: l.drop (i + 1) := by
    have e:l[i]'hs.1=46:=by have:=hs.2; rw [List.getD_eq_getElem?_getD,List.getElem?_eq_getElem hs.1] at this; exact this
    rw [← e,← List.drop_eq_getElem_cons hs.1,List.take_append_drop]
   rw [hsplit] at hx
   rcases List.mem_append.1 hx with hx | hx
   ·rcases zQp n (l.take i) (by rw [List.length_take]; omega) x hx with h1 | ⟨y,hy,hxy⟩
    ·exact .inl h1
    ·exact .inr ⟨y,List.mem_cons_of_mem _ hy,hxy⟩
   ·rcases List.mem_cons.1 hx with hx | hx
    ·exact .inl hx
    ·exact .inr ⟨_,List.mem_cons_self,hx⟩
theorem zHW : ∀ (l : List Bs) (c : Nat) (w : Bool), uW l c w = true → ∀ y ∈ l, y = [42] ∨ vT y = true
 | [],_,_,_,y,h=>by cases h
 | x :: r, c, w, hv, y, h => by
  simp only [uW] at hv
  split at hv
  ·cases hv
  ·split at hv
   ·cases hv
   ·rename_i h2
    rcases List.mem_cons.1 h with rfl | h
    ·simp only [Bool.and_eq_true,Bool.not_eq_true',not_and,Bool.not_eq_false] at h2
     by_cases e:y = [42]
     ·exact .inl e
     ·exact .inr (h2 (by simpa using e))
    ·exact zHW r _ _ hv y h
theorem yOK {y : Bs} (h : vT y = true) : (47 : UInt8) ∉ y := by
 intro hm
 unfold vT at h
 simp only [Bool.and_eq_true] at h
 have h2:=yH.1 h.2
 obtain⟨i,hi,e⟩:=List.getElem_of_mem hm
 have:=h2 i hi
 have e2:y.getD i 0=47:=by rw [List.getD_eq_getElem?_getD,List.getElem?_eq_getElem hi,e]; rfl
 simp only [bI,e2] at this
 exact absurd this (by decide)
theorem zDc {l : Bs} (h : zK l = true) : (47 : UInt8) ∉ l := by
 unfold zK at h
 simp only [Bool.or_eq_true,Bool.and_eq_true] at h
 rcases h with h | ⟨_,h⟩
 ·have:l = [46]:=by simpa using h
  subst this; decide
 ·intro hm
  unfold zW at h
  split at h
  ·rename_i e; subst e; exact absurd hm (by decide)
  ·rcases zQp (l.length + 1) l (by omega) 47 hm with h1 | ⟨y,hy,hxy⟩
   ·exact absurd h1 (by decide)
   ·rcases zHW _ _ _ h y hy with rfl | hl
    ·exact absurd hxy (by decide)
    ·exact yOK hl hxy
theorem yFA {s : Bs} (h : jH s = true) : (47 : UInt8) ∉ s := by
 intro hm
 unfold jH at h
 simp only [Bool.and_eq_true] at h
 have h2:=yH.1 h.2
 obtain⟨i,hi,e⟩:=List.getElem_of_mem hm
 have:=h2 i hi
 have e2:s.getD i 0=47:=by rw [List.getD_eq_getElem?_getD,List.getElem?_eq_getElem hi,e]; rfl
 simp only [bI,e2] at this
 exact absurd this (by decide)
theorem yFe {k : Int} {s : Bs} (h : uV k s = true) : (47 : UInt8) ∉ s := by
 unfold uV at h
 split at h
 ·simp only [Bool.and_eq_true] at h; exact zDc h.1
 ·split at h
  ·exact zDc h
  ·split at h
   ·exact yFA h
   ·have:s = []:=by simpa using h
    subst this; simp
theorem qR {α : Type} [Inhabited α] {l : List α} {x : α} (h : x ∈ l) : ∃ i, i < l.length ∧ l.getD i default = x := by
 obtain⟨i,hi,e⟩:=List.getElem_of_mem h
 exact⟨i,hi,by rw [List.getD_eq_getElem?_getD,List.getElem?_eq_getElem hi,e]; rfl⟩
theorem yY {α : Type} [Inhabited α] {l : List α} {i : Nat} (h : i < l.length) : l.getD i default ∈ l := by
 rw [List.getD_eq_getElem?_getD,List.getElem?_eq_getElem h]; exact List.getElem_mem _
structure yFJ (s : zF) : Prop where
 plain:Plain s
 life:0≤s.life∧s.life≤100000
 sigs:∀ g∈s.sigs,0≤g.till∧g.till≤20000000
theorem zAJ {n : Bs} {t l : Int} {ds : List xN} (h : wQ n t l ds = true) : zK n = true ∧ (0 ≤ l ∧ l ≤ 100000) ∧ ∀ d ∈ ds, (47 : UInt8) ∉ d.text := by
 unfold wQ at h
 simp only [Bool.and_eq_true,zZ,decide_eq_true_eq] at h
 refine⟨h.1.1.1.1.1.1,h.1.1.1.1.2,fun d hd=>?_⟩
 obtain⟨i,hi,e⟩:=qR hd
 have:=yH.1 h.2 i hi
 simp only [Bool.and_eq_true,e,wB] at this
 exact yFe this.1.2
theorem zEk {apex : Bs} {ss : List zF} (h : xG apex ss = true) : ∀ s ∈ ss, yFJ s := by
 intro s hs
 unfold xG at h
 simp only [Bool.and_eq_true] at h
 obtain⟨⟨⟨⟨⟨h1,_⟩,_⟩,_⟩,_⟩,h6⟩:=h
 obtain⟨i,hi,e⟩:=qR hs
 unfold vU at h1
 simp only [Bool.and_eq_true] at h1
 have hap : zK apex = true := by
  have:=h1.1
  simp only [Bool.not_eq_true',Bool.or_eq_false_iff,Bool.not_eq_false'] at this
  exact this.1.1
 have hi1:=yH.1 h1.2 i hi
 simp only [Bool.and_eq_true,yG,e] at hi1
 have hr:=zAJ hi1.1.1
 unfold zEv at h6
 have hi6:=yH.1 h6 i hi
 simp only [yG,e,uY,Bool.and_eq_true] at hi6
 have hsig : ∀ g ∈ s.sigs, (47 : UInt8) ∉ g.zone ∧ 0 ≤ g.till ∧ g.till ≤ 20000000 := by
  intro g hg
  obtain⟨j,hj,ej⟩:=qR hg
  have:=yH.1 hi6.2 j hj
  simp only [zAd,ej,Bool.and_eq_true,Bool.not_eq_true',Bool.or_eq_false_iff,decide_eq_false_iff_not,bne_eq_false_iff_eq] at this
  obtain⟨⟨⟨⟨⟨⟨hz,_⟩,_⟩,_⟩,_⟩,⟨⟨h1,h2⟩,h3⟩⟩,_⟩:=this
  refine⟨?_,by omega,by omega⟩
  rw [hz]; exact zDc hap
 exact⟨⟨zDc hr.1,hr.2.2,fun g hg=>(hsig g hg).1⟩,hr.2.1,fun g hg=>(hsig g hg).2⟩
end Go.SL
/- Contracts: the text that tells a signed set (package history). -/
namespace Go.SL
open Go
variable {E:Env} {H:Hp}
theorem yRn {fr : Fr} {Q : X → Fr → Hp → Prop} {k : List Item} {d : Option Nat} {r : List zA} {live : List Nat} {kk : Nat} {zero : List Value} : zT E (.ops (⟨d, .newT kk zero, none⟩ :: r) live :: k) fr H Q =
  (∀ b,H b=none→zT E (.ops r live :: k) (setD fr d ⟨true,.val (.pointer (some ⟨b,0,none⟩))⟩) (H.put b (.obj (.cells zero.toArray (E.gl kk) (0,0)))) Q):=by
 simp [zT,kE,wJ,vG,yM,xQ]
theorem uS.put {b bs:Nat} {ob:Option Nat} {o:xD} (h:H bs=none):uS H (H.put bs o) b ob ob:=⟨fun _c _o hc _ _=>zM h _ _ _ hc,fun _c hc=>.inl hc.symm⟩
def zBS (n:Int):Bs:=47 :: Lib.itoa n
theorem zKu (w:Bs) (ns:List Int):pP w ns=w ++ (ns.flatMap zBS ++ [47]):=rfl
theorem zDW {α : Type} [Inhabited α] (f : α → Bs) {l : List α} {k : Nat} (hk : k < l.length) : (l.take (k + 1)).flatMap f = (l.take k).flatMap f ++ f (l.getD k default) := by
 rw [List.take_add_one,List.getElem?_eq_getElem hk,List.getD_eq_getElem?_getD,List.getElem?_eq_getElem hk,List.flatMap_append]
 simp
theorem qL {α : Type} (f : α → Bs) (l : List α) (k : Nat) : ((l.take k).flatMap f).length ≤ (l.flatMap f).length := by
 conv=>rhs; rw [← List.take_append_drop k l,List.flatMap_append,List.length_append]
 omega
def I64 (n:Int):Prop:=-9223372036854775808≤n∧n≤9223372036854775807
set_option maxHeartbeats 1000000 in
theorem zMN (h3 : yZ E) (L : zEQ E) {b : Nat} {l : Bs} {ob : Option Nat} (hB : pT E H b l ob) (h2 : qC E H) (w : Bs) {ns : List Int} {nv : Value} (hns : xE H nv ns) (hr : ∀ n ∈ ns, I64 n) (hn : l.length + (pP w ns).length ≤ 900000000) (hm : ns.length ≤ 1000000) :
  Fn E.P (E.fn 132) [S w,nv,.pointer (some ⟨b,0,none⟩)] H (fun _ H'=>∃ ob',pT E H' b (l ++ pP w ns) ob'∧uS H H' b ob ob'):=by
 have hlen:(pP w ns).length=w.length + ((ns.flatMap zBS).length + 1):=by rw [zKu]; simp
 have hns':=hns
 obtain⟨a,cap,rfl,hsp,hrow⟩:=hns
 refine Fn.of_vks h3.c132 (by simp [zMi]) ?_
 simp only [zMi,yBP,yAG,yES,yEm,zUR,zYL,zWg,yDJ]
 simp only [go_sem,Nat.reduceBEq,Nat.reduceAdd,reduceCtorEq]
 refine zP ?_ (yTe h3 L hB w (by omega)) ?_
 ·simp only [go_sem,Nat.reduceEqDiff,reduceCtorEq]
 rintro u H1 ⟨ob1,hB1,hk1⟩
 simp only [go_sem,Nat.reduceEqDiff,Nat.reduceBEq,reduceCtorEq]
 refine yP ns.length 0 (fun k fr' G => fr' = [(2, ⟨true, .val (.pointer (some ⟨b, 0, none⟩))⟩), (9, ⟨true, .val (.slice a ns.length cap)⟩), (10, ⟨true, .val (.int .i64 ns.length)⟩), (11, ⟨true, .val (.int .i64 k)⟩)] ∧
  ∃ ob',pT E G b (l ++ w ++ (ns.take k).flatMap zBS) ob'∧uS H G b ob ob') (Nat.zero_le _) ⟨rfl,ob1,by simpa using hB1,hk1⟩ ?_
 rintro k fr' G hk ⟨rfl,ob2,hB2,hk2⟩
 have hrl:=hB.rows hk2
 have hfl:=qL zBS ns k
 by_cases hlt:k < ns.length
 ·have hd:decide ((k:Int) < (ns.length:Int))=true:=by simpa using hlt
  have hr':=(zG.rowmono hns' hrl)
  obtain⟨a',cap',hv,_,hr'⟩:=hr'
  cases hv
  have hr':=hr' (by omega)
  obtain⟨b0,o,vs,c,wr,ha,hb,hi⟩:=hr'
  subst ha
  have hi1:=(hi k hlt).1
  have hi2:=(hi k hlt).2
  have hsucc:=zDW (α:=Int) zBS hlt
  have hfl':=qL zBS ns (k + 1)
  have hrng:=hr _ (yY (α:=Int) hlt)
  have hd0:(default:Int)=0:=rfl
  rw [hd0] at hsucc hrng
  obtain⟨x,hx⟩:∃ y,ns.getD k 0=y:=⟨_,rfl⟩
  have v0 : vs.getD (o + k) undef = .int .i64 x := by
   have:=zH (j:=0) hi2 (by omega)
   simp only [wH,hx,List.getD_cons_zero,Nat.mul_one,Nat.add_zero] at this
   exact this
  rw [hx] at hsucc hrng
  have hnl:(zBS x).length=(Lib.itoa x).length + 1:=by simp [zBS]
  rw [hsucc,List.length_append] at hfl'
  simp only [hd,hb,v0,Nat.mul_one,go_sem,Nat.reduceEqDiff,Nat.reduceBEq,zC]
  refine⟨⟨by omega,by omega⟩,by omega,?_⟩
  have c47:(47:Int)=((47:UInt8).toNat:Int):=rfl
  refine zP ?_ (ySR h3 L hB2 47 (by simp only [List.length_append]; omega)) ?_
  ·simp only [go_sem,Nat.reduceEqDiff]
  rintro u G1 ⟨ob3,hB3,hk3⟩
  have hrl3:=hrl.trans (hB2.rows hk3)
  simp only [go_sem,Nat.reduceEqDiff,Nat.reduceBEq]
  refine zP ?_ (L.itoa G1 x (h2.rowmono hrl3) hrng.1 hrng.2) ?_
  ·simp only [go_sem,Nat.reduceEqDiff]
  rintro u G2 ⟨rfl,hle⟩
  simp only [go_sem,Nat.reduceBEq]
  refine zP ?_ (yTe h3 L (hB3.keep hle) (Lib.itoa x) (by simp only [List.length_append,List.length_singleton]; omega)) ?_
  ·simp only [go_sem,Nat.reduceEqDiff]
  rintro u G3 ⟨ob4,hB4,hk4⟩
  simp only [go_sem,Nat.reduceEqDiff,Nat.reduceBEq,zC]
  refine⟨hlt,zQ (by omega),ob4,?_,?_⟩
  ·rw [hsucc]
   have e:l ++ w ++ (ns.take k).flatMap zBS ++ [47] ++ Lib.itoa x=l ++ w ++ ((ns.take k).flatMap zBS ++ zBS x):=by simp [zBS]
   rw [← e]; exact hB4
  ·refine(hk2.trans hk3).trans (uS.trans ?_ hk4)
   exact⟨fun c o hc _ _=>hle _ _ hc,fun c hc=>.inl hc.symm⟩
 ·have hd:decide ((k:Int) < (ns.length:Int))=false:=by simpa using hlt
  have:k=ns.length:=by omega
  subst this
  rw [List.take_length] at hB2 hfl
  simp only [hd,go_sem,Nat.reduceEqDiff,Nat.reduceBEq,zC]
  refine zP ?_ (ySR h3 L hB2 47 (by simp only [List.length_append]; omega)) ?_
  ·simp only [go_sem,Nat.reduceEqDiff]
  rintro u G1 ⟨ob3,hB3,hk3⟩
  simp only [go_sem,Nat.reduceBEq]
  refine⟨ob3,?_,hk2.trans hk3⟩
  have e:l ++ w ++ ns.flatMap zBS ++ [47]=l ++ pP w ns:=by rw [zKu]; simp
  rw [← e]; exact hB3
end Go.SL
/- Contract: the text of a signed set (package history). -/
namespace Go.SL
open Go
variable {E:Env} {H:Hp}
theorem ints_at {bs c cap : Nat} {wr : Bool} {ns : List Int} (hb : H bs = some (.row (ns.map fun n => .int .i64 n) c wr)) : xE H (.slice (some ⟨bs, 0, none⟩) ns.length cap) ns := by
 refine zG.lit hb fun i hi=>⟨by simp; omega,?_⟩
 rw [Nat.mul_one,List.drop_eq_getElem_cons (by simpa using hi)]
 simp [wH,hi]
structure yRU (s : zF) : Prop where
 type:I64 s.type
 life:I64 s.life
 data:∀ d∈s.data,I64 d.n∧I64 d.m
 sigs:∀ g∈s.sigs,I64 g.key∧I64 g.alg∧I64 g.from_∧I64 g.till∧0≤g.sum∧g.sum≤18446744073709551615
 nd:s.data.length≤1000000
 ng:s.sigs.length≤1000000
 len:(xW s).length≤800000000
def zAw (s:zF):Bs:=pP s.name [s.type,s.life,s.data.length]
theorem zGz (s:zF):xW s=zAw s ++ (s.data.flatMap jP ++ s.sigs.flatMap kP):=rfl
set_option maxHeartbeats 2000000 in
theorem yWY (h3 : yZ E) (L : zEQ E) (h2 : qC E H) {s : zF} {dv gv : Value} (hd : xC H dv s.data) (hg : xT H gv s.sigs) (hr : yRU s) :
  yD E 127 [.agg #[S s.name,.int .i64 s.type,.int .i64 s.life,dv,gv]] H (S (xW s)):=by
 have hd':=hd
 have hg':=hg
 obtain⟨ad,cd,rfl,_,_⟩:=hd
 obtain⟨ag,cg,rfl,_,_⟩:=hg
 have htl:(xW s).length=(zAw s).length + ((s.data.flatMap jP).length + (s.sigs.flatMap kP).length):=by rw [zGz]; simp
 have hlen:=hr.len
 have hlp:∀ (w:Bs) (ns:List Int),(pP w ns).length=w.length + ((ns.flatMap zBS).length + 1):=fun w ns=>by rw [zKu]; simp
 have hnd:=hr.nd
 have hng:=hr.ng
 refine Fn.of_vks h3.c127 (by simp [zMj]) ?_
 simp only [zMj,zZZ,zXb,zSP,zSO,yAP,yEs,zWI,yCm,zUz,yEh,zNE,zOb,zPh,zPO,zOC,zPw]
 simp only [yRn,go_sem,Nat.reduceLeDiff,Nat.reduceEqDiff,Nat.reduceBEq,Nat.reduceAdd,reduceCtorEq]
 intro b hb
 obtain⟨H1,hH1⟩:∃ y,y=H.put b (.obj (.cells #[.pointer none,.slice none 0 0] (E.gl 181) (0,0))):=⟨_,rfl⟩
 have hle1:H.le H1:=by rw [hH1]; exact zM hb _
 have hB1:pT E H1 b [] none:=⟨_,_,.inl rfl,by rw [hH1]; exact Hp.put_same ..,by simp,rfl,rfl⟩
 rw [← hH1]
 intro bs hbs
 have hk0:uS H1 (H1.put bs (.row [.int .i64 s.type,.int .i64 s.life,.int .i64 s.data.length] 3 true)) b none none:=uS.put hbs
 have hle2:H1.le (H1.put bs (.row [.int .i64 s.type,.int .i64 s.life,.int .i64 s.data.length] 3 true)):=zM hbs _
 have hns:xE (H1.put bs (.row [.int .i64 s.type,.int .i64 s.life,.int .i64 s.data.length] 3 true)) (.slice (some ⟨bs,0,none⟩) 3 3) [s.type,s.life,s.data.length]:=ints_at (ns:=[s.type,s.life,s.data.length]) (c:=3) (wr:=true) (cap:=3) (by rw [Hp.put_same]; rfl)
 refine wU ?_ ?_ (wE h3.e132 (zMN h3 L (hB1.keep hle2) (h2.mono (hle1.trans hle2)) s.name hns ?_ (by simp only [List.length_nil]; show 0 + (zAw s).length≤_; omega) (by simp))) ?_
 ·simp only [go_sem,Nat.reduceEqDiff]
 ·simp only [go_sem,Nat.reduceEqDiff]
 ·intro n hn
  simp only [List.mem_cons,List.not_mem_nil,or_false] at hn
  rcases hn with rfl | rfl | rfl
  ·exact hr.type
  ·exact hr.life
  ·exact⟨by omega,by omega⟩
 rintro u G ⟨ob1,hB2,hk1⟩
 have hB2':pT E G b (zAw s) ob1:=hB2
 have hk1':=hk0.trans hk1
 simp only [go_sem,Nat.reduceLeDiff,Nat.reduceEqDiff,Nat.reduceBEq,Nat.reduceAdd]
 refine yP s.data.length 0 (fun k fr' G => fr' = [(1, ⟨true, .box [S s.name, .int .i64 s.type, .int .i64 s.life, .slice ad s.data.length cd, .slice ag s.sigs.length cg]⟩), (3, ⟨true, .val (.pointer (some ⟨b, 0, none⟩))⟩), (4, ⟨true, .val (.func (.func (E.fn 132)) #[] #[.pointer (some ⟨b, 0, none⟩)])⟩), (28, ⟨true, .val (.slice ad s.data.length cd)⟩), (29, ⟨true, .val (.int .i64 s.data.length)⟩), (30, ⟨true, .val (.int .i64 k)⟩)] ∧
  ∃ ob',pT E G b (zAw s ++ (s.data.take k).flatMap jP) ob'∧uS H1 G b none ob') (Nat.zero_le _) ⟨rfl,ob1,by simpa using hB2',hk1'⟩ ?_
 rintro k fr' G hk ⟨rfl,ob2,hB3,hk2⟩
 have hrl:=(kG.of_le hle1).trans (hB1.rows hk2)
 have hfl:=qL jP s.data k
 by_cases hlt:k < s.data.length
 ·have hdk:decide ((k:Int) < (s.data.length:Int))=true:=by simpa using hlt
  have hr':=zG.rowmono hd' hrl
  obtain⟨a',cap',hv,_,hr'⟩:=hr'
  cases hv
  have hr':=hr' (by omega)
  obtain⟨b0,o,vs,c,wr,ha,hb0,hi⟩:=hr'
  subst ha
  have hi1:=(hi k hlt).1
  have hi2:=(hi k hlt).2
  have hsucc:=zDW jP hlt
  have hfl':=qL jP s.data (k + 1)
  have hrng:=hr.data _ (yY hlt)
  obtain⟨x,hx⟩:∃ y,s.data.getD k default=y:=⟨_,rfl⟩
  rw [hx] at hsucc hrng
  rw [hsucc,List.length_append] at hfl'
  have htx:jP x=pP x.text [x.n,x.m]:=rfl
  simp only [hdk,hb0,hi2,jD,hx,go_sem,Nat.reduceLeDiff,Nat.reduceEqDiff,Nat.reduceBEq,Nat.reduceAdd,zC]
  refine⟨⟨by omega,by omega⟩,hi1,?_⟩
  intro bs hbs
  have hle3:G.le (G.put bs (.row [.int .i64 x.n,.int .i64 x.m] 2 true)):=zM hbs _
  have hns:xE (G.put bs (.row [.int .i64 x.n,.int .i64 x.m] 2 true)) (.slice (some ⟨bs,0,none⟩) 2 2) [x.n,x.m]:=ints_at (ns:=[x.n,x.m]) (c:=2) (wr:=true) (cap:=2) (by rw [Hp.put_same]; rfl)
  refine wU ?_ ?_ (wE h3.e132 (zMN h3 L (hB3.keep hle3) (h2.rowmono (hrl.trans (kG.of_le hle3))) x.text hns ?_ (by rw [← htx]; simp only [List.length_append]; omega) (by simp))) ?_
  ·simp only [go_sem,Nat.reduceEqDiff]
  ·simp only [go_sem,Nat.reduceEqDiff]
  ·intro n hn
   simp only [List.mem_cons,List.not_mem_nil,or_false] at hn
   rcases hn with rfl | rfl
   ·exact hrng.1
   ·exact hrng.2
  rintro u G1 ⟨ob3,hB4,hk3⟩
  simp only [go_sem,Nat.reduceEqDiff,Nat.reduceBEq,zC]
  refine⟨hlt,zQ (by omega),ob3,?_,(hk2.trans (uS.put hbs)).trans hk3⟩
  rw [hsucc,← List.append_assoc]
  exact hB4
 ·have hdk:decide ((k:Int) < (s.data.length:Int))=false:=by simpa using hlt
  have:k=s.data.length:=by omega
  subst this
  rw [List.take_length] at hB3 hfl
  simp only [hdk,go_sem,Nat.reduceLeDiff,Nat.reduceEqDiff,Nat.reduceBEq,Nat.reduceAdd,zC]
  refine yP s.sigs.length 0 (fun k fr' G => fr' = [(3, ⟨true, .val (.pointer (some ⟨b, 0, none⟩))⟩), (4, ⟨true, .val (.func (.func (E.fn 132)) #[] #[.pointer (some ⟨b, 0, none⟩)])⟩), (45, ⟨true, .val (.slice ag s.sigs.length cg)⟩), (46, ⟨true, .val (.int .i64 s.sigs.length)⟩), (47, ⟨true, .val (.int .i64 k)⟩)] ∧
   ∃ ob',pT E G b (zAw s ++ s.data.flatMap jP ++ (s.sigs.take k).flatMap kP) ob'∧uS H1 G b none ob') (Nat.zero_le _) ⟨rfl,ob2,by simpa using hB3,hk2⟩ ?_
  rintro k fr' G hk ⟨rfl,ob2,hB3,hk2⟩
  have hrl:=(kG.of_le hle1).trans (hB1.rows hk2)
  have hfg:=qL kP s.sigs k
  by_cases hlt:k < s.sigs.length
  ·have hdk:decide ((k:Int) < (s.sigs.length:Int))=true:=by simpa using hlt
   have hr':=zG.rowmono hg' hrl
   obtain⟨a',cap',hv,_,hr'⟩:=hr'
   cases hv
   have hr':=hr' (by omega)
   obtain⟨b0,o,vs,c,wr,ha,hb0,hi⟩:=hr'
   subst ha
   have hi1:=(hi k hlt).1
   have hi2:=(hi k hlt).2
   have hsucc:=zDW kP hlt
   have hfl':=qL kP s.sigs (k + 1)
   have hrng:=hr.sigs _ (yY hlt)
   obtain⟨x,hx⟩:∃ y,s.sigs.getD k default=y:=⟨_,rfl⟩
   rw [hx] at hsucc hrng
   rw [hsucc,List.length_append] at hfl'
   have htx:kP x=pP x.zone [x.key,x.alg,x.from_,x.till] ++ pP (Lib.itoa x.sum) []:=rfl
   rw [htx,List.length_append] at hfl'
   simp only [hdk,hb0,hi2,zBi,hx,go_sem,Nat.reduceLeDiff,Nat.reduceEqDiff,Nat.reduceBEq,Nat.reduceAdd,zC]
   refine⟨⟨by omega,by omega⟩,hi1,?_⟩
   intro bs hbs
   have hle3:G.le (G.put bs (.row [.int .i64 x.key,.int .i64 x.alg,.int .i64 x.from_,.int .i64 x.till] 4 true)):=zM hbs _
   have hns:xE (G.put bs (.row [.int .i64 x.key,.int .i64 x.alg,.int .i64 x.from_,.int .i64 x.till] 4 true)) (.slice (some ⟨bs,0,none⟩) 4 4) [x.key,x.alg,x.from_,x.till]:=ints_at (ns:=[x.key,x.alg,x.from_,x.till]) (c:=4) (wr:=true) (cap:=4) (by rw [Hp.put_same]; rfl)
   refine wU ?_ ?_ (wE h3.e132 (zMN h3 L (hB3.keep hle3) (h2.rowmono (hrl.trans (kG.of_le hle3))) x.zone hns ?_ (by simp only [List.length_append]; omega) (by simp))) ?_
   ·simp only [go_sem,Nat.reduceEqDiff]
   ·simp only [go_sem,Nat.reduceEqDiff]
   ·intro n hn
    simp only [List.mem_cons,List.not_mem_nil,or_false] at hn
    rcases hn with rfl | rfl | rfl | rfl
    ·exact hrng.1
    ·exact hrng.2.1
    ·exact hrng.2.2.1
    ·exact hrng.2.2.2.1
   rintro u G1 ⟨ob3,hB4,hk3⟩
   have hk3':=(hk2.trans (uS.put hbs)).trans hk3
   have hrl3:=(kG.of_le hle1).trans (hB1.rows hk3')
   simp only [go_sem,Nat.reduceEqDiff,Nat.reduceBEq,Nat.reduceAdd]
   refine zP ?_ (L.fmtU G1 x.sum (h2.rowmono hrl3) hrng.2.2.2.2.1 hrng.2.2.2.2.2) ?_
   ·simp only [go_sem,Nat.reduceEqDiff]
   rintro u G2 ⟨rfl,hle4⟩
   simp only [go_sem,Nat.reduceBEq]
   have hnil:xE G2 (.slice none 0 0) []:=zG.nil
   refine wU ?_ ?_ (wE h3.e132 (zMN h3 L (hB4.keep hle4) (h2.rowmono (hrl3.trans (kG.of_le hle4))) (Lib.itoa x.sum) hnil (fun n h=>by cases h) (by simp only [List.length_append]; omega) (by simp))) ?_
   ·simp only [go_sem,Nat.reduceEqDiff]
   ·simp only [go_sem,Nat.reduceEqDiff]
   rintro u G3 ⟨ob4,hB5,hk4⟩
   simp only [go_sem,Nat.reduceEqDiff,Nat.reduceBEq,zC]
   refine⟨hlt,zQ (by omega),ob4,?_,hk3'.trans (uS.trans ⟨fun c o hc _ _=>hle4 _ _ hc,fun c hc=>.inl hc.symm⟩ hk4)⟩
   rw [hsucc,htx]
   simp only [← List.append_assoc]
   exact hB5
  ·have hdk:decide ((k:Int) < (s.sigs.length:Int))=false:=by simpa using hlt
   have:k=s.sigs.length:=by omega
   subst this
   rw [List.take_length] at hB3
   have etx:zAw s ++ s.data.flatMap jP ++ s.sigs.flatMap kP=xW s:=by rw [zGz,List.append_assoc]
   rw [etx] at hB3
   have hne:xW s≠[]:=by rw [zGz]; simp [zAw,pP]
   obtain⟨p,v,hp,hbo,hobne,hbuf⟩:=hB3
   cases ob2 with
   | none=>exact absurd hbuf.2 hne
   | some bb =>
    obtain⟨_,cap,c,rfl,hbb,hsz,hle,htk⟩:=hbuf
    simp only [hdk,go_sem,Nat.reduceLeDiff,Nat.reduceEqDiff,Nat.reduceBEq,Nat.reduceAdd,zC]
    refine zP ?_ (L.str G b bb cap (xW s) c p (fun e=>hobne (by rw [e])) hbo hbb hsz hle htk hne (by omega)) ?_
    ·simp only [go_sem,Nat.reduceEqDiff]
    rintro u G1 ⟨rfl,rfl⟩
    simp only [go_sem,Nat.reduceEqDiff,Nat.reduceBEq]
    intro x o hx
    have hxb:x≠b:=by rintro rfl; rw [hb] at hx; cases hx
    have hxbb : x ≠ bb := by
     rintro rfl
     rcases hk2.2 x rfl with h | h
     ·cases h
     ·rw [hle1 _ _ hx] at h; cases h.2
    rw [Hp.del_ne _ hxbb]
    exact hk2.1 x o (hle1 _ _ hx) hxb (by simp)
end Go.SL
/- Plain law: what the reference says of names and sets, and that it is the same. -/
namespace Go.SL
open Go
def zBM (s:Bs):Bool:=zO (fun i=>!(!(bI s i == 45 && decide (i > 0) && decide ((i:Int) < (s.length:Int) - 1)) && (decide (bI s i < 97) || decide (bI s i > 122)) && (decide (bI s i < 48) || decide (bI s i > 57)))) s.length && (decide (1≤s.length) && decide (s.length≤12))
theorem zLf (s : Bs) : zBM s = vT s := by
 rw [Bool.eq_iff_iff]
 unfold zBM vT
 simp only [Bool.and_eq_true,decide_eq_true_eq,yH,Bool.not_eq_true',Bool.or_eq_false_iff,decide_eq_false_iff_not,beq_eq_false_iff_ne,okc]
 constructor
 ·rintro⟨h,h1,h2⟩
  refine⟨⟨⟨⟨by omega,by omega⟩,?_⟩,?_⟩,?_⟩
  ·intro e
   have:=h 0 (by omega)
   rw [e] at this
   simp at this
  ·intro e
   have:=h (s.length - 1) (by omega)
   rw [e] at this
   have h3:¬ ((s.length - 1:Nat):Int) < (s.length:Int) - 1:=by omega
   simp [h3] at this
  ·intro i hi
   have:=h i hi
   by_cases e:bI s i=45
   ·simp [e]
   ·simp [e] at this ⊢
    omega
 ·rintro⟨⟨⟨⟨h1,h2⟩,h3⟩,h4⟩,h5⟩
  refine⟨?_,by omega,by omega⟩
  intro i hi
  have:=h5 i hi
  by_cases e:bI s i=45
  ·have hi0:i≠0:=by rintro rfl; exact h3 e
   have hi1:i≠s.length - 1:=by rintro rfl; exact h4 e
   have a1:decide (i > 0)=true:=by simp; omega
   have a2:decide ((i:Int) < (s.length:Int) - 1)=true:=by simp; omega
   simp [e,a1,a2]
  ·simp [e] at this ⊢
   omega
def xP (s : Bs) : Nat → List Bs
 | 0=>[[]]
 | k + 1=>if s.getD k 0=46 then xP s k ++ [[]] else (xP s k).dropLast ++ [(xP s k).getLastD [] ++ [s.getD k 0]]
def wL (s:Bs):List Bs:=xP s s.length
theorem zGo (s : Bs) : ∀ k, xP s k ≠ []
 | 0=>by simp [xP]
 | k + 1=>by simp only [xP]; split<;>simp
theorem zGK {s t : Bs} : ∀ k, (∀ i, i < k → s.getD i 0 = t.getD i 0) → xP s k = xP t k
 | 0,_=>rfl
 | k + 1, h => by
  simp only [xP]
  rw [h k (by omega),zGK k (fun i hi=>h i (by omega))]
theorem zDL (s : Bs) (l0 : List Bs) (x : Bs) (k : Nat) (hk : xP s k = l0 ++ [x]) : ∀ n, (∀ i, k ≤ i → i < k + n → s.getD i 0 ≠ 46) → xP s (k + n) = l0 ++ [x ++ (List.range n).map (fun i => s.getD (k + i) 0)]
 | 0,_=>by simpa using hk
 | n + 1, h => by
  have ih:=zDL s l0 x k hk n (fun i h1 h2=>h i h1 (by omega))
  have e:k + (n + 1)=(k + n) + 1:=by omega
  rw [e]
  simp only [xP]
  rw [if_neg (h (k + n) (by omega) (by omega)),ih,List.range_succ]
  simp
theorem zFh (s : Bs) (k : Nat) (hk : k ≤ s.length) : (List.range (s.length - k)).map (fun i => s.getD (k + i) 0) = s.drop k := by
 apply List.ext_getElem
 ·simp
 ·intro i h1 h2
  simp at h1 h2
  simp [List.getElem?_eq_getElem (show k + i < s.length by omega)]
theorem zIL : ∀ (n : Nat) (s : Bs), s.length < n → wZ n s = (wL s).reverse
 | 0,s,h=>by omega
 | n + 1, s, h => by
  simp only [wZ]
  cases hg:lastIx 46 s with
  | none =>
   have hs:=(zAx 46 s s.length (Nat.le_refl _)).2 hg
   have:=zDL s [] [] 0 rfl s.length (fun i _ hi=>hs i (by omega))
   rw [Nat.zero_add] at this
   have e:=zFh s 0 (Nat.zero_le _)
   simp only [Nat.sub_zero,Nat.zero_add,List.drop_zero] at e this
   unfold wL
   rw [this,e]
   rfl
  | some i =>
   have hs:=(zAx 46 s s.length (Nat.le_refl _)).1 i hg
   have hgt:∀ j,i < j→j < s.length→s.getD j 0≠46:=lastIxN_gt hg
   have h1:xP s (i + 1)=xP s i ++ [[]]:=by simp only [xP]; rw [if_pos hs.2]
   have h2:=zDL s (xP s i) [] (i + 1) h1 (s.length - (i + 1)) (fun j hj hj2=>hgt j (by omega) (by omega))
   rw [show i + 1 + (s.length - (i + 1))=s.length by omega,zFh s (i + 1) (by omega)] at h2
   have h3 : xP s i = wL (s.take i) := by
    unfold wL
    rw [List.length_take,Nat.min_eq_left (by omega)]
    exact zGK i fun j hj=>by simp [hj]
   show List.drop (i + 1) s :: wZ n (s.take i)=_
   unfold wL at *
   rw [h2,h3,List.nil_append,List.reverse_append,zIL n (s.take i) (by rw [List.length_take]; omega)]
   rfl
where
 lastIxN_gt {c : UInt8} {s : Bs} {i : Nat} (hg : uL c s s.length = some i) : ∀ j, i < j → j < s.length → s.getD j 0 ≠ c := by
  have key : ∀ k, k ≤ s.length → uL c s k = some i → ∀ j, i < j → j < k → s.getD j 0 ≠ c := by
   intro k
   induction k with
   | zero=>intro _ _ j _ h; omega
   | succ k ih =>
    intro hk hh j hj hjk
    simp only [uL] at hh
    split at hh
    ·cases hh; omega
    ·rename_i hne
     by_cases e:j=k
     ·subst e; exact hne
     ·exact ih (by omega) hh j hj (by omega)
  exact key s.length (Nat.le_refl _) hg
def xM (s:Bs):List Bs:=if s = [46] then [] else wL s
theorem zAL (s : Bs) : zW s = (xM s).reverse := by
 unfold zW xM
 split
 ·rfl
 ·exact zIL _ s (by omega)
def vK (s:Bs):Bool:=s == [46] || (decide (s.length≤60) && (zO (fun i=>zBM ((wL s).getD i []) || (i == 0 && (wL s).getD i [] == [42])) (wL s).length && decide ((wL s).length≤8)))
theorem zER : ∀ (l : List Bs) (c : Nat) (w : Bool), uW l c w = true ↔ (l = [] ∨ (w = false ∧ c + l.length ≤ 8 ∧ ∀ i, i < l.length → vT (l.getD i []) = true ∨ (i + 1 = l.length ∧ l.getD i [] = [42])))
 | [],c,w=>by simp [uW]
 | x :: r, c, w => by
  simp only [uW]
  by_cases hw:w=true
  ·simp [hw]
  ·have hw':w=false:=by simpa using hw
   subst hw'
   by_cases hc:c + 1 > 8
   ·have:decide (c + 1 > 8)=true:=by simpa using hc
    simp only [this,Bool.or_true,if_true]
    constructor
    ·intro h; cases h
    ·rintro(h | ⟨_,h,_⟩)
     ·cases h
     ·simp at h; omega
   ·have:decide (c + 1 > 8)=false:=by simpa using hc
    simp only [this,Bool.or_self,Bool.false_eq_true,if_false]
    by_cases hx:x = [42]
    ·subst hx
     have hl:vT [42]=false:=by decide
     simp only [beq_self_eq_true,Bool.not_true,Bool.false_and,Bool.false_eq_true,if_false]
     rw [zER r (c + 1) true]
     constructor
     ·rintro(rfl | ⟨h,_⟩)
      ·refine .inr ⟨trivial,by simp; omega,fun i hi=>?_⟩
       have:i=0:=by simpa using hi
       subst this; exact .inr ⟨rfl,rfl⟩
      ·cases h
     ·rintro(h | ⟨_,h1,h2⟩)
      ·cases h
      ·have:=h2 0 (by simp)
       simp only [List.getD_cons_zero,hl,Bool.false_eq_true,false_or,List.length_cons] at this
       left
       exact List.length_eq_zero_iff.1 (by omega)
    ·have hb:(x == [42])=false:=by simpa using hx
     simp only [hb,Bool.not_false,Bool.true_and]
     by_cases hl:vT x=true
     ·simp only [hl,Bool.not_true,Bool.false_eq_true,if_false]
      rw [zER r (c + 1) false]
      constructor
      ·rintro(rfl | ⟨_,h1,h2⟩)
       ·refine .inr ⟨trivial,by simp; omega,fun i hi=>?_⟩
        have:i=0:=by simpa using hi
        subst this; exact .inl hl
       ·refine .inr ⟨trivial,by simp; omega,fun i hi=>?_⟩
        cases i with
        | zero=>exact .inl hl
        | succ i =>
         rcases h2 i (by simpa using hi) with h | ⟨h,h'⟩
         ·exact .inl (by simpa using h)
         ·exact .inr ⟨by simp; omega,by simpa using h'⟩
      ·rintro(h | ⟨_,h1,h2⟩)
       ·cases h
       ·right
        simp at h1
        refine⟨rfl,by omega,fun i hi=>?_⟩
        rcases h2 (i + 1) (by simpa using hi) with h | ⟨h,h'⟩
        ·exact .inl (by simpa using h)
        ·exact .inr ⟨by simp at h; omega,by simpa using h'⟩
     ·have hl':vT x=false:=by simpa using hl
      simp only [hl',Bool.not_false,if_true]
      constructor
      ·intro h; cases h
      ·rintro(h | ⟨_,h1,h2⟩)
       ·cases h
       ·rcases h2 0 (by simp) with h | ⟨_,h⟩
        ·simp only [List.getD_cons_zero] at h; rw [hl'] at h; cases h
        ·exact absurd (by simpa using h) hx
theorem zBh (s : Bs) : vK s = zK s := by
 unfold vK zK
 by_cases h46:s = [46]
 ·subst h46; rfl
 ·have hb:(s == [46])=false:=by simpa using h46
  rw [hb,Bool.false_or,Bool.false_or]
  congr 1
  have hlab:zW s=(wL s).reverse:=by rw [zAL]; unfold xM; rw [if_neg h46]
  rw [hlab,Bool.eq_iff_iff,zER,Bool.and_eq_true,yH,decide_eq_true_eq]
  have hne:(wL s).reverse≠[]:=by simpa [wL] using zGo s s.length
  have hrev : ∀ i, i < (wL s).length → (wL s).reverse.getD i [] = (wL s).getD ((wL s).length - 1 - i) [] := by
   intro i hi
   rw [List.getD_eq_getElem?_getD,List.getElem?_reverse hi,List.getD_eq_getElem?_getD]
  constructor
  ·rintro⟨h1,h2⟩
   right
   refine⟨rfl,by simp; omega,fun i hi=>?_⟩
   simp only [List.length_reverse] at hi ⊢
   rw [hrev i hi]
   have:=h1 ((wL s).length - 1 - i) (by omega)
   rw [zLf] at this
   simp only [Bool.or_eq_true,Bool.and_eq_true,beq_iff_eq] at this
   rcases this with h | ⟨h,h'⟩
   ·exact .inl h
   ·exact .inr ⟨by omega,h'⟩
  ·rintro(h | ⟨_,h1,h2⟩)
   ·exact absurd h hne
   ·simp only [List.length_reverse] at h1 h2
    refine⟨fun i hi=>?_,by omega⟩
    have:=h2 ((wL s).length - 1 - i) (by omega)
    rw [hrev _ (by omega)] at this
    have e:(wL s).length - 1 - ((wL s).length - 1 - i)=i:=by omega
    rw [e] at this
    rw [zLf]
    simp only [Bool.or_eq_true,Bool.and_eq_true,beq_iff_eq]
    rcases this with h | ⟨h,h'⟩
    ·exact .inl h
    ·exact .inr ⟨by omega,h'⟩
end Go.SL
/- Contracts: small functions of package history; its iterator over copies. -/
namespace Go.SL
open Go
variable {E:Env} {H:Hp}
theorem yTw (hE : zV E) (h3 : yZ E) {s : zF} {dv gv : Value} (hd : xC H dv s.data) (hg : xT H gv s.sigs) (nd : s.data.length ≤ 1000000) (ng : s.sigs.length ≤ 1000000) :
  Fn E.P (E.fn 128) [.agg #[S s.name,.int .i64 s.type,.int .i64 s.life,dv,gv]] H (fun u H'=>∃ dv' gv',u = .agg #[S s.name,.int .i64 s.type,.int .i64 s.life,dv',gv']∧xC H' dv' s.data∧xT H' gv' s.sigs∧H.le H'):=by
 have o1:=zG.one hd
 have o2:=zG.one hg
 refine Fn.of_vks h3.c128 (by simp [zMb]) ?_
 simp only [zMb,zUk,zTp,zTy,yDs]
 simp only [go_sem,Nat.reduceLeDiff,Nat.reduceEqDiff,Nat.reduceBEq,Nat.reduceAdd,reduceCtorEq]
 refine zP ?_ (yWb hE hd (by omega)) ?_
 ·simp only [go_sem,Nat.reduceEqDiff]
 rintro u H1 hcl
 have hd1:xC H1 u s.data:=hcl.at (fun i _=>rfl)
 have hle1:=hcl.le
 have o3:=zG.one hd1
 obtain⟨a1,c1,rfl⟩:=zG.sl hd1
 simp only [go_sem,Nat.reduceLeDiff,Nat.reduceEqDiff,Nat.reduceBEq,Nat.reduceAdd]
 refine zP ?_ (xBi hE (xT.mono hg hle1) (by omega)) ?_
 ·simp only [go_sem,Nat.reduceEqDiff]
 rintro u H2 hcl
 have hg2:xT H2 u s.sigs:=hcl.at (fun i _=>rfl)
 have hle2:=hcl.le
 obtain⟨a2,c2,rfl⟩:=zG.sl hg2
 simp only [go_sem,Nat.reduceEqDiff,Nat.reduceBEq,Nat.reduceAdd]
 exact⟨_,_,rfl,xC.mono hd1 hle2,hg2,hle1.trans hle2⟩
def kO (cs:List yE) (z:Nat→Value) (i:Nat):Value:=.agg #[.int .i64 (cs.getD i default).host,.int .i64 (cs.getD i default).from_,.int .i64 (cs.getD i default).till,S (cs.getD i default).apex,z i]
theorem yZF (h3 : yZ E) {bz c : Nat} {wr : Bool} {zone : Bs} (hb : H bz = some (.row [S zone] c wr)) (cs : List yE) (z : Nat → Value) (i : Nat) (_hz : yW (z i) = true) :
  yD E 125 [kO cs z i,.pointer (some ⟨bz,0,none⟩)] H (.bool ((cs.getD i default).apex == zone)):=by
 unfold kO
 refine Fn.of_vks h3.c125 (by simp [zLM]) ?_
 simp only [zLM,yFa,yDE]
 simp only [hb,go_sem,Nat.reduceLeDiff,Nat.reduceEqDiff,Nat.reduceBEq,Nat.reduceAdd,reduceCtorEq,zC]
def zAQ (ok:yE→Bool) (cs:List yE) (n:Nat):List Nat:=(List.range n).filter fun i=>ok (cs.getD i default)
theorem zKT (ok : yE → Bool) (cs : List yE) (n : Nat) : zAQ ok cs (n + 1) = zAQ ok cs n ++ (if ok (cs.getD n default) then [n] else []) := by
 unfold zAQ
 rw [List.range_succ,List.filter_append]
 congr 1
 by_cases h:ok (cs.getD n default)=true
 ·rw [if_pos h,List.filter_cons_of_pos (p:=fun i=>ok (cs.getD i default)) h]; rfl
 ·rw [if_neg h,List.filter_cons_of_neg (p:=fun i=>ok (cs.getD i default)) h]; rfl
theorem zJD (ok : yE → Bool) (cs : List yE) {k : Nat} (h : ok (cs.getD k default) = true) : ∀ n, k < n → ∃ suf, zAQ ok cs n = zAQ ok cs k ++ k :: suf
 | 0,hk=>by omega
 | n + 1, hk => by
  rw [zKT]
  by_cases e:k=n
  ·subst e; exact⟨[],by rw [if_pos h]⟩
  ·obtain⟨suf,hs⟩:=zJD ok cs h n (by omega)
   exact⟨suf ++ (if ok (cs.getD n default) then [n] else []),by rw [hs]; simp⟩
def itC (ok:yE→Bool) (cs:List yE) (z:Nat→Value):List (List Value):=(zAQ ok cs cs.length).map fun i=>[kO cs z i]
set_option maxHeartbeats 1000000 in
theorem yTf (h3 : yZ E) {G : Hp} {bh bf ch cf : Nat} {wh wf : Bool} {rest : List Value} {vh f a : Value} {cs : List yE} {z : Nat → Value} (hvc : zG G 5 a cs.length (zAf cs z)) (hz : ∀ i, i < cs.length → yW (z i) = true) (hn : cs.length ≤ 1000000)
  (hH:G bh=some (.row (vh :: a :: rest) ch wh)) (hF:G bf=some (.row [f] cf wf)) (ok:yE→Bool)
  (hok:∀ H',G.le H'→∀ i,i < cs.length→FnV E f [kO cs z i] H' (fun u H''=>u = .bool (ok (cs.getD i default))∧H''=H')) :
  Iter E (.func (.func (E.fn 131)) #[] #[.pointer (some ⟨bh,0,none⟩),.pointer (some ⟨bf,0,none⟩)]) G (fun xs=>xs=itC ok cs z):=by
 intro y Inv Stop H hG hy h0
 refine wE h3.e131 ?_
 show Fn E.P (E.fn 131) [y,.pointer (some ⟨bh,0,none⟩),.pointer (some ⟨bf,0,none⟩)] H _
 have hle0:=hG _ _ h0
 have hvc0:=hvc
 obtain⟨aa,cap,rfl,hsp,hr⟩:=hvc
 have hH0:=hle0 _ _ hH
 refine Fn.of_vks h3.c131 (by simp [zNm]) ?_
 simp only [zNm,zYg,zWU,zTY,zZw,zTb]
 simp only [hH0,go_sem,Nat.reduceLeDiff,Nat.reduceEqDiff,Nat.reduceBEq,Nat.reduceAdd,reduceCtorEq]
 refine yP cs.length 0 (fun k fr' H' => fr' = [(0, ⟨true, .val y⟩), (2, ⟨true, .val (.pointer (some ⟨bf, 0, none⟩))⟩), (7, ⟨true, .val (.slice aa cs.length cap)⟩), (8, ⟨true, .val (.int .i64 cs.length)⟩), (9, ⟨true, .val (.int .i64 k)⟩)] ∧
  Inv ((zAQ ok cs k).map fun i=>[kO cs z i]) H') (Nat.zero_le _) ⟨rfl,h0⟩ ?_
 rintro k fr' H' hk ⟨rfl,hinv⟩
 have hle:=hG _ _ hinv
 by_cases hlt:k < cs.length
 ·have hd:decide ((k:Int) < (cs.length:Int))=true:=by simpa using hlt
  have hr':=hr (by omega)
  obtain⟨b,o,vs,c,wr,ha,hb,hi⟩:=hr'
  subst ha
  have hb1:=hle _ _ hb
  have hi1:=(hi k hlt).1
  have hi2:=(hi k hlt).2
  have hzk:=hz k hlt
  have hF1:=hle _ _ hF
  have hsucc:=zKT ok cs k
  simp only [hd,hb1,hi2,zAf,hzk,hF1,go_sem,Nat.reduceEqDiff,Nat.reduceBEq,Nat.reduceAdd,reduceCtorEq,zC]
  refine⟨⟨by omega,by omega⟩,hi1,?_⟩
  refine wU ?_ ?_ (hok H' hle k hlt) ?_
  ·simp only [go_sem,Nat.reduceEqDiff,reduceCtorEq]
  ·simp only [go_sem,Nat.reduceEqDiff,reduceCtorEq]
  rintro w H'' ⟨rfl,rfl⟩
  cases hokk:ok (cs.getD k default) with
  | true =>
   obtain⟨suf,hsuf⟩:=zJD ok cs hokk cs.length hlt
   rw [hokk,if_pos rfl] at hsucc
   simp only [go_sem,Nat.reduceEqDiff,Nat.reduceBEq,Nat.reduceAdd,reduceCtorEq]
   refine zBg (by intro x h; cases h) (by intro f a h; cases h) ?_ ?_ ?_
   ·simp only [go_sem,Nat.reduceEqDiff,reduceCtorEq]
   ·simp only [go_sem,Nat.reduceEqDiff,reduceCtorEq]
   refine wU ?_ ?_ (hy ((zAQ ok cs k).map fun i=>[kO cs z i]) [kO cs z k] H'' ⟨suf.map fun i=>[kO cs z i],by simp only [itC,hsuf,List.map_append,List.map_cons]⟩ hinv) ?_
   ·simp only [go_sem,Nat.reduceEqDiff,reduceCtorEq]
   ·simp only [go_sem,Nat.reduceEqDiff,reduceCtorEq]
   rintro v H3 (⟨rfl,hi3⟩ | ⟨rfl,hs⟩)
   ·simp only [go_sem,Nat.reduceEqDiff,Nat.reduceBEq,reduceCtorEq,zC]
    refine⟨hlt,zQ (by omega),?_⟩
    rw [hsucc,List.map_append]; exact hi3
   ·simp only [go_sem,Nat.reduceEqDiff,Nat.reduceBEq,reduceCtorEq,zC]
    exact .inr ⟨_,hs⟩
  | false =>
   rw [hokk] at hsucc
   simp only [go_sem,Nat.reduceEqDiff,Nat.reduceBEq,Nat.reduceAdd,reduceCtorEq]
   refine zCJ (by intro x h; cases h) (by intro f a h; cases h) ?_ ?_ ?_
   ·simp only [go_sem,Nat.reduceEqDiff,reduceCtorEq]
   ·simp only [go_sem,Nat.reduceEqDiff,reduceCtorEq]
   simp only [undef,↓yB,go_sem,Nat.reduceEqDiff,Nat.reduceBEq,reduceCtorEq,zC]
   refine⟨hlt,zQ (by omega),?_⟩
   rw [hsucc]; simpa using hinv
 ·have hd:decide ((k:Int) < (cs.length:Int))=false:=by simpa using hlt
  have:k=cs.length:=by omega
  subst this
  simp only [hd,go_sem,Nat.reduceEqDiff,Nat.reduceBEq,Nat.reduceAdd,reduceCtorEq,zC]
  exact .inl ⟨_,rfl,hinv⟩
theorem yTy (h3 : yZ E) {cs : List Value} (hl : cs.length = 9) (_h1 : cs.all yW = true) {f : Value} (hf : f.cells = #[f]) :
  Fn E.P (E.fn 126) [.agg cs.toArray, f] H (fun u H' => ∃ bh bf, H bh = none ∧ H bf = none ∧ bf ≠ bh ∧ u = .func (.func (E.fn 131)) #[] #[.pointer (some ⟨bh, 0, none⟩), .pointer (some ⟨bf, 0, none⟩)] ∧
   H'=(H.put bh (.row cs 9 true)).put bf (.row [f] 1 true)):=by
 refine Fn.of_vks h3.c126 (by simp [zNf]) ?_
 simp only [zNf,zVp,yCK]
 simp only [go_sem,Nat.reduceEqDiff,Nat.reduceBEq,reduceCtorEq]
 intro b hb b1 hb1
 have hne:b1≠b:=by rintro rfl; rw [Hp.put_same] at hb1; cases hb1
 have hb2:H b1=none:=by rwa [Hp.put_ne _ _ hne] at hb1
 refine⟨b,b1,hb,hb2,hne,rfl,?_⟩
 change (H.put b (.row cs cs.length true)).put b1 (.row f.cells.toList f.cells.toList.length true)=_
 rw [hf,hl]; rfl
end Go.SL
