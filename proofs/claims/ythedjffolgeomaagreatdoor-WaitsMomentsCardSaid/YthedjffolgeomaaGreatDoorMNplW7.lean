/- Plain laws: ranges of a valid zone's numbers; what the copies of one zone publish. -/
import Derived.Test.YthedjffolgeomaaGreatDoorMNplX32
import Derived.Test.YthedjffolgeomaaGreatDoorMNplX33
import Derived.Test.YthedjffolgeomaaGreatDoorMNplX7
import Derived.Test.YthedjffolgeomaaGreatDoorMNplT29
import Derived.Test.YthedjffolgeomaaGreatDoorMNplX25
import Derived.Test.YthedjffolgeomaaGreatDoorMNplT14
namespace Go.SL
open Go
theorem zSv : ∀ k : Nat, 0 ≤ (rules.getD k default).leastN ∧ (rules.getD k default).mostN ≤ 1000000 ∧ 0 ≤ (rules.getD k default).leastM ∧ (rules.getD k default).mostM ≤ 1000000 := by
 intro k
 rcases Nat.lt_or_ge k 9 with h | h
 ·have:k=0∨k=1∨k=2∨k=3∨k=4∨k=5∨k=6∨k=7∨k=8:=by omega
  rcases this with rfl | rfl | rfl | rfl | rfl | rfl | rfl | rfl | rfl<;>decide
 ·have:rules.getD k default=default:=by rw [List.getD_eq_getElem?_getD,List.getElem?_eq_none (show rules.length≤k from h)]; rfl
  rw [this]; decide
theorem zAD {l : Bs} (h : zK l = true) : l.length ≤ 60 := by
 unfold zK at h
 simp only [Bool.or_eq_true,Bool.and_eq_true,decide_eq_true_eq,beq_iff_eq] at h
 rcases h with rfl | h
 ·simp
 ·exact h.1
theorem yFW {k : Int} {s : Bs} (h : uV k s = true) : s.length ≤ 60 := by
 unfold uV at h
 split at h
 ·simp only [Bool.and_eq_true] at h; exact zAD h.1
 ·split at h
  ·exact zAD h
  ·split at h
   ·unfold jH zZ at h
    simp only [Bool.and_eq_true,Bool.not_eq_true',Bool.or_eq_false_iff,Bool.not_eq_false',decide_eq_true_eq] at h
    have:=h.1.1.1.2
    omega
   ·have:s = []:=by simpa using h
    subst this; simp
theorem zJR {k : Nat} {d : xN} (h : wB (rules.getD k default) d = true) : 0 ≤ d.n ∧ d.n ≤ 1000000 ∧ 0 ≤ d.m ∧ d.m ≤ 1000000 ∧ d.text.length ≤ 60 := by
 unfold wB zZ at h
 simp only [Bool.and_eq_true,Bool.not_eq_true',Bool.or_eq_false_iff,Bool.not_eq_false',decide_eq_true_eq] at h
 have hb:=zSv k
 have ht:=yFW h.2
 obtain⟨⟨⟨⟨h1,h2⟩,h3,h4⟩,_⟩,_⟩:=h
 refine⟨by omega,by omega,by omega,by omega,ht⟩
theorem jO {n:Int} (h0 : -1000000000≤n) (h1:n≤1000000000):(Lib.itoa n).length≤21:=Lib.itoa_length_le n (by omega) (by omega)
theorem ySp {n : Int} (h0 : 0 ≤ n) (h1 : n ≤ 18446744073709551615) : (Lib.itoa n).length ≤ 21 := by
 obtain⟨u,rfl⟩:∃ u:Nat,n=u:=⟨n.toNat,by omega⟩
 rw [Lib.itoa_nonneg,Lib.decDigits_length]
 have:=Lib.nDigits_le20 u (by omega)
 omega
theorem zCz {α : Type} (f : α → Bs) {B : Nat} : ∀ (l : List α), (∀ x ∈ l, (f x).length ≤ B) → (l.flatMap f).length ≤ l.length * B
 | [],_=>by simp
 | x :: r, h => by
  have h1:=h x List.mem_cons_self
  have h2:=zCz f r fun y hy=>h y (List.mem_cons_of_mem _ hy)
  simp only [List.flatMap_cons,List.length_append,List.length_cons,Nat.succ_mul]
  omega
theorem zFO {w : Bs} {ns : List Int} (h : ∀ n ∈ ns, (Lib.itoa n).length ≤ 21) : (pP w ns).length ≤ w.length + ns.length * 22 + 1 := by
 have:=zCz (fun n=>(47:UInt8) :: Lib.itoa n) (B:=22) ns fun n hn=>by have:=h n hn; simp; omega
 unfold pP
 simp only [List.length_append,List.length_cons,List.length_nil]
 omega
def zBV (ss:List zF):Prop:=∀ s∈ss,∀ g∈s.sigs,0≤g.sum∧g.sum≤18446744073709551615
theorem yQv {apex : Bs} {ss : List zF} (h : xG apex ss = true) (hs : zBV ss) : ∀ s ∈ ss, yRU s := by
 intro s hsm
 have hap:=zGf h
 unfold xG at h
 simp only [Bool.and_eq_true] at h
 obtain⟨⟨⟨⟨⟨h1,_⟩,_⟩,_⟩,_⟩,h6⟩:=h
 obtain⟨i,hi,e⟩:=qR hsm
 unfold vU at h1
 simp only [Bool.and_eq_true] at h1
 have hi1:=yH.1 h1.2 i hi
 simp only [Bool.and_eq_true,yG,e] at hi1
 have hr:=hi1.1.1
 unfold wQ zZ at hr
 simp only [Bool.and_eq_true,decide_eq_true_eq] at hr
 obtain⟨⟨⟨⟨⟨⟨r1,r2⟩,r3⟩,r4⟩,_⟩,_⟩,r5⟩:=hr
 have hdat : ∀ d ∈ s.data, 0 ≤ d.n ∧ d.n ≤ 1000000 ∧ 0 ≤ d.m ∧ d.m ≤ 1000000 ∧ d.text.length ≤ 60 := by
  intro d hd
  obtain⟨j,hj,ej⟩:=qR hd
  have:=yH.1 r5 j hj
  simp only [Bool.and_eq_true,ej] at this
  exact zJR this.1
 unfold zEv at h6
 have hi6:=yH.1 h6 i hi
 simp only [yG,e,uY,Bool.and_eq_true,decide_eq_true_eq] at hi6
 have hsig : ∀ g ∈ s.sigs, g.zone.length ≤ 60 ∧ 1 ≤ g.key ∧ g.key ≤ 1000000 ∧ 1 ≤ g.alg ∧ g.alg ≤ 3 ∧ 0 ≤ g.from_ ∧ g.from_ ≤ g.till ∧ g.till ≤ 20000000 := by
  intro g hg
  obtain⟨j,hj,ej⟩:=qR hg
  have:=yH.1 hi6.2 j hj
  simp only [zAd,ej,Bool.and_eq_true,Bool.not_eq_true',Bool.or_eq_false_iff,decide_eq_false_iff_not,bne_eq_false_iff_eq] at this
  obtain⟨⟨⟨⟨⟨⟨hz,k1⟩,k2⟩,k3⟩,k4⟩,⟨⟨h1,h2⟩,h3⟩⟩,_⟩:=this
  refine⟨?_,by omega,by omega,by omega,by omega,by omega,by omega,by omega⟩
  rw [hz]; exact zAD hap
 have hnl:=zAD r1
 refine⟨⟨by omega,by omega⟩,⟨by omega,by omega⟩,fun d hd=>?_,fun g hg=>?_,by omega,by omega,?_⟩
 ·have:=hdat d hd
  exact⟨⟨by omega,by omega⟩,by omega,by omega⟩
 ·have h2:=hsig g hg
  have h3:=hs s hsm g hg
  exact⟨⟨by omega,by omega⟩,⟨by omega,by omega⟩,⟨by omega,by omega⟩,⟨by omega,by omega⟩,h3.1,h3.2⟩
 ·have t1 := zFO (w := s.name) (ns := [s.type, s.life, s.data.length]) (by
   intro n hn
   simp only [List.mem_cons,List.not_mem_nil,or_false] at hn
   rcases hn with rfl | rfl | rfl
   ·exact jO (by omega) (by omega)
   ·exact jO (by omega) (by omega)
   ·exact jO (by omega) (by omega))
  have t2 := zCz jP (B := 200) s.data fun d hd => by
   have h2:=hdat d hd
   have := zFO (w := d.text) (ns := [d.n, d.m]) (by
    intro n hn
    simp only [List.mem_cons,List.not_mem_nil,or_false] at hn
    rcases hn with rfl | rfl
    ·exact jO (by omega) (by omega)
    ·exact jO (by omega) (by omega))
   unfold jP
   simp only [List.length_cons,List.length_nil] at this
   omega
  have t3 := zCz kP (B := 300) s.sigs fun g hg => by
   have h2:=hsig g hg
   have h3:=hs s hsm g hg
   have u1 := zFO (w := g.zone) (ns := [g.key, g.alg, g.from_, g.till]) (by
    intro n hn
    simp only [List.mem_cons,List.not_mem_nil,or_false] at hn
    rcases hn with rfl | rfl | rfl | rfl
    ·exact jO (by omega) (by omega)
    ·exact jO (by omega) (by omega)
    ·exact jO (by omega) (by omega)
    ·exact jO (by omega) (by omega))
   have u2:=zFO (w:=Lib.itoa g.sum) (ns:=[]) (by intro n hn; cases hn)
   have u3:=ySp h3.1 h3.2
   unfold kP
   simp only [List.length_cons,List.length_nil,List.length_append] at u1 u2 ⊢
   omega
  unfold xW
  simp only [List.length_cons,List.length_nil,List.length_append] at t1 ⊢
  omega
theorem zPA {h : yA} (hv : yO h = true) (hs : zJq h.copies) (hq : ∀ c ∈ h.copies, zBV c.sets) : zME h.copies := by
 have hk:=qQ.1 hv
 exact⟨hs.num,fun i hi=>Nat.le_trans (hs.sets _ (yY hi)) (by omega),fun i hi=>yQv (hk.copy _ (yY hi)).2.2.2.2.2 (hq _ (yY hi))⟩
end Go.SL
/- Plain law: moments: what holds of all times that are not among them. -/
namespace Go.SL
open Go
theorem yOA {κ ν : Type} [DecidableEq κ] (k x : κ) (v : ν) (l : List (κ × ν)) : x ∈ (xU k v l).map (·.1) ↔ x = k ∨ x ∈ l.map (·.1) := by
 induction l with
 | nil=>simp [xU]
 | cons e l ih =>
  obtain⟨k',v'⟩:=e
  simp only [xU]
  split
  ·rename_i h
   subst h
   simp
  ·simp only [List.map_cons,List.mem_cons,ih]
   constructor
   ·rintro(h | h | h)
    ·exact .inr (.inl h)
    ·exact .inl h
    ·exact .inr (.inr h)
   ·rintro(h | h | h)
    ·exact .inr (.inl h)
    ·exact .inl h
    ·exact .inr (.inr h)
theorem yRB (e t x : Int) (M : List (Int × Bool)) : x ∈ (zFK e t M).map (·.1) ↔ (x = t ∧ 0 ≤ t ∧ t ≤ e) ∨ x ∈ M.map (·.1) := by
 unfold zFK
 by_cases h:0≤t∧t≤e
 ·have hb:(decide (t≥0) && decide (t≤e))=true:=by simp; omega
  rw [if_pos hb,yOA]
  constructor
  ·rintro(h' | h')
   ·exact .inl ⟨h',h.1,h.2⟩
   ·exact .inr h'
  ·rintro(h' | h')
   ·exact .inl h'.1
   ·exact .inr h'
 ·have hb:¬ (decide (t≥0) && decide (t≤e))=true:=by simp; omega
  rw [if_neg hb]
  constructor
  ·exact .inr
  ·rintro(h' | h')
   ·exact absurd h'.2 h
   ·exact h'
theorem yGV {e t : Int} {M : List (Int × Bool)} (h : (M.map (·.1)).Nodup) : ((zFK e t M).map (·.1)).Nodup := by
 unfold zFK
 split
 ·exact zDk h
 ·exact h
theorem zGj (e:Int) (ts:List Int) (M:List (Int × Bool)) (k:Nat):zBX e ts M (k + 1)=zFK e (ts.getD k 0) (zBX e ts M k):=rfl
theorem zQE (e : Int) (ts : List Int) (M : List (Int × Bool)) (x : Int) : ∀ k, k ≤ ts.length → (x ∈ (zBX e ts M k).map (·.1) ↔ (∃ i, i < k ∧ x = ts.getD i 0 ∧ 0 ≤ x ∧ x ≤ e) ∨ x ∈ M.map (·.1))
 | 0,_=>by simp [zBX]
 | k + 1, hk => by
  rw [zGj,yRB,zQE e ts M x k (by omega)]
  constructor
  ·rintro(⟨h1,h2,h3⟩ | ⟨i,hi,h⟩ | h)
   ·exact .inl ⟨k,by omega,h1,by omega,by omega⟩
   ·exact .inl ⟨i,by omega,h⟩
   ·exact .inr h
  ·rintro(⟨i,hi,h1,h2,h3⟩ | h)
   ·by_cases e':i=k
    ·subst e'; exact .inl ⟨h1,by omega,by omega⟩
    ·exact .inr (.inl ⟨i,by omega,h1,h2,h3⟩)
   ·exact .inr (.inr h)
theorem zIC {e : Int} {ts : List Int} {M : List (Int × Bool)} (h : (M.map (·.1)).Nodup) : ∀ k, ((zBX e ts M k).map (·.1)).Nodup
 | 0=>h
 | k + 1=>by rw [zGj]; exact yGV (zIC h k)
theorem zFB (e : Int) (ts : List Int) (M : List (Int × Bool)) (x : Int) : x ∈ (zCg e ts M).map (·.1) ↔ (x ∈ ts ∧ 0 ≤ x ∧ x ≤ e) ∨ x ∈ M.map (·.1) := by
 unfold zCg
 rw [zQE e ts M x _ (Nat.le_refl _)]
 constructor
 ·rintro(⟨i,hi,h1,h2⟩ | h)
  ·refine .inl ⟨?_,h2⟩
   rw [h1,List.getD_eq_getElem?_getD,List.getElem?_eq_getElem hi]; exact List.getElem_mem hi
  ·exact .inr h
 ·rintro(⟨h1,h2⟩ | h)
  ·obtain⟨i,hi,rfl⟩:=List.getElem_of_mem h1
   exact .inl ⟨i,hi,by rw [List.getD_eq_getElem?_getD,List.getElem?_eq_getElem hi]; rfl,h2⟩
  ·exact .inr h
def zAS (e:Int) (M M':List (Int × Bool)):Prop:=(∀ x∈M.map (·.1),x∈M'.map (·.1))∧(∀ x∈M'.map (·.1),x∈M.map (·.1)∨0≤x∧x≤e)∧((M.map (·.1)).Nodup→(M'.map (·.1)).Nodup)
theorem zAS.refl (e:Int) (M:List (Int × Bool)):zAS e M M:=⟨fun _ h=>h,fun _ h=>.inl h,fun h=>h⟩
theorem zAS.trans {e : Int} {M M' M'' : List (Int × Bool)} (h : zAS e M M') (k : zAS e M' M'') : zAS e M M'' :=
 ⟨fun x hx=>k.1 x (h.1 x hx),fun x hx=>(k.2.1 x hx).elim (fun h'=>h.2.1 x h') .inr,fun hn=>k.2.2 (h.2.2 hn)⟩
theorem zCM (e : Int) (ts : List Int) (M : List (Int × Bool)) : zAS e M (zCg e ts M) :=
 ⟨fun x hx=>(zFB e ts M x).2 (.inr hx),fun x hx=>((zFB e ts M x).1 hx).elim (fun h=>.inr h.2) .inl,fun h=>zIC h _⟩
theorem zKO (e : Int) (cs : List yE) (M : List (Int × Bool)) : ∀ k, zAS e M (zCV e cs M k)
 | 0=>zAS.refl e M
 | k + 1=>(zKO e cs M k).trans (zCM _ _ _)
theorem zEs (e : Int) (l : List zN) (M : List (Int × Bool)) : ∀ k, zAS e M (kZ e l M k)
 | 0=>zAS.refl e M
 | k + 1=>(zEs e l M k).trans (zCM _ _ _)
theorem zLc (e d : Int) (s : zF) (M : List (Int × Bool)) : zAS e M (zKb e d s M) := by
 unfold zKb
 split
 ·exact zCM _ _ _
 ·exact zAS.refl _ _
theorem zLi (h : yA) (x : Bs × (zF × List zN)) (M : List (Int × Bool)) : zAS h.end_ M (zGF h x M) :=
 ((zEs _ _ _ _).trans (zEs _ _ _ _)).trans (zLc _ _ _ _)
theorem zGy (h : yA) (A : yU) (M : List (Int × Bool)) : ∀ k, zAS h.end_ M (zBj h A M k)
 | 0=>zAS.refl _ M
 | k + 1=>(zGy h A M k).trans (zLi _ _ _)
theorem zQv {e : Int} {cs : List yE} {M : List (Int × Bool)} {i : Nat} {x : Int} (hx : x = (cs.getD i default).from_ ∨ x = (cs.getD i default).till) (h0 : 0 ≤ x) (h1 : x ≤ e) : ∀ k, i < k → x ∈ (zCV e cs M k).map (·.1)
 | 0,h=>by omega
 | k + 1, h => by
  by_cases e':i=k
  ·subst e'
   exact(zFB _ _ _ _).2 (.inl ⟨by simpa using hx,h0,h1⟩)
  ·exact(zCM _ _ _).1 x (zQv hx h0 h1 k (by omega))
theorem zQf {e : Int} {l : List zN} {M : List (Int × Bool)} {i : Nat} {x : Int} (hx : x = (l.getD i default).from_ ∨ x = (l.getD i default).till) (h0 : 0 ≤ x) (h1 : x ≤ e) : ∀ k, i < k → x ∈ (kZ e l M k).map (·.1)
 | 0,h=>by omega
 | k + 1, h => by
  by_cases e':i=k
  ·subst e'
   exact(zFB _ _ _ _).2 (.inl ⟨by simpa using hx,h0,h1⟩)
  ·exact(zCM _ _ _).1 x (zQf hx h0 h1 k (by omega))
theorem zLD {e : Int} {l : List zN} {M : List (Int × Bool)} {s : zN} {x : Int} (hs : s ∈ l) (hx : x = s.from_ ∨ x = s.till) (h0 : 0 ≤ x) (h1 : x ≤ e) : x ∈ (kZ e l M l.length).map (·.1) := by
 obtain⟨i,hi,rfl⟩:=List.getElem_of_mem hs
 refine zQf (i:=i) ?_ h0 h1 _ hi
 rw [List.getD_eq_getElem?_getD,List.getElem?_eq_getElem hi]; exact hx
theorem yRv {h : yA} {x : Bs × (zF × List zN)} {M : List (Int × Bool)} {s : zN} {t : Int} (hs : s ∈ yC x.2.2 ∨ s ∈ xY h.drift x) (hx : t = s.from_ ∨ t = s.till) (h0 : 0 ≤ t) (h1 : t ≤ h.end_) : t ∈ (zGF h x M).map (·.1) := by
 refine(zLc _ _ _ _).1 t ?_
 rcases hs with hs | hs
 ·exact(zEs _ _ _ _).1 t (zLD hs hx h0 h1)
 ·exact zLD hs hx h0 h1
theorem zIf {h : yA} {A : yU} {M : List (Int × Bool)} {i : Nat} {s : zN} {t : Int} (hs : s ∈ yC (A.getD i default).2.2 ∨ s ∈ xY h.drift (A.getD i default)) (hx : t = s.from_ ∨ t = s.till) (h0 : 0 ≤ t) (h1 : t ≤ h.end_) : ∀ k, i < k → t ∈ (zBj h A M k).map (·.1)
 | 0,hk=>by omega
 | k + 1, hk => by
  by_cases e':i=k
  ·subst e'; exact yRv hs hx h0 h1
  ·exact(zLi _ _ _).1 t (zIf hs hx h0 h1 k (by omega))
theorem zSw (h : yA) : (∀ x ∈ (moments h).map (·.1), 0 ≤ x ∧ x ≤ h.end_) ∧ ((moments h).map (·.1)).Nodup := by
 have ha:=(zKO h.end_ h.copies [] h.copies.length).trans (zGy h (uH h) _ (uH h).length)
 refine⟨fun x hx=>?_,ha.2.2 List.nodup_nil⟩
 rcases ha.2.1 x hx with h' | h'
 ·cases h'
 ·exact h'
theorem yJz {h : yA} {t : Int} (ht : 1 ≤ t) (he : t < h.end_) (hn : t ∉ (moments h).map (·.1)) {c : yE} (hc : c ∈ h.copies) : (decide (c.from_ ≤ t - 1) && decide (t - 1 < c.till)) = (decide (c.from_ ≤ t) && decide (t < c.till)) := by
 obtain⟨i,hi,rfl⟩:=List.getElem_of_mem hc
 have key : ∀ x, x = h.copies[i].from_ ∨ x = h.copies[i].till → 0 ≤ x → x ≤ h.end_ → x ∈ (moments h).map (·.1) := fun x hx h0 h1 =>
  (zGy _ _ _ _).1 x (zQv (i:=i) (by rw [List.getD_eq_getElem?_getD,List.getElem?_eq_getElem hi]; exact hx) h0 h1 _ hi)
 have n1:t≠h.copies[i].from_:=fun e=>hn (key t (.inl e) (by omega) (by omega))
 have n2:t≠h.copies[i].till:=fun e=>hn (key t (.inr e) (by omega) (by omega))
 rw [Bool.eq_iff_iff]
 simp only [Bool.and_eq_true,decide_eq_true_eq]
 omega
theorem yMW {h : yA} {t : Int} (ht : 1 ≤ t) (he : t < h.end_) (hn : t ∉ (moments h).map (·.1)) {i : Nat} (hi : i < (uH h).length) :
  hasB (yC ((uH h).getD i default).2.2) (t - 1)=hasB (yC ((uH h).getD i default).2.2) t∧hasB (xY h.drift ((uH h).getD i default)) (t - 1)=hasB (xY h.drift ((uH h).getD i default)) t:=by
 have key : ∀ s, s ∈ yC ((uH h).getD i default).2.2 ∨ s ∈ xY h.drift ((uH h).getD i default) → t ≠ s.from_ ∧ t ≠ s.till := fun s hs =>
  ⟨fun e=>hn (zIf hs (.inl e) (by omega) (by omega) _ hi),fun e=>hn (zIf hs (.inr e) (by omega) (by omega) _ hi)⟩
 have hl : ∀ l : List zN, (∀ s ∈ l, t ≠ s.from_ ∧ t ≠ s.till) → hasB l (t - 1) = hasB l t := by
  intro l hl
  rw [Bool.eq_iff_iff,zOW,zOW]
  constructor
  ·rintro⟨s,hs,h1,h2⟩; have:=hl s hs; exact⟨s,hs,by omega,by omega⟩
  ·rintro⟨s,hs,h1,h2⟩; have:=hl s hs; exact⟨s,hs,by omega,by omega⟩
 exact⟨hl _ fun s hs=>key s (.inl hs),hl _ fun s hs=>key s (.inr hs)⟩
theorem zSh {ns : List Int} (hn : ns.Nodup) {l : List Int} (hl : l = ns.mergeSort fun x y => decide (x ≤ y)) : l.Perm ns ∧ l.Pairwise fun a b => a < b := by
 subst hl
 have hp:=List.mergeSort_perm ns fun x y=>decide (x≤y)
 refine⟨hp,?_⟩
 have hs:=List.pairwise_mergeSort (le:=fun x y:Int=>decide (x≤y)) (fun a b c h1 h2=>by simp at *; omega) (fun a b=>by simp; omega) ns
 have hn':(ns.mergeSort fun x y=>decide (x≤y)).Nodup:=hp.nodup_iff.2 hn
 refine(hs.and hn').imp ?_
 intro a b h
 have h1:a≤b:=by simpa using h.1
 have h2:a≠b:=h.2
 omega
end Go.SL
/- Contracts: a time in stretches. -/
namespace Go.SL
open Go
variable {E:Env} {H:Hp}
def zDb (l:List zN) (t:Int) (i:Nat):Bool:=decide ((l.getD i default).from_≤t) && decide (t < (l.getD i default).till)
set_option maxHeartbeats 1000000 in
theorem zLT (h4 : xH E) {v : Value} {l : List zN} (t : Int) (hv : wP H v l) (hn : l.length ≤ 1000000000) : yD E 187 [v, .int .i64 t] H (.bool (hasB l t)) := by
 obtain⟨a,cap,rfl,hsp,hr⟩:=hv
 refine Fn.of_vks h4.c187 (by simp [zMe]) ?_
 simp only [zMe,zZi,zVn,yBV,yDu,zTl,yAp,zTq]
 obtain⟨q0,hq0⟩:∃ y,y=hasB l t:=⟨_,rfl⟩
 rw [← hq0]
 have hq1:q0=vA (zDb l t) l.length:=hq0
 simp only [go_sem,Nat.reduceEqDiff,Nat.reduceBEq,reduceCtorEq]
 refine zS l.length 0 (fun k=>[(0,⟨true,.val (.slice a l.length cap)⟩),(1,⟨true,.val (.int .i64 t)⟩),(5,⟨true,.val (.int .i64 k)⟩)]) (fun k=>vA (zDb l t) k=false) (Nat.zero_le _) rfl rfl ?_
 intro k hk hP
 by_cases hlt:k < l.length
 ·have hdl:decide ((k:Int) < (l.length:Int))=true:=by simpa using hlt
  obtain⟨b,o,vs,c,wr,rfl,hb,hi⟩:=hr (by omega)
  have hi1:=(hi k hlt).1
  have hi2:=(hi k hlt).2
  have v0:=zH hi2 (j:=0) (by omega)
  have v1:=zH hi2 (j:=1) (by omega)
  simp only [yN,List.getD_cons_zero,List.getD_cons_succ,Nat.add_zero] at v0 v1
  have hna:zDb l t k=(decide ((l.getD k default).from_≤t) && decide (t < (l.getD k default).till)):=rfl
  cases h1:decide ((l.getD k default).from_≤t)
  ·have ht:vA (zDb l t) (k + 1)=false:=by show(vA (zDb l t) k || zDb l t k)=false; rw [hP,hna,h1]; rfl
   simp only [hdl,hb,v0,v1,h1,ht,↓yB,go_sem,Nat.reduceEqDiff,Nat.reduceBEq,reduceCtorEq,zC]
   exact⟨⟨by omega,by omega⟩,by omega,hlt,zQ (by omega)⟩
  ·cases h2:decide (t < (l.getD k default).till)
   ·have ht:vA (zDb l t) (k + 1)=false:=by show(vA (zDb l t) k || zDb l t k)=false; rw [hP,hna,h1,h2]; rfl
    simp only [hdl,hb,v0,v1,h1,h2,ht,go_sem,Nat.reduceEqDiff,Nat.reduceBEq,reduceCtorEq,zC]
    exact⟨⟨by omega,by omega⟩,by omega,⟨by omega,by omega⟩,by omega,hlt,zQ (by omega)⟩
   ·have hf:q0=true:=by rw [hq1]; exact zHb hlt (by rw [hna,h1,h2]; rfl)
    simp only [hdl,hb,v0,v1,h1,h2,hf,go_sem,Nat.reduceEqDiff,Nat.reduceBEq,reduceCtorEq,zC]
    exact⟨⟨by omega,by omega⟩,by omega,⟨by omega,by omega⟩,by omega⟩
 ·have hdl:decide ((k:Int) < (l.length:Int))=false:=by simpa using hlt
  have:k=l.length:=by omega
  subst this
  rw [hP] at hq1
  simp only [hdl,hq1,go_sem,Nat.reduceEqDiff,Nat.reduceBEq,reduceCtorEq,zC]
end Go.SL
/- The law WaitsLongest, out of the contracts. -/
namespace Go.SL
open Go
variable {E:Env} {H:Hp}
end Go.SL
/- Contract: the example of the law. -/
namespace Go.SL
open Go
variable {E:Env} {H:Hp}
def zGP:List zF:=[⟨[120],2,0,[⟨[97],0,0⟩],[]⟩,⟨[120],4,0,[⟨[],1,0⟩],[]⟩,⟨[119,46,120],1,10,[⟨[],7,0⟩],[]⟩]
def exH:yA:=⟨[⟨[97],1,0⟩],[⟨0,0,20,[120],zGP⟩],[46],6,0,[⟨[],1,1⟩],[1],2,50⟩
set_option maxRecDepth 8000 in
set_option maxHeartbeats 4000000 in
theorem zJB (h4 : xH E) : Fn E.P (E.fn 189) [] H (fun u H' => vS H' u exH ∧ H.le H') := by
 refine Fn.of_vks h4.c189 (by simp [zLS]) ?_
 simp only [zLS,yBH,yEV,zZk,yDc,yCQ]
 simp only [go_sem,Nat.reduceLeDiff,Nat.reduceEqDiff,Nat.reduceBEq,Nat.reduceAdd,reduceCtorEq]
 intro c1 k1 c2 k2 c3 k3 c4 k4 c5 k5 c6 k6 c7 k7 c8 k8
 obtain⟨G1,e1⟩:∃ y,y=Hp.put H c1 (.row [.string ⟨#[]⟩,.int .i64 7,.int .i64 0] 3 true):=⟨_,rfl⟩
 rw [← e1] at k2 k3 k4 k5 k6 k7 k8 ⊢
 have l1:Hp.le H G1:=by rw [e1]; exact zM k1 _
 have f1:G1 c1=some (.row [.string ⟨#[]⟩,.int .i64 7,.int .i64 0] 3 true):=by rw [e1,Hp.put_same]
 obtain⟨G2,e2⟩:∃ y,y=Hp.put G1 c2 (.row [.string ⟨#[97]⟩,.int .i64 0,.int .i64 0] 3 true):=⟨_,rfl⟩
 rw [← e2] at k3 k4 k5 k6 k7 k8 ⊢
 have l2:Hp.le G1 G2:=by rw [e2]; exact zM k2 _
 have f2:G2 c2=some (.row [.string ⟨#[97]⟩,.int .i64 0,.int .i64 0] 3 true):=by rw [e2,Hp.put_same]
 obtain⟨G3,e3⟩:∃ y,y=Hp.put G2 c3 (.row [.string ⟨#[]⟩,.int .i64 1,.int .i64 0] 3 true):=⟨_,rfl⟩
 rw [← e3] at k4 k5 k6 k7 k8 ⊢
 have l3:Hp.le G2 G3:=by rw [e3]; exact zM k3 _
 have f3:G3 c3=some (.row [.string ⟨#[]⟩,.int .i64 1,.int .i64 0] 3 true):=by rw [e3,Hp.put_same]
 obtain⟨G4,e4⟩:∃ y,y=Hp.put G3 c4 (.row [.string ⟨#[120]⟩,.int .i64 2,.int .i64 0,.slice (some ⟨c2,0,none⟩) 1 1,.slice none 0 0,.string ⟨#[120]⟩,.int .i64 4,.int .i64 0,.slice (some ⟨c3,0,none⟩) 1 1,.slice none 0 0,.string ⟨#[119,46,120]⟩,.int .i64 1,.int .i64 10,.slice (some ⟨c1,0,none⟩) 1 1,.slice none 0 0] 15 true):=⟨_,rfl⟩
 rw [← e4] at k5 k6 k7 k8 ⊢
 have l4:Hp.le G3 G4:=by rw [e4]; exact zM k4 _
 have f4:G4 c4=some (.row [.string ⟨#[120]⟩,.int .i64 2,.int .i64 0,.slice (some ⟨c2,0,none⟩) 1 1,.slice none 0 0,.string ⟨#[120]⟩,.int .i64 4,.int .i64 0,.slice (some ⟨c3,0,none⟩) 1 1,.slice none 0 0,.string ⟨#[119,46,120]⟩,.int .i64 1,.int .i64 10,.slice (some ⟨c1,0,none⟩) 1 1,.slice none 0 0] 15 true):=by rw [e4,Hp.put_same]
 obtain⟨G5,e5⟩:∃ y,y=Hp.put G4 c5 (.row [.string ⟨#[]⟩,.int .i64 1,.int .i64 1] 3 true):=⟨_,rfl⟩
 rw [← e5] at k6 k7 k8 ⊢
 have l5:Hp.le G4 G5:=by rw [e5]; exact zM k5 _
 have f5:G5 c5=some (.row [.string ⟨#[]⟩,.int .i64 1,.int .i64 1] 3 true):=by rw [e5,Hp.put_same]
 obtain⟨G6,e6⟩:∃ y,y=Hp.put G5 c6 (.row [.string ⟨#[97]⟩,.int .i64 1,.int .i64 0] 3 true):=⟨_,rfl⟩
 rw [← e6] at k7 k8 ⊢
 have l6:Hp.le G5 G6:=by rw [e6]; exact zM k6 _
 have f6:G6 c6=some (.row [.string ⟨#[97]⟩,.int .i64 1,.int .i64 0] 3 true):=by rw [e6,Hp.put_same]
 obtain⟨G7,e7⟩:∃ y,y=Hp.put G6 c7 (.row [.int .i64 0,.int .i64 0,.int .i64 20,.string ⟨#[120]⟩,.slice (some ⟨c4,0,none⟩) 3 3] 5 true):=⟨_,rfl⟩
 rw [← e7] at k8 ⊢
 have l7:Hp.le G6 G7:=by rw [e7]; exact zM k7 _
 have f7:G7 c7=some (.row [.int .i64 0,.int .i64 0,.int .i64 20,.string ⟨#[120]⟩,.slice (some ⟨c4,0,none⟩) 3 3] 5 true):=by rw [e7,Hp.put_same]
 obtain⟨G8,e8⟩:∃ y,y=Hp.put G7 c8 (.row [.int .i64 1] 1 true):=⟨_,rfl⟩
 rw [← e8]
 have l8:Hp.le G7 G8:=by rw [e8]; exact zM k8 _
 have f8:G8 c8=some (.row [.int .i64 1] 1 true):=by rw [e8,Hp.put_same]
 have q1:=l8 _ _ (l7 _ _ (l6 _ _ (l5 _ _ (l4 _ _ (l3 _ _ (l2 _ _ (f1)))))))
 have q2:=l8 _ _ (l7 _ _ (l6 _ _ (l5 _ _ (l4 _ _ (l3 _ _ (f2))))))
 have q3:=l8 _ _ (l7 _ _ (l6 _ _ (l5 _ _ (l4 _ _ (f3)))))
 have q4:=l8 _ _ (l7 _ _ (l6 _ _ (l5 _ _ (f4))))
 have q5:=l8 _ _ (l7 _ _ (l6 _ _ (f5)))
 have q6:=l8 _ _ (l7 _ _ (f6))
 have q7:=l8 _ _ (f7)
 have one3 : ∀ {b c : Nat} {x y z : Value}, G8 b = some (.row [x, y, z] c true) → ∀ (row : Nat → List Value), row 0 = [x, y, z] → zG G8 3 (.slice (some ⟨b, 0, none⟩) 1 1) 1 row := fun hb row hr => zG.lit hb fun i hi => by
  obtain rfl:i=0:=by omega
  exact⟨Nat.le_refl _,hr.symm⟩
 have hsets : xL G8 (.slice (some ⟨c4, 0, none⟩) 3 3) zGP := by
  refine⟨fun i=>if i=0 then .slice (some ⟨c2,0,none⟩) 1 1 else if i=1 then .slice (some ⟨c3,0,none⟩) 1 1 else .slice (some ⟨c1,0,none⟩) 1 1,fun _=>.slice none 0 0,zG.lit q4 fun i hi=>?_,fun i hi=>?_⟩
  ·have:i=0∨i=1∨i=2:=by change i < 3 at hi; omega
   rcases this with rfl | rfl | rfl
   ·exact⟨Nat.le_of_ble_eq_true rfl,rfl⟩
   ·exact⟨Nat.le_of_ble_eq_true rfl,rfl⟩
   ·exact⟨Nat.le_of_ble_eq_true rfl,rfl⟩
  ·have:i=0∨i=1∨i=2:=by change i < 3 at hi; omega
   rcases this with rfl | rfl | rfl
   ·exact⟨one3 q2 _ rfl,zG.nil⟩
   ·exact⟨one3 q3 _ rfl,zG.nil⟩
   ·exact⟨one3 q1 _ rfl,zG.nil⟩
 refine⟨⟨_,_,_,_,rfl,one3 q6 _ rfl,⟨fun _=>.slice (some ⟨c4,0,none⟩) 3 3,zG.lit q7 fun i hi=>?_,fun i hi=>?_⟩,one3 q5 _ rfl,zG.lit f8 fun i hi=>?_⟩,?_⟩
 ·obtain rfl:i=0:=by change i < 1 at hi; omega
  exact⟨Nat.le_of_ble_eq_true rfl,rfl⟩
 ·obtain rfl:i=0:=by change i < 1 at hi; omega
  exact hsets
 ·obtain rfl:i=0:=by change i < 1 at hi; omega
  exact⟨Nat.le_of_ble_eq_true rfl,rfl⟩
 ·exact((((((l1.trans l2).trans l3).trans l4).trans l5).trans l6).trans l7).trans l8
end Go.SL
/- Contracts: Earliest refused; the law's head. -/
namespace Go.SL
open Go
variable {E:Env} {H:Hp}
set_option maxRecDepth 8000 in
set_option maxHeartbeats 4000000 in
theorem yVf (hE : zV E) (h2 : wC E) (h3 : yZ E) (hB : qT E H) {v : Value} {h : yA} (hh : vS H v h) (hn : h.copies.length ≤ 12) (from_ limit : Int) (hl : h.end_ ≤ limit) :
  yD E 177 [v,.agg #[.slice none 0 0],.slice none 0 0,.int .i64 from_,.int .i64 limit] H (.tuple #[.int .i64 0,.bool false,.int .i64 1]):=by
 have hh0:=hh
 obtain⟨vh,vc,vd,vi,rfl,g1,g2,g3,g5⟩:=hh
 have o1:=zG.one g1
 have o2:=g2.one
 have o3:=zG.one g3
 have o5:=zG.one g5
 refine Fn.of_vks h3.c177 (by simp [zMZ]) ?_
 simp only [zMZ,yBF]
 simp only [go_sem,Nat.reduceEqDiff,Nat.reduceBEq,Nat.reduceAdd,reduceCtorEq]
 intro b5 k5 b6 k6 b7 k7 b10 k10 b11 k11 b12 k12
 obtain⟨H1,e1⟩:∃ y,y=H.put b5 (.row [vh,vc,S h.aname,.int .i64 h.atype,.int .i64 h.alife,vd,vi,.int .i64 h.drift,.int .i64 h.end_] 9 true):=⟨_,rfl⟩
 rw [← e1] at k6 k7 k10 k11 k12 ⊢
 obtain⟨H2,e2⟩:∃ y,y=H1.put b6 (.row [.slice none 0 0] 1 true):=⟨_,rfl⟩
 rw [← e2] at k7 k10 k11 k12 ⊢
 obtain⟨H3,e3⟩:∃ y,y=H2.put b7 (.row [.slice none 0 0] 1 true):=⟨_,rfl⟩
 rw [← e3] at k10 k11 k12 ⊢
 obtain⟨H4,e4⟩:∃ y,y=H3.put b10 (.row [.int .i64 0] 1 true):=⟨_,rfl⟩
 rw [← e4] at k11 k12 ⊢
 obtain⟨H5,e5⟩:∃ y,y=H4.put b11 (.row [.bool false] 1 true):=⟨_,rfl⟩
 rw [← e5] at k12 ⊢
 obtain⟨H6,e6⟩:∃ y,y=H5.put b12 (.row [.int .i64 0] 1 true):=⟨_,rfl⟩
 rw [← e6]
 have l1:H.le H1:=by rw [e1]; exact zM k5 _
 have l2:H1.le H2:=by rw [e2]; exact zM k6 _
 have l3:H2.le H3:=by rw [e3]; exact zM k7 _
 have l4:H3.le H4:=by rw [e4]; exact zM k10 _
 have l5:H4.le H5:=by rw [e5]; exact zM k11 _
 have l6:H5.le H6:=by rw [e6]; exact zM k12 _
 have f5:H6 b5=_:=l6 _ _ (l5 _ _ (l4 _ _ (l3 _ _ (l2 _ _ (by rw [e1]; exact Hp.put_same ..)))))
 have f6:H6 b6=_:=l6 _ _ (l5 _ _ (l4 _ _ (l3 _ _ (by rw [e2]; exact Hp.put_same ..))))
 have f10:H6 b10=_:=l6 _ _ (l5 _ _ (by rw [e4]; exact Hp.put_same ..))
 have f11:H6 b11=_:=l6 _ _ (by rw [e5]; exact Hp.put_same ..)
 have f12:H6 b12=some (.row [.int .i64 0] 1 true):=by rw [e6]; exact Hp.put_same ..
 simp only [yAy,f6,go_sem,Nat.reduceLeDiff,Nat.reduceEqDiff,Nat.reduceBEq,Nat.reduceAdd]
 intro bs ks
 obtain⟨H7,e7⟩:∃ y,y=H6.put bs (.row [.int .i64 from_,.slice none 0 0] 2 true):=⟨_,rfl⟩
 rw [← e7]
 have l7:H6.le H7:=by rw [e7]; exact zM ks _
 have f7:H7 bs=some (.row [.int .i64 from_,.slice none 0 0] 2 true):=by rw [e7,Hp.put_same]
 have hle:H.le H7:=(((((l1.trans l2).trans l3).trans l4).trans l5).trans l6).trans l7
 have hst : zBt H7 (.slice (some ⟨bs, 0, none⟩) 1 1) [⟨from_, []⟩] := by
  refine⟨fun _=>.slice none 0 0,zG.lit f7 fun i hi=>?_,fun i hi=>?_⟩
  ·obtain rfl:i=0:=by change i < 1 at hi; omega
   exact⟨Nat.le_of_ble_eq_true rfl,rfl⟩
  ·obtain rfl:i=0:=by change i < 1 at hi; omega
   exact pL.nil0
 have hcall:=yZX hE (hB.mono hle) (hh0.mono hle) hst (zHC hE h2 (hB.mono hle) (hh0.mono hle) hn)
 have g5:=l7 _ _ f5
 have g10:=l7 _ _ f10
 have g11:=l7 _ _ f11
 have g12:=l7 _ _ f12
 have hd:decide (limit≥h.end_)=true:=by rw [decide_eq_true_eq]; exact hl
 have nn:∀ {P:Hp} {a c:Nat} {o:xD},P a=some o→P c=none→a≠c:=fun h1 h2=>by rintro rfl; rw [h1] at h2; cases h2
 have m4:H4 b10=some (.row [.int .i64 0] 1 true):=by rw [e4]; exact Hp.put_same ..
 have m5:H5 b11=some (.row [.bool false] 1 true):=by rw [e5]; exact Hp.put_same ..
 have n1:b10≠b11:=nn m4 k11
 have n2:b10≠b12:=nn (l5 _ _ m4) k12
 have n3:b11≠b12:=nn m5 k12
 have kk10 : H b10 = none := by
  cases hq:H b10 with
  | none=>rfl
  | some o=>rw [((l1.trans l2).trans l3) _ _ hq] at k10; cases k10
 have kk11 : H b11 = none := by
  cases hq:H b11 with
  | none=>rfl
  | some o=>rw [(((l1.trans l2).trans l3).trans l4) _ _ hq] at k11; cases k11
 have kk12 : H b12 = none := by
  cases hq:H b12 with
  | none=>rfl
  | some o=>rw [((((l1.trans l2).trans l3).trans l4).trans l5) _ _ hq] at k12; cases k12
 simp only [yBd,g5,go_sem,Nat.reduceEqDiff,Nat.reduceBEq,Nat.reduceAdd]
 refine zE _ (by simp only [go_sem]) (fun _=>⟨by simp only [go_sem,Nat.reduceEqDiff],hcall⟩) ?_
 obtain⟨q,hq⟩:∃ q,q=(yO h && zCi h.end_ h.hosts.length [⟨from_,[]⟩]):=⟨_,rfl⟩
 rw [← hq]
 have fin:H.le (((H7.put b10 (.row [.int .i64 0] 1 true)).put b11 (.row [.bool false] 1 true)).put b12 (.row [.int .i64 1] 1 true)):=zI (zI (zI hle kk10 _) kk11 _) kk12 _
 cases q
 ·simp only [zHr,g5,g10,g11,g12,yL,n1,n2,n3,Ne.symm n1,Ne.symm n2,Ne.symm n3,↓yQ,go_sem,Nat.reduceEqDiff,Nat.reduceBEq,Nat.reduceAdd,zC]
  exact fin
 ·cases hlf:decide (limit < from_)
  ·simp only [zHr,hlf,hd,g5,g10,g11,g12,yL,n1,n2,n3,Ne.symm n1,Ne.symm n2,Ne.symm n3,go_sem,Nat.reduceEqDiff,Nat.reduceBEq,Nat.reduceAdd,zC]
   exact fin
  ·simp only [zHr,hlf,hd,g5,g10,g11,g12,yL,n1,n2,n3,Ne.symm n1,Ne.symm n2,Ne.symm n3,↓yQ,go_sem,Nat.reduceEqDiff,Nat.reduceBEq,Nat.reduceAdd,zC]
   exact fin
end Go.SL
/- Contract: the law's head. -/
namespace Go.SL
open Go
variable {E:Env} {H:Hp}
theorem zIg:yO exH=true:=by decide
theorem zLr:zII exH [120] 20=13∧zHp exH [120] 20=0:=by decide
theorem zLl:zII exH [120] 33=0∧zHp exH [120] 33=0:=by decide
theorem yRO:zHp exH [121] 20=4:=by decide
theorem zJp:moments exH = [(0,true),(20,true),(24,true),(33,true)]:=by decide +kernel
def yTo:yA:=⟨[],[],[],0,0,[],[],0,0⟩
theorem zDd:yO yTo=false:=by decide
theorem zDE : zJq exH.copies := ⟨by decide, fun c hc => by
 have:c = ⟨0,0,20,[120],zGP⟩:=by simpa [exH] using hc
 subst this
 decide⟩
theorem yTX : ∀ c ∈ exH.copies, zBV c.sets := by
 intro c hc
 have:c = ⟨0,0,20,[120],zGP⟩:=by simpa [exH] using hc
 subst this
 intro s hs g hg
 have : s.sigs = [] := by
  simp only [zGP,List.mem_cons,List.not_mem_nil,or_false] at hs
  rcases hs with rfl | rfl | rfl<;>rfl
 rw [this] at hg; cases hg
theorem zJP {ns l : List Int} (hp : ns.Perm l) (hl : l.Pairwise (fun a b => a ≤ b)) : xJ ltInt ns.length ns = l := by
 have h1:(xJ ltInt ns.length ns).Perm l:=(zBK (lt:=ltInt) ns.length ns (Nat.le_refl _)).trans hp
 have h2:=zGx (key:=fun a:Int=>a) ns.length ns (Nat.le_refl _)
 have hlen:(xJ ltInt ns.length ns).length=ns.length:=vC _ _ _
 have h3 : (xJ ltInt ns.length ns).Pairwise (fun a b => a ≤ b) := by
  rw [List.pairwise_iff_getElem]
  intro i j hi hj hij
  have hadj:∀ i,i + 1 < ns.length→(xJ ltInt ns.length ns).getD i default≤(xJ ltInt ns.length ns).getD (i + 1) default:=h2
  have : ∀ d, i + d < ns.length → (xJ ltInt ns.length ns).getD i default ≤ (xJ ltInt ns.length ns).getD (i + d) default := by
   intro d
   induction d with
   | zero=>intro _; exact Int.le_refl _
   | succ d ih =>
    intro hd
    exact Int.le_trans (ih (by omega)) (hadj (i + d) (by omega))
  have h4:=this (j - i) (by omega)
  rw [show i + (j - i)=j by omega] at h4
  rw [List.getD_eq_getElem?_getD,List.getElem?_eq_getElem hi,List.getD_eq_getElem?_getD,List.getElem?_eq_getElem hj] at h4
  exact h4
 exact List.Perm.eq_of_pairwise (fun a b _ _ h1 h2=>Int.le_antisymm h1 h2) h3 hl h1
set_option maxRecDepth 8000 in
set_option maxHeartbeats 4000000 in
theorem yYq (hE : zV E) (h2 : wC E) (h3 : yZ E) (h4 : xH E) (L : zEQ E) (L4 : zJK E) (hB : qT E H) (hB2 : qC E H) : yD E 183 [] H (.bool true) := by
 have hz:=zIG zIg zDE
 have hp:=zPA zIg zDE yTX
 have m1:(moments exH).length≤12:=by rw [zJp]; decide
 refine Fn.of_vks h4.c183 (by simp [zMc]) ?_
 simp only [zMc,yBX,yAL,zWK,zXe,zWy,zUq,yEA]
 simp only [go_sem]
 refine zP (by simp only [go_sem]) (zJB h4) ?_
 rintro v1 H1 ⟨hh1,l1⟩
 simp only [go_sem]
 refine zP (by simp only [go_sem]) (yGN hE h2 h3 L (zPf hE h2 h3 L4) (by omega) (hB.mono l1) (hB2.mono l1) hh1 (by decide) (fun _=>hp) (fun _=>hz) (fun _=>m1)) ?_
 rintro u H2 ⟨l2,_,hg⟩
 obtain⟨w,ns,hu,hperm,hints⟩:=hg zIg
 subst hu
 rw [zJp] at hperm
 rw [zJP hperm (by decide)] at hints
 clear hg
 have le2:=l1.trans l2
 simp only [go_sem,Nat.reduceLT,Nat.reduceEqDiff,Nat.reduceBEq,Nat.reduceAdd]
 refine zP (by simp only [go_sem]) (zJB h4) ?_
 rintro v2 H3 ⟨hh3,l3⟩
 have le3:=le2.trans l3
 simp only [go_sem,Nat.reduceBEq]
 refine zP (by simp only [go_sem,Nat.reduceEqDiff]) (Fn.same (yFK hE h2 h4 (hB.mono le3) hh3 (by decide) (fun i hi=>Nat.le_trans (zDE.sets _ (yY hi)) (by omega)) [120] 20)) ?_
 rintro u H4 ⟨rfl,rfl⟩
 rw [zLr.1,zLr.2]
 simp only [go_sem,Nat.reduceLT,Nat.reduceEqDiff,Nat.reduceBEq,Nat.reduceAdd]
 refine zP (by simp only [go_sem]) (zJB h4) ?_
 rintro v3 H5 ⟨hh5,l5⟩
 have le5:=le3.trans l5
 simp only [go_sem,Nat.reduceBEq]
 refine zP (by simp only [go_sem,Nat.reduceEqDiff]) (Fn.same (yFK hE h2 h4 (hB.mono le5) hh5 (by decide) (fun i hi=>Nat.le_trans (zDE.sets _ (yY hi)) (by omega)) [120] 33)) ?_
 rintro u H6 ⟨rfl,rfl⟩
 rw [zLl.1,zLl.2]
 simp only [go_sem,Nat.reduceLT,Nat.reduceEqDiff,Nat.reduceBEq,Nat.reduceAdd]
 refine zP (by simp only [go_sem]) (zJB h4) ?_
 rintro v4 H7 ⟨hh7,l7⟩
 have le7:=le5.trans l7
 simp only [go_sem,Nat.reduceBEq]
 refine zP (by simp only [go_sem,Nat.reduceEqDiff]) (Fn.same (yFK hE h2 h4 (hB.mono le7) hh7 (by decide) (fun i hi=>Nat.le_trans (zDE.sets _ (yY hi)) (by omega)) [121] 20)) ?_
 rintro u H8 ⟨rfl,rfl⟩
 rw [yRO]
 simp only [go_sem,Nat.reduceLT,Nat.reduceEqDiff,Nat.reduceBEq,Nat.reduceAdd]
 refine zP (by simp only [go_sem]) (zJB h4) ?_
 rintro v5 H9 ⟨hh9,l9⟩
 have le9:=le7.trans l9
 simp only [go_sem,Nat.reduceBEq]
 refine zP (by simp only [go_sem,Nat.reduceEqDiff]) (Fn.same (yVf hE h2 h3 (hB.mono le9) hh9 (by decide) 5 50 (by decide))) ?_
 rintro u H10 ⟨rfl,rfl⟩
 simp only [go_sem,Nat.reduceLT,Nat.reduceEqDiff,Nat.reduceBEq,Nat.reduceAdd]
 have hh0 : vS H10 (.agg #[.slice none 0 0, .slice none 0 0, .string ⟨#[]⟩, .int .i64 0, .int .i64 0, .slice none 0 0, .slice none 0 0, .int .i64 0, .int .i64 0]) yTo :=
  ⟨_,_,_,_,rfl,zG.nil,⟨fun _=>undef,zG.nil,fun i hi=>by cases hi⟩,zG.nil,zG.nil⟩
 refine zP (by simp only [go_sem,Nat.reduceEqDiff]) (yGN hE h2 h3 L (zPf hE h2 h3 L4) (by omega) (hB.mono le9) (hB2.mono le9) hh0 (by decide) (fun h=>by rw [zDd] at h; cases h) (fun h=>by rw [zDd] at h; cases h) (fun h=>by rw [zDd] at h; cases h)) ?_
 rintro u H11 ⟨l11,hbad,_⟩
 rw [hbad zDd]
 have le11:=le9.trans l11
 have hi11:=zG.mono hints (l3.trans (l5.trans (l7.trans (l9.trans l11))))
 obtain⟨aw,cw,rfl⟩:=zG.sl hi11
 simp only [go_sem,Nat.reduceLT,Nat.reduceEqDiff,Nat.reduceBEq,Nat.reduceAdd]
 simp only [zUP,go_sem,Nat.reduceEqDiff,Nat.reduceBEq,zC]
 refine zBg (by intro x h; cases h) (by intro f a h; cases h) ?_ ?_ ?_
 ·simp only [go_sem,Nat.reduceEqDiff]
 ·simp only [go_sem,Nat.reduceEqDiff]
 simp only [go_sem,Nat.reduceLeDiff,Nat.reduceBEq,Nat.reduceAdd]
 intro b hb
 have leb:H11.le (H11.put b (.row [.int .i64 0,.int .i64 20,.int .i64 24,.int .i64 33] 4 true)):=zM hb _
 have hb4 : xE (H11.put b (.row [.int .i64 0, .int .i64 20, .int .i64 24, .int .i64 33] 4 true)) (.slice (some ⟨b, 0, none⟩) 4 4) [0, 20, 24, 33] := by
  refine⟨_,4,rfl,(fun h=>by cases h),fun _=>⟨b,0,_,4,true,rfl,Hp.put_same _ _ _,fun i hi=>?_⟩⟩
  have h4:i=0∨i=1∨i=2∨i=3:=by simp only [List.length_cons,List.length_nil] at hi; omega
  rcases h4 with rfl | rfl | rfl | rfl<;>exact⟨by decide,rfl⟩
 have hnum:=yZs h4 (zG.mono hi11 leb) hb4 (by decide) (by decide)
 have hnt:zFJ (List.map (fun x:Int × Bool=>x.fst) [(0,true),(20,true),(24,true),(33,true)]) [0,20,24,33]=true:=by decide
 rw [hnt] at hnum
 have leF:=le11.trans leb
 generalize H11.put b (.row [.int .i64 0,.int .i64 20,.int .i64 24,.int .i64 33] 4 true)=H12 at *
 refine zE _ (by simp only [go_sem,Nat.reduceEqDiff]) (fun hg=>⟨by simp only [go_sem,Nat.reduceEqDiff] at hg ⊢,hnum⟩) ?_
 simp only [go_sem,Nat.reduceEqDiff,Nat.reduceBEq,reduceCtorEq]
 exact leF
end Go.SL
