/- Plain laws: the sets of a valid zone differ; what a zone of a valid history publishes. -/
import Derived.Test.YthedjffolgeomaaGreatDoorANplX32
import Derived.Lib.ItoaLen
import Derived.Test.YthedjffolgeomaaGreatDoorANplT28
import Derived.Deep.Slices
import Derived.ChangeSame
import Derived.RowKit
import Derived.RowKit3
import Derived.Lib.LaidTab
namespace Go.SL
open Go
theorem zCI : ∀ x : Bs, Op.bytesLess x x = false
 | []=>rfl
 | a :: x=>by simp [Op.bytesLess,zCI x]
theorem zFV : ∀ {x y z : Bs}, Op.bytesLess x y = true → Op.bytesLess y z = true → Op.bytesLess x z = true
 | _,[],_,h1,_=>by simp [Op.bytesLess] at h1
 | [],_ :: _,[],_,h2=>by simp [Op.bytesLess] at h2
 | [],_ :: _,_ :: _,_,_=>rfl
 | _ :: _,_ :: _,[],_,h2=>by simp [Op.bytesLess] at h2
 | a :: x, b :: y, c :: z, h1, h2 => by
  simp only [Op.bytesLess,Bool.or_eq_true,Bool.and_eq_true,decide_eq_true_eq,beq_iff_eq] at h1 h2 ⊢
  rcases h1 with h1 | ⟨rfl,h1⟩
  ·rcases h2 with h2 | ⟨rfl,h2⟩
   ·exact .inl (UInt8.lt_trans h1 h2)
   ·exact .inl h1
  ·rcases h2 with h2 | ⟨rfl,h2⟩
   ·exact .inl h2
   ·exact .inr ⟨rfl,zFV h1 h2⟩
theorem vJ {x y : Bs} : wJ x y = 0 ↔ x = y := by
 unfold wJ
 constructor
 ·intro h
  split at h
  ·cases h
  ·split at h
   ·assumption
   ·cases h
 ·rintro rfl
  rw [zCI,if_neg (by simp),if_pos rfl]
theorem zAs {x y : Bs} : wJ x y < 0 ↔ Op.bytesLess x y = true := by
 unfold wJ
 constructor
 ·intro h
  split at h
  ·assumption
  ·split at h<;>omega
 ·intro h
  rw [if_pos h]; omega
theorem zAj (x:Bs) (r:List Bs) (y:Bs) (r':List Bs):uG (x :: r) (y :: r')=if wJ x y≠0 then wJ x y else uG r r':=rfl
theorem zFt : ∀ {x y z : List Bs}, uG x y < 0 → uG y z < 0 → uG x z < 0
 | [],_,_,_,_=>by simp [uG]
 | _ :: _,[],_,h1,_=>by simp [uG] at h1
 | _ :: _,_ :: _,[],_,h2=>by simp [uG] at h2
 | a :: x, b :: y, c :: z, h1, h2 => by
  rw [zAj] at h1 h2 ⊢
  by_cases e1:wJ a b=0
  ·have:=vJ.1 e1
   subst this
   rw [if_neg (by simpa using e1)] at h1
   by_cases e2:wJ a c=0
   ·rw [if_neg (by simpa using e2)] at h2 ⊢
    exact zFt h1 h2
   ·rw [if_pos e2] at h2 ⊢
    exact h2
  ·rw [if_pos e1] at h1
   have l1:=zAs.1 h1
   by_cases e2:wJ b c=0
   ·have:=vJ.1 e2
    subst this
    rw [if_pos e1]; exact h1
   ·rw [if_pos e2] at h2
    have l3:=zAs.2 (zFV l1 (zAs.1 h2))
    rw [if_pos (by omega)]; exact l3
theorem zDg : ∀ {x y : List Bs}, uG x y < 0 → uG y x < 0 → x = y
 | [],[],_,_=>rfl
 | [],_ :: _,_,h2=>by simp [uG] at h2
 | _ :: _,[],h1,_=>by simp [uG] at h1
 | a :: x, b :: y, h1, h2 => by
  rw [zAj] at h1 h2
  by_cases e1:wJ a b=0
  ·have:=vJ.1 e1
   subst this
   rw [if_neg (by simpa using e1)] at h1 h2
   rw [zDg h1 h2]
  ·exfalso
   rw [if_pos e1] at h1
   have e2:wJ b a≠0:=fun h=>e1 (vJ.2 (vJ.1 h).symm)
   rw [if_pos e2] at h2
   have:=zFV (zAs.1 h1) (zAs.1 h2)
   rw [zCI] at this; cases this
theorem zAh {l : Bs} {i : Nat} (h : lastIx 46 l = some i) : l = l.take i ++ 46 :: l.drop (i + 1) := by
 have hl:=uV h
 have hg : l.getD i 0 = 46 := by
  unfold lastIx at h
  have : ∀ k, uP 46 l k = some i → l.getD i 0 = 46 := by
   intro k
   induction k with
   | zero=>intro h; cases h
   | succ k ih =>
    intro h
    simp only [uP] at h
    split at h
    ·cases h; assumption
    ·exact ih h
  exact this _ h
 have e:l[i]=46:=by rw [List.getD_eq_getElem?_getD,List.getElem?_eq_getElem hl] at hg; exact hg
 rw [← e,← List.drop_eq_getElem_cons hl,List.take_append_drop]
theorem zDu (n : Nat) (l : Bs) (h : 0 < n) : vA n l ≠ [] := by
 cases n with
 | zero=>omega
 | succ n=>simp only [vA]; split<;>simp
theorem zSg : ∀ (n m : Nat) (l l' : Bs), l.length < n → l'.length < m → vA n l = vA m l' → l = l'
 | 0,_,_,_,h,_,_=>by omega
 | _,0,_,_,_,h,_=>by omega
 | n + 1, m + 1, l, l', hn, hm, h => by
  simp only [vA] at h
  cases e1:lastIx 46 l with
  | none =>
   rw [e1] at h
   cases e2:lastIx 46 l' with
   | none=>rw [e2] at h; simpa using h
   | some j =>
    rw [e2] at h
    exfalso
    have hj:=uV e2
    have:=zDu m (l'.take j) (by omega)
    simp only [List.cons.injEq] at h
    exact this h.2.symm
  | some i =>
   rw [e1] at h
   have hi:=uV e1
   cases e2:lastIx 46 l' with
   | none =>
    rw [e2] at h
    exfalso
    have:=zDu n (l.take i) (by omega)
    simp only [List.cons.injEq] at h
    exact this h.2
   | some j =>
    rw [e2] at h
    have hj:=uV e2
    simp only [List.cons.injEq] at h
    have ih:=zSg n m (l.take i) (l'.take j) (by rw [List.length_take]; omega) (by rw [List.length_take]; omega) h.2
    rw [zAh e1,zAh e2,ih,h.1]
theorem zDZ {a b : Bs} (h : zU a = zU b) : a = b := by
 unfold zU at h
 split at h
 ·rename_i e1
  split at h
  ·rename_i e2; rw [e1,e2]
  ·exact absurd h.symm (zDu _ _ (by omega))
 ·split at h
  ·exact absurd h (zDu _ _ (by omega))
  ·exact zSg _ _ _ _ (by omega) (by omega) h
def zAR (s t:zF):Prop:=(s.name=t.name∧s.type < t.type)∨(s.name≠t.name∧uG (zU s.name) (zU t.name) < 0)
theorem zAR.trans {a b c : zF} (h1 : zAR a b) (h2 : zAR b c) : zAR a c := by
 rcases h1 with⟨e1,t1⟩ | ⟨n1,l1⟩
 ·rcases h2 with⟨e2,t2⟩ | ⟨n2,l2⟩
  ·exact .inl ⟨e1.trans e2,by omega⟩
  ·exact .inr (by rw [e1]; exact⟨n2,l2⟩)
 ·rcases h2 with⟨e2,t2⟩ | ⟨n2,l2⟩
  ·exact .inr (by rw [← e2]; exact⟨n1,l1⟩)
  ·refine .inr ⟨fun e=>n1 ?_,zFt l1 l2⟩
   rw [← e] at l2
   exact zDZ (zDg l1 l2)
theorem zPI {apex : Bs} {ss : List zF} (h : xB apex ss = true) : ∀ j i, i < j → j < ss.length → zAR (ss.getD i default) (ss.getD j default) := by
 unfold xB at h
 simp only [Bool.and_eq_true] at h
 obtain⟨⟨⟨⟨⟨h1,_⟩,_⟩,_⟩,_⟩,_⟩:=h
 unfold vQ at h1
 simp only [Bool.and_eq_true] at h1
 have hadj : ∀ j, j + 1 < ss.length → zAR (ss.getD j default) (ss.getD (j + 1) default) := by
  intro j hj
  have hj1:=yG.1 h1.2 (j + 1) hj
  have hj0:=yG.1 h1.2 j (by omega)
  simp only [Bool.and_eq_true,yF,Nat.add_sub_cancel] at hj1 hj0
  have hn1:=(zAK hj1.1.1).1
  have hn0:=(zAK hj0.1.1).1
  have hc:=hj1.2
  simp only [Bool.or_eq_true,Bool.not_eq_true',decide_eq_false_iff_not,beq_iff_eq] at hc
  have hc' : ¬ vS (ss.getD j default).name (ss.getD j default).type (ss.getD (j + 1) default).name (ss.getD (j + 1) default).type ≥ 0 := by
   rcases hc with hc | hc
   ·omega
   ·exact hc
  unfold vS at hc'
  split at hc'
  ·rename_i e
   refine .inl ⟨e,?_⟩
   unfold vC at hc'
   split at hc'
   ·assumption
   ·split at hc'<;>omega
  ·rename_i e
   refine .inr ⟨e,?_⟩
   unfold uB at hc'
   rw [hn0,hn1,Bool.and_self,if_pos rfl,if_neg e] at hc'
   omega
 intro j
 induction j with
 | zero=>intro i hi; omega
 | succ j ih =>
  intro i hi hj
  by_cases e:i=j
  ·subst e; exact hadj i hj
  ·exact(ih i (by omega) (by omega)).trans (hadj j hj)
def zEG (ss:List zF):Prop:=∀ j i,i < j→j < ss.length→xK (ss.getD i default)≠xK (ss.getD j default)
theorem yIA {apex : Bs} {ss : List zF} (h : xB apex ss = true) : zEG ss := by
 intro j i hij hj e
 have hb:=zPI h j i hij hj
 have g1:=(zCF h _ (yN (show i < ss.length by omega))).plain
 have g2:=(zCF h _ (yN hj)).plain
 have hs:=zJt g1 g2 e
 rw [hs] at hb
 rcases hb with⟨_,h⟩ | ⟨h,_⟩
 ·omega
 ·exact h rfl
theorem zEI {sp : zO} {G : yR} {ss : List zF} {N : Nat} (hd : zEG ss) (h : SpB G N) : ∀ k, k ≤ ss.length →
  ∀ e∈uS sp G ss k,e.2.2.length≤N + 1∧((∀ i,i < k→e.1≠xK (ss.getD i default))→e.2.2.length≤N)
 | 0,_,e,he=>⟨Nat.le_succ_of_le (h e he),fun _=>h e he⟩
 | k + 1, hk, e, he => by
  simp only [uS] at he
  unfold pM at he
  rcases qX he with rfl | he
  ·refine⟨?_,fun hn=>absurd rfl (hn k (by omega))⟩
   cases hg:yI (xK (ss.getD k default)) (uS sp G ss k) with
   | none=>simp
   | some e0 =>
    have:=(zEI hd h k (by omega) _ (zAp hg)).2 (fun i hi=>(hd k i hi (by omega)).symm)
    simp only [List.length_append,List.length_cons,List.length_nil] at this ⊢
    omega
  ·have ih:=zEI hd h k (by omega) e he
   exact⟨ih.1,fun hn=>ih.2 fun i hi=>hn i (by omega)⟩
theorem zOP {fs : List yE} (hd : ∀ c ∈ fs, zEG c.sets) : ∀ m, m ≤ fs.length → SpB (kW fs m) m
 | 0,_=>fun e he=>by simp [kW] at he
 | m + 1,hm=>fun e he=>(zEI (hd _ (yN (by omega))) (zOP hd m (by omega)) _ (Nat.le_refl _) e he).1
theorem zAv {cs : List yE} {z : Bs} {c : yE} : c ∈ wD cs z → c ∈ cs ∧ c.apex = z := by
 intro h
 unfold wD wW zCO at h
 obtain⟨i,hi,rfl⟩:=List.mem_map.1 h
 have h1:=List.mem_filter.1 hi
 exact⟨yN (List.mem_range.1 h1.1),by simpa using h1.2⟩
theorem zEu (cs : List yE) (x : Bs) : ∀ k, x ∈ (xJ cs k).map (·.1) ↔ ∃ i, i < k ∧ (cs.getD i default).apex = x
 | 0=>by simp [xJ,jK]
 | k + 1 => by
  have ih:=zEu cs x k
  have hk : ∀ l : List (Bs × Bool), x ∈ (xV (cs.getD k default).apex true l).map (·.1) ↔ x = (cs.getD k default).apex ∨ x ∈ l.map (·.1) := by
   intro l
   induction l with
   | nil=>simp [xV]
   | cons e r ih =>
    obtain⟨k',u⟩:=e
    simp only [xV]
    split
    ·rename_i he; subst he; simp
    ·simp only [List.map_cons,List.mem_cons,ih]
     constructor
     ·rintro(h | h | h)
      ·exact .inr (.inl h)
      ·exact .inl h
      ·exact .inr (.inr h)
     ·rintro(h | h | h)
      ·exact .inr (.inl h)
      ·exact .inl h
      ·exact .inr (.inr h)
  show x∈(xV (cs.getD k default).apex true (xJ cs k)).map (·.1)↔_
  rw [hk,ih]
  constructor
  ·rintro(h | ⟨i,hi,h⟩)
   ·exact⟨k,by omega,h.symm⟩
   ·exact⟨i,by omega,h⟩
  ·rintro⟨i,hi,h⟩
   by_cases e:i=k
   ·subst e; exact .inl h.symm
   ·exact .inr ⟨i,by omega,h⟩
theorem zJi {h : yO} {z : Bs} : z ∈ wB h ↔ ∃ i, i < h.copies.length ∧ (h.copies.getD i default).apex = z := by
 unfold wB
 rw [(zBP (lt:=qZ) (zAP h).length (zAP h) (Nat.le_refl _)).mem_iff]
 exact zEu h.copies z h.copies.length
theorem zGd {apex : Bs} {ss : List zF} (h : xB apex ss = true) : zL apex = true := by
 unfold xB at h
 simp only [Bool.and_eq_true] at h
 obtain⟨⟨⟨⟨⟨h1,_⟩,_⟩,_⟩,_⟩,_⟩:=h
 unfold vQ at h1
 simp only [Bool.and_eq_true] at h1
 have:=h1.1
 simp only [Bool.not_eq_true',Bool.or_eq_false_iff,Bool.not_eq_false'] at this
 exact this.1.1
structure zJb (cs : List yE) : Prop where
 num:cs.length≤12
 sets:∀ c∈cs,c.sets.length≤100
theorem zIS {h : yO} (hv : yS h = true) (hs : zJb h.copies) : zDr h := by
 have hk:=qW.1 hv
 have hfl : ∀ z, (wD h.copies z).length ≤ 12 := fun z => by
  rw [zEg]
  have h1:(wW h.copies z).length≤(List.range h.copies.length).length:=List.length_filter_le _ _
  rw [List.length_range] at h1
  have:=hs.num
  omega
 refine⟨fun z hz=>?_,fun z hz=>?_,fun z hz e he=>?_,?_,fun z hz=>?_⟩
 ·obtain⟨i,hi,rfl⟩:=zJi.1 hz
  exact zGd (hk.copy _ (yN hi)).2.2.2.2.2
 ·obtain⟨i,hi,rfl⟩:=zJi.1 hz
  intro hnil
  have : i ∈ wW h.copies (h.copies.getD i default).apex := by
   unfold wW zCO
   exact List.mem_filter.2 ⟨List.mem_range.2 hi,by simp⟩
  rw [hnil] at this; cases this
 ·have hinv:=zDG (wD h.copies z) _ (Nat.le_refl _)
  have hsp:=zOP (fs:=wD h.copies z) (fun c hc=>yIA (hk.copy c (zAv hc).1).2.2.2.2.2) _ (Nat.le_refl _) e he
  have hspan : ∀ sp ∈ e.2.2, 0 ≤ sp.from_ ∧ sp.from_ ≤ sp.till ∧ sp.till ≤ 10000000 := by
   intro sp hsp
   obtain⟨c,hc,rfl,_⟩:=hinv.spans e he sp hsp
   have h1:=hk.copy c (zAv hc).1
   have h2:=hk.end2
   unfold xR
   exact⟨h1.2.2.1,by simp only; omega,by simp only; omega⟩
  refine⟨Nat.le_trans hsp (hfl z),fun sp hm=>?_,fun sp hm=>(hspan sp hm).2.2,?_⟩
  ·have:=hspan sp hm; exact⟨this.1,this.2.1,by omega⟩
  ·obtain⟨c,hc,hm⟩:=hinv.set e he
   exact(zCF (hk.copy c (zAv hc).1).2.2.2.2.2 _ hm).grow hk.drift1 hk.drift2
 ·have:(wB h).length=(zAP h).length:=vB _ _ _
  have h2:=zHS h.copies h.copies.length
  have h3:(zAP h).length=(xJ h.copies h.copies.length).length:=by unfold zAP; simp
  have:=hs.num
  omega
 ·have:=zFL (B:=100) (fs:=wD h.copies z) (fun i hi=>hs.sets _ (zAv (yN hi)).1) _ (Nat.le_refl _)
  have h2:=hfl z
  unfold kN
  omega
end Go.SL
/- Plain laws: ranges of a valid zone's numbers; what the copies of one zone publish. -/
namespace Go.SL
open Go
theorem zSC : ∀ k : Nat, 0 ≤ (rules.getD k default).leastN ∧ (rules.getD k default).mostN ≤ 1000000 ∧ 0 ≤ (rules.getD k default).leastM ∧ (rules.getD k default).mostM ≤ 1000000 := by
 intro k
 rcases Nat.lt_or_ge k 9 with h | h
 ·have:k=0∨k=1∨k=2∨k=3∨k=4∨k=5∨k=6∨k=7∨k=8:=by omega
  rcases this with rfl | rfl | rfl | rfl | rfl | rfl | rfl | rfl | rfl<;>decide
 ·have:rules.getD k default=default:=by rw [List.getD_eq_getElem?_getD,List.getElem?_eq_none (show rules.length≤k from h)]; rfl
  rw [this]; decide
theorem zAE {l : Bs} (h : zL l = true) : l.length ≤ 60 := by
 unfold zL at h
 simp only [Bool.or_eq_true,Bool.and_eq_true,decide_eq_true_eq,beq_iff_eq] at h
 rcases h with rfl | h
 ·simp
 ·exact h.1
theorem yHE {k : Int} {s : Bs} (h : qB k s = true) : s.length ≤ 60 := by
 unfold qB at h
 split at h
 ·simp only [Bool.and_eq_true] at h; exact zAE h.1
 ·split at h
  ·exact zAE h
  ·split at h
   ·unfold kU zZ at h
    simp only [Bool.and_eq_true,Bool.not_eq_true',Bool.or_eq_false_iff,Bool.not_eq_false',decide_eq_true_eq] at h
    have:=h.1.1.1.2
    omega
   ·have:s = []:=by simpa using h
    subst this; simp
theorem zKz {k : Nat} {d : xO} (h : xY (rules.getD k default) d = true) : 0 ≤ d.n ∧ d.n ≤ 1000000 ∧ 0 ≤ d.m ∧ d.m ≤ 1000000 ∧ d.text.length ≤ 60 := by
 unfold xY zZ at h
 simp only [Bool.and_eq_true,Bool.not_eq_true',Bool.or_eq_false_iff,Bool.not_eq_false',decide_eq_true_eq] at h
 have hb:=zSC k
 have ht:=yHE h.2
 obtain⟨⟨⟨⟨h1,h2⟩,h3,h4⟩,_⟩,_⟩:=h
 refine⟨by omega,by omega,by omega,by omega,ht⟩
theorem jJ {n:Int} (h0 : -1000000000≤n) (h1:n≤1000000000):(Lib.itoa n).length≤21:=Lib.itoa_length_le n (by omega) (by omega)
theorem yQZ {n : Int} (h0 : 0 ≤ n) (h1 : n ≤ 18446744073709551615) : (Lib.itoa n).length ≤ 21 := by
 obtain⟨u,rfl⟩:∃ u:Nat,n=u:=⟨n.toNat,by omega⟩
 rw [Lib.itoa_nonneg,Lib.decDigits_length]
 have:=Lib.nDigits_le20 u (by omega)
 omega
theorem zCt {α : Type} (f : α → Bs) {B : Nat} : ∀ (l : List α), (∀ x ∈ l, (f x).length ≤ B) → (l.flatMap f).length ≤ l.length * B
 | [],_=>by simp
 | x :: r, h => by
  have h1:=h x List.mem_cons_self
  have h2:=zCt f r fun y hy=>h y (List.mem_cons_of_mem _ hy)
  simp only [List.flatMap_cons,List.length_append,List.length_cons,Nat.succ_mul]
  omega
theorem zFw {w : Bs} {ns : List Int} (h : ∀ n ∈ ns, (Lib.itoa n).length ≤ 21) : (uK w ns).length ≤ w.length + ns.length * 22 + 1 := by
 have:=zCt (fun n=>(47:UInt8) :: Lib.itoa n) (B:=22) ns fun n hn=>by have:=h n hn; simp; omega
 unfold uK
 simp only [List.length_append,List.length_cons,List.length_nil]
 omega
def zBO (ss:List zF):Prop:=∀ s∈ss,∀ g∈s.sigs,0≤g.sum∧g.sum≤18446744073709551615
theorem zPe {apex : Bs} {ss : List zF} (h : xB apex ss = true) (hs : zBO ss) : ∀ s ∈ ss, zIb s := by
 intro s hsm
 have hap:=zGd h
 unfold xB at h
 simp only [Bool.and_eq_true] at h
 obtain⟨⟨⟨⟨⟨h1,_⟩,_⟩,_⟩,_⟩,h6⟩:=h
 obtain⟨i,hi,e⟩:=uO hsm
 unfold vQ at h1
 simp only [Bool.and_eq_true] at h1
 have hi1:=yG.1 h1.2 i hi
 simp only [Bool.and_eq_true,yF,e] at hi1
 have hr:=hi1.1.1
 unfold wK zZ at hr
 simp only [Bool.and_eq_true,decide_eq_true_eq] at hr
 obtain⟨⟨⟨⟨⟨⟨r1,r2⟩,r3⟩,r4⟩,_⟩,_⟩,r5⟩:=hr
 have hdat : ∀ d ∈ s.data, 0 ≤ d.n ∧ d.n ≤ 1000000 ∧ 0 ≤ d.m ∧ d.m ≤ 1000000 ∧ d.text.length ≤ 60 := by
  intro d hd
  obtain⟨j,hj,ej⟩:=uO hd
  have:=yG.1 r5 j hj
  simp only [Bool.and_eq_true,ej] at this
  exact zKz this.1
 unfold zEi at h6
 have hi6:=yG.1 h6 i hi
 simp only [yF,e,qC,Bool.and_eq_true,decide_eq_true_eq] at hi6
 have hsig : ∀ g ∈ s.sigs, g.zone.length ≤ 60 ∧ 1 ≤ g.key ∧ g.key ≤ 1000000 ∧ 1 ≤ g.alg ∧ g.alg ≤ 3 ∧ 0 ≤ g.from_ ∧ g.from_ ≤ g.till ∧ g.till ≤ 20000000 := by
  intro g hg
  obtain⟨j,hj,ej⟩:=uO hg
  have:=yG.1 hi6.2 j hj
  simp only [zAb,ej,Bool.and_eq_true,Bool.not_eq_true',Bool.or_eq_false_iff,decide_eq_false_iff_not,bne_eq_false_iff_eq] at this
  obtain⟨⟨⟨⟨⟨⟨hz,k1⟩,k2⟩,k3⟩,k4⟩,⟨⟨h1,h2⟩,h3⟩⟩,_⟩:=this
  refine⟨?_,by omega,by omega,by omega,by omega,by omega,by omega,by omega⟩
  rw [hz]; exact zAE hap
 have hnl:=zAE r1
 refine⟨⟨by omega,by omega⟩,⟨by omega,by omega⟩,fun d hd=>?_,fun g hg=>?_,by omega,by omega,?_⟩
 ·have:=hdat d hd
  exact⟨⟨by omega,by omega⟩,by omega,by omega⟩
 ·have h2:=hsig g hg
  have h3:=hs s hsm g hg
  exact⟨⟨by omega,by omega⟩,⟨by omega,by omega⟩,⟨by omega,by omega⟩,⟨by omega,by omega⟩,h3.1,h3.2⟩
 ·have t1 := zFw (w := s.name) (ns := [s.type, s.life, s.data.length]) (by
   intro n hn
   simp only [List.mem_cons,List.not_mem_nil,or_false] at hn
   rcases hn with rfl | rfl | rfl
   ·exact jJ (by omega) (by omega)
   ·exact jJ (by omega) (by omega)
   ·exact jJ (by omega) (by omega))
  have t2 := zCt uM (B := 200) s.data fun d hd => by
   have h2:=hdat d hd
   have := zFw (w := d.text) (ns := [d.n, d.m]) (by
    intro n hn
    simp only [List.mem_cons,List.not_mem_nil,or_false] at hn
    rcases hn with rfl | rfl
    ·exact jJ (by omega) (by omega)
    ·exact jJ (by omega) (by omega))
   unfold uM
   simp only [List.length_cons,List.length_nil] at this
   omega
  have t3 := zCt uE (B := 300) s.sigs fun g hg => by
   have h2:=hsig g hg
   have h3:=hs s hsm g hg
   have u1 := zFw (w := g.zone) (ns := [g.key, g.alg, g.from_, g.till]) (by
    intro n hn
    simp only [List.mem_cons,List.not_mem_nil,or_false] at hn
    rcases hn with rfl | rfl | rfl | rfl
    ·exact jJ (by omega) (by omega)
    ·exact jJ (by omega) (by omega)
    ·exact jJ (by omega) (by omega)
    ·exact jJ (by omega) (by omega))
   have u2:=zFw (w:=Lib.itoa g.sum) (ns:=[]) (by intro n hn; cases hn)
   have u3:=yQZ h3.1 h3.2
   unfold uE
   simp only [List.length_cons,List.length_nil,List.length_append] at u1 u2 ⊢
   omega
  unfold xK
  simp only [List.length_cons,List.length_nil,List.length_append] at t1 ⊢
  omega
theorem zQp {h : yO} (hv : yS h = true) (hs : zJb h.copies) (hq : ∀ c ∈ h.copies, zBO c.sets) : zJf h.copies := by
 have hk:=qW.1 hv
 exact⟨hs.num,fun i hi=>Nat.le_trans (hs.sets _ (yN hi)) (by omega),fun i hi=>zPe (hk.copy _ (yN hi)).2.2.2.2.2 (hq _ (yN hi))⟩
theorem zKK {cs : List yE} {zs : List Bs} {e : Bs × (zF × List zO)} : ∀ k, e ∈ uZ cs zs k ↔ ∃ i, i < k ∧ e ∈ zCW cs (zs.getD i [])
 | 0=>by simp [uZ]
 | k + 1 => by
  simp only [uZ,List.mem_append,zKK k]
  constructor
  ·rintro(⟨i,hi,h⟩ | h)
   ·exact⟨i,by omega,h⟩
   ·exact⟨k,by omega,h⟩
  ·rintro⟨i,hi,h⟩
   by_cases e:i=k
   ·subst e; exact .inr h
   ·exact .inl ⟨i,by omega,h⟩
end Go.SL
/- The arguments' data in memory: from the model's reading of them to rows; reading them again. -/
namespace Go.SL
open Go Go.ChangeShapes Go.WideShapes
def rowsOf (w : World) : Hp := fun b => match w.heap[b]? with
 | some (.cells c _ _)=>some (.row c.toList c.size false)
 | _=>none
theorem zEA {w:World} {b:Nat} {c:Array Value} {T:TypeId} {fz:Nat × Nat} (h:w.heap[b]? = some (.cells c T fz)):rowsOf w b=some (.row c.toList c.size false):=by simp [rowsOf,h]
theorem yIh (w : World) : Sat w.heap (rowsOf w) := by
 intro b o h
 unfold rowsOf at h
 split at h
 ·rename_i c T fz hh
  cases h
  exact⟨c,T,fz,hh,rfl,List.prefix_refl _,fun h=>by cases h⟩
 ·cases h
theorem yJW (b o k : Nat) : (⟨b, o, none⟩ : Addr).add k = ⟨b, o + k, none⟩ := by
 unfold Addr.add
 split
 ·rename_i h; subst h; rfl
 ·rfl
theorem zG.cells {w : World} {a : Addr} {n cap sz : Nat} {row : Nat → List Value} (hsz : 0 < sz) (h : ∀ i, i < n → w.cells? 0 (a.add (i * sz)) sz = some (row i)) : zG (rowsOf w) sz (.slice (some a) n cap) n row := by
 refine⟨_,_,rfl,(fun h=>by cases h),fun hn=>?_⟩
 have h0:=World.cells?_some (h 0 hn)
 have hc0:=h0.2.2 0 hsz
 have ea:(a.add (0 * sz)).add 0=a:=by simp [Addr.add]
 rw [ea] at hc0
 have hl0:0 < (row 0).length:=by rw [h0.2.1]; exact hsz
 rw [List.getElem?_eq_getElem hl0] at hc0
 obtain⟨b,o,sp⟩:=a
 unfold World.cell? at hc0
 split at hc0
 ·rename_i c T fz hh
  simp only at hh
  split at hc0
  ·cases hc0
  ·rename_i hsp
   have hsp':sp=none:=by cases sp<;>simp_all
   subst hsp'
   refine⟨b,o,c.toList,c.size,false,rfl,zEA hh,fun i hi=>?_⟩
   have hi':=World.cells?_some (h i hi)
   have hget : ∀ j, j < sz → c[o + i * sz + j]? = (row i)[j]? := by
    intro j hj
    have:=hi'.2.2 j hj
    rw [yJW,yJW] at this
    unfold World.cell? at this
    simpa [hh] using this
   refine⟨?_,?_⟩
   ·have:=hget (sz - 1) (by omega)
    rw [List.getElem?_eq_getElem (by rw [hi'.2.1]; omega)] at this
    have:=(Array.getElem?_eq_some_iff.1 this).1
    simp; omega
   ·apply List.ext_getElem?
    intro j
    by_cases hj:j < sz
    ·rw [List.getElem?_take_of_lt hj,List.getElem?_drop,Array.getElem?_toList]
     exact hget j hj
    ·rw [List.getElem?_eq_none (by rw [List.length_take]; omega),List.getElem?_eq_none (by rw [hi'.2.1]; omega)]
 ·cases hc0
section
variable {D:Type} {enc:TypeId × Value→D} {P:Program} {w:World}
theorem zAN {t e : TypeId} {sz fuel : Nat} {cs : List Value} {x : DataW D × List MemPlace} (ht : P.underlying t = some (.slice e)) (hc : P.cellsOf e = sz) (hsz : 0 < sz)
  (h:DataW.trod enc P w 0 (fun _=>true) true fuel t cs=some x) :
  ∃ v n row m,cs = [v]∧zG (rowsOf w) sz v n row∧∀ i,i < n→∃ y,DataW.trod enc P w 0 (fun _=>true) true m e (row i)=some y:=by
 rcases Deep.open_slice ht h with⟨rfl,_⟩ | ⟨a,len,cap,m,n,Dd,Pl,rfl,_,hl,_,hm,_,hx⟩
 ·exact⟨_,0,fun _=>[],0,rfl,zG.nil,fun i hi=>by omega⟩
 ·have hm':m=cap:=by simpa using hm
  subst hm'
  have hch := Deep.choose_lt (α := List Value) (n := len) (p := fun i cs' => w.cells? 0 (a.add (i * P.cellsOf e)) (P.cellsOf e) = some cs' ∧ ∃ y, DataW.trod enc P w 0 (fun _ => true) true n e cs' = some y)
   (fun i hi => by
    obtain⟨cs',h1,h2⟩:=hx i (by omega)
    exact⟨cs',h1,_,h2⟩)
  obtain⟨row,hrow⟩:=hch
  subst hc
  exact⟨_,len,row,n,rfl,zG.cells hsz (fun i hi=>(hrow i hi).1),fun i hi=>(hrow i hi).2⟩
def zAY (P:Program) (t:TypeId) (l:List (Nat × TypeId)):Prop:=∃ fs,P.underlying t=some (.struct fs)∧fs.toList.map (fun f=>(f.offset,f.type))=l
theorem uA {t : TypeId} {l : List (Nat × TypeId)} {fuel : Nat} {cs : List Value} {x : DataW D × List MemPlace} (ht : zAY P t l)
  (h:DataW.trod enc P w 0 (fun _=>true) true fuel t cs=some x) :
  cs.length=P.cellsOf t∧∃ n,∀ p∈l,∃ y,DataW.trod enc P w 0 (fun _=>true) true n p.2 ((cs.drop p.1).take (P.cellsOf p.2))=some y:=by
 obtain⟨fs,hu,rfl⟩:=ht
 obtain⟨xs,n,_,_,hl,hlen,hf⟩:=DataW.trod_struct hu h
 refine⟨hl,n,fun p hp=>?_⟩
 obtain⟨f,hfm,rfl⟩:=List.mem_map.1 hp
 obtain⟨i,hi⟩:=List.getElem?_of_mem hfm
 have hi':fs[i]? = some f:=by simpa using hi
 have:=hf i f hi'
 have hlt:i < xs.length:=by rw [hlen]; exact(Array.getElem?_eq_some_iff.1 hi').1
 rw [List.getElem?_eq_getElem hlt] at this
 exact⟨_,this⟩
structure Tys (P : Program) where
 string:TypeId
 int:TypeId
 u64:TypeId
 datum:TypeId
 datums:TypeId
 sig:TypeId
 sigs:TypeId
 set:TypeId
 signed:TypeId
 signeds:TypeId
 zone:TypeId
 copy:TypeId
 copies:TypeId
 host:TypeId
 hosts:TypeId
 ints:TypeId
 hist:TypeId
 hstring:P.underlying string=some .string
 hint:P.underlying int=some (.int .i64)
 hu64:P.underlying u64=some (.int .u64)
 hdatums:P.underlying datums=some (.slice datum)
 hsigs:P.underlying sigs=some (.slice sig)
 hsigneds:P.underlying signeds=some (.slice signed)
 hcopies:P.underlying copies=some (.slice copy)
 hhosts:P.underlying hosts=some (.slice host)
 hints:P.underlying ints=some (.slice int)
 hdatum:zAY P datum [(0,string),(1,int),(2,int)]
 hsig:zAY P sig [(0,string),(1,int),(2,int),(3,int),(4,int),(5,u64)]
 hset:zAY P set [(0,string),(1,int),(2,int),(3,datums)]
 hsigned:zAY P signed [(0,set),(4,sigs)]
 hzone:zAY P zone [(0,string),(1,signeds)]
 hcopy:zAY P copy [(0,int),(1,int),(2,int),(3,zone)]
 hhost:zAY P host [(0,string),(1,int),(2,int)]
 hhist:zAY P hist [(0,hosts),(1,copies),(2,set),(6,ints),(7,int),(8,int)]
 cstring:P.cellsOf string=1
 cint:P.cellsOf int=1
 cu64:P.cellsOf u64=1
 cdatums:P.cellsOf datums=1
 csigs:P.cellsOf sigs=1
 csigneds:P.cellsOf signeds=1
 ccopies:P.cellsOf copies=1
 chosts:P.cellsOf hosts=1
 cints:P.cellsOf ints=1
 cdatum:P.cellsOf datum=3
 csig:P.cellsOf sig=6
 cset:P.cellsOf set=4
 csigned:P.cellsOf signed=5
 czone:P.cellsOf zone=2
 ccopy:P.cellsOf copy=5
 chost:P.cellsOf host=3
 chist:P.cellsOf hist=9
theorem zGt {t : TypeId} {fuel : Nat} {cs : List Value} {x : DataW D × List MemPlace} (ht : P.underlying t = some .string) (h : DataW.trod enc P w 0 (fun _ => true) true fuel t cs = some x) : ∃ l, cs = [S l] := by
 obtain⟨s,rfl,_⟩:=DataW.trod_string ht h
 exact⟨s.data.toList,by rw [S,← yTz]⟩
theorem pC {t : TypeId} {k : IntKind} {fuel : Nat} {cs : List Value} {x : DataW D × List MemPlace} (ht : P.underlying t = some (.int k)) (h : DataW.trod enc P w 0 (fun _ => true) true fuel t cs = some x) : ∃ n, cs = [.int k n] := by
 obtain⟨n,rfl,_⟩:=DataW.trod_int ht h
 exact⟨n,rfl⟩
theorem yVH {t : TypeId} {fuel : Nat} {cs : List Value} {x : DataW D × List MemPlace} (ht : P.underlying t = some (.int .u64)) (h : DataW.trod enc P w 0 (fun _ => true) true fuel t cs = some x) : ∃ n, cs = [.int .u64 n] ∧ 0 ≤ n ∧ n ≤ 18446744073709551615 := by
 obtain⟨n,rfl,_,hw⟩:=DataW.trod_int ht h
 have hw':(decide (IntKind.u64.min≤n) && decide (n≤IntKind.u64.max))=true:=hw
 rw [Bool.and_eq_true,decide_eq_true_eq,decide_eq_true_eq] at hw'
 exact⟨n,rfl,hw'.1,hw'.2⟩
theorem zEV {α : Type} [Inhabited α] (n : Nat) (f : Nat → α) : ∃ l : List α, l.length = n ∧ ∀ i, i < n → l.getD i default = f i := by
 refine⟨(List.range n).map f,by simp,fun i hi=>?_⟩
 simp [hi]
variable (T:Tys P)
theorem yUW {fuel : Nat} {cs : List Value} {x : DataW D × List MemPlace} (h : DataW.trod enc P w 0 (fun _ => true) true fuel T.datums cs = some x) : ∃ v ds, cs = [v] ∧ xF (rowsOf w) v ds := by
 obtain⟨v,n,row,m,rfl,hs,hr⟩:=zAN T.hdatums T.cdatum (by omega) h
 have hch := Deep.choose_lt (α := xO) (n := n) (p := fun i d => row i = [S d.text, .int .i64 d.n, .int .i64 d.m]) (fun i hi => by
  obtain⟨y,hy⟩:=hr i hi
  obtain⟨hl,k,hf⟩:=uA T.hdatum hy
  rw [T.cdatum] at hl
  obtain ⟨c0, c1, c2, hc⟩ : ∃ c0 c1 c2, row i = [c0, c1, c2] := by
   match row i,hl with
   | [c0,c1,c2],_=>exact⟨c0,c1,c2,rfl⟩
  rw [hc] at hf ⊢
  obtain⟨_,h0⟩:=hf (0,T.string) (by simp)
  obtain⟨_,h1⟩:=hf (1,T.int) (by simp)
  obtain⟨_,h2⟩:=hf (2,T.int) (by simp)
  simp only [T.cstring,T.cint,List.drop_zero,List.drop_succ_cons,List.take_succ_cons,List.take_zero] at h0 h1 h2
  obtain⟨s,hs⟩:=zGt T.hstring h0
  obtain⟨a,ha⟩:=pC T.hint h1
  obtain⟨b,hb⟩:=pC T.hint h2
  cases hs; cases ha; cases hb
  exact⟨⟨s,a,b⟩,rfl⟩)
 obtain⟨f,hf⟩:=hch
 obtain⟨l,hl,hg⟩:=zEV n f
 subst hl
 exact⟨v,l,rfl,hs.row_congr fun i hi=>by rw [hf i hi,pR,hg i hi]⟩
theorem yUG {fuel : Nat} {cs : List Value} {x : DataW D × List MemPlace} (h : DataW.trod enc P w 0 (fun _ => true) true fuel T.sigs cs = some x) : ∃ v gs, cs = [v] ∧ xL (rowsOf w) v gs ∧ ∀ g ∈ gs, 0 ≤ g.sum ∧ g.sum ≤ 18446744073709551615 := by
 obtain⟨v,n,row,m,rfl,hs,hr⟩:=zAN T.hsigs T.csig (by omega) h
 have hch := Deep.choose_lt (α := kI) (n := n) (p := fun i d => row i = [S d.zone, .int .i64 d.key, .int .i64 d.alg, .int .i64 d.from_, .int .i64 d.till, .int .u64 d.sum] ∧ 0 ≤ d.sum ∧ d.sum ≤ 18446744073709551615) (fun i hi => by
  obtain⟨y,hy⟩:=hr i hi
  obtain⟨hl,k,hf⟩:=uA T.hsig hy
  rw [T.csig] at hl
  obtain ⟨c0, c1, c2, c3, c4, c5, hc⟩ : ∃ c0 c1 c2 c3 c4 c5, row i = [c0, c1, c2, c3, c4, c5] := by
   match row i,hl with
   | [c0,c1,c2,c3,c4,c5],_=>exact⟨c0,c1,c2,c3,c4,c5,rfl⟩
  rw [hc] at hf ⊢
  obtain⟨_,h0⟩:=hf (0,T.string) (by simp)
  obtain⟨_,h1⟩:=hf (1,T.int) (by simp)
  obtain⟨_,h2⟩:=hf (2,T.int) (by simp)
  obtain⟨_,h3⟩:=hf (3,T.int) (by simp)
  obtain⟨_,h4⟩:=hf (4,T.int) (by simp)
  obtain⟨_,h5⟩:=hf (5,T.u64) (by simp)
  simp only [T.cstring,T.cint,T.cu64,List.drop_zero,List.drop_succ_cons,List.take_succ_cons,List.take_zero] at h0 h1 h2 h3 h4 h5
  obtain⟨s,hs⟩:=zGt T.hstring h0
  obtain⟨a1,ha1⟩:=pC T.hint h1
  obtain⟨a2,ha2⟩:=pC T.hint h2
  obtain⟨a3,ha3⟩:=pC T.hint h3
  obtain⟨a4,ha4⟩:=pC T.hint h4
  obtain⟨a5,ha5,hr5⟩:=yVH T.hu64 h5
  cases hs; cases ha1; cases ha2; cases ha3; cases ha4; cases ha5
  exact⟨⟨s,a1,a2,a3,a4,a5⟩,rfl,hr5⟩)
 obtain⟨f,hf⟩:=hch
 obtain⟨l,hl,hg⟩:=zEV n f
 subst hl
 refine⟨v,l,rfl,hs.row_congr fun i hi=>by rw [(hf i hi).1,zAf,hg i hi],fun g hgm=>?_⟩
 obtain⟨i,hi,rfl⟩:=List.getElem_of_mem hgm
 have e:l[i]=f i:=by rw [← hg i hi,List.getD_eq_getElem?_getD,List.getElem?_eq_getElem hi]; rfl
 rw [e]
 exact(hf i hi).2
theorem yTe {fuel : Nat} {cs : List Value} {x : DataW D × List MemPlace} (h : DataW.trod enc P w 0 (fun _ => true) true fuel T.hosts cs = some x) : ∃ v hs, cs = [v] ∧ qN (rowsOf w) v hs := by
 obtain⟨v,n,row,m,rfl,hs,hr⟩:=zAN T.hhosts T.chost (by omega) h
 have hch := Deep.choose_lt (α := qT) (n := n) (p := fun i d => row i = [S d.name, .int .i64 d.addr, .int .i64 d.owner]) (fun i hi => by
  obtain⟨y,hy⟩:=hr i hi
  obtain⟨hl,k,hf⟩:=uA T.hhost hy
  rw [T.chost] at hl
  obtain ⟨c0, c1, c2, hc⟩ : ∃ c0 c1 c2, row i = [c0, c1, c2] := by
   match row i,hl with
   | [c0,c1,c2],_=>exact⟨c0,c1,c2,rfl⟩
  rw [hc] at hf ⊢
  obtain⟨_,h0⟩:=hf (0,T.string) (by simp)
  obtain⟨_,h1⟩:=hf (1,T.int) (by simp)
  obtain⟨_,h2⟩:=hf (2,T.int) (by simp)
  simp only [T.cstring,T.cint,List.drop_zero,List.drop_succ_cons,List.take_succ_cons,List.take_zero] at h0 h1 h2
  obtain⟨s,hs⟩:=zGt T.hstring h0
  obtain⟨a,ha⟩:=pC T.hint h1
  obtain⟨b,hb⟩:=pC T.hint h2
  cases hs; cases ha; cases hb
  exact⟨⟨s,a,b⟩,rfl⟩)
 obtain⟨f,hf⟩:=hch
 obtain⟨l,hl,hg⟩:=zEV n f
 subst hl
 exact⟨v,l,rfl,hs.row_congr fun i hi=>by rw [hf i hi,zHb,hg i hi]⟩
theorem yUB {fuel : Nat} {cs : List Value} {x : DataW D × List MemPlace} (h : DataW.trod enc P w 0 (fun _ => true) true fuel T.ints cs = some x) : ∃ v ns, cs = [v] ∧ wH (rowsOf w) v ns := by
 obtain⟨v,n,row,m,rfl,hs,hr⟩:=zAN T.hints T.cint (by omega) h
 have hch := Deep.choose_lt (α := Int) (n := n) (p := fun i d => row i = [.int .i64 d]) (fun i hi => by
  obtain⟨y,hy⟩:=hr i hi
  exact pC T.hint hy)
 obtain⟨f,hf⟩:=hch
 refine⟨v,(List.range n).map f,rfl,?_⟩
 have hl:((List.range n).map f).length=n:=by simp
 unfold wH
 rw [hl]
 exact hs.row_congr fun i hi=>by rw [hf i hi]; simp [vP,hi]
theorem yPk {fuel : Nat} {cs : List Value} {x : DataW D × List MemPlace} (h : DataW.trod enc P w 0 (fun _ => true) true fuel T.set cs = some x) : ∃ nm ty lf v ds, cs = [S nm, .int .i64 ty, .int .i64 lf, v] ∧ xF (rowsOf w) v ds := by
 obtain⟨hl,k,hf⟩:=uA T.hset h
 rw [T.cset] at hl
 obtain ⟨c0, c1, c2, c3, hc⟩ : ∃ c0 c1 c2 c3, cs = [c0, c1, c2, c3] := by
  match cs,hl with
  | [c0,c1,c2,c3],_=>exact⟨c0,c1,c2,c3,rfl⟩
 subst hc
 obtain⟨_,h0⟩:=hf (0,T.string) (by simp)
 obtain⟨_,h1⟩:=hf (1,T.int) (by simp)
 obtain⟨_,h2⟩:=hf (2,T.int) (by simp)
 obtain⟨_,h3⟩:=hf (3,T.datums) (by simp)
 simp only [T.cstring,T.cint,T.cdatums,List.drop_zero,List.drop_succ_cons,List.take_succ_cons,List.take_zero] at h0 h1 h2 h3
 obtain⟨s,hs⟩:=zGt T.hstring h0
 obtain⟨a,ha⟩:=pC T.hint h1
 obtain⟨b,hb⟩:=pC T.hint h2
 obtain⟨v,ds,hv,hd⟩:=yUW T h3
 cases hs; cases ha; cases hb; cases hv
 exact⟨s,a,b,c3,ds,rfl,hd⟩
theorem yTI {fuel : Nat} {cs : List Value} {x : DataW D × List MemPlace} (h : DataW.trod enc P w 0 (fun _ => true) true fuel T.signeds cs = some x) : ∃ v ss, cs = [v] ∧ xT (rowsOf w) v ss ∧ zBO ss := by
 obtain⟨v,n,row,m,rfl,hs,hr⟩:=zAN T.hsigneds T.csigned (by omega) h
 have hch := Deep.choose_lt (α := zF × Value × Value) (n := n) (p := fun i d => row i = [S d.1.name, .int .i64 d.1.type, .int .i64 d.1.life, d.2.1, d.2.2] ∧ xF (rowsOf w) d.2.1 d.1.data ∧ xL (rowsOf w) d.2.2 d.1.sigs ∧ ∀ g ∈ d.1.sigs, 0 ≤ g.sum ∧ g.sum ≤ 18446744073709551615) (fun i hi => by
  obtain⟨y,hy⟩:=hr i hi
  obtain⟨hl,k,hf⟩:=uA T.hsigned hy
  rw [T.csigned] at hl
  obtain ⟨c0, c1, c2, c3, c4, hc⟩ : ∃ c0 c1 c2 c3 c4, row i = [c0, c1, c2, c3, c4] := by
   match row i,hl with
   | [c0,c1,c2,c3,c4],_=>exact⟨c0,c1,c2,c3,c4,rfl⟩
  rw [hc] at hf ⊢
  obtain⟨_,h0⟩:=hf (0,T.set) (by simp)
  obtain⟨_,h1⟩:=hf (4,T.sigs) (by simp)
  simp only [T.cset,T.csigs,List.drop_zero,List.drop_succ_cons,List.take_succ_cons,List.take_zero] at h0 h1
  obtain⟨nm,ty,lf,vd,ds,he,hd⟩:=yPk T h0
  obtain⟨vg,gs,hg,hgs,hrs⟩:=yUG T h1
  cases he; cases hg
  exact⟨(⟨nm,ty,lf,ds,gs⟩,c3,c4),rfl,hd,hgs,hrs⟩)
 obtain⟨f,hf⟩:=hch
 obtain⟨l,hl,hg⟩:=zEV n (fun i=>(f i).1)
 subst hl
 refine⟨v,l,rfl,⟨fun i=>(f i).2.1,fun i=>(f i).2.2,hs.row_congr fun i hi=>?_,fun i hi=>?_⟩,?_⟩
 ·rw [(hf i hi).1,xD,hg i hi]
 ·rw [hg i hi]; exact⟨(hf i hi).2.1,(hf i hi).2.2.1⟩
 ·intro s hsm
  obtain⟨i,hi,rfl⟩:=List.getElem_of_mem hsm
  have e:l[i]=(f i).1:=by rw [← hg i hi,List.getD_eq_getElem?_getD,List.getElem?_eq_getElem hi]; rfl
  rw [e]
  exact(hf i hi).2.2.2
theorem yLy {fuel : Nat} {cs : List Value} {x : DataW D × List MemPlace} (h : DataW.trod enc P w 0 (fun _ => true) true fuel T.copies cs = some x) : ∃ v ps, cs = [v] ∧ qD (rowsOf w) v ps ∧ ∀ c ∈ ps, zBO c.sets := by
 obtain⟨v,n,row,m,rfl,hs,hr⟩:=zAN T.hcopies T.ccopy (by omega) h
 have hch := Deep.choose_lt (α := yE × Value) (n := n) (p := fun i d => row i = [.int .i64 d.1.host, .int .i64 d.1.from_, .int .i64 d.1.till, S d.1.apex, d.2] ∧ xT (rowsOf w) d.2 d.1.sets ∧ zBO d.1.sets) (fun i hi => by
  obtain⟨y,hy⟩:=hr i hi
  obtain⟨hl,k,hf⟩:=uA T.hcopy hy
  rw [T.ccopy] at hl
  obtain ⟨c0, c1, c2, c3, c4, hc⟩ : ∃ c0 c1 c2 c3 c4, row i = [c0, c1, c2, c3, c4] := by
   match row i,hl with
   | [c0,c1,c2,c3,c4],_=>exact⟨c0,c1,c2,c3,c4,rfl⟩
  rw [hc] at hf ⊢
  obtain⟨_,h0⟩:=hf (0,T.int) (by simp)
  obtain⟨_,h1⟩:=hf (1,T.int) (by simp)
  obtain⟨_,h2⟩:=hf (2,T.int) (by simp)
  obtain⟨_,h3⟩:=hf (3,T.zone) (by simp)
  simp only [T.cint,T.czone,List.drop_zero,List.drop_succ_cons,List.take_succ_cons,List.take_zero] at h0 h1 h2 h3
  obtain⟨a,ha⟩:=pC T.hint h0
  obtain⟨b,hb⟩:=pC T.hint h1
  obtain⟨c,hcc⟩:=pC T.hint h2
  obtain⟨_,k2,hf2⟩:=uA T.hzone h3
  obtain⟨_,g0⟩:=hf2 (0,T.string) (by simp)
  obtain⟨_,g1⟩:=hf2 (1,T.signeds) (by simp)
  simp only [T.cstring,T.csigneds,List.drop_zero,List.drop_succ_cons,List.take_succ_cons,List.take_zero] at g0 g1
  obtain⟨s,hs⟩:=zGt T.hstring g0
  obtain⟨vs,ss,hv,hss,hsum⟩:=yTI T g1
  cases ha; cases hb; cases hcc; cases hs; cases hv
  exact⟨(⟨a,b,c,s,ss⟩,c4),rfl,hss,hsum⟩)
 obtain⟨f,hf⟩:=hch
 obtain⟨l,hl,hg⟩:=zEV n (fun i=>(f i).1)
 subst hl
 refine⟨v,l,rfl,⟨fun i=>(f i).2,hs.row_congr fun i hi=>?_,fun i hi=>?_⟩,fun c hcm=>?_⟩
 ·rw [(hf i hi).1,jY,hg i hi]
 ·rw [hg i hi]; exact(hf i hi).2.1
 ·obtain⟨i,hi,rfl⟩:=List.getElem_of_mem hcm
  have e:l[i]=(f i).1:=by rw [← hg i hi,List.getD_eq_getElem?_getD,List.getElem?_eq_getElem hi]; rfl
  rw [e]
  exact(hf i hi).2.2
theorem yUj {fuel : Nat} {cs : List Value} {x : DataW D × List MemPlace} (h : DataW.trod enc P w 0 (fun _ => true) true fuel T.hist cs = some x) : ∃ hd, vV (rowsOf w) (.agg cs.toArray) hd ∧ ∀ c ∈ hd.copies, zBO c.sets := by
 obtain⟨hl,k,hf⟩:=uA T.hhist h
 rw [T.chist] at hl
 obtain ⟨c0, c1, c2, c3, c4, c5, c6, c7, c8, hc⟩ : ∃ c0 c1 c2 c3 c4 c5 c6 c7 c8, cs = [c0, c1, c2, c3, c4, c5, c6, c7, c8] := by
  match cs,hl with
  | [c0,c1,c2,c3,c4,c5,c6,c7,c8],_=>exact⟨c0,c1,c2,c3,c4,c5,c6,c7,c8,rfl⟩
 subst hc
 obtain⟨_,h0⟩:=hf (0,T.hosts) (by simp)
 obtain⟨_,h1⟩:=hf (1,T.copies) (by simp)
 obtain⟨_,h2⟩:=hf (2,T.set) (by simp)
 obtain⟨_,h3⟩:=hf (6,T.ints) (by simp)
 obtain⟨_,h4⟩:=hf (7,T.int) (by simp)
 obtain⟨_,h5⟩:=hf (8,T.int) (by simp)
 simp only [T.chosts,T.ccopies,T.cset,T.cints,T.cint,List.drop_zero,List.drop_succ_cons,List.take_succ_cons,List.take_zero] at h0 h1 h2 h3 h4 h5
 obtain⟨vh,hs,e0,g0⟩:=yTe T h0
 obtain⟨vz,zs,e1,g1,g1s⟩:=yLy T h1
 obtain⟨nm,ty,lf,vd,ds,e2,g2⟩:=yPk T h2
 obtain⟨vi,ns,e3,g3⟩:=yUB T h3
 obtain⟨dr,e4⟩:=pC T.hint h4
 obtain⟨en,e5⟩:=pC T.hint h5
 cases e0; cases e1; cases e2; cases e3; cases e4; cases e5
 exact⟨⟨hs,zs,nm,ty,lf,ds,ns,dr,en⟩,⟨c0,c1,c5,c6,rfl,g0,g1,g2,g3⟩,g1s⟩
end
inductive kK (P : Program) : TypeId → Prop where
 | bool {t:TypeId} (h:P.underlying t=some .bool):kK P t
 | int {t:TypeId} {k:IntKind} (h:P.underlying t=some (.int k)):kK P t
 | str {t:TypeId} (h:P.underlying t=some .string):kK P t
 | slice {t e:TypeId} (h:P.underlying t=some (.slice e)) (hc:0 < P.cellsOf e) (he:kK P e):kK P t
 | struct {t:TypeId} {l:List (Nat × TypeId)} (h:zAY P t l) (hf:∀ p∈l,kK P p.2):kK P t
theorem Tys.okHist {P : Program} (T : Tys P) : kK P T.hist := by
 have hs:=kK.str T.hstring
 have hi:=kK.int T.hint
 have hu:=kK.int T.hu64
 have hd:kK P T.datums:=.slice T.hdatums (by rw [T.cdatum]; omega) (.struct T.hdatum (by intro p hp; simp at hp; rcases hp with rfl | rfl | rfl<;>assumption))
 have hg:kK P T.sigs:=.slice T.hsigs (by rw [T.csig]; omega) (.struct T.hsig (by intro p hp; simp at hp; rcases hp with rfl | rfl | rfl | rfl | rfl | rfl<;>assumption))
 have hset:kK P T.set:=.struct T.hset (by intro p hp; simp at hp; rcases hp with rfl | rfl | rfl | rfl<;>assumption)
 have hss:kK P T.signeds:=.slice T.hsigneds (by rw [T.csigned]; omega) (.struct T.hsigned (by intro p hp; simp at hp; rcases hp with rfl | rfl<;>assumption))
 have hz:kK P T.zone:=.struct T.hzone (by intro p hp; simp at hp; rcases hp with rfl | rfl<;>assumption)
 have hp:kK P T.copies:=.slice T.hcopies (by rw [T.ccopy]; omega) (.struct T.hcopy (by intro p hp; simp at hp; rcases hp with rfl | rfl | rfl | rfl<;>assumption))
 have hh:kK P T.hosts:=.slice T.hhosts (by rw [T.chost]; omega) (.struct T.hhost (by intro p hp; simp at hp; rcases hp with rfl | rfl | rfl<;>assumption))
 have hn:kK P T.ints:=.slice T.hints (by rw [T.cint]; omega) hi
 exact .struct T.hhist (by intro p hp; simp at hp; rcases hp with rfl | rfl | rfl | rfl | rfl | rfl<;>assumption)
def Old (w w':World):Prop:=∀ b,b < w.heap.size→w'.heap[b]? = w.heap[b]?
theorem yQp {w w' : World} (ho : Old w w') {a : Addr} {n : Nat} {cs : List Value} (hn : 0 < n) (h : w.cells? 0 a n = some cs) : w'.cells? 0 a n = some cs := by
 have hb : a.block < w.heap.size := by
  have h1:=World.cells?_some h
  have h2:=h1.2.2 0 hn
  rw [List.getElem?_eq_getElem (by rw [h1.2.1]; exact hn)] at h2
  have e:a.add 0=a:=by simp [Addr.add]
  rw [e] at h2
  unfold World.cell? at h2
  split at h2
  ·rename_i hh; exact(Array.getElem?_eq_some_iff.1 hh).1
  ·cases h2
 have he : ∀ i, w'.cell? (a.add i) = w.cell? (a.add i) := by
  intro i
  have hbb:(a.add i).block=a.block:=by unfold Addr.add; split<;>rfl
  unfold World.cell?
  rw [hbb,ho _ hb]
 unfold World.cells? at h ⊢
 simp only [he]
 exact h
theorem zZC {α β : Type} {f : α → Option β} : ∀ {l : List α} {ys : List β}, l.length = ys.length → (∀ (i : Nat) (a : α), l[i]? = some a → f a = ys[i]?) → l.mapM f = some ys
 | [],[],_,_=>rfl
 | [],_ :: _,h,_=>by simp at h
 | _ :: _,[],h,_=>by simp at h
 | a :: l, y :: ys, h, hf => by
  have h0:=hf 0 a rfl
  have ih:=zZC (l:=l) (ys:=ys) (by simpa using h) (fun i b hb=>by simpa using hf (i + 1) b (by simpa using hb))
  simp at h0
  simp [List.mapM_cons,h0,ih]
theorem yQf {a : Addr} {n : Nat} (hn : 0 < n) : ∃ p ∈ MemPlace.row a n, p.block = a.block := by
 refine⟨_,List.mem_map.2 ⟨0,List.mem_range.2 hn,rfl⟩,?_⟩
 simp [MemPlace.block]
theorem again {D : Type} {enc : TypeId × Value → D} {P : Program} {w w' : World} (ho : Old w w') {sp : Nat → Bool} :
  ∀ (fuel : Nat) {t : TypeId} {cs : List Value} {x : DataW D × List MemPlace}, kK P t → DataW.trod enc P w 0 (fun _ => true) true fuel t cs = some x → (∀ p ∈ x.2, sp p.block = true) →
   ∃ n,DataW.trod enc P w' 0 sp true n t cs=some x:=by
 intro fuel
 induction fuel with
 | zero=>intro t cs x _ h; simp [DataW.trod] at h
 | succ fuel ih =>
  intro t cs x hk h hsp
  cases hk with
  | bool ht=>obtain⟨b,rfl,rfl⟩:=DataW.trod_bool ht h; exact⟨1,by simp [DataW.trod,ht]⟩
  | int ht=>obtain⟨n,rfl,rfl,hw⟩:=DataW.trod_int ht h; exact⟨1,by simp [DataW.trod,ht,hw]⟩
  | str ht=>obtain⟨s,rfl,rfl,hw⟩:=DataW.trod_string ht h; exact⟨1,by simp [DataW.trod,ht,hw]⟩
  | @slice t e ht hc he =>
   rcases DataW.trod_slice ht h with⟨rfl,rfl⟩ | ⟨a,len,cap,elems,rest,n,hfu,rfl,rfl,_,hl,hm,hlen,hel,hspr,_⟩
   ·exact⟨1,by simp [DataW.trod,ht]⟩
   have hn:n=fuel:=by omega
   subst hn
   have hrest:=hspr rfl
   have hx : ∀ i, i < cap → ∃ cs' y, w.cells? 0 (a.add (i * P.cellsOf e)) (P.cellsOf e) = some cs' ∧ DataW.trod enc P w 0 (fun _ => true) true n e cs' = some y ∧ (elems ++ rest)[i]? = some y := by
    intro i hi
    have key : (w.cells? 0 (a.add (i * P.cellsOf e)) (P.cellsOf e)).bind (DataW.trod enc P w 0 (fun _ => true) true n e) = (elems ++ rest)[i]? := by
     by_cases hil:i < len
     ·rw [hel i hil,List.getElem?_append_left (by omega)]
     ·have:=hrest.2 (i - len) (by omega)
      rw [show len + (i - len)=i by omega] at this
      rw [this,List.getElem?_append_right (by omega),hlen]
    have hlt:i < (elems ++ rest).length:=by rw [List.length_append,hlen,hrest.1]; omega
    rw [List.getElem?_eq_getElem hlt] at key
    obtain⟨cs',h1,h2⟩:=Option.bind_eq_some_iff.1 key
    exact⟨cs',_,h1,h2,List.getElem?_eq_getElem hlt⟩
   by_cases hc0:cap=0
   ·subst hc0
    have hl0:len=0:=by omega
    subst hl0
    have e1:elems = []:=List.length_eq_zero_iff.1 hlen
    have e2:rest = []:=List.length_eq_zero_iff.1 (by have:=hrest.1; omega)
    subst e1 e2
    refine⟨1,?_⟩
    simp [DataW.trod,ht]
   ·have hsa : sp a.block = true := by
     have hlen2:elems.length + rest.length=cap:=by rw [hlen,hrest.1]; omega
     obtain⟨p,hp,hpb⟩:=yQf (a:=a) (n:=(elems.length + rest.length) * P.cellsOf e) (Nat.mul_pos (by omega) hc)
     rw [← hpb]
     exact hsp p (List.mem_append_left _ hp)
    have := Deep.shut_slice_whole_cells (enc := enc) (w := w') (base := 0) (spare := sp) (held := true) ht (Nat.zero_le _) hl hm hsa (fun i => ((elems ++ rest).getD i (.nil, [])).1) (fun i => ((elems ++ rest).getD i (.nil, [])).2) (fun i hi => by
     obtain⟨cs',y,h1,h2,h3⟩:=hx i hi
     obtain⟨m,hm'⟩:=ih he h2 (fun p hp=>hsp p (List.mem_append_right _ (List.mem_flatMap.2 ⟨y,List.mem_of_getElem? h3,hp⟩)))
     refine⟨cs',m,yQp ho hc h1,?_⟩
     rw [hm',List.getD_eq_getElem?_getD,h3]
     rfl)
    obtain⟨m,hm'⟩:=this
    refine⟨m,hm'.trans ?_⟩
    have hall:(elems ++ rest).length=cap:=by rw [List.length_append,hlen,hrest.1]; omega
    congr 1
    refine Prod.ext ?_ ?_
    ·show DataW.slice _ _=DataW.slice _ _
     congr 1
     ·rw [Deep.map_by_index elems (.nil,[]) (·.1),hlen]
      refine List.map_congr_left fun i hi=>?_
      have hi':i < elems.length:=by rw [hlen]; simpa using hi
      simp [List.getD,List.getElem?_append_left hi']
     ·rw [Deep.map_by_index rest (.nil,[]) (·.1),hrest.1]
      refine List.map_congr_left fun j _=>?_
      simp [List.getD,List.getElem?_append_right (show elems.length≤len + j by omega),hlen]
    ·show MemPlace.row a (cap * P.cellsOf e) ++ _=MemPlace.row a ((elems.length + rest.length) * P.cellsOf e) ++ (elems ++ rest).flatMap (·.2)
     rw [Deep.flatMap_by_index (elems ++ rest) (.nil,[]) (·.2),hall,← List.length_append,hall]
  | @struct t l ht hf =>
   obtain⟨fs,hu,rfl⟩:=ht
   obtain⟨xs,n,hfu,rfl,hl,hlen,hx⟩:=DataW.trod_struct hu h
   have hn:n=fuel:=by omega
   subst hn
   have hone : ∀ i, i < fs.size → ∃ m, ∀ f, fs[i]? = some f → DataW.trod enc P w' 0 sp true m f.type ((cs.drop f.offset).take (P.cellsOf f.type)) = xs[i]? := by
    intro i hi
    have hfi:fs[i]? = some fs[i]:=by simp [hi]
    have h1:=hx i _ hfi
    have hlt:i < xs.length:=by omega
    rw [List.getElem?_eq_getElem hlt] at h1
    obtain⟨m,hm⟩:=ih (hf (fs[i].offset,fs[i].type) (List.mem_map.2 ⟨fs[i],by simp,rfl⟩)) h1 (fun p hp=>hsp p (List.mem_flatMap.2 ⟨_,List.getElem_mem hlt,hp⟩))
    refine⟨m,fun f hf'=>?_⟩
    rw [hfi] at hf'
    cases hf'
    rw [hm,List.getElem?_eq_getElem hlt]
   obtain ⟨m, hm⟩ := Deep.fuel_lt (n := fs.size) (q := fun i m => ∀ f, fs[i]? = some f → DataW.trod enc P w' 0 sp true m f.type ((cs.drop f.offset).take (P.cellsOf f.type)) = xs[i]?) (fun i a b hab hq f hf' => by
    have h1:=hq f hf'
    have hlt:i < xs.length:=by have:=(Array.getElem?_eq_some_iff.1 hf').1; omega
    rw [List.getElem?_eq_getElem hlt] at h1 ⊢
    exact DataW.trod_le hab h1) hone
   refine⟨m + 1,trod_struct_mk hu hl (zZC (by simpa using hlen.symm) fun i f hf'=>?_)⟩
   have hf'':fs[i]? = some f:=by simpa using hf'
   exact hm i (Array.getElem?_eq_some_iff.1 hf'').1 f hf''
theorem zGc {D : Type} {enc : TypeId × Value → D} {P : Program} {w w' : World} (ho : Old w w') {sp : Nat → Bool} :
  ∀ {ts:List TypeId} {vs:List Value} {ds:List (DataW D)} {ps:List MemPlace},(∀ t∈ts,kK P t)→DataW.TrodAll enc P w 0 (fun _=>true) true ts vs ds ps→(∀ p∈ps,sp p.block=true)→DataW.TrodAll enc P w' 0 sp true ts vs ds ps
 | [],_,_,_,_,h,_=>by obtain⟨rfl,rfl,rfl⟩:=trodAll_nil h; exact rfl
 | t :: ts, _, _, _, hk, h, hsp => by
  obtain⟨v,vs1,d,ds1,a,b,rfl,rfl,rfl,⟨fuel,h1⟩,h2⟩:=trodAll_cons h
  obtain⟨n,hn⟩:=again (sp:=sp) ho fuel (hk t (List.mem_cons_self ..)) h1 (fun p hp=>hsp p (List.mem_append_left _ hp))
  exact⟨a,b,⟨n,hn⟩,zGc ho (fun t ht=>hk t (List.mem_cons_of_mem _ ht)) h2 (fun p hp=>hsp p (List.mem_append_right _ hp)),rfl⟩
theorem zRF {w w' : World} {H' : Hp} (hk : Kept (rowsOf w) w w' H') (hs : Sat w'.heap H') (hl : (rowsOf w).le H') : Old w w' := by
 intro b hb
 cases hr:rowsOf w b with
 | none=>exact hk.same b hb hr
 | some o =>
  have hr':=hr
  unfold rowsOf at hr'
  split at hr'
  ·rename_i c T fz hh
   cases hr'
   obtain⟨c',T',fz',hh',hsz,hp,_⟩:=hs b _ (hl b _ hr)
   have hshape:=(hk.shape b hb (by rw [hr]; exact fun h=>h.elim)).1
   rw [hh,hh'] at hshape ⊢
   simp only [shp,Option.some.injEq,Prod.mk.injEq] at hshape
   obtain⟨rfl,rfl,_⟩:=hshape
   have : c' = c := by
    apply Array.toList_inj.1
    exact(hp.eq_of_length (by simpa using hsz.symm)).symm
   rw [this]
  ·cases hr'
theorem zJM {w w' : World} (ho : Old w w') (h1 : w'.os = w.os) (h2 : w'.output = w.output) (may : MemPlace → Prop) : w.keptBut w' may := by
 refine⟨h1,h2,fun i hi=>?_⟩
 rw [ho i hi]
 cases hh:w.heap[i]? with
 | none=>trivial
 | some o=>cases o<;>first | exact⟨rfl,rfl,rfl,fun _ _=>rfl⟩ | exact .inr ⟨rfl,rfl⟩ | trivial | rfl
end Go.SL
/- The table record.rules in memory: from what its reading says to its cells. -/
namespace Go.SL
open Go Go.ChangeShapes Go.WideShapes
section
variable {D:Type} {enc:TypeId × Value→D} {P:Program} {w:World} {base:Nat} {sp:Nat→Bool} {held:Bool}
def zLY (r:zJy):DataW D:=.agg [.lit (.int .i64 r.text),.lit (.int .i64 r.leastN),.lit (.int .i64 r.mostN),.lit (.int .i64 r.leastM),.lit (.int .i64 r.mostM),.lit (.bool r.even),.lit (.bool r.single),.lit (.bool r.wild)]
def zPZ:DataW D:=.agg (rules.map zLY)
structure zRV (P : Program) where
 arr:TypeId
 rule:TypeId
 int:TypeId
 bool:TypeId
 harr:P.underlying arr=some (.array 9 rule)
 hrule:zAY P rule [(0,int),(1,int),(2,int),(3,int),(4,int),(5,bool),(6,bool),(7,bool)]
 hint:P.underlying int=some (.int .i64)
 hbool:P.underlying bool=some .bool
 carr:P.cellsOf arr=72
 crule:P.cellsOf rule=8
 cint:P.cellsOf int=1
 cbool:P.cellsOf bool=1
theorem zGR {t : TypeId} {n : Nat} {cs : List Value} {y : DataW D × List MemPlace} {a : Int} (ht : P.underlying t = some (.int .i64)) (h : DataW.trod enc P w base sp held n t cs = some y) (hy : y.1 = .lit (.int .i64 a)) : cs = [.int .i64 a] := by
 obtain⟨m,rfl,rfl,_⟩:=DataW.trod_int ht h
 simp only [DataW.lit.injEq,Lit.int.injEq,true_and] at hy
 rw [hy]
theorem zJA {t : TypeId} {n : Nat} {cs : List Value} {y : DataW D × List MemPlace} {a : Bool} (ht : P.underlying t = some .bool) (h : DataW.trod enc P w base sp held n t cs = some y) (hy : y.1 = .lit (.bool a)) : cs = [.bool a] := by
 obtain⟨m,rfl,rfl⟩:=DataW.trod_bool ht h
 simp only [DataW.lit.injEq,Lit.bool.injEq] at hy
 rw [hy]
theorem ySO {fs : Array Field} {l : List (Nat × TypeId)} (hl : fs.toList.map (fun f => (f.offset, f.type)) = l) {i o : Nat} {t : TypeId} (hi : l[i]? = some (o, t)) : ∃ f, fs[i]? = some f ∧ f.offset = o ∧ f.type = t := by
 subst hl
 simp only [List.getElem?_map,Array.getElem?_toList,Option.map_eq_some_iff,Prod.mk.injEq] at hi
 obtain⟨f,h1,h2,h3⟩:=hi
 exact⟨f,h1,h2,h3⟩
theorem yIw (R : zRV P) {fuel : Nat} {cs : List Value} {p : List MemPlace} {r : zJy} (h : DataW.trod enc P w base sp held fuel R.rule cs = some (zLY r, p)) : cs = zDd r := by
 obtain⟨fs,hu,hl⟩:=R.hrule
 obtain⟨xs,n,_,hx,hlen,hxl,hf⟩:=DataW.trod_struct hu h
 rw [R.crule] at hlen
 have hd : xs.map (·.1) = [.lit (.int .i64 r.text), .lit (.int .i64 r.leastN), .lit (.int .i64 r.mostN), .lit (.int .i64 r.leastM), .lit (.int .i64 r.mostM), .lit (.bool r.even), .lit (.bool r.single), .lit (.bool r.wild)] := by
  have:=congrArg Prod.fst hx
  simp only [zLY,DataW.agg.injEq] at this
  exact this.symm
 have key : ∀ (i o : Nat) (t : TypeId) (d : DataW D), [(0, R.int), (1, R.int), (2, R.int), (3, R.int), (4, R.int), (5, R.bool), (6, R.bool), (7, R.bool)][i]? = some (o, t) → (xs.map (·.1))[i]? = some d →
   ∃ y,DataW.trod enc P w base sp held n t ((cs.drop o).take (P.cellsOf t))=some y∧y.1=d:=by
  intro i o t d hi hdi
  obtain⟨f,h1,rfl,rfl⟩:=ySO hl hi
  simp only [List.getElem?_map,Option.map_eq_some_iff] at hdi
  obtain⟨y,hy,hyd⟩:=hdi
  exact⟨y,(hf i f h1).trans hy,hyd⟩
 rw [hd] at key
 obtain ⟨c0, c1, c2, c3, c4, c5, c6, c7, rfl⟩ : ∃ c0 c1 c2 c3 c4 c5 c6 c7, cs = [c0, c1, c2, c3, c4, c5, c6, c7] := by
  match cs,hlen with
  | [c0,c1,c2,c3,c4,c5,c6,c7],_=>exact⟨_,_,_,_,_,_,_,_,rfl⟩
 obtain⟨_,h0,e0⟩:=key 0 0 R.int _ rfl rfl
 obtain⟨_,h1,e1⟩:=key 1 1 R.int _ rfl rfl
 obtain⟨_,h2,e2⟩:=key 2 2 R.int _ rfl rfl
 obtain⟨_,h3,e3⟩:=key 3 3 R.int _ rfl rfl
 obtain⟨_,h4,e4⟩:=key 4 4 R.int _ rfl rfl
 obtain⟨_,h5,e5⟩:=key 5 5 R.bool _ rfl rfl
 obtain⟨_,h6,e6⟩:=key 6 6 R.bool _ rfl rfl
 obtain⟨_,h7,e7⟩:=key 7 7 R.bool _ rfl rfl
 simp only [R.cint,R.cbool,List.drop_zero,List.drop_succ_cons,List.take_succ_cons,List.take_zero] at h0 h1 h2 h3 h4 h5 h6 h7
 have:=zGR R.hint h0 e0
 have:=zGR R.hint h1 e1
 have:=zGR R.hint h2 e2
 have:=zGR R.hint h3 e3
 have:=zGR R.hint h4 e4
 have:=zJA R.hbool h5 e5
 have:=zJA R.hbool h6 e6
 have:=zJA R.hbool h7 e7
 simp_all [zDd]
theorem zSv (R : zRV P) {fuel : Nat} {cs : List Value} {p : List MemPlace} (h : DataW.trod enc P w base sp held fuel R.arr cs = some (zPZ, p)) : cs = zBM := by
 cases fuel with
 | zero=>simp [DataW.trod] at h
 | succ fuel =>
  simp only [DataW.trod,R.harr,R.carr,R.crule] at h
  split at h
  ·rename_i hl
   obtain⟨xs,hm,hx⟩:=Option.map_eq_some_iff.1 h
   have hxs : xs.map (·.1) = rules.map zLY := by
    have:=congrArg Prod.fst hx
    simpa [zPZ] using this
   have hrow : ∀ i, i < 9 → (cs.drop (i * 8)).take 8 = zDd (rules.getD i default) := by
    intro i hi
    obtain⟨b,hb,hf⟩:=Lib.mapM_at hm i i (by simp [hi])
    have h1:(xs.map (·.1))[i]? = some b.1:=by simp [hb]
    have hlt:i < rules.length:=hi
    rw [hxs,List.getElem?_map,List.getElem?_eq_getElem hlt] at h1
    simp only [Option.map_some,Option.some.injEq] at h1
    have e:rules.getD i default=rules[i]:=by simp [List.getD_eq_getElem?_getD,List.getElem?_eq_getElem hlt]
    rw [e]
    exact yIw R (p:=b.2) (hf.trans (by rw [h1]))
   have:=zIa (n:=9) (sz:=8) (row:=fun i=>zDd (rules.getD i default)) (by omega) hrow
   rw [this]
   rfl
  ·cases h
end
end Go.SL
/- The arguments' data in memory: small unsigned integers. -/
namespace Go.SL
open Go Go.ChangeShapes Go.WideShapes
variable {D:Type} {enc:TypeId × Value→D} {P:Program} {w:World}
theorem yVZ {t : TypeId} {fuel : Nat} {cs : List Value} {x : DataW D × List MemPlace} (ht : P.underlying t = some (.int .u16)) (h : DataW.trod enc P w 0 (fun _ => true) true fuel t cs = some x) : ∃ n, cs = [.int .u16 n] ∧ 0 ≤ n ∧ n ≤ 65535 := by
 obtain⟨n,rfl,_,hw⟩:=DataW.trod_int ht h
 have hw':(decide (IntKind.u16.min≤n) && decide (n≤IntKind.u16.max))=true:=hw
 rw [Bool.and_eq_true,decide_eq_true_eq,decide_eq_true_eq] at hw'
 exact⟨n,rfl,hw'.1,hw'.2⟩
end Go.SL
/- Plain law: a set that one zone alone publishes, no longer than before a time, is possible at no time from the zone's longest wait on. -/
namespace Go.SL
open Go
theorem zIY : ∀ (fs : List yE) k, ((kW fs k).map (·.1)).Nodup
 | _,0=>List.nodup_nil
 | fs, k + 1 => by
  have hs : ∀ (sp : zO) (G : yR) (ss : List zF) (n : Nat), (G.map (·.1)).Nodup → ((uS sp G ss n).map (·.1)).Nodup := by
   intro sp G ss n hG
   induction n with
   | zero=>exact hG
   | succ n ih=>exact zDl ih
  exact hs _ _ _ _ (zIY fs k)
theorem zQU {κ ν : Type} : ∀ {l : List (κ × ν)}, (l.map (·.1)).Nodup → ∀ {a b}, a ∈ l → b ∈ l → a.1 = b.1 → a = b
 | [],_,_,_,h,_,_=>by cases h
 | e :: l, hn, a, b, ha, hb, hk => by
  rw [List.map_cons,List.nodup_cons] at hn
  rcases List.mem_cons.1 ha with h1 | h1
  ·rcases List.mem_cons.1 hb with h2 | h2
   ·rw [h1,h2]
   ·exact absurd (by rw [← h1,hk]; exact List.mem_map_of_mem h2) hn.1
  ·rcases List.mem_cons.1 hb with h2 | h2
   ·exact absurd (by rw [← h2,← hk]; exact List.mem_map_of_mem h1) hn.1
   ·exact zQU hn.2 h1 h2 hk
theorem zFx {h : yO} {x : Bs × (zF × List zO)} (hx : x ∈ wI h) : ∃ e ∈ kN h.copies x.1, e.2 = x.2 := by
 obtain⟨i,_,he⟩:=(zKK _).1 hx
 obtain⟨e,he',h2⟩:=List.mem_map.1 he
 subst h2
 exact⟨e,he',rfl⟩
theorem yOE {h : yO} {x y : Bs × (zF × List zO)} (hx : x ∈ wI h) (hy : y ∈ wI h) (hz : y.1 = x.1) (hs : y.2.1 = x.2.1) : y = x := by
 obtain⟨e,he,hex⟩:=zFx hx
 obtain⟨e',he',hey⟩:=zFx hy
 rw [hz] at he'
 have hinv:=zDG (wD h.copies x.1) (wD h.copies x.1).length (Nat.le_refl _)
 have hk:e.1=e'.1:=by rw [hinv.key e he,hinv.key e' he',hex,hey,hs]
 have:=zQU (zIY _ _) he he' hk
 subst this
 exact Prod.ext hz (hey.symm.trans hex)
theorem yMz {h : yO} (hv : ∀ c ∈ h.copies, c.from_ < c.till ∧ ∀ s ∈ c.sets, Plain s) {x : Bs × (zF × List zO)} (hx : x ∈ wI h) {t t' : Int} (hl : ∀ s ∈ yC x.2.2, s.till ≤ t)
  (ht:uW h.copies x.1 t h.drift h.copies.length≤t'):hasB (kO h.drift x.2.1 (yC x.2.2)) t'=false:=by
 cases hb:hasB (kO h.drift x.2.1 (yC x.2.2)) t'
 ·rfl
 ·exfalso
  obtain⟨_,h2,_⟩:=zBZ h.copies x.1 t h.drift h.copies.length
  obtain⟨e,he,hex⟩:=zFx hx
  have hinv:=zDG (wD h.copies x.1) (wD h.copies x.1).length (Nat.le_refl _)
  obtain⟨p,hp,_,hp2⟩:=yRe.1 hb
  obtain⟨⟨g,hg,_,hpt⟩,_⟩:=zEx hp
  obtain⟨q,hq,rfl⟩:=List.mem_map.1 hg
  have hqt':=hl q hq
  obtain⟨⟨sp,hsp,hspl,hqt⟩,_⟩:=zEx hq
  rw [← hex] at hsp
  obtain⟨c,hc,rfl,s,hs,hts⟩:=hinv.spans e he sp hsp
  obtain⟨c2,hc2,hs2⟩:=hinv.set e he
  have hcm:=zAv hc
  have hc2m:=zAv hc2
  have hse:s=e.2.1:=zJt ((hv c hcm.1).2 s hs) ((hv c2 hc2m.1).2 _ hs2) (hts.trans (hinv.key e he))
  obtain⟨i,hi,hci⟩:=uO hcm.1
  have e0:(xR c).till=c.till:=rfl
  have e00:(xR c).from_=c.from_:=rfl
  rw [e0] at hqt hspl
  rw [e00] at hspl
  have hle:=h2 i hi (by rw [hci]; exact hcm.2) (by rw [hci]; omega) s (by rw [hci]; exact hs)
  rw [hci] at hle
  have hmin:min c.till t=c.till:=by omega
  rw [hmin] at hle
  have e1:p.till=wC h.drift x.2.1 c.till:=by rw [hpt]; simp only [jZ]; rw [hqt]
  rw [e1,← hex,← hse] at hp2
  omega
end Go.SL
