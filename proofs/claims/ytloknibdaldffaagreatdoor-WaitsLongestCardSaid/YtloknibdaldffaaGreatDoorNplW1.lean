/- Plain law: sorting few elements, spans that are united. -/
import Derived.Test.YtloknibdaldffaaGreatDoorNplT29
import Derived.Lib.ItoaNum
import Derived.Test.YtloknibdaldffaaGreatDoorNplQ
import Derived.Test.YtloknibdaldffaaGreatDoorNplO7
namespace Go.SL
open Go
section
variable {α : Type} [Inhabited α] (lt : α → α → Bool)
theorem swp_perm (l : List α) (j : Nat) (h : j + 1 < l.length) : (swp l j).Perm l := by
 have e : l = l.take j ++ (l[j]'(by omega)) :: l[j + 1] :: l.drop (j + 2) := by
  rw [← List.drop_eq_getElem_cons h,← List.drop_eq_getElem_cons (by omega : j < l.length),List.take_append_drop]
 have e2 : swp l j = l.take j ++ l[j + 1] :: (l[j]'(by omega)) :: l.drop (j + 2) := by
  unfold swp
  apply List.ext_getElem?
  intro i
  simp only [List.getD_eq_getElem?_getD,List.getElem?_eq_getElem h,List.getElem?_eq_getElem (show j < l.length by omega),Option.getD_some]
  rcases Nat.lt_trichotomy i j with h1 | h1 | h1
  ·rw [List.getElem?_append_left (by simp; omega)]
   simp [h1,show j ≠ i by omega,show j + 1 ≠ i by omega]
  ·subst h1
   rw [List.getElem?_append_right (by simp; omega)]
   simp [Nat.min_eq_left (show i ≤ l.length by omega),show i < l.length by omega]
  ·by_cases h2 : i = j + 1
   ·subst h2
    rw [List.getElem?_append_right (by simp; omega)]
    simp [Nat.min_eq_left (show j ≤ l.length by omega),h]
   ·rw [List.getElem?_append_right (by simp; omega)]
    have e3 : i - (l.take j).length = (i - (j + 2)) + 2 := by simp; omega
    rw [e3]
    simp [show j ≠ i by omega,show j + 1 ≠ i by omega,show j + 2 + (i - (j + 2)) = i by omega]
 rw [e2]
 conv => rhs; rw [e]
 exact List.Perm.append_left _ (List.Perm.swap ..)
theorem insGo_perm : ∀ (j : Nat) (l : List α), j < l.length → (insGo lt j l).Perm l
 | 0,l,_ => List.Perm.refl _
 | j + 1, l, h => by
  simp only [insGo]
  split
  ·exact (insGo_perm j (swp l j) (by rw [swp_len]; omega)).trans (swp_perm l j h)
  ·exact List.Perm.refl _
theorem sortN_perm : ∀ (k : Nat) (l : List α), k ≤ l.length → (sortN lt k l).Perm l
 | 0,l,_ => List.Perm.refl _
 | k + 1, l, h => by
  simp only [sortN]
  exact (insGo_perm lt k _ (by rw [sortN_len]; omega)).trans (sortN_perm k l (by omega))
end
theorem swp_getD {α : Type} [Inhabited α] (l : List α) (j : Nat) (h : j + 1 < l.length) (i : Nat) : (swp l j).getD i default = if i = j then l.getD (j + 1) default else if i = j + 1 then l.getD j default else l.getD i default := by
 simp only [swp,List.getD_eq_getElem?_getD,List.getElem?_set,List.length_set]
 by_cases h1 : i = j
 ·subst h1; simp [show i < l.length by omega]
 ·by_cases h2 : i = j + 1
  ·subst h2; simp [h]
  ·simp [h1,h2,Ne.symm h1,Ne.symm h2]
section
variable {α : Type} [Inhabited α] (key : α → Int)
def OrdN (l : List α) (k : Nat) : Prop := ∀ i,i + 1 < k → key (l.getD i default) ≤ key (l.getD (i + 1) default)
theorem insGo_ord (k : Nat) : ∀ (j : Nat) (l : List α), j < l.length → j ≤ k → k < l.length →
  (∀ i,i + 1 < k + 1 → i + 1 ≠ j → key (l.getD i default) ≤ key (l.getD (i + 1) default)) → (0 < j → j < k → key (l.getD (j - 1) default) ≤ key (l.getD (j + 1) default)) →
  OrdN key (insGo (fun a b => decide (key a < key b)) j l) (k + 1)
 | 0,l,_,_,_,h,_ => fun i hi => h i hi (by omega)
 | j + 1, l, hj, hjk, hk, h, h' => by
  simp only [insGo,decide_eq_true_eq]
  split
  ·rename_i hlt
   refine insGo_ord k j (swp l j) (by rw [swp_len]; omega) (by omega) (by rw [swp_len]; omega) ?_ ?_
   ·intro i hi hne
    rw [swp_getD l j hj,swp_getD l j hj]
    by_cases e1 : i = j
    ·subst e1
     rw [if_pos rfl,if_neg (by omega),if_pos rfl]; omega
    ·rw [if_neg e1]
     by_cases e2 : i = j + 1
     ·subst e2
      rw [if_pos rfl,if_neg (by omega),if_neg (by omega)]
      have := h' (by omega) (by omega)
      simpa using this
     ·rw [if_neg e2,if_neg hne,if_neg (by omega)]
      exact h i hi (by omega)
   ·intro h0 hjk'
    rw [swp_getD l j hj,swp_getD l j hj,if_neg (by omega),if_neg (by omega),if_neg (by omega),if_pos rfl]
    have := h (j - 1) (by omega) (by omega)
    rw [show j - 1 + 1 = j by omega] at this
    exact this
  ·rename_i hge
   intro i hi
   by_cases e : i + 1 = j + 1
   ·have : i = j := by omega
    subst this; omega
   ·exact h i hi e
theorem sortN_ord : ∀ (k : Nat) (l : List α), k ≤ l.length → OrdN key (sortN (fun a b => decide (key a < key b)) k l) k
 | 0,_,_ => fun i hi => by omega
 | k + 1, l, h => by
  simp only [sortN]
  have ih := sortN_ord k l (by omega)
  refine insGo_ord key k k _ (by rw [sortN_len]; omega) (Nat.le_refl _) (by rw [sortN_len]; omega) ?_ (fun _ h => absurd h (Nat.lt_irrefl _))
  intro i hi hne
  exact ih i (by omega)
end
theorem cmpInt_lt (a b : Int) : decide (cmpInt a b < 0) = decide (a < b) := by
 unfold cmpInt
 split
 ·rename_i h; simp [h]
 ·rename_i h
  split <;> simp <;> omega
theorem ltSpan_eq : ltSpan = fun a b => decide (a.from_ < b.from_) := by
 funext a b
 exact cmpInt_lt _ _
def unite1 (out : List SpanD) (s : SpanD) : List SpanD := match out.getLast? with
 | some p => if s.from_ ≤ p.till then out.dropLast ++ [⟨p.from_,max p.till s.till⟩] else out ++ [s]
 | none => [s]
def unitedN (l : List SpanD) : Nat → List SpanD
 | 0 => []
 | k + 1 => unite1 (unitedN l k) (l.getD k default)
def siftL (l : List SpanD) : List SpanD := l.filter fun s => decide (s.from_ < s.till)
def sortL (l : List SpanD) : List SpanD := sortN ltSpan l.length l
def unitedL (l : List SpanD) : List SpanD := unitedN l l.length
def normalL (l : List SpanD) : List SpanD := unitedL (sortL (siftL l))
def hasB (l : List SpanD) (t : Int) : Bool := anyN (fun i => decide ((l.getD i default).from_ ≤ t) && decide (t < (l.getD i default).till)) l.length
theorem mem_unite1 {out : List SpanD} {s p : SpanD} (h : p ∈ unite1 out s) : p ∈ out ∨ p = s ∨ ∃ q ∈ out, p.from_ = q.from_ ∧ (p.till = q.till ∨ p.till = s.till) := by
 unfold unite1 at h
 split at h
 ·rename_i q hq
  have hm := List.mem_of_getLast? hq
  split at h
  ·rcases List.mem_append.1 h with h | h
   ·exact .inl (List.dropLast_subset _ h)
   ·simp at h; subst h
    refine .inr (.inr ⟨q,hm,rfl,?_⟩)
    simp only
    omega
  ·rcases List.mem_append.1 h with h | h
   ·exact .inl h
   ·exact .inr (.inl (by simpa using h))
 ·exact .inr (.inl (by simpa using h))
theorem mem_unitedN (l : List SpanD) : ∀ k, k ≤ l.length → ∀ p ∈ unitedN l k, (∃ s ∈ l, p.till = s.till) ∧ ∃ s ∈ l, p.from_ = s.from_
 | 0,_,p,h => by cases h
 | k + 1, hk, p, h => by
  simp only [unitedN] at h
  have hm : l.getD k default ∈ l := by rw [List.getD_eq_getElem?_getD,List.getElem?_eq_getElem (by omega)]; exact List.getElem_mem _
  rcases mem_unite1 h with h | rfl | ⟨q,hq,h1,h2⟩
  ·exact mem_unitedN l k (by omega) p h
  ·exact ⟨⟨_,hm,rfl⟩,_,hm,rfl⟩
  ·have ih := mem_unitedN l k (by omega) q hq
   refine ⟨?_,?_⟩
   ·rcases h2 with h2 | h2
    ·obtain ⟨s,hs,e⟩ := ih.1; exact ⟨s,hs,h2.trans e⟩
    ·exact ⟨_,hm,h2⟩
   ·obtain ⟨s,hs,e⟩ := ih.2; exact ⟨s,hs,h1.trans e⟩
theorem unitedN_cover (l : List SpanD) (ho : OrdN (fun s : SpanD => s.from_) l l.length) : ∀ k, k ≤ l.length →
  (∀ p ∈ unitedN l k,∀ i,k ≤ i → i < l.length → p.from_ ≤ (l.getD i default).from_) ∧ ∀ i,i < k → ∃ p ∈ unitedN l k,p.from_ ≤ (l.getD i default).from_ ∧ (l.getD i default).till ≤ p.till
 | 0,_ => ⟨fun p h => (by cases h),fun i h => by omega⟩
 | k + 1, hk => by
  obtain ⟨h1,h2⟩ := unitedN_cover l ho k (by omega)
  have hmono : ∀ i j, i ≤ j → j < l.length → (l.getD i default).from_ ≤ (l.getD j default).from_ := by
   intro i j hij hj
   induction j with
   | zero => have : i = 0 := by omega
             subst this; exact Int.le_refl _
   | succ j ih =>
    by_cases e : i = j + 1
    ·subst e; exact Int.le_refl _
    ·exact Int.le_trans (ih (by omega) (by omega)) (ho j hj)
  refine ⟨?_,?_⟩
  ·intro p hp i hi hil
   simp only [unitedN] at hp
   rcases mem_unite1 hp with h | rfl | ⟨q,hq,e,_⟩
   ·exact h1 p h i (by omega) hil
   ·exact hmono k i (by omega) hil
   ·rw [e]; exact h1 q hq i (by omega) hil
  ·intro i hi
   simp only [unitedN,unite1]
   cases hg : (unitedN l k).getLast? with
   | none =>
    have hnil : unitedN l k = [] := List.getLast?_eq_none_iff.1 hg
    by_cases e : i = k
    ·subst e; exact ⟨_,List.mem_singleton.2 rfl,Int.le_refl _,Int.le_refl _⟩
    ·obtain ⟨p,hp,_⟩ := h2 i (by omega)
     rw [hnil] at hp; cases hp
   | some q =>
    have hqm := List.mem_of_getLast? hg
    have hqk := h1 q hqm k (Nat.le_refl _) (by omega)
    simp only
    by_cases hle : (l.getD k default).from_ ≤ q.till
    ·rw [if_pos hle]
     by_cases e : i = k
     ·subst e
      exact ⟨_,List.mem_append_right _ (List.mem_singleton.2 rfl),hqk,by simp only; omega⟩
     ·obtain ⟨p,hp,a1,a2⟩ := h2 i (by omega)
      have hsplit : unitedN l k = (unitedN l k).dropLast ++ [q] := by
       obtain ⟨ys,hys⟩ := List.getLast?_eq_some_iff.1 hg
       rw [hys]; simp
      rw [hsplit] at hp
      rcases List.mem_append.1 hp with hp | hp
      ·exact ⟨p,List.mem_append_left _ hp,a1,a2⟩
      ·simp at hp; subst hp
       exact ⟨_,List.mem_append_right _ (List.mem_singleton.2 rfl),a1,by simp only; omega⟩
    ·rw [if_neg hle]
     by_cases e : i = k
     ·subst e
      exact ⟨_,List.mem_append_right _ (List.mem_singleton.2 rfl),Int.le_refl _,Int.le_refl _⟩
     ·obtain ⟨p,hp,a1,a2⟩ := h2 i (by omega)
      exact ⟨p,List.mem_append_left _ hp,a1,a2⟩
theorem sortL_mem {l : List SpanD} {s : SpanD} : s ∈ sortL l ↔ s ∈ l := (sortN_perm ltSpan l.length l (Nat.le_refl _)).mem_iff
theorem sortL_ord (l : List SpanD) : OrdN (fun s : SpanD => s.from_) (sortL l) (sortL l).length := by
 unfold sortL
 rw [ltSpan_eq,sortN_len]
 exact sortN_ord (fun s : SpanD => s.from_) l.length l (Nat.le_refl _)
theorem siftL_mem {l : List SpanD} {s : SpanD} : s ∈ siftL l ↔ s ∈ l ∧ s.from_ < s.till := by simp [siftL]
theorem normalL_sub {l : List SpanD} {p : SpanD} (h : p ∈ normalL l) : (∃ s ∈ l, s.from_ < s.till ∧ p.till = s.till) ∧ ∃ s ∈ l, s.from_ < s.till ∧ p.from_ = s.from_ := by
 obtain ⟨⟨s,hs,e⟩,t,ht,e2⟩ := mem_unitedN (sortL (siftL l)) _ (Nat.le_refl _) p h
 have hs' := siftL_mem.1 (sortL_mem.1 hs)
 have ht' := siftL_mem.1 (sortL_mem.1 ht)
 exact ⟨⟨s,hs'.1,hs'.2,e⟩,t,ht'.1,ht'.2,e2⟩
theorem normalL_cover {l : List SpanD} {s : SpanD} (h : s ∈ l) (hs : s.from_ < s.till) : ∃ p ∈ normalL l, p.from_ ≤ s.from_ ∧ s.till ≤ p.till := by
 have hm : s ∈ sortL (siftL l) := sortL_mem.2 (siftL_mem.2 ⟨h,hs⟩)
 obtain ⟨i,hi,e⟩ := List.getElem_of_mem hm
 obtain ⟨p,hp,a,b⟩ := (unitedN_cover (sortL (siftL l)) (sortL_ord _) _ (Nat.le_refl _)).2 i hi
 have : (sortL (siftL l)).getD i default = s := by rw [List.getD_eq_getElem?_getD,List.getElem?_eq_getElem hi,e]; rfl
 rw [this] at a b
 exact ⟨p,hp,a,b⟩
theorem anyN_ex {P : Nat → Bool} {n : Nat} : anyN P n = true ↔ ∃ i, i < n ∧ P i = true := by
 induction n with
 | zero => simp [anyN]
 | succ n ih =>
  simp only [anyN,Bool.or_eq_true,ih]
  constructor
  ·rintro (⟨i,h,hp⟩ | hp)
   ·exact ⟨i,by omega,hp⟩
   ·exact ⟨n,by omega,hp⟩
  ·rintro ⟨i,h,hp⟩
   by_cases e : i = n
   ·subst e; exact .inr hp
   ·exact .inl ⟨i,by omega,hp⟩
theorem hasB_iff {l : List SpanD} {t : Int} : hasB l t = true ↔ ∃ p ∈ l, p.from_ ≤ t ∧ t < p.till := by
 unfold hasB
 rw [anyN_ex]
 constructor
 ·rintro ⟨i,hi,h⟩
  simp only [Bool.and_eq_true,decide_eq_true_eq] at h
  refine ⟨_,?_,h⟩
  rw [List.getD_eq_getElem?_getD,List.getElem?_eq_getElem hi]; exact List.getElem_mem _
 ·rintro ⟨p,hp,h⟩
  obtain ⟨i,hi,e⟩ := List.getElem_of_mem hp
  refine ⟨i,hi,?_⟩
  have : l.getD i default = p := by rw [List.getD_eq_getElem?_getD,List.getElem?_eq_getElem hi,e]; rfl
  rw [this]
  simpa using h
end Go.SL
/- Plain law: the text of a signed set tells it from all others. -/
namespace Go.SL
open Go
theorem cut_at {c : UInt8} : ∀ {w w' r r' : Bs}, c ∉ w → c ∉ w' → w ++ c :: r = w' ++ c :: r' → w = w' ∧ r = r'
 | [],[],_,_,_,_,h => ⟨rfl,by simpa using h⟩
 | [], y :: w', _, _, _, h2, h => by
  simp only [List.nil_append,List.cons_append,List.cons.injEq] at h
  exact absurd (h.1 ▸ List.mem_cons_self) h2
 | x :: w, [], _, _, h1, _, h => by
  simp only [List.nil_append,List.cons_append,List.cons.injEq] at h
  exact absurd (h.1 ▸ List.mem_cons_self) h1
 | x :: w, y :: w', _, _, h1, h2, h => by
  simp only [List.cons_append,List.cons.injEq] at h
  have := cut_at (fun hm => h1 (List.mem_cons_of_mem _ hm)) (fun hm => h2 (List.mem_cons_of_mem _ hm)) h.2
  exact ⟨by rw [h.1,this.1],this.2⟩
theorem dig_ne (d : Nat) (h : d < 10) : UInt8.ofNat (48 + d) ≠ 47 ∧ UInt8.ofNat (48 + d) ≠ 45 := by
 have : d = 0 ∨ d = 1 ∨ d = 2 ∨ d = 3 ∨ d = 4 ∨ d = 5 ∨ d = 6 ∨ d = 7 ∨ d = 8 ∨ d = 9 := by omega
 rcases this with rfl | rfl | rfl | rfl | rfl | rfl | rfl | rfl | rfl | rfl <;> decide
theorem dig_inj {d e : Nat} (hd : d < 10) (he : e < 10) (h : UInt8.ofNat (48 + d) = UInt8.ofNat (48 + e)) : d = e := by
 have := congrArg UInt8.toNat h
 rw [UInt8.toNat_ofNat',UInt8.toNat_ofNat'] at this
 omega
theorem decDigits_mem (u : Nat) : ∀ x ∈ Lib.decDigits u, x ≠ 47 ∧ x ≠ 45 := by
 induction u using Nat.strongRecOn with
 | ind u ih =>
  unfold Lib.decDigits
  split
  ·rename_i h
   intro x hx
   rw [List.mem_singleton.1 hx]
   exact dig_ne u h
  ·rename_i h
   intro x hx
   rcases List.mem_append.1 hx with hx | hx
   ·exact ih _ (by omega) x hx
   ·rw [List.mem_singleton.1 hx]
    exact dig_ne _ (by omega)
theorem decDigits_ne (u : Nat) : Lib.decDigits u ≠ [] := by
 unfold Lib.decDigits
 split <;> simp
theorem decDigits_inj (u : Nat) : ∀ v, Lib.decDigits u = Lib.decDigits v → u = v := by
 induction u using Nat.strongRecOn with
 | ind u ih =>
  intro v h
  rw [Lib.decDigits] at h
  conv at h => rhs; rw [Lib.decDigits]
  split at h
  ·rename_i hu
   split at h
   ·rename_i hv
    exact dig_inj hu hv (List.cons.inj h).1
   ·rename_i hv
    have hl := congrArg List.length h
    simp at hl
    exact absurd hl (decDigits_ne _)
  ·rename_i hu
   split at h
   ·rename_i hv
    have hl := congrArg List.length h
    simp at hl
    exact absurd hl (decDigits_ne _)
   ·rename_i hv
    have := List.append_inj' h rfl
    have h1 := ih (u / 10) (by omega) _ this.1
    have h2 := dig_inj (d := u % 10) (e := v % 10) (by omega) (by omega) (List.cons.inj this.2).1
    omega
theorem itoa_mem (n : Int) : 47 ∉ Lib.itoa n := by
 unfold Lib.itoa
 split
 ·intro h
  rcases List.mem_cons.1 h with h | h
  ·exact absurd h (by decide)
  ·exact (decDigits_mem _ _ h).1 rfl
 ·exact fun h => (decDigits_mem _ _ h).1 rfl
theorem itoa_inj {n m : Int} (h : Lib.itoa n = Lib.itoa m) : n = m := by
 unfold Lib.itoa at h
 split at h
 ·rename_i hn
  split at h
  ·rename_i hm
   have := decDigits_inj _ _ (List.cons.inj h).2
   omega
  ·exact absurd rfl (decDigits_mem m.toNat 45 (h ▸ List.mem_cons_self)).2
 ·rename_i hn
  split at h
  ·exact absurd rfl (decDigits_mem n.toNat 45 (h ▸ List.mem_cons_self)).2
  ·rename_i hm
   have := decDigits_inj _ _ h
   omega
def putT (w : Bs) (ns : List Int) : Bs := w ++ ((ns.flatMap fun n => 47 :: Lib.itoa n) ++ [47])
def textD (d : DatumD) : Bs := putT d.text [d.n,d.m]
def textG (g : SigD) : Bs := putT g.zone [g.key,g.alg,g.from_,g.till] ++ putT (Lib.itoa g.sum) []
def textOf (s : SignedD) : Bs := putT s.name [s.type,s.life,s.data.length] ++ (s.data.flatMap textD ++ s.sigs.flatMap textG)
def Plain (s : SignedD) : Prop := 47 ∉ s.name ∧ (∀ d ∈ s.data,47 ∉ d.text) ∧ ∀ g ∈ s.sigs,47 ∉ g.zone
theorem textD_inj : ∀ {l l' : List DatumD} {r r' : Bs}, l.length = l'.length → (∀ d ∈ l, 47 ∉ d.text) → (∀ d ∈ l', 47 ∉ d.text) → l.flatMap textD ++ r = l'.flatMap textD ++ r' → l = l' ∧ r = r'
 | [],[],_,_,_,_,_,h => ⟨rfl,by simpa using h⟩
 | [],_ :: _,_,_,hl,_,_,_ => by simp at hl
 | _ :: _,[],_,_,hl,_,_,_ => by simp at hl
 | d :: l, d' :: l', r, r', hl, h1, h2, h => by
  simp only [List.flatMap_cons,textD,putT,List.flatMap_nil,List.append_nil,List.append_assoc,List.cons_append,List.nil_append] at h
  obtain ⟨e1,h⟩ := cut_at (h1 d List.mem_cons_self) (h2 d' List.mem_cons_self) h
  obtain ⟨e2,h⟩ := cut_at (itoa_mem _) (itoa_mem _) h
  obtain ⟨e3,h⟩ := cut_at (itoa_mem _) (itoa_mem _) h
  have := textD_inj (l := l) (l' := l') (by simpa using hl) (fun x hx => h1 x (List.mem_cons_of_mem _ hx)) (fun x hx => h2 x (List.mem_cons_of_mem _ hx)) h
  have a2 := itoa_inj e2
  have a3 := itoa_inj e3
  have hd : d = d' := by
   cases d; cases d'
   simp only at e1 a2 a3
   subst e1 a2 a3; rfl
  exact ⟨by rw [hd,this.1],this.2⟩
theorem textG_inj : ∀ {l l' : List SigD}, (∀ g ∈ l, 47 ∉ g.zone) → (∀ g ∈ l', 47 ∉ g.zone) → l.flatMap textG = l'.flatMap textG → l = l'
 | [],[],_,_,_ => rfl
 | [],g :: l',_,_,h => by simp [textG,putT] at h
 | g :: l,[],_,_,h => by simp [textG,putT] at h
 | d :: l, d' :: l', h1, h2, h => by
  simp only [List.flatMap_cons,textG,putT,List.flatMap_nil,List.append_nil,List.append_assoc,List.cons_append,List.nil_append] at h
  obtain ⟨e1,h⟩ := cut_at (h1 d List.mem_cons_self) (h2 d' List.mem_cons_self) h
  obtain ⟨e2,h⟩ := cut_at (itoa_mem _) (itoa_mem _) h
  obtain ⟨e3,h⟩ := cut_at (itoa_mem _) (itoa_mem _) h
  obtain ⟨e4,h⟩ := cut_at (itoa_mem _) (itoa_mem _) h
  obtain ⟨e5,h⟩ := cut_at (itoa_mem _) (itoa_mem _) h
  obtain ⟨e6,h⟩ := cut_at (itoa_mem _) (itoa_mem _) h
  have := textG_inj (l := l) (l' := l') (fun x hx => h1 x (List.mem_cons_of_mem _ hx)) (fun x hx => h2 x (List.mem_cons_of_mem _ hx)) h
  have a2 := itoa_inj e2
  have a3 := itoa_inj e3
  have a4 := itoa_inj e4
  have a5 := itoa_inj e5
  have a6 := itoa_inj e6
  have hd : d = d' := by
   cases d; cases d'
   simp only at e1 a2 a3 a4 a5 a6
   subst e1 a2 a3 a4 a5 a6; rfl
  rw [hd,this]
theorem textOf_inj {s s' : SignedD} (h1 : Plain s) (h2 : Plain s') (h : textOf s = textOf s') : s = s' := by
 simp only [textOf,putT,List.flatMap_cons,List.flatMap_nil,List.append_nil,List.append_assoc,List.cons_append,List.nil_append] at h
 obtain ⟨e1,h⟩ := cut_at h1.1 h2.1 h
 obtain ⟨e2,h⟩ := cut_at (itoa_mem _) (itoa_mem _) h
 obtain ⟨e3,h⟩ := cut_at (itoa_mem _) (itoa_mem _) h
 obtain ⟨e4,h⟩ := cut_at (itoa_mem _) (itoa_mem _) h
 have e4' := itoa_inj e4
 obtain ⟨e5,h⟩ := textD_inj (by omega) h1.2.1 h2.2.1 h
 have e6 := textG_inj h1.2.2 h2.2.2 h
 have a2 := itoa_inj e2
 have a3 := itoa_inj e3
 cases s; cases s'
 simp only at e1 a2 a3 e5 e6
 subst e1 a2 a3 e5 e6; rfl
theorem lastIxN_spec (c : UInt8) (l : Bs) : ∀ k, k ≤ l.length → (∀ i, lastIxN c l k = some i → i < k ∧ l.getD i 0 = c) ∧ (lastIxN c l k = none → ∀ j, j < k → l.getD j 0 ≠ c)
 | 0,_ => ⟨fun i h => (by cases h),fun _ j h => by omega⟩
 | k + 1, hk => by
  have ih := lastIxN_spec c l k (by omega)
  simp only [lastIxN]
  split
  ·rename_i he
   exact ⟨fun i h => by cases h; exact ⟨by omega,he⟩,fun h => by cases h⟩
  ·rename_i he
   refine ⟨fun i h => ⟨by have := (ih.1 i h).1; omega,(ih.1 i h).2⟩,fun h j hj => ?_⟩
   by_cases e : j = k
   ·subst e; exact he
   ·exact ih.2 h j (by omega)
theorem labF_mem : ∀ (n : Nat) (l : Bs), l.length < n → ∀ x ∈ l, x = 46 ∨ ∃ y ∈ labF n l, x ∈ y
 | 0,_,h,_,_ => by omega
 | n + 1, l, h, x, hx => by
  simp only [labF]
  cases hg : lastIx 46 l with
  | none => exact .inr ⟨l,by simp,hx⟩
  | some i =>
   have hs := (lastIxN_spec 46 l l.length (Nat.le_refl _)).1 i hg
   have hsplit : l = l.take i ++ 46 :: l.drop (i + 1) := by
    have e : l[i]'hs.1 = 46 := by have := hs.2; rw [List.getD_eq_getElem?_getD,List.getElem?_eq_getElem hs.1] at this; exact this
    rw [← e,← List.drop_eq_getElem_cons hs.1,List.take_append_drop]
   rw [hsplit] at hx
   rcases List.mem_append.1 hx with hx | hx
   ·rcases labF_mem n (l.take i) (by rw [List.length_take]; omega) x hx with h1 | ⟨y,hy,hxy⟩
    ·exact .inl h1
    ·exact .inr ⟨y,List.mem_cons_of_mem _ hy,hxy⟩
   ·rcases List.mem_cons.1 hx with hx | hx
    ·exact .inl hx
    ·exact .inr ⟨_,List.mem_cons_self,hx⟩
theorem validGo_mem : ∀ (l : List Bs) (c : Nat) (w : Bool), validGo l c w = true → ∀ y ∈ l, y = [42] ∨ isLabelB y = true
 | [],_,_,_,y,h => by cases h
 | x :: r, c, w, hv, y, h => by
  simp only [validGo] at hv
  split at hv
  ·cases hv
  ·split at hv
   ·cases hv
   ·rename_i h2
    rcases List.mem_cons.1 h with rfl | h
    ·simp only [Bool.and_eq_true,Bool.not_eq_true',not_and,Bool.not_eq_false] at h2
     by_cases e : y = [42]
     ·exact .inl e
     ·exact .inr (h2 (by simpa using e))
    ·exact validGo_mem r _ _ hv y h
theorem label_mem {y : Bs} (h : isLabelB y = true) : (47 : UInt8) ∉ y := by
 intro hm
 unfold isLabelB at h
 simp only [Bool.and_eq_true] at h
 have h2 := allN_iff.1 h.2
 obtain ⟨i,hi,e⟩ := List.getElem_of_mem hm
 have := h2 i hi
 have e2 : y.getD i 0 = 47 := by rw [List.getD_eq_getElem?_getD,List.getElem?_eq_getElem hi,e]; rfl
 simp only [bI,e2] at this
 exact absurd this (by decide)
theorem name_slash {l : Bs} (h : nameValid l = true) : (47 : UInt8) ∉ l := by
 unfold nameValid at h
 simp only [Bool.or_eq_true,Bool.and_eq_true] at h
 rcases h with h | ⟨_,h⟩
 ·have : l = [46] := by simpa using h
  subst this; decide
 ·intro hm
  unfold labs at h
  split at h
  ·rename_i e; subst e; exact absurd hm (by decide)
  ·rcases labF_mem (l.length + 1) l (by omega) 47 hm with h1 | ⟨y,hy,hxy⟩
   ·exact absurd h1 (by decide)
   ·rcases validGo_mem _ _ _ h y hy with rfl | hl
    ·exact absurd hxy (by decide)
    ·exact label_mem hl hxy
theorem free_slash {s : Bs} (h : isFreeB s = true) : (47 : UInt8) ∉ s := by
 intro hm
 unfold isFreeB at h
 simp only [Bool.and_eq_true] at h
 have h2 := allN_iff.1 h.2
 obtain ⟨i,hi,e⟩ := List.getElem_of_mem hm
 have := h2 i hi
 have e2 : s.getD i 0 = 47 := by rw [List.getD_eq_getElem?_getD,List.getElem?_eq_getElem hi,e]; rfl
 simp only [bI,e2] at this
 exact absurd this (by decide)
theorem text_slash {k : Int} {s : Bs} (h : textOk k s = true) : (47 : UInt8) ∉ s := by
 unfold textOk at h
 split at h
 ·simp only [Bool.and_eq_true] at h; exact name_slash h.1
 ·split at h
  ·exact name_slash h
  ·split at h
   ·exact free_slash h
   ·have : s = [] := by simpa using h
    subst this; simp
theorem mem_getD {α : Type} [Inhabited α] {l : List α} {x : α} (h : x ∈ l) : ∃ i, i < l.length ∧ l.getD i default = x := by
 obtain ⟨i,hi,e⟩ := List.getElem_of_mem h
 exact ⟨i,hi,by rw [List.getD_eq_getElem?_getD,List.getElem?_eq_getElem hi,e]; rfl⟩
theorem getD_mem {α : Type} [Inhabited α] {l : List α} {i : Nat} (h : i < l.length) : l.getD i default ∈ l := by
 rw [List.getD_eq_getElem?_getD,List.getElem?_eq_getElem h]; exact List.getElem_mem _
structure GoodS (s : SignedD) : Prop where
 plain : Plain s
 life : 0 ≤ s.life ∧ s.life ≤ 100000
 sigs : ∀ g ∈ s.sigs,0 ≤ g.till ∧ g.till ≤ 20000000
theorem recValid_parts {n : Bs} {t l : Int} {ds : List DatumD} (h : recValid n t l ds = true) : nameValid n = true ∧ (0 ≤ l ∧ l ≤ 100000) ∧ ∀ d ∈ ds, (47 : UInt8) ∉ d.text := by
 unfold recValid at h
 simp only [Bool.and_eq_true,withinI,decide_eq_true_eq] at h
 refine ⟨h.1.1.1.1.1.1,h.1.1.1.1.2,fun d hd => ?_⟩
 obtain ⟨i,hi,e⟩ := mem_getD hd
 have := allN_iff.1 h.2 i hi
 simp only [Bool.and_eq_true,e,validDatum] at this
 exact text_slash this.1.2
theorem zone_good {apex : Bs} {ss : List SignedD} (h : zoneValid apex ss = true) : ∀ s ∈ ss, GoodS s := by
 intro s hs
 unfold zoneValid at h
 simp only [Bool.and_eq_true] at h
 obtain ⟨⟨⟨⟨⟨h1,_⟩,_⟩,_⟩,_⟩,h6⟩ := h
 obtain ⟨i,hi,e⟩ := mem_getD hs
 unfold orderedB at h1
 simp only [Bool.and_eq_true] at h1
 have hap : nameValid apex = true := by
  have := h1.1
  simp only [Bool.not_eq_true',Bool.or_eq_false_iff,Bool.not_eq_false'] at this
  exact this.1.1
 have hi1 := allN_iff.1 h1.2 i hi
 simp only [Bool.and_eq_true,sAt,e] at hi1
 have hr := recValid_parts hi1.1.1
 unfold formB at h6
 have hi6 := allN_iff.1 h6 i hi
 simp only [sAt,e,inFormB,Bool.and_eq_true] at hi6
 have hsig : ∀ g ∈ s.sigs, (47 : UInt8) ∉ g.zone ∧ 0 ≤ g.till ∧ g.till ≤ 20000000 := by
  intro g hg
  obtain ⟨j,hj,ej⟩ := mem_getD hg
  have := allN_iff.1 hi6.2 j hj
  simp only [sigOk,ej,Bool.and_eq_true,Bool.not_eq_true',Bool.or_eq_false_iff,decide_eq_false_iff_not,bne_eq_false_iff_eq] at this
  obtain ⟨⟨⟨⟨⟨⟨hz,_⟩,_⟩,_⟩,_⟩,⟨⟨h1,h2⟩,h3⟩⟩,_⟩ := this
  refine ⟨?_,by omega,by omega⟩
  rw [hz]; exact name_slash hap
 exact ⟨⟨name_slash hr.1,hr.2.2,fun g hg => (hsig g hg).1⟩,hr.2.1,fun g hg => (hsig g hg).2⟩
end Go.SL
/- Plain law: what the reference says of names and sets, and that it is the same. -/
namespace Go.SL
open Go
def rLabel (s : Bs) : Bool := allN (fun i => !(!(bI s i == 45 && decide (i > 0) && decide ((i : Int) < (s.length : Int) - 1)) && (decide (bI s i < 97) || decide (bI s i > 122)) && (decide (bI s i < 48) || decide (bI s i > 57)))) s.length && (decide (1 ≤ s.length) && decide (s.length ≤ 12))
def splitN (s : Bs) : Nat → List Bs
 | 0 => [[]]
 | k + 1 => if s.getD k 0 = 46 then splitN s k ++ [[]] else (splitN s k).dropLast ++ [(splitN s k).getLastD [] ++ [s.getD k 0]]
def rSplit (s : Bs) : List Bs := splitN s s.length
theorem splitN_ne (s : Bs) : ∀ k, splitN s k ≠ []
 | 0 => by simp [splitN]
 | k + 1 => by simp only [splitN]; split <;> simp
def rParts (s : Bs) : List Bs := if s = [46] then [] else rSplit s
def rName (s : Bs) : Bool := s == [46] || (decide (s.length ≤ 60) && (allN (fun i => rLabel ((rSplit s).getD i []) || (i == 0 && (rSplit s).getD i [] == [42])) (rSplit s).length && decide ((rSplit s).length ≤ 8)))
end Go.SL
/- Contracts: the reference's labels and names. -/
namespace Go.SL
open Go
variable {E : Env} {H : Hp}
def labP (s : Bs) (i : Nat) : Bool := !(!(bI s i == 45 && decide (i > 0) && decide ((i : Int) < (s.length : Int) - 1)) && (decide (bI s i < 97) || decide (bI s i > 122)) && (decide (bI s i < 48) || decide (bI s i > 57)))
theorem rLabel_def (s : Bs) : rLabel s = (allN (labP s) s.length && (decide (1 ≤ s.length) && decide (s.length ≤ 12))) := rfl
set_option maxHeartbeats 1000000 in
theorem fn216 (h4 : Codes4 E) (s : Bs) (hn : s.length ≤ 1000000000) : FnP E 216 [S s] H (.bool (rLabel s)) := by
 refine Fn.of_vks h4.c216 (by simp [cf216]) ?_
 simp only [cf216,cf216_0,cf216_1,cf216_2,cf216_4,cf216_5,cf216_6,cf216_7,cf216_3,cf216_8]
 simp only [go_sem,Nat.reduceBEq,reduceCtorEq]
 refine vks_loopN s.length 0 (fun k => [(0,⟨true,.val (S s)⟩),(3,⟨true,.val (.int .i64 k)⟩)]) (fun k => allN (labP s) k = true) (Nat.zero_le _) rfl rfl ?_
 intro k hk hP
 by_cases hlt : k < s.length
 ·have hd : decide ((k : Int) < (s.length : Int)) = true := by simpa using hlt
  have e0 : decide ((k : Int) > 0) = decide (k > 0) := by rw [Bool.eq_iff_iff,decide_eq_true_eq,decide_eq_true_eq]; omega
  have e1 : IntKind.i64.wrap ((s.length : Int) - 1) = (s.length : Int) - 1 := by rw [wrapI] <;> omega
  have hlp : labP s k = !(!(bI s k == 45 && decide (k > 0) && decide ((k : Int) < (s.length : Int) - 1)) && (decide (bI s k < 97) || decide (bI s k > 122)) && (decide (bI s k < 48) || decide (bI s k > 57))) := rfl
  simp only [hd,e0,e1,go_sem,Nat.reduceEqDiff,Nat.reduceBEq,reduceCtorEq,binO]
  generalize (bI s k == 45 && decide (k > 0)) = q1 at *
  generalize decide ((k : Int) < (s.length : Int) - 1) = q2 at *
  generalize decide (bI s k < 97) = q3 at *
  generalize decide (bI s k > 122) = q4 at *
  generalize decide (bI s k < 48) = q5 at *
  generalize decide (bI s k > 57) = q6 at *
  refine ⟨⟨by omega,by omega⟩,fun h => ⟨h,h⟩,fun h => ⟨h,fun h' => by rw [h,h']; rfl⟩,fun h => ⟨h,fun h' => by rw [h,h']; rfl⟩,fun hc => ?_,fun hc => ⟨hlt,wrapS (by omega),allN_succ hP (by rw [hlp,hc]; rfl)⟩⟩
  rw [rLabel_def,allN_false hlt (by rw [hlp,hc]; rfl)]; rfl
 ·have hd : decide ((k : Int) < (s.length : Int)) = false := by simpa using hlt
  have : k = s.length := by omega
  subst this
  have e2 : decide ((s.length : Int) ≥ 1) = decide (1 ≤ s.length) := by rw [Bool.eq_iff_iff,decide_eq_true_eq,decide_eq_true_eq]; omega
  have e3 : decide ((s.length : Int) ≤ 12) = decide (s.length ≤ 12) := by rw [Bool.eq_iff_iff,decide_eq_true_eq,decide_eq_true_eq]; omega
  simp only [hd,e2,e3,go_sem,Nat.reduceEqDiff,Nat.reduceBEq,reduceCtorEq,binO]
  rw [rLabel_def,hP]; rfl
end Go.SL
/- Contracts: the reference's parts of a name, and when it is valid. -/
namespace Go.SL
open Go
variable {E : Env} {H : Hp}
theorem S_append (a b : Bs) : (⟨a.toArray⟩ : ByteArray) ++ ⟨b.toArray⟩ = ⟨(a ++ b).toArray⟩ := by
 apply ByteArray.ext
 simp
theorem splitN_len (s : Bs) : ∀ k, (splitN s k).length ≤ k + 1
 | 0 => by simp [splitN]
 | k + 1 => by
  have ih := splitN_len s k
  simp only [splitN]
  split
  ·simp; omega
  ·simp; omega
theorem splitN_sum (s : Bs) : ∀ k, ∀ x ∈ splitN s k, x.length ≤ k
 | 0,x,h => by simp [splitN] at h; subst h; simp
 | k + 1, x, h => by
  have ih := splitN_sum s k
  simp only [splitN] at h
  split at h
  ·rcases List.mem_append.1 h with h | h
   ·have := ih x h; omega
   ·simp at h; subst h; simp
  ·rcases List.mem_append.1 h with h | h
   ·have := ih x (List.dropLast_subset _ h); omega
   ·simp at h; subst h
    have hne := splitN_ne s k
    have : (splitN s k).getLastD [] ∈ splitN s k := by
     rw [List.getLastD_eq_getLast?,List.getLast?_eq_some_getLast hne]; exact List.getLast_mem hne
    have := ih _ this
    simp at this ⊢; omega
def StrOwn (H : Hp) (v : Value) (l : List Bs) (b : Nat) : Prop := ∃ cap,v = .slice (some ⟨b,0,none⟩) l.length cap ∧ H b = some (.row (l.map S) (cap * 1) true)
def rS (l : List Bs) (i : Nat) : List Value := [S (l.getD i [])]
theorem StrOwn.at {v : Value} {l : List Bs} {b : Nat} (h : StrOwn H v l b) : SlAt H 1 v l.length (rS l) := by
 obtain ⟨cap,rfl,hb⟩ := h
 refine ⟨_,_,rfl,(fun h => by cases h),fun _ => ⟨b,0,_,_,_,rfl,hb,fun i hi => ⟨by simp; omega,?_⟩⟩⟩
 rw [Nat.zero_add,Nat.mul_one,List.drop_eq_getElem_cons (by simpa using hi)]
 simp [rS,hi]
set_option maxHeartbeats 1000000 in
theorem fn215 (h4 : Codes4 E) (s : Bs) (hn : s.length ≤ 1000000) : Fn E.P (E.fn 215) [S s] H (fun u H' => ∃ b, StrOwn H' u (rSplit s) b ∧ H b = none ∧ H.le H') := by
 refine Fn.of_vks h4.c215 (by simp [cf215]) ?_
 simp only [cf215,cf215_0,cf215_1,cf215_2,cf215_3,cf215_5,cf215_6,cf215_7,cf215_4,cf215_8]
 simp only [go_sem,Nat.reduceEqDiff,Nat.reduceBEq,reduceCtorEq]
 intro b0 hb0
 refine vks_loopP s.length 0 (fun k fr' H' => ∃ b cap, fr' = [(0, ⟨true, .val (S s)⟩), (3, ⟨true, .val (.slice (some ⟨b, 0, none⟩) (splitN s k).length cap)⟩), (4, ⟨true, .val (.int .i64 k)⟩)] ∧
  H.le H' ∧ H b = none ∧ H' b = some (.row ((splitN s k).map S) (cap * 1) true)) (Nat.zero_le _) ⟨b0,1,rfl,le_put hb0 _,hb0,Hp.put_same ..⟩ ?_
 rintro k fr' H' hk ⟨b,cap,rfl,hle,hHb,hb⟩
 have hlen := splitN_len s k
 have hsum := splitN_sum s k
 have hne := splitN_ne s k
 by_cases hlt : k < s.length
 ·have hd : decide ((k : Int) < (s.length : Int)) = true := by simpa using hlt
  have hsucc : splitN s (k + 1) = if s.getD k 0 = 46 then splitN s k ++ [[]] else (splitN s k).dropLast ++ [(splitN s k).getLastD [] ++ [s.getD k 0]] := rfl
  obtain ⟨L,hL⟩ : ∃ y,y = splitN s k := ⟨_,rfl⟩
  rw [← hL] at hlen hsum hne hsucc hb
  rw [← hL]
  have hpos : 0 < L.length := List.length_pos_iff.2 hne
  have hbI : (bI s k == 46) = decide (s.getD k 0 = 46) := by
   rw [Bool.eq_iff_iff,beq_iff_eq,decide_eq_true_eq]
   unfold bI
   constructor
   ·intro h; exact UInt8.toNat_inj.1 (by have : ((46 : UInt8).toNat : Int) = 46 := rfl; omega)
   ·intro h; rw [h]; rfl
  simp only [hd,hbI,go_sem,Nat.reduceEqDiff,Nat.reduceBEq,reduceCtorEq,binO]
  refine ⟨⟨by omega,by omega⟩,fun hc => ?_,fun hc => ?_⟩
  ·have hc' : s.getD k 0 = 46 := by simpa using hc
   rw [if_pos hc'] at hsucc
   intro bs hbs
   have hbs2 : (H'.put bs (.row [S []] 1 true)) bs = some (.row [S []] 1 true) := Hp.put_same ..
   have hnbs : b ≠ bs := by rintro rfl; rw [hb] at hbs; cases hbs
   have hb2 : (H'.put bs (.row [S []] 1 true)) b = some (.row (L.map S) (cap * 1) true) := by rw [Hp.put_ne _ _ hnbs]; exact hb
   have hsO : srcOk (H'.put bs (.row [S []] 1 true)) 1 (.slice (some ⟨bs,0,none⟩) 1 1) := .inr ⟨rfl,by rw [hbs2]; simp⟩
   have hsC : srcCells (H'.put bs (.row [S []] 1 true)) 1 (.slice (some ⟨bs,0,none⟩) 1 1) = [S []] := by simp [srcCells,hbs2]
   refine vks_appS (b0 := b) (n := L.length) (cap0 := cap) (capc := cap * 1) (vs := L.map S) ?_ ?_ hsO (by show (srcCells (H'.put bs (.row [S []] 1 true)) 1 (.slice (some ⟨bs,0,none⟩) 1 1)).all one1 = true; rw [hsC]; rfl) ?_ (by show (L.length + 1) * 16 ≤ _; omega) (by show L.length + 1 ≤ _; omega) hb2 (by simp) rfl ?_
   ·simp only [go_sem,Nat.reduceEqDiff,reduceCtorEq]
   ·simp only [go_sem,Nat.reduceEqDiff,reduceCtorEq]
   ·simp only [go_sem,Nat.reduceEqDiff,reduceCtorEq]
   intro b1 cap1 hb1
   simp only [srcLen,hsC,go_sem,Nat.reduceEqDiff,Nat.reduceBEq,reduceCtorEq,binO]
   have hdle : H.le ((H'.put bs (.row [S []] 1 true)).del b) := le_del hHb (hle.trans (le_put hbs _))
   refine ⟨hlt,b1,cap1,⟨by rw [hsucc]; simp,wrapS (by omega)⟩,hdle.trans (le_put hb1 _),?_,?_⟩
   ·cases hq : H b1 with
    | none => rfl
    | some o => rw [hdle _ _ hq] at hb1; cases hb1
   ·rw [Hp.put_same,hsucc]; simp
  ·have hc' : ¬ s.getD k 0 = 46 := by simpa using hc
   rw [if_neg hc'] at hsucc
   have e1 : IntKind.i64.wrap ((L.length : Int) - 1) = ((L.length - 1 : Nat) : Int) := by rw [wrapI] <;> omega
   have e2 : IntKind.i64.wrap ((k : Int) + 1) = ((k + 1 : Nat) : Int) := wrapS (by omega)
   have v0 : (L.map S).getD (L.length - 1) undef = S (L.getD (L.length - 1) []) := by
    simp [List.getD_eq_getElem?_getD,List.getElem?_eq_getElem (show L.length - 1 < L.length by omega)]
   have hx : (s.drop k).take (k + 1 - k) = [s.getD k 0] := by
    rw [show k + 1 - k = 1 by omega,List.drop_eq_getElem_cons hlt,List.getD_eq_getElem?_getD,List.getElem?_eq_getElem hlt]; rfl
   have hsz : (L.getD (L.length - 1) []).length ≤ k := hsum _ (by rw [List.getD_eq_getElem?_getD,List.getElem?_eq_getElem (show L.length - 1 < L.length by omega)]; exact List.getElem_mem _)
   have hcond : ((L.getD (L.length - 1) []).length ≤ 9223372036854775806) = True := eq_true (by omega)
   have hlast : L.getLastD [] = L.getD (L.length - 1) [] := by
    rw [List.getLastD_eq_getLast?,List.getLast?_eq_getElem?,List.getD_eq_getElem?_getD]
   rw [hlast] at hsucc
   simp only [hcond,hb,e1,e2,v0,hx,S_append,Nat.mul_one,List.length_map,vks_dst,go_sem,Nat.reduceLeDiff,Nat.reduceEqDiff,Nat.reduceBEq,reduceCtorEq,binO]
   refine ⟨⟨by omega,by omega⟩,by omega,⟨⟨by omega,by omega⟩,by omega,by omega⟩,⟨by omega,by omega⟩,by omega,hlt,b,cap,by rw [hsucc]; simp; omega,le_put_of_le hle hHb _,hHb,?_⟩
   rw [Hp.put_same,hsucc,List.map_append,List.dropLast_eq_take,List.map_take,List.drop_of_length_le (l := L.map S) (by simp; omega)]
   simp
 ·have hd : decide ((k : Int) < (s.length : Int)) = false := by simpa using hlt
  have : k = s.length := by omega
  subst this
  simp only [hd,go_sem,Nat.reduceEqDiff,Nat.reduceBEq,reduceCtorEq,binO]
  exact ⟨b,⟨cap,rfl,hb⟩,hHb,hle⟩
end Go.SL
/- Contracts: the reference's names. -/
namespace Go.SL
open Go
variable {E : Env} {H : Hp}
theorem rS_get (l : List Bs) {k : Nat} (hk : k < l.length) : (l.map S).getD k undef = S (l.getD k []) := by
 simp [List.getD_eq_getElem?_getD,List.getElem?_eq_getElem hk]
def lName (l : List Bs) (i : Nat) : Bool := rLabel (l.getD i []) || (i == 0 && l.getD i [] == [42])
theorem rName_def (s : Bs) : rName s = (s == [46] || (decide (s.length ≤ 60) && (allN (lName (rSplit s)) (rSplit s).length && decide ((rSplit s).length ≤ 8)))) := rfl
set_option maxHeartbeats 1000000 in
theorem fn198 (h4 : Codes4 E) (s : Bs) : FnP E 198 [S s] H (.bool (rName s)) := by
 refine Fn.of_vks h4.c198 (by simp [cf198]) ?_
 simp only [cf198,cf198_0,cf198_1,cf198_2,cf198_3,cf198_4,cf198_5,cf198_6,cf198_7,cf198_9,cf198_10,cf198_11,cf198_8,cf198_12]
 rw [rName_def]
 by_cases h46 : s = [46]
 ·subst h46
  have e0 : (([46] : Bs) == [46]) = true := rfl
  simp only [e0,go_sem,Nat.reduceLeDiff,Nat.reduceEqDiff,Nat.reduceBEq,reduceCtorEq,binO,decT]
 ·have e0 : (s == [46]) = false := by simpa using h46
  by_cases h60 : s.length ≤ 60
  ·have e1 : decide ((s.length : Int) > 60) = false := by rw [decide_eq_false_iff_not]; omega
   have e1' : decide (s.length ≤ 60) = true := by simpa using h60
   simp only [e0,e1,e1',go_sem,Nat.reduceEqDiff,Nat.reduceBEq,reduceCtorEq,binO]
   refine vks_call ?_ (fn215 h4 s (by omega)) ?_
   ·simp only [go_sem,Nat.reduceEqDiff,reduceCtorEq]
   rintro u H1 ⟨b,⟨cap,rfl,hb⟩,hHb,hle⟩
   obtain ⟨L,hL⟩ : ∃ y,y = rSplit s := ⟨_,rfl⟩
   have hlen : L.length ≤ s.length + 1 := by rw [hL]; exact splitN_len s s.length
   have hsum : ∀ x ∈ L,x.length ≤ s.length := by rw [hL]; exact splitN_sum s s.length
   rw [← hL] at hb ⊢
   simp only [go_sem,Nat.reduceEqDiff,Nat.reduceBEq,reduceCtorEq]
   refine vks_loopP L.length 0 (fun k fr' H' => H' = H1 ∧ allN (lName L) k = true ∧ fr' = [(3,⟨true,.val (.slice (some ⟨b,0,none⟩) L.length cap)⟩),(4,⟨true,.val (.int .i64 k)⟩)]) (Nat.zero_le _) ⟨rfl,rfl,rfl⟩ ?_
   rintro k fr' H' hk ⟨rfl,hP,rfl⟩
   by_cases hlt : k < L.length
   ·have hd : decide ((k : Int) < (L.length : Int)) = true := by simpa using hlt
    have hg := rS_get L hlt
    have hx : (L.getD k []).length ≤ s.length := hsum _ (by rw [List.getD_eq_getElem?_getD,List.getElem?_eq_getElem hlt]; exact List.getElem_mem _)
    simp only [hd,hb,hg,Nat.mul_one,List.length_map,go_sem,Nat.reduceEqDiff,Nat.reduceBEq,binO]
    refine ⟨⟨by omega,by omega⟩,by omega,?_⟩
    refine vks_callp _ (by simp only [go_sem]) (fun _ => ⟨by simp only [go_sem,Nat.reduceEqDiff],fn216 h4 (L.getD k []) (by omega)⟩) ?_
    have hlN : lName L k = (rLabel (L.getD k []) || (k == 0 && L.getD k [] == [42])) := rfl
    have h0k : decide ((k : Int) > 0) = !(k == 0) := by
     rw [Bool.eq_iff_iff,decide_eq_true_eq]; simp; omega
    have hsucc : IntKind.i64.wrap ((k : Int) + 1) = ((k + 1 : Nat) : Int) := wrapS (by omega)
    cases hq : rLabel (L.getD k [])
    ·cases hk0 : (k == 0)
     ·have h0k' : decide ((k : Int) > 0) = true := by rw [h0k,hk0]; rfl
      have hf : allN (lName L) L.length = false := allN_false hlt (by rw [hlN,hq,hk0]; rfl)
      simp only [h0k',hf,hb,hg,Nat.mul_one,List.length_map,go_sem,Nat.reduceEqDiff,Nat.reduceBEq,binO]
      exact hle
     ·have h0k' : decide ((k : Int) > 0) = false := by rw [h0k,hk0]; rfl
      cases hst : (L.getD k [] == [42])
      ·have hf : allN (lName L) L.length = false := allN_false hlt (by rw [hlN,hq,hk0,hst]; rfl)
       simp only [h0k',hf,hst,hb,hg,Nat.mul_one,List.length_map,go_sem,Nat.reduceEqDiff,Nat.reduceBEq,binO]
       exact ⟨⟨by omega,by omega⟩,by omega,hle⟩
      ·have ht : allN (lName L) (k + 1) = true := allN_succ hP (by rw [hlN,hq,hk0,hst]; rfl)
       simp only [h0k',ht,hst,hb,hg,hsucc,Nat.mul_one,List.length_map,go_sem,Nat.reduceEqDiff,Nat.reduceBEq,binO]
       exact ⟨⟨by omega,by omega⟩,by omega,hlt⟩
    ·have ht : allN (lName L) (k + 1) = true := allN_succ hP (by rw [hlN,hq]; rfl)
     simp only [ht,hsucc,hb,hg,Nat.mul_one,List.length_map,go_sem,Nat.reduceEqDiff,Nat.reduceBEq,binO]
     exact hlt
   ·have hd : decide ((k : Int) < (L.length : Int)) = false := by simpa using hlt
    have : k = L.length := by omega
    subst this
    have e8 : decide ((L.length : Int) ≤ 8) = decide (L.length ≤ 8) := by rw [Bool.eq_iff_iff,decide_eq_true_eq,decide_eq_true_eq]; omega
    simp only [hd,hP,e8,go_sem,Nat.reduceEqDiff,Nat.reduceBEq,binO]
    exact hle
  ·have e1 : decide ((s.length : Int) > 60) = true := by rw [decide_eq_true_eq]; omega
   have e1' : decide (s.length ≤ 60) = false := by rw [decide_eq_false_iff_not]; exact h60
   simp only [e0,e1,e1',go_sem,Nat.reduceEqDiff,Nat.reduceBEq,reduceCtorEq,binO]
theorem rName_len {s : Bs} (h : rName s = true) : s.length ≤ 60 := by
 rw [rName_def,Bool.or_eq_true,Bool.and_eq_true,decide_eq_true_eq,beq_iff_eq] at h
 rcases h with rfl | ⟨h,_⟩
 ·simp
 ·exact h
theorem StrOwn.sl {v : Value} {l : List Bs} {b : Nat} (h : StrOwn H v l b) : ∃ a c,v = .slice a l.length c := by obtain ⟨c,rfl,_⟩ := h; exact ⟨_,c,rfl⟩
theorem fn217 (h4 : Codes4 E) (s : Bs) (hn : s.length ≤ 1000000) : Fn E.P (E.fn 217) [S s] H (fun u H' => SlAt H' 1 u (rParts s).length (rS (rParts s)) ∧ H.le H') := by
 refine Fn.of_vks h4.c217 (by simp [cf217]) ?_
 simp only [cf217,cf217_0,cf217_1,cf217_2,cf217_3]
 unfold rParts
 by_cases h46 : s = [46]
 ·subst h46
  have e0 : (([46] : Bs) == [46]) = true := rfl
  simp only [e0,go_sem,Nat.reduceEqDiff,Nat.reduceBEq,reduceCtorEq,binO]
  exact SlAt.nil
 ·have e0 : (s == [46]) = false := by simpa using h46
  simp only [e0,if_neg h46,go_sem,Nat.reduceEqDiff,Nat.reduceBEq,reduceCtorEq,binO]
  refine vks_call ?_ (fn215 h4 s (by omega)) ?_
  ·simp only [go_sem,Nat.reduceEqDiff,reduceCtorEq]
  rintro u H1 ⟨b,hO,hHb,hle⟩
  have hS := hO.at
  obtain ⟨cap,rfl,hb⟩ := hO
  simp only [go_sem,Nat.reduceEqDiff,Nat.reduceBEq,reduceCtorEq]
  exact ⟨hS,hle⟩
theorem SlAt.str {v : Value} {l : List Bs} (h : SlAt H 1 v l.length (rS l)) {k : Nat} (hk : k < l.length) : ∃ b o c cap vs wr, v = .slice (some ⟨b, o, none⟩) l.length cap ∧ H b = some (.row vs c wr) ∧ (vs.drop (o + k * 1)).take 1 = [S (l.getD k [])] ∧ o + k * 1 + 1 ≤ vs.length := by
 obtain ⟨a,cap,rfl,hsp,hr⟩ := h
 obtain ⟨b,o,vs,c,wr,rfl,hb,hi⟩ := hr (by omega)
 exact ⟨b,o,c,cap,vs,wr,rfl,hb,(hi k hk).2,(hi k hk).1⟩
def rWild (s : Bs) : Bool := decide (0 < (rParts s).length) && (rParts s).getD 0 [] == [42]
theorem fn199 (h4 : Codes4 E) (s : Bs) (hn : s.length ≤ 1000000) : FnP E 199 [S s] H (.bool (rWild s)) := by
 refine Fn.of_vks h4.c199 (by simp [cf199]) ?_
 simp only [cf199,cf199_0,cf199_1,cf199_2]
 simp only [go_sem,Nat.reduceBEq,reduceCtorEq]
 refine vks_call ?_ (fn217 h4 s hn) ?_
 ·simp only [go_sem,reduceCtorEq]
 rintro u H1 ⟨hS,hle⟩
 unfold rWild
 obtain ⟨L,hL⟩ : ∃ y,y = rParts s := ⟨_,rfl⟩
 rw [← hL] at hS ⊢
 by_cases h0 : 0 < L.length
 ·have hd : decide ((L.length : Int) > 0) = true := by rw [decide_eq_true_eq]; omega
  have hd' : decide (0 < L.length) = true := by rw [decide_eq_true_eq]; omega
  obtain ⟨b,o,c,cap,vs,wr,rfl,hb,hv,hvl⟩ := hS.str h0
  have hg := getD_of_take (j := 0) hv (by omega)
  rw [Nat.zero_mul,Nat.add_zero,List.getD_cons_zero] at hg
  simp only [hd,hd',hb,hg,go_sem,Nat.reduceEqDiff,Nat.reduceBEq,reduceCtorEq,Int.reduceToNat,Int.reduceLE,binO]
  exact ⟨by omega,by omega,hle⟩
 ·obtain ⟨a,c,rfl⟩ := hS.sl
  have hd : decide ((L.length : Int) > 0) = false := by rw [decide_eq_false_iff_not]; omega
  have hd' : decide (0 < L.length) = false := by rw [decide_eq_false_iff_not]; omega
  simp only [hd,hd',↓simT_idx_val,↓simT_ld_val,↓simT_pick_f,go_sem,Nat.reduceEqDiff,Nat.reduceBEq,reduceCtorEq,binO]
  exact hle
end Go.SL
