/- Regions that draw their order, shown for every order at once, by an invariant over what is done. -/
import Derived.Test.YtloknibdaldffaaGreatDoorNplI4
namespace Go.SL
open Go
structure ROp where
 pre : List Nat
 o : AOper
def lset (L : Nat → Bool) (i : Nat) : Nat → Bool := fun j => if j = i then true else L j
def evAll (E : Env) (ops : List ROp) (fr : Fr) (H : Hp) (K : Fr → Hp → Prop) : Prop :=
 ∃ I : (Nat → Bool) → Fr → Hp → Prop, I (fun _ => false) fr H ∧
  (∀ L i x fr H,ops[i]? = some x → L i = false → (∀ j ∈ x.pre,L j = true) → I L fr H → ev1 E x.o fr H (I (lset L i))) ∧
  ∀ L fr H,(∀ i,i < ops.length → L i = true) → I L fr H → K fr H
theorem evAll_mono {E : Env} {ops : List ROp} {fr : Fr} {H : Hp} {K K' : Fr → Hp → Prop} (hk : ∀ fr H, K fr H → K' fr H) (h : evAll E ops fr H K) : evAll E ops fr H K' := by
 obtain ⟨I,h0,h1,h2⟩ := h
 exact ⟨I,h0,h1,fun L fr H hl hi => hk _ _ (h2 L fr H hl hi)⟩
def chkAll (E : Env) (n : Nat) (ops : Array Oper) (l : List ROp) : Bool :=
 (E.P.follows .mixedOrders || !Region.departs ops) && (l.length == ops.size) &&
  (List.range ops.size).all (fun i => match ops[i]?, l[i]? with
   | some o,some x => chk1 E n ops o x.o && x.pre.all (fun j => (aft o).contains j) && (aft o).all (fun j => decide (j < i))
   | _,_ => false)
section
variable {E : Env} {n : Nat} {ops : Array Oper} {w0 : World} {H0 : Hp} {ro : Option Nat} {Q : Exit → Act → World → Prop}
theorem ready_of {L : Array Bool} (hsz : L.size = ops.size) (hc : ∀ i o, ops[i]? = some o → ∀ j ∈ aft o, j < i) : ∀ (i : Nat), i < ops.size → L.getD i false = false → Region.ready .any ops L ≠ [] := by
 intro i
 induction i using Nat.strongRecOn with
 | ind i ih =>
  intro hi hu
  have ho : ops[i]? = some ops[i] := by simp [hi]
  by_cases hall : ∀ j ∈ aft ops[i],L.getD j false = true
  ·intro hnil
   have : i ∈ Region.ready .any ops L := by
    simp only [Region.ready,List.mem_filter,List.mem_range,Bool.and_eq_true,Bool.not_eq_true']
    refine ⟨hi,?_,?_⟩
    ·have hlt' : i < L.size := by rw [hsz]; exact hi
     simp only [Array.getD,hlt',dif_pos] at hu ⊢
     exact hu
    ·simp only [ho,Option.map_some,Option.getD_some,Array.all_eq_true_iff_forall_mem,Bool.or_eq_true,Bool.not_eq_true']
     intro e he
     by_cases hb : Region.binds .any e = true
     ·exact .inr (hall e.on (List.mem_map.2 ⟨e,List.mem_filter.2 ⟨by simpa using he,hb⟩,rfl⟩))
     ·exact .inl (by simpa using hb)
   rw [hnil] at this; cases this
  ·have ⟨j, hjm, hjn⟩ : ∃ j, j ∈ aft ops[i] ∧ ¬ L.getD j false = true := by
    apply Classical.byContradiction
    intro hn
    exact hall fun j hj => Classical.byContradiction fun hc => hn ⟨j,hj,hc⟩
   have hlt := hc i _ ho j hjm
   exact ih j hlt (by omega) (by simpa using hjn)
def und (ops : Array Oper) (L : Array Bool) : List Nat := (List.range ops.size).filter (fun i => !(L.getD i false))
theorem all_any {l : List ROp} {K : Fr → Hp → Prop} {I : (Nat → Bool) → Fr → Hp → Prop} (hlen : l.length = ops.size)
  (hc : ∀ i,i < ops.size → ∃ o x,ops[i]? = some o ∧ l[i]? = some x ∧ chk1 E n ops o x.o = true ∧ (∀ j ∈ x.pre,j ∈ aft o) ∧ ∀ j ∈ aft o,j < i)
  (h1 : ∀ L i x fr H,l[i]? = some x → L i = false → (∀ j ∈ x.pre,L j = true) → I L fr H → ev1 E x.o fr H (I (lset L i)))
  (h2 : ∀ L fr H,(∀ i,i < l.length → L i = true) → I L fr H → K fr H)
  (hK : ∀ a w fr H,Rel n w0 H0 fr H a w → K fr H → Q .normal a w) :
  ∀ (fuel : Nat) {L : Array Bool} {fr : Fr} {H : Hp} {a : Act} {w : World}, L.size = ops.size → I (fun j => L.getD j false) fr H → Rel n w0 H0 fr H a w → (und ops L).length ≤ fuel →
   wpAnyIn (FW ro) 0 E.P .any ops Q fuel L a w := by
 have fin : ∀ {L : Array Bool} {fr : Fr} {H : Hp} {a : Act} {w : World}, I (fun j => L.getD j false) fr H → Rel n w0 H0 fr H a w → (∀ i, i < ops.size → L.getD i false = true) → Q .normal a w :=
  fun hi hr hd => hK _ _ _ _ hr (h2 _ _ _ (fun i h => hd i (by omega)) hi)
 intro fuel
 induction fuel with
 | zero =>
  intro L fr H a w hsz hi hr hle
  have hu : und ops L = [] := List.length_eq_zero_iff.1 (by omega)
  have hd : ∀ i, i < ops.size → L.getD i false = true := by
   intro i h
   apply Classical.byContradiction
   intro hn
   have : i ∈ und ops L := List.mem_filter.2 ⟨List.mem_range.2 h,by simpa using hn⟩
   rw [hu] at this; cases this
  refine ⟨?_,fin hi hr hd⟩
  cases hrd : Region.ready .any ops L with
  | nil => rfl
  | cons i r =>
   obtain ⟨k1,k2,_⟩ := ready_spec (ops := ops) (L := L) (i := i) (by rw [hrd]; exact List.mem_cons_self ..)
   have := hd i k1
   have hlt' : i < L.size := by rw [hsz]; exact k1
   simp only [Array.getD,hlt',dif_pos] at this k2
   rw [this] at k2; cases k2
 | succ fuel ih =>
  intro L fr H a w hsz hi hr hle
  refine ⟨fun hnil => ?_,fun i hmem => ?_⟩
  ·refine fin hi hr fun i h => ?_
   apply Classical.byContradiction
   intro hn
   refine ready_of hsz (fun i o ho j hj => ?_) i h (by simpa using hn) hnil
   obtain ⟨o',x,ho',_,_,_,hlt⟩ := hc i (Array.getElem?_eq_some_iff.1 ho).1
   rw [ho] at ho'; cases ho'
   exact hlt j hj
  ·obtain ⟨k1,k2,k3⟩ := ready_spec hmem
   obtain ⟨o,x,ho,hx,hck,hpre,_⟩ := hc i k1
   have hlt' : i < L.size := by rw [hsz]; exact k1
   have hu : L.getD i false = false := by
    simp only [Array.getD,hlt',dif_pos] at k2 ⊢
    exact k2
   refine wpOpIn_mono ?_ (ev1_sound hr ho hck (h1 _ i x fr H hx hu (fun j hj => k3 o ho j (hpre j hj)) hi))
   rintro a' w' ⟨fr',H',hrel',hk'⟩
   have he : (lset (fun j => L.getD j false) i) = fun j => (L.setIfInBounds i true).getD j false := by
    funext j; rw [getD_set hlt']; rfl
   rw [he] at hk'
   refine ih (by simpa using hsz) hk' hrel' ?_
   have : (und ops (L.setIfInBounds i true)).length < (und ops L).length := by
    have e : und ops (L.setIfInBounds i true) = (und ops L).filter (fun j => j != i) := by
     simp only [und,List.filter_filter]
     refine List.filter_congr fun j _ => ?_
     rw [getD_set hlt']
     by_cases e : j = i <;> simp [e]
    rw [e]
    exact List.length_filter_lt_length_iff_exists.2 ⟨i,List.mem_filter.2 ⟨List.mem_range.2 k1,by simp [hu]⟩,by simp⟩
   omega
theorem drawnA_sound {l : List ROp} {K : Fr → Hp → Prop} {id : Nat} {a : Act} {w : World} {fr : Fr} {H : Hp} (hc : chkAll E n ops l = true) (hK : ∀ a w fr H, Rel n w0 H0 fr H a w → K fr H → Q .normal a w)
  (hr : Rel n w0 H0 fr H a w) (h : evAll E l fr H K) : (Code.region id ops true).wpIn (FW ro) 0 E.P Q a w := by
 simp only [chkAll,Bool.and_eq_true,beq_iff_eq] at hc
 obtain ⟨⟨hc1,hc2⟩,hc3⟩ := hc
 obtain ⟨I,h0,h1,h2⟩ := h
 obtain ⟨β,hrb⟩ := hr
 refine wpIn_region_draw fun t => ?_
 have hsch : Region.schedule (E.P.follows .mixedOrders) ops t = Region.linearise .any ops t := by simp only [Region.schedule,hc1,if_true]
 rw [hsch]
 have hrep : ∀ i, (Array.replicate ops.size false).getD i false = false := by
  intro i
  by_cases e : i < ops.size <;> simp [Array.getD,e]
 refine wpAnyIn_sound ops.size t _ a _ (all_any hc2 ?_ h1 h2 hK ops.size (by simp) ?_ ⟨β,hrb.drawn _⟩ ?_)
 ·intro i hi
  have := List.all_eq_true.1 hc3 i (List.mem_range.2 hi)
  split at this
  ·rename_i o x ho hx
   simp only [Bool.and_eq_true] at this
   exact ⟨o,x,ho,hx,this.1.1,fun j hj => by simpa using List.all_eq_true.1 this.1.2 j hj,fun j hj => by simpa using List.all_eq_true.1 this.2 j hj⟩
  ·cases this
 ·have : (fun j => (Array.replicate ops.size false).getD j false) = fun _ => false := funext hrep
  rw [this]; exact h0
 ·exact Nat.le_trans (List.length_filter_le _ _) (by simp)
end
end Go.SL
/- Codes: what is to be shown of a body. -/
namespace Go.SL
open Go
inductive X where
 | nrm
 | exit (id : Nat)
 | ret
 deriving DecidableEq
inductive ACode where
 | skip
 | reg (ops : List AOper) (live : List Nat)
 | regd (ops : List DOp) (live : List Nat)
 | regl (ops : List DOp) (mid : List Nat) (last : AOper) (live : List Nat)
 | rega (ops : List ROp) (live : List Nat)
 | seq (a b : ACode)
 | cond (c : Arg) (x y : ACode)
 | block (id : Nat) (c : ACode)
 | loop (live : List Nat) (c : ACode)
 | exit (id : Nat)
 | ret
 | rangeF (f : Arg) (ps : List Nat) (assign body : ACode)
def Iter (E : Env) (f : Value) (G : Hp) (S : List (List Value) → Prop) : Prop :=
 ∀ (y : Value) (Inv Stop : List (List Value) → Hp → Prop) (H : Hp), (∀ pre H, Inv pre H → G.le H) →
  (∀ pre x H,(∃ suf,S (pre ++ x :: suf)) → Inv pre H → FnV E y x H fun v H' => (v = .bool true ∧ Inv (pre ++ [x]) H') ∨ (v = .bool false ∧ Stop pre H')) →
  Inv [] H → FnV E f [y] H fun _ H' => (∃ xs,S xs ∧ Inv xs H') ∨ ∃ pre,Stop pre H'
def isFn : Value → Prop
 | .func (.func _) _ _ => True
 | _ => False
def Fr.vals (fr : Fr) : Fr := fr.filter fun e => match e.2.p with | .val _ => true | _ => false
def bindps (fr : Fr) : List Nat → List Value → Fr
 | p :: ps,v :: vs => bindps (fr.set p ⟨true,.val v⟩) ps vs
 | _,_ => fr
def vc (E : Env) : ACode → Fr → Hp → (X → Fr → Hp → Prop) → Prop
 | .skip,fr,H,Q => Q .nrm fr H
 | .reg ops live,fr,H,Q => evs E ops fr H fun fr' H' => Q .nrm (fr'.keep live) H'
 | .regd ops live,fr,H,Q => evd E [] ops (fr.start (dsts ops)) H fun fr' H' => Q .nrm (fr'.keep live) H'
 | .regl ops mid last live,fr,H,Q => evd E [] ops (fr.start (dsts ops)) H fun fr' H' => ev1 E last (fr'.keep mid) H' fun fr' H' => Q .nrm (fr'.keep live) H'
 | .rega ops live,fr,H,Q => evAll E ops fr H fun fr' H' => Q .nrm (fr'.keep live) H'
 | .seq a b, fr, H, Q => vc E a fr H fun e fr' H' => match e with
  | .nrm => vc E b fr' H' Q
  | e => Q e fr' H'
 | .cond c x y, fr, H, Q => vok fr c ∧ (match vo E fr c with
  | .bool b => (b = true → vc E x fr H Q) ∧ (b = false → vc E y fr H Q)
  | _ => False)
 | .block id c,fr,H,Q => vc E c fr H fun e fr' H' => if e = .exit id then Q .nrm fr' H' else Q e fr' H'
 | .loop live c, fr, H, Q => ∃ I : Nat → Fr → Hp → Prop, (∃ m, I m (fr.keep live) H) ∧ ∀ m fr' H', I m fr' H' → vc E c fr' H' fun e fr'' H'' => match e with
  | .nrm => ∃ m',m' < m ∧ I m' (fr''.keep live) H''
  | e => Q e fr'' H''
 | .exit id,fr,H,Q => Q (.exit id) fr H
 | .ret,fr,H,Q => Q .ret fr H
 | .rangeF f ps assign body, fr, H, Q => vok fr f ∧ isFn (vo E fr f) ∧ ∃ (G : Hp) (S : List (List Value) → Prop), Iter E (vo E fr f) G S ∧ (∀ xs, S xs → ∀ x ∈ xs, x.length = ps.length) ∧
  ∃ Inv : List (List Value) → Hp → Prop, Inv [] H ∧ (∀ pre H, Inv pre H → G.le H) ∧
   (∀ pre x H, (∃ suf, S (pre ++ x :: suf)) → Inv pre H → vc E assign (bindps fr.vals ps x) H fun e fr' H' => e = .nrm ∧ vc E body fr' H' fun e _ H'' => match e with
    | .nrm => Inv (pre ++ [x]) H''
    | e => Q e fr H'') ∧
   ∀ xs H,S xs → Inv xs H → Q .nrm fr H
def chkOps (E : Env) (n : Nat) (ops : Array Oper) : List Oper → List AOper → Bool
 | [],[] => true
 | o :: r,x :: r' => chk1 E n ops o x && chkOps E n ops r r'
 | _,_ => false
def chkCode (E : Env) (n : Nat) (rnd : Bool) : Code → ACode → Bool
 | .skip,.skip => true
 | .region _ ops false,.reg l live => nodupB live && chkOps E n ops ops.toList l
 | .region _ ops true,.regd l live => nodupB live && chkDrawn E n ops l
 | .region _ ops true,.regl l mid last live => nodupB live && nodupB mid && chkDrawnL E n ops l last
 | .region _ ops true,.rega l live => nodupB live && chkAll E n ops l
 | .seq a b,.seq x y => chkCode E n rnd a x && chkCode E n rnd b y
 | .cond c a b,.cond d x y => chkArg E c d && chkCode E n rnd a x && chkCode E n rnd b y
 | .block i c,.block j x => i == j && chkCode E n rnd c x
 | .loop c,.loop live x => nodupB live && chkCode E n rnd c x
 | .exit i,.exit j => i == j
 | .ret,.ret => true
 | .rangeFunc g ps a b,.rangeF f qs x y => !rnd && chkArg E g f && (ps.toList == qs) && qs.all (fun p => decide (p < n)) && chkCode E n true a x && chkCode E n true b y
 | _,_ => false
def PostR (n : Nat) (w0 : World) (H0 : Hp) (Q : X → Fr → Hp → Prop) : Exit → Act → World → Prop
 | .normal,a,w => ∃ fr H,Rel n w0 H0 fr H a w ∧ Q .nrm fr H
 | .exit id,a,w => ∃ fr H,Rel n w0 H0 fr H a w ∧ Q (.exit id) fr H
 | .ret,a,w => ∃ fr H,Rel n w0 H0 fr H a w ∧ Q .ret fr H
 | _,_,_ => False
theorem vc_mono {E : Env} : ∀ {c : ACode} {fr : Fr} {H : Hp} {Q Q' : X → Fr → Hp → Prop}, (∀ e fr H, Q e fr H → Q' e fr H) → vc E c fr H Q → vc E c fr H Q'
 | .skip,_,_,_,_,hq,h => hq _ _ _ h
 | .reg _ _,_,_,_,_,hq,h => evs_mono (fun _ _ h => hq _ _ _ h) h
 | .regd _ _,_,_,_,_,hq,h => evd_mono (fun _ _ h => hq _ _ _ h) h
 | .regl _ _ _ _,_,_,_,_,hq,h => evd_mono (fun _ _ h => ev1_mono (fun _ _ h => hq _ _ _ h) h) h
 | .rega _ _,_,_,_,_,hq,h => evAll_mono (fun _ _ h => hq _ _ _ h) h
 | .seq a b,_,_,_,_,hq,h => vc_mono (c := a) (fun e fr H h => by cases e <;> first | exact vc_mono (c := b) hq h | exact hq _ _ _ h) h
 | .cond c x y, fr, _, _, _, hq, h => by
  refine ⟨h.1,?_⟩
  have h := h.2
  split <;> simp_all
  exact ⟨fun e => vc_mono (c := x) (by assumption) (h.1 e),fun e => vc_mono (c := y) (by assumption) (h.2 e)⟩
 | .block id c,_,_,_,_,hq,h => vc_mono (c := c) (fun e fr H h => by split <;> simp_all) h
 | .loop live c, _, _, _, _, hq, h => by
  obtain ⟨I,h0,h1⟩ := h
  exact ⟨I,h0,fun m fr' H' hi => vc_mono (c := c) (fun e fr H h => by cases e <;> first | exact h | exact hq _ _ _ h) (h1 m fr' H' hi)⟩
 | .exit _,_,_,_,_,hq,h => hq _ _ _ h
 | .ret,_,_,_,_,hq,h => hq _ _ _ h
 | .rangeF f ps assign body, _, _, _, _, hq, h => by
  obtain ⟨h0,hf,G,S,hi,hl,Inv,h1,h2,h3,h4⟩ := h
  refine ⟨h0,hf,G,S,hi,hl,Inv,h1,h2,fun pre x H hs hI => vc_mono (c := assign) (fun e fr H h => ⟨h.1,vc_mono (c := body) (fun e fr H h => by cases e <;> first | exact h | exact hq _ _ _ h) h.2⟩) (h3 pre x H hs hI),fun xs H hs hI => hq _ _ _ (h4 xs H hs hI)⟩
section
variable {E : Env} {n : Nat} {w0 : World} {H0 : Hp} {fr : Fr} {H : Hp} {a : Act} {w : World} {ro : Option Nat}
theorem evs_sound {ops : Array Oper} {Q : Exit → Act → World → Prop} {K : Fr → Hp → Prop} (hK : ∀ a w fr H, Rel n w0 H0 fr H a w → K fr H → Q .normal a w) :
  ∀ (l : List AOper) (r : List Oper) (k : Nat), ops.toList.drop k = r → chkOps E n ops r l = true → ∀ {fr : Fr} {H : Hp} {a : Act} {w : World}, Rel n w0 H0 fr H a w → evs E l fr H K →
   wpOpsIn (FW ro) 0 E.P ops Q ((List.range ops.size).drop k) a w
 | [], r, k, hr, hc, fr, H, a, w, hrel, h => by
  cases r with
  | cons => simp [chkOps] at hc
  | nil =>
   have : ops.size ≤ k := by simpa using List.drop_eq_nil_iff.1 hr
   rw [List.drop_eq_nil_of_le (by simpa using this)]
   exact hK a w fr H hrel h
 | x :: l, r, k, hr, hc, fr, H, a, w, hrel, h => by
  cases r with
  | nil => simp [chkOps] at hc
  | cons o r =>
   simp only [chkOps,Bool.and_eq_true] at hc
   have hk : k < ops.size := Classical.byContradiction fun hn => by
    rw [List.drop_eq_nil_of_le (by simpa using hn)] at hr; cases hr
   have hk' : k < ops.toList.length := by simpa using hk
   rw [List.drop_eq_getElem_cons hk'] at hr
   obtain ⟨ho,hr⟩ := List.cons.inj hr
   have hio : ops[k]? = some o := by simp [hk,← ho]
   rw [List.drop_eq_getElem_cons (by simpa using hk),wpOpsIn_cons]
   simp only [List.getElem_range]
   refine wpOpIn_mono ?_ (ev1_sound hrel hio hc.1 h)
   rintro a' w' ⟨fr',H',hrel',hk'⟩
   exact evs_sound hK l r (k + 1) hr hc.2 hrel' hk'
theorem wpIn_loopM {F : Fence} {k : Nat} {P : Program} {c : Code} {Q : Exit → Act → World → Prop} (J : Nat → Act → World → Prop) (m0 : Nat) (h0 : J m0 a w)
  (hround : ∀ m a w,J m a w → c.wpIn F k P (Exit.then (fun a' w' => ∃ m',m' < m ∧ J m' a' w') Q) a w) : (Code.loop c).wpIn F k P Q a w := by
 have least : ∀ a w, (∃ m, J m a w) → ∃ m, J m a w ∧ ∀ m', J m' a w → m ≤ m' := by
  intro a w ⟨m,hm⟩
  induction m using Nat.strongRecOn with
  | ind m ih =>
   by_cases hx : ∃ m',m' < m ∧ J m' a w
   ·obtain ⟨m',hlt,hj⟩ := hx; exact ih m' hlt hj
   ·exact ⟨m,hm,fun m' hj => Nat.le_of_not_lt fun hlt => hx ⟨m',hlt,hj⟩⟩
 have μ : ∀ a w, ∃ m, (∃ m, J m a w) → J m a w ∧ ∀ m', J m' a w → m ≤ m' := fun a w => by
  by_cases hx : ∃ m,J m a w
  ·obtain ⟨m,hm⟩ := least a w hx; exact ⟨m,fun _ => hm⟩
  ·exact ⟨0,fun h => absurd h hx⟩
 refine wpIn_loop (fun a w => ∃ m,J m a w) (fun a w => Classical.choose (μ a w)) ⟨m0,h0⟩ fun a w hj => ?_
 have hsp := Classical.choose_spec (μ a w) hj
 refine wpIn_mono (hround _ a w hsp.1) ?_
 intro e a' w' hp
 cases e with
 | normal =>
  obtain ⟨m',hlt,hj'⟩ := hp
  have hsp' := Classical.choose_spec (μ a' w') ⟨m',hj'⟩
  exact ⟨⟨m',hj'⟩,Nat.lt_of_le_of_lt (hsp'.2 m' hj') hlt⟩
 | exit id => exact hp
 | ret => exact hp
 | goto => exact hp
 | panic => exact hp
 | outgrown => exact hp
end
end Go.SL
/- A range over a function: one round, the whole statement. -/
namespace Go.SL
open Go
section
variable {E : Env} {n : Nat} {w0 : World} {H0 : Hp} {fr : Fr} {H : Hp} {a : Act} {w : World} {β : Nat → Option Nat}
theorem RelB.forget {H' : Hp} (h : RelB n w0 H0 fr H a w β) (hle : H'.le H) : RelB n w0 H0 fr H' a w β where
 nodup := h.nodup
 nt := h.nt
 slots := h.slots
 skip := h.skip
 sat := h.sat.le hle
 own := fun b o hb => h.own b o (hle b o hb)
 priv := fun s b hb => by
  have := h.priv s b hb
  refine ⟨?_,this.2⟩
  cases hH : H' b with
  | none => rfl
  | some o => have h1 := hle b o hH; rw [this.1] at h1; cases h1
 inj := h.inj
 os := h.os
 tape := h.tape
 output := h.output
 size := h.size
 same := h.same
 shape := fun b hb ht => ⟨(h.shape b hb ht).1,fun hx => (h.shape b hb ht).2 (hx.le hle)⟩
 mnd := h.mnd
 marks := fun d hd => by
  obtain ⟨D,h1,h2,h3,h4⟩ := h.marks d hd
  refine ⟨D,h1,h2,?_,h4⟩
  cases hH : H' D with
  | none => rfl
  | some o => have h5 := hle D o hH; rw [h3] at h5; cases h5
theorem RelB.putOut (h : RelB n w0 H0 fr H a w β) {b : Nat} (o : Obj) (hb : w0.heap.size ≤ b) (hH : H b = none) (hp : ∀ s, β s ≠ some b) (hm : ∀ d ∈ a.defers, d.target ≠ .collected b) :
  RelB n w0 H0 fr H a (w.putObj b o) β where
 nodup := h.nodup
 nt := h.nt
 slots := fun s sv hg hc => by
  have := h.slots s sv hg hc
  cases hq : sv.p with
  | val v => rw [hq] at this; exact this
  | lp t o => rw [hq] at this; exact this
  | box vs =>
   rw [hq] at this
   obtain ⟨b',T,hb',ht,hh⟩ := this
   refine ⟨b',T,hb',ht,?_⟩
   rw [World.putObj_heap_other]
   ·exact hh
   ·rintro rfl; exact hp s hb'
 skip := h.skip
 sat := fun c x hc => by
  rw [World.putObj_heap_other]
  ·exact h.sat c x hc
  ·rintro rfl; rw [hH] at hc; cases hc
 own := h.own
 priv := fun s c hc => by have := h.priv s c hc; exact ⟨this.1,this.2.1,by simpa using this.2.2⟩
 inj := h.inj
 os := h.os
 tape := h.tape
 output := h.output
 size := by simpa using h.size
 same := fun c hc h0 => by
  rw [World.putObj_heap_other (by omega)]
  exact h.same c hc h0
 shape := fun c hc ht => by
  rw [World.putObj_heap_other (by omega)]
  exact h.shape c hc ht
 mnd := h.mnd
 marks := fun d hd => by
  obtain ⟨D,h1,h2,h3,h4⟩ := h.marks d hd
  refine ⟨D,h1,?_,h3,h4⟩
  rw [World.putObj_heap_other]
  ·exact h2
  ·rintro rfl; exact hm d hd h1
theorem RelB.rebase (h : RelB n w0 H0 fr H a w β) {b : Nat} (o : Obj) (hb : b < w0.heap.size) (h0 : H0 b = none) :
  RelB n (w0.putObj b o) H0 fr H a (w.putObj b o) β where
 nodup := h.nodup
 nt := h.nt
 slots := fun s sv hg hc => by
  have := h.slots s sv hg hc
  cases hq : sv.p with
  | val v => rw [hq] at this; exact this
  | lp t o => rw [hq] at this; exact this
  | box vs =>
   rw [hq] at this
   obtain ⟨b',T,hb',ht,hh⟩ := this
   refine ⟨b',T,hb',ht,?_⟩
   rw [World.putObj_heap_other]
   ·exact hh
   ·rintro rfl; have := (h.priv s _ hb').2.1; omega
 skip := h.skip
 sat := fun c x hc => by
  rw [World.putObj_heap_other]
  ·exact h.sat c x hc
  ·rintro rfl
   rcases h.own _ x hc with h1 | h1
   ·exact h1 h0
   ·omega
 own := fun c x hc => by simpa using h.own c x hc
 priv := fun s c hc => by simpa using h.priv s c hc
 inj := h.inj
 os := h.os
 tape := h.tape
 output := h.output
 size := by simpa using h.size
 same := fun c hc hc0 => by
  have hc' : c < w0.heap.size := by simpa using hc
  have hsz := h.size
  by_cases e : c = b
  ·subst e; rw [World.putObj_heap_same (by omega),World.putObj_heap_same hb]
  ·rw [World.putObj_heap_other e,World.putObj_heap_other e]; exact h.same c hc' hc0
 shape := fun c hc ht => by
  have hc' : c < w0.heap.size := by simpa using hc
  have hsz := h.size
  refine ⟨?_,(h.shape c hc' ht).2⟩
  by_cases e : c = b
  ·subst e; rw [World.putObj_heap_same (by omega),World.putObj_heap_same hb]
  ·rw [World.putObj_heap_other e,World.putObj_heap_other e]; exact (h.shape c hc' ht).1
 mnd := h.mnd
 marks := fun d hd => by
  obtain ⟨D,h1,h2,h3,h4,h5⟩ := h.marks d hd
  refine ⟨D,h1,?_,h3,h4,by simpa using h5⟩
  rw [World.putObj_heap_other (by omega)]
  exact h2
def setps (t : Array Value) : List Nat → List Value → Array Value
 | p :: ps,v :: vs => setps (t.setIfInBounds p v) ps vs
 | _,_ => t
theorem setps_eq : ∀ (ps : List Nat) (vs : List Value) (t : Array Value), setps t ps vs = (ps.zip vs).foldl (fun t (p, v) => t.setIfInBounds p v) t
 | [],_,_ => by simp [setps]
 | _ :: _,[],_ => by simp [setps]
 | p :: ps,v :: vs,t => by simp [setps,setps_eq ps vs]
theorem RelB.bind : ∀ (ps : List Nat) (vs : List Value) {fr : Fr} {a : Act}, RelB n w0 H0 fr H a w β → (∀ p ∈ ps, p < n) →
  RelB n w0 H0 (bindps fr ps vs) H { a with tmps := setps a.tmps ps vs } w β
 | [],vs,fr,a,h,_ => by simpa [bindps,setps] using h
 | _ :: _,[],fr,a,h,_ => by simpa [bindps,setps] using h
 | p :: ps, v :: vs, fr, a, h, hp => by
  have := RelB.bind ps vs (h.setv (hp p (List.mem_cons_self ..)) v) (fun q hq => hp q (List.mem_cons_of_mem _ hq))
  simpa [bindps,setps,Act.put] using this
theorem RelB.fresh {w' : World} {H' : Hp} (h : RelB n w0 H0 fr H a w β) (hs : Sat w'.heap H') : RelB n w' H' fr.vals H' { a with defers := [] } w' (fun _ => none) where
 nodup := Fr.nodup_filter _ h.nodup
 nt := h.nt
 slots := fun s sv hg hc => by
  obtain ⟨h1,h2⟩ := Fr.get_filter h.nodup hg
  have := h.slots s sv h1 hc
  cases hp : sv.p with
  | val v => rw [hp] at this; exact this
  | lp t o => simp [hp] at h2
  | box vs => simp [hp] at h2
 skip := fun s sv hg hc => h.skip s sv (Fr.get_filter h.nodup hg).1 hc
 sat := hs
 own := fun b o hb => .inl (by rw [hb]; simp)
 priv := fun s b hb => by cases hb
 inj := fun s s' b hb => by cases hb
 os := rfl
 tape := rfl
 output := rfl
 size := Nat.le_refl _
 same := fun _ _ _ => rfl
 shape := fun _ _ ht => ⟨rfl,ht⟩
 mnd := List.Pairwise.nil
 marks := fun d hd => by cases hd
end
end Go.SL
