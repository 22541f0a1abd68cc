/- Regions that draw their order, shown for every order at once, by an invariant over what is done. -/
import Derived.Test.YthedjffolgeomaaGreatDoorANplI4
namespace Go.SL
open Go
structure ROp where
 pre:List Nat
 o:zA
def ySX (L:Nat→Bool) (i:Nat):Nat→Bool:=fun j=>if j=i then true else L j
def zMA (E : Env) (ops : List ROp) (fr : Fr) (H : Hp) (K : Fr → Hp → Prop) : Prop :=
 ∃ I : (Nat → Bool) → Fr → Hp → Prop, I (fun _ => false) fr H ∧
  (∀ L i x fr H,ops[i]? = some x→L i=false→(∀ j∈x.pre,L j=true)→I L fr H→vI E x.o fr H (I (ySX L i))) ∧
  ∀ L fr H,(∀ i,i < ops.length→L i=true)→I L fr H→K fr H
theorem yHO {E : Env} {ops : List ROp} {fr : Fr} {H : Hp} {K K' : Fr → Hp → Prop} (hk : ∀ fr H, K fr H → K' fr H) (h : zMA E ops fr H K) : zMA E ops fr H K' := by
 obtain⟨I,h0,h1,h2⟩:=h
 exact⟨I,h0,h1,fun L fr H hl hi=>hk _ _ (h2 L fr H hl hi)⟩
def zJq (E : Env) (n : Nat) (ops : Array Oper) (l : List ROp) : Bool :=
 (E.P.follows .mixedOrders || !Region.departs ops) && (l.length == ops.size) &&
  (List.range ops.size).all (fun i => match ops[i]?, l[i]? with
   | some o,some x=>zDW E n ops o x.o && x.pre.all (fun j=>(pO o).contains j) && (pO o).all (fun j=>decide (j < i))
   | _,_=>false)
section
variable {E:Env} {n:Nat} {ops:Array Oper} {w0:World} {H0:Hp} {ro:Option Nat} {Q:Exit→Act→World→Prop}
theorem ySS {L : Array Bool} (hsz : L.size = ops.size) (hc : ∀ i o, ops[i]? = some o → ∀ j ∈ pO o, j < i) : ∀ (i : Nat), i < ops.size → L.getD i false = false → Region.ready .any ops L ≠ [] := by
 intro i
 induction i using Nat.strongRecOn with
 | ind i ih =>
  intro hi hu
  have ho:ops[i]? = some ops[i]:=by simp [hi]
  by_cases hall:∀ j∈pO ops[i],L.getD j false=true
  ·intro hnil
   have : i ∈ Region.ready .any ops L := by
    simp only [Region.ready,List.mem_filter,List.mem_range,Bool.and_eq_true,Bool.not_eq_true']
    refine⟨hi,?_,?_⟩
    ·have hlt':i < L.size:=by rw [hsz]; exact hi
     simp only [Array.getD,hlt',dif_pos] at hu ⊢
     exact hu
    ·simp only [ho,Option.map_some,Option.getD_some,Array.all_eq_true_iff_forall_mem,Bool.or_eq_true,Bool.not_eq_true']
     intro e he
     by_cases hb:Region.binds .any e=true
     ·exact .inr (hall e.on (List.mem_map.2 ⟨e,List.mem_filter.2 ⟨by simpa using he,hb⟩,rfl⟩))
     ·exact .inl (by simpa using hb)
   rw [hnil] at this; cases this
  ·have ⟨j, hjm, hjn⟩ : ∃ j, j ∈ pO ops[i] ∧ ¬ L.getD j false = true := by
    apply Classical.byContradiction
    intro hn
    exact hall fun j hj=>Classical.byContradiction fun hc=>hn ⟨j,hj,hc⟩
   have hlt:=hc i _ ho j hjm
   exact ih j hlt (by omega) (by simpa using hjn)
def und (ops:Array Oper) (L:Array Bool):List Nat:=(List.range ops.size).filter (fun i=>!(L.getD i false))
theorem yVe {l : List ROp} {K : Fr → Hp → Prop} {I : (Nat → Bool) → Fr → Hp → Prop} (hlen : l.length = ops.size)
  (hc:∀ i,i < ops.size→∃ o x,ops[i]? = some o∧l[i]? = some x∧zDW E n ops o x.o=true∧(∀ j∈x.pre,j∈pO o)∧∀ j∈pO o,j < i)
  (h1:∀ L i x fr H,l[i]? = some x→L i=false→(∀ j∈x.pre,L j=true)→I L fr H→vI E x.o fr H (I (ySX L i)))
  (h2:∀ L fr H,(∀ i,i < l.length→L i=true)→I L fr H→K fr H)
  (hK:∀ a w fr H,Rel n w0 H0 fr H a w→K fr H→Q .normal a w) :
  ∀ (fuel : Nat) {L : Array Bool} {fr : Fr} {H : Hp} {a : Act} {w : World}, L.size = ops.size → I (fun j => L.getD j false) fr H → Rel n w0 H0 fr H a w → (und ops L).length ≤ fuel →
   wpAnyIn (FW ro) 0 E.P .any ops Q fuel L a w:=by
 have fin : ∀ {L : Array Bool} {fr : Fr} {H : Hp} {a : Act} {w : World}, I (fun j => L.getD j false) fr H → Rel n w0 H0 fr H a w → (∀ i, i < ops.size → L.getD i false = true) → Q .normal a w :=
  fun hi hr hd=>hK _ _ _ _ hr (h2 _ _ _ (fun i h=>hd i (by omega)) hi)
 intro fuel
 induction fuel with
 | zero =>
  intro L fr H a w hsz hi hr hle
  have hu:und ops L = []:=List.length_eq_zero_iff.1 (by omega)
  have hd : ∀ i, i < ops.size → L.getD i false = true := by
   intro i h
   apply Classical.byContradiction
   intro hn
   have:i∈und ops L:=List.mem_filter.2 ⟨List.mem_range.2 h,by simpa using hn⟩
   rw [hu] at this; cases this
  refine⟨?_,fin hi hr hd⟩
  cases hrd:Region.ready .any ops L with
  | nil=>rfl
  | cons i r =>
   obtain⟨k1,k2,_⟩:=zAH (ops:=ops) (L:=L) (i:=i) (by rw [hrd]; exact List.mem_cons_self ..)
   have:=hd i k1
   have hlt':i < L.size:=by rw [hsz]; exact k1
   simp only [Array.getD,hlt',dif_pos] at this k2
   rw [this] at k2; cases k2
 | succ fuel ih =>
  intro L fr H a w hsz hi hr hle
  refine⟨fun hnil=>?_,fun i hmem=>?_⟩
  ·refine fin hi hr fun i h=>?_
   apply Classical.byContradiction
   intro hn
   refine ySS hsz (fun i o ho j hj=>?_) i h (by simpa using hn) hnil
   obtain⟨o',x,ho',_,_,_,hlt⟩:=hc i (Array.getElem?_eq_some_iff.1 ho).1
   rw [ho] at ho'; cases ho'
   exact hlt j hj
  ·obtain⟨k1,k2,k3⟩:=zAH hmem
   obtain⟨o,x,ho,hx,hck,hpre,_⟩:=hc i k1
   have hlt':i < L.size:=by rw [hsz]; exact k1
   have hu : L.getD i false = false := by
    simp only [Array.getD,hlt',dif_pos] at k2 ⊢
    exact k2
   refine wpOpIn_mono ?_ (zAn hr ho hck (h1 _ i x fr H hx hu (fun j hj=>k3 o ho j (hpre j hj)) hi))
   rintro a' w' ⟨fr',H',hrel',hk'⟩
   have he : (ySX (fun j => L.getD j false) i) = fun j => (L.setIfInBounds i true).getD j false := by
    funext j; rw [qV hlt']; rfl
   rw [he] at hk'
   refine ih (by simpa using hsz) hk' hrel' ?_
   have : (und ops (L.setIfInBounds i true)).length < (und ops L).length := by
    have e : und ops (L.setIfInBounds i true) = (und ops L).filter (fun j => j != i) := by
     simp only [und,List.filter_filter]
     refine List.filter_congr fun j _=>?_
     rw [qV hlt']
     by_cases e:j=i<;>simp [e]
    rw [e]
    exact List.length_filter_lt_length_iff_exists.2 ⟨i,List.mem_filter.2 ⟨List.mem_range.2 k1,by simp [hu]⟩,by simp⟩
   omega
theorem zRK {l : List ROp} {K : Fr → Hp → Prop} {id : Nat} {a : Act} {w : World} {fr : Fr} {H : Hp} (hc : zJq E n ops l = true) (hK : ∀ a w fr H, Rel n w0 H0 fr H a w → K fr H → Q .normal a w)
  (hr:Rel n w0 H0 fr H a w) (h:zMA E l fr H K):(Code.region id ops true).wpIn (FW ro) 0 E.P Q a w:=by
 simp only [zJq,Bool.and_eq_true,beq_iff_eq] at hc
 obtain⟨⟨hc1,hc2⟩,hc3⟩:=hc
 obtain⟨I,h0,h1,h2⟩:=h
 obtain⟨β,hrb⟩:=hr
 refine wpIn_region_draw fun t=>?_
 have hsch:Region.schedule (E.P.follows .mixedOrders) ops t=Region.linearise .any ops t:=by simp only [Region.schedule,hc1,if_true]
 rw [hsch]
 have hrep : ∀ i, (Array.replicate ops.size false).getD i false = false := by
  intro i
  by_cases e:i < ops.size<;>simp [Array.getD,e]
 refine wpAnyIn_sound ops.size t _ a _ (yVe hc2 ?_ h1 h2 hK ops.size (by simp) ?_ ⟨β,hrb.drawn _⟩ ?_)
 ·intro i hi
  have:=List.all_eq_true.1 hc3 i (List.mem_range.2 hi)
  split at this
  ·rename_i o x ho hx
   simp only [Bool.and_eq_true] at this
   exact⟨o,x,ho,hx,this.1.1,fun j hj=>by simpa using List.all_eq_true.1 this.1.2 j hj,fun j hj=>by simpa using List.all_eq_true.1 this.2 j hj⟩
  ·cases this
 ·have:(fun j=>(Array.replicate ops.size false).getD j false)=fun _=>false:=funext hrep
  rw [this]; exact h0
 ·exact Nat.le_trans (List.length_filter_le _ _) (by simp)
end
end Go.SL
/- Codes: what is to be shown of a body. -/
namespace Go.SL
open Go
inductive X where
 | nrm
 | exit (id:Nat)
 | ret
 deriving DecidableEq
inductive vM where
 | skip
 | reg (ops:List zA) (live:List Nat)
 | regd (ops:List yU) (live:List Nat)
 | regl (ops:List yU) (mid:List Nat) (last:zA) (live:List Nat)
 | rega (ops:List ROp) (live:List Nat)
 | seq (a b:vM)
 | cond (c:Arg) (x y:vM)
 | block (id:Nat) (c:vM)
 | loop (live:List Nat) (c:vM)
 | exit (id:Nat)
 | ret
 | rangeF (f:Arg) (ps:List Nat) (assign body:vM)
def Iter (E : Env) (f : Value) (G : Hp) (S : List (List Value) → Prop) : Prop :=
 ∀ (y : Value) (Inv Stop : List (List Value) → Hp → Prop) (H : Hp), (∀ pre H, Inv pre H → G.le H) →
  (∀ pre x H,(∃ suf,S (pre ++ x :: suf))→Inv pre H→FnV E y x H fun v H'=>(v = .bool true∧Inv (pre ++ [x]) H')∨(v = .bool false∧Stop pre H')) →
  Inv [] H→FnV E f [y] H fun _ H'=>(∃ xs,S xs∧Inv xs H')∨∃ pre,Stop pre H'
def zFD : Value → Prop
 | .func (.func _) _ _=>True
 | _=>False
def Fr.vals (fr:Fr):Fr:=fr.filter fun e=>match e.2.p with | .val _=>true | _=>false
def zAV (fr : Fr) : List Nat → List Value → Fr
 | p :: ps,v :: vs=>zAV (fr.set p ⟨true,.val v⟩) ps vs
 | _,_=>fr
def vc (E : Env) : vM → Fr → Hp → (X → Fr → Hp → Prop) → Prop
 | .skip,fr,H,Q=>Q .nrm fr H
 | .reg ops live,fr,H,Q=>kE E ops fr H fun fr' H'=>Q .nrm (fr'.keep live) H'
 | .regd ops live,fr,H,Q=>evd E [] ops (fr.start (wV ops)) H fun fr' H'=>Q .nrm (fr'.keep live) H'
 | .regl ops mid last live,fr,H,Q=>evd E [] ops (fr.start (wV ops)) H fun fr' H'=>vI E last (fr'.keep mid) H' fun fr' H'=>Q .nrm (fr'.keep live) H'
 | .rega ops live,fr,H,Q=>zMA E ops fr H fun fr' H'=>Q .nrm (fr'.keep live) H'
 | .seq a b, fr, H, Q => vc E a fr H fun e fr' H' => match e with
  | .nrm=>vc E b fr' H' Q
  | e=>Q e fr' H'
 | .cond c x y, fr, H, Q => vok fr c ∧ (match vo E fr c with
  | .bool b=>(b=true→vc E x fr H Q)∧(b=false→vc E y fr H Q)
  | _=>False)
 | .block id c,fr,H,Q=>vc E c fr H fun e fr' H'=>if e = .exit id then Q .nrm fr' H' else Q e fr' H'
 | .loop live c, fr, H, Q => ∃ I : Nat → Fr → Hp → Prop, (∃ m, I m (fr.keep live) H) ∧ ∀ m fr' H', I m fr' H' → vc E c fr' H' fun e fr'' H'' => match e with
  | .nrm=>∃ m',m' < m∧I m' (fr''.keep live) H''
  | e=>Q e fr'' H''
 | .exit id,fr,H,Q=>Q (.exit id) fr H
 | .ret,fr,H,Q=>Q .ret fr H
 | .rangeF f ps assign body, fr, H, Q => vok fr f ∧ zFD (vo E fr f) ∧ ∃ (G : Hp) (S : List (List Value) → Prop), Iter E (vo E fr f) G S ∧ (∀ xs, S xs → ∀ x ∈ xs, x.length = ps.length) ∧
  ∃ Inv : List (List Value) → Hp → Prop, Inv [] H ∧ (∀ pre H, Inv pre H → G.le H) ∧
   (∀ pre x H, (∃ suf, S (pre ++ x :: suf)) → Inv pre H → vc E assign (zAV fr.vals ps x) H fun e fr' H' => e = .nrm ∧ vc E body fr' H' fun e _ H'' => match e with
    | .nrm=>Inv (pre ++ [x]) H''
    | e=>Q e fr H'') ∧
   ∀ xs H,S xs→Inv xs H→Q .nrm fr H
def zDM (E : Env) (n : Nat) (ops : Array Oper) : List Oper → List zA → Bool
 | [],[]=>true
 | o :: r,x :: r'=>zDW E n ops o x && zDM E n ops r r'
 | _,_=>false
def wY (E : Env) (n : Nat) (rnd : Bool) : Code → vM → Bool
 | .skip,.skip=>true
 | .region _ ops false,.reg l live=>pQ live && zDM E n ops ops.toList l
 | .region _ ops true,.regd l live=>pQ live && zFW E n ops l
 | .region _ ops true,.regl l mid last live=>pQ live && pQ mid && zEb E n ops l last
 | .region _ ops true,.rega l live=>pQ live && zJq E n ops l
 | .seq a b,.seq x y=>wY E n rnd a x && wY E n rnd b y
 | .cond c a b,.cond d x y=>zQ E c d && wY E n rnd a x && wY E n rnd b y
 | .block i c,.block j x=>i == j && wY E n rnd c x
 | .loop c,.loop live x=>pQ live && wY E n rnd c x
 | .exit i,.exit j=>i == j
 | .ret,.ret=>true
 | .rangeFunc g ps a b,.rangeF f qs x y=>!rnd && zQ E g f && (ps.toList == qs) && qs.all (fun p=>decide (p < n)) && wY E n true a x && wY E n true b y
 | _,_=>false
def zAI (n : Nat) (w0 : World) (H0 : Hp) (Q : X → Fr → Hp → Prop) : Exit → Act → World → Prop
 | .normal,a,w=>∃ fr H,Rel n w0 H0 fr H a w∧Q .nrm fr H
 | .exit id,a,w=>∃ fr H,Rel n w0 H0 fr H a w∧Q (.exit id) fr H
 | .ret,a,w=>∃ fr H,Rel n w0 H0 fr H a w∧Q .ret fr H
 | _,_,_=>False
theorem qQ {E : Env} : ∀ {c : vM} {fr : Fr} {H : Hp} {Q Q' : X → Fr → Hp → Prop}, (∀ e fr H, Q e fr H → Q' e fr H) → vc E c fr H Q → vc E c fr H Q'
 | .skip,_,_,_,_,hq,h=>hq _ _ _ h
 | .reg _ _,_,_,_,_,hq,h=>zHW (fun _ _ h=>hq _ _ _ h) h
 | .regd _ _,_,_,_,_,hq,h=>zHV (fun _ _ h=>hq _ _ _ h) h
 | .regl _ _ _ _,_,_,_,_,hq,h=>zHV (fun _ _ h=>zHT (fun _ _ h=>hq _ _ _ h) h) h
 | .rega _ _,_,_,_,_,hq,h=>yHO (fun _ _ h=>hq _ _ _ h) h
 | .seq a b,_,_,_,_,hq,h=>qQ (c:=a) (fun e fr H h=>by cases e<;>first | exact qQ (c:=b) hq h | exact hq _ _ _ h) h
 | .cond c x y, fr, _, _, _, hq, h => by
  refine⟨h.1,?_⟩
  have h:=h.2
  split<;>simp_all
  exact⟨fun e=>qQ (c:=x) (by assumption) (h.1 e),fun e=>qQ (c:=y) (by assumption) (h.2 e)⟩
 | .block id c,_,_,_,_,hq,h=>qQ (c:=c) (fun e fr H h=>by split<;>simp_all) h
 | .loop live c, _, _, _, _, hq, h => by
  obtain⟨I,h0,h1⟩:=h
  exact⟨I,h0,fun m fr' H' hi=>qQ (c:=c) (fun e fr H h=>by cases e<;>first | exact h | exact hq _ _ _ h) (h1 m fr' H' hi)⟩
 | .exit _,_,_,_,_,hq,h=>hq _ _ _ h
 | .ret,_,_,_,_,hq,h=>hq _ _ _ h
 | .rangeF f ps assign body, _, _, _, _, hq, h => by
  obtain⟨h0,hf,G,S,hi,hl,Inv,h1,h2,h3,h4⟩:=h
  refine⟨h0,hf,G,S,hi,hl,Inv,h1,h2,fun pre x H hs hI=>qQ (c:=assign) (fun e fr H h=>⟨h.1,qQ (c:=body) (fun e fr H h=>by cases e<;>first | exact h | exact hq _ _ _ h) h.2⟩) (h3 pre x H hs hI),fun xs H hs hI=>hq _ _ _ (h4 xs H hs hI)⟩
section
variable {E:Env} {n:Nat} {w0:World} {H0:Hp} {fr:Fr} {H:Hp} {a:Act} {w:World} {ro:Option Nat}
theorem zKR {ops : Array Oper} {Q : Exit → Act → World → Prop} {K : Fr → Hp → Prop} (hK : ∀ a w fr H, Rel n w0 H0 fr H a w → K fr H → Q .normal a w) :
  ∀ (l : List zA) (r : List Oper) (k : Nat), ops.toList.drop k = r → zDM E n ops r l = true → ∀ {fr : Fr} {H : Hp} {a : Act} {w : World}, Rel n w0 H0 fr H a w → kE E l fr H K →
   wpOpsIn (FW ro) 0 E.P ops Q ((List.range ops.size).drop k) a w
 | [], r, k, hr, hc, fr, H, a, w, hrel, h => by
  cases r with
  | cons=>simp [zDM] at hc
  | nil =>
   have:ops.size≤k:=by simpa using List.drop_eq_nil_iff.1 hr
   rw [List.drop_eq_nil_of_le (by simpa using this)]
   exact hK a w fr H hrel h
 | x :: l, r, k, hr, hc, fr, H, a, w, hrel, h => by
  cases r with
  | nil=>simp [zDM] at hc
  | cons o r =>
   simp only [zDM,Bool.and_eq_true] at hc
   have hk : k < ops.size := Classical.byContradiction fun hn => by
    rw [List.drop_eq_nil_of_le (by simpa using hn)] at hr; cases hr
   have hk':k < ops.toList.length:=by simpa using hk
   rw [List.drop_eq_getElem_cons hk'] at hr
   obtain⟨ho,hr⟩:=List.cons.inj hr
   have hio:ops[k]? = some o:=by simp [hk,← ho]
   rw [List.drop_eq_getElem_cons (by simpa using hk),wpOpsIn_cons]
   simp only [List.getElem_range]
   refine wpOpIn_mono ?_ (zAn hrel hio hc.1 h)
   rintro a' w' ⟨fr',H',hrel',hk'⟩
   exact zKR hK l r (k + 1) hr hc.2 hrel' hk'
theorem yHU {F : Fence} {k : Nat} {P : Program} {c : Code} {Q : Exit → Act → World → Prop} (J : Nat → Act → World → Prop) (m0 : Nat) (h0 : J m0 a w)
  (hround:∀ m a w,J m a w→c.wpIn F k P (Exit.then (fun a' w'=>∃ m',m' < m∧J m' a' w') Q) a w):(Code.loop c).wpIn F k P Q a w:=by
 have least : ∀ a w, (∃ m, J m a w) → ∃ m, J m a w ∧ ∀ m', J m' a w → m ≤ m' := by
  intro a w ⟨m,hm⟩
  induction m using Nat.strongRecOn with
  | ind m ih =>
   by_cases hx:∃ m',m' < m∧J m' a w
   ·obtain⟨m',hlt,hj⟩:=hx; exact ih m' hlt hj
   ·exact⟨m,hm,fun m' hj=>Nat.le_of_not_lt fun hlt=>hx ⟨m',hlt,hj⟩⟩
 have μ : ∀ a w, ∃ m, (∃ m, J m a w) → J m a w ∧ ∀ m', J m' a w → m ≤ m' := fun a w => by
  by_cases hx:∃ m,J m a w
  ·obtain⟨m,hm⟩:=least a w hx; exact⟨m,fun _=>hm⟩
  ·exact⟨0,fun h=>absurd h hx⟩
 refine wpIn_loop (fun a w=>∃ m,J m a w) (fun a w=>Classical.choose (μ a w)) ⟨m0,h0⟩ fun a w hj=>?_
 have hsp:=Classical.choose_spec (μ a w) hj
 refine wpIn_mono (hround _ a w hsp.1) ?_
 intro e a' w' hp
 cases e with
 | normal =>
  obtain⟨m',hlt,hj'⟩:=hp
  have hsp':=Classical.choose_spec (μ a' w') ⟨m',hj'⟩
  exact⟨⟨m',hj'⟩,Nat.lt_of_le_of_lt (hsp'.2 m' hj') hlt⟩
 | exit id=>exact hp
 | ret=>exact hp
 | goto=>exact hp
 | panic=>exact hp
 | outgrown=>exact hp
end
end Go.SL
/- A range over a function: one round, the whole statement. -/
namespace Go.SL
open Go
section
variable {E:Env} {n:Nat} {w0:World} {H0:Hp} {fr:Fr} {H:Hp} {a:Act} {w:World} {β:Nat→Option Nat}
theorem yT.forget {H' : Hp} (h : yT n w0 H0 fr H a w β) (hle : H'.le H) : yT n w0 H0 fr H' a w β where
 nodup:=h.nodup
 nt:=h.nt
 slots:=h.slots
 skip:=h.skip
 sat:=h.sat.le hle
 own:=fun b o hb=>h.own b o (hle b o hb)
 priv := fun s b hb => by
  have:=h.priv s b hb
  refine⟨?_,this.2⟩
  cases hH:H' b with
  | none=>rfl
  | some o=>have h1:=hle b o hH; rw [this.1] at h1; cases h1
 inj:=h.inj
 os:=h.os
 tape:=h.tape
 output:=h.output
 size:=h.size
 same:=h.same
 shape:=fun b hb ht=>⟨(h.shape b hb ht).1,fun hx=>(h.shape b hb ht).2 (hx.le hle)⟩
 mnd:=h.mnd
 marks := fun d hd => by
  obtain⟨D,h1,h2,h3,h4⟩:=h.marks d hd
  refine⟨D,h1,h2,?_,h4⟩
  cases hH:H' D with
  | none=>rfl
  | some o=>have h5:=hle D o hH; rw [h3] at h5; cases h5
theorem yT.putOut (h : yT n w0 H0 fr H a w β) {b : Nat} (o : Obj) (hb : w0.heap.size ≤ b) (hH : H b = none) (hp : ∀ s, β s ≠ some b) (hm : ∀ d ∈ a.defers, d.target ≠ .collected b) :
  yT n w0 H0 fr H a (w.putObj b o) β where
 nodup:=h.nodup
 nt:=h.nt
 slots := fun s sv hg hc => by
  have:=h.slots s sv hg hc
  cases hq:sv.p with
  | val v=>rw [hq] at this; exact this
  | lp t o=>rw [hq] at this; exact this
  | box vs =>
   rw [hq] at this
   obtain⟨b',T,hb',ht,hh⟩:=this
   refine⟨b',T,hb',ht,?_⟩
   rw [World.putObj_heap_other]
   ·exact hh
   ·rintro rfl; exact hp s hb'
 skip:=h.skip
 sat := fun c x hc => by
  rw [World.putObj_heap_other]
  ·exact h.sat c x hc
  ·rintro rfl; rw [hH] at hc; cases hc
 own:=h.own
 priv:=fun s c hc=>by have:=h.priv s c hc; exact⟨this.1,this.2.1,by simpa using this.2.2⟩
 inj:=h.inj
 os:=h.os
 tape:=h.tape
 output:=h.output
 size:=by simpa using h.size
 same := fun c hc h0 => by
  rw [World.putObj_heap_other (by omega)]
  exact h.same c hc h0
 shape := fun c hc ht => by
  rw [World.putObj_heap_other (by omega)]
  exact h.shape c hc ht
 mnd:=h.mnd
 marks := fun d hd => by
  obtain⟨D,h1,h2,h3,h4⟩:=h.marks d hd
  refine⟨D,h1,?_,h3,h4⟩
  rw [World.putObj_heap_other]
  ·exact h2
  ·rintro rfl; exact hm d hd h1
theorem yT.rebase (h : yT n w0 H0 fr H a w β) {b : Nat} (o : Obj) (hb : b < w0.heap.size) (h0 : H0 b = none) :
  yT n (w0.putObj b o) H0 fr H a (w.putObj b o) β where
 nodup:=h.nodup
 nt:=h.nt
 slots := fun s sv hg hc => by
  have:=h.slots s sv hg hc
  cases hq:sv.p with
  | val v=>rw [hq] at this; exact this
  | lp t o=>rw [hq] at this; exact this
  | box vs =>
   rw [hq] at this
   obtain⟨b',T,hb',ht,hh⟩:=this
   refine⟨b',T,hb',ht,?_⟩
   rw [World.putObj_heap_other]
   ·exact hh
   ·rintro rfl; have:=(h.priv s _ hb').2.1; omega
 skip:=h.skip
 sat := fun c x hc => by
  rw [World.putObj_heap_other]
  ·exact h.sat c x hc
  ·rintro rfl
   rcases h.own _ x hc with h1 | h1
   ·exact h1 h0
   ·omega
 own:=fun c x hc=>by simpa using h.own c x hc
 priv:=fun s c hc=>by simpa using h.priv s c hc
 inj:=h.inj
 os:=h.os
 tape:=h.tape
 output:=h.output
 size:=by simpa using h.size
 same := fun c hc hc0 => by
  have hc':c < w0.heap.size:=by simpa using hc
  have hsz:=h.size
  by_cases e:c=b
  ·subst e; rw [World.putObj_heap_same (by omega),World.putObj_heap_same hb]
  ·rw [World.putObj_heap_other e,World.putObj_heap_other e]; exact h.same c hc' hc0
 shape := fun c hc ht => by
  have hc':c < w0.heap.size:=by simpa using hc
  have hsz:=h.size
  refine⟨?_,(h.shape c hc' ht).2⟩
  by_cases e:c=b
  ·subst e; rw [World.putObj_heap_same (by omega),World.putObj_heap_same hb]
  ·rw [World.putObj_heap_other e,World.putObj_heap_other e]; exact(h.shape c hc' ht).1
 mnd:=h.mnd
 marks := fun d hd => by
  obtain⟨D,h1,h2,h3,h4,h5⟩:=h.marks d hd
  refine⟨D,h1,?_,h3,h4,by simpa using h5⟩
  rw [World.putObj_heap_other (by omega)]
  exact h2
def zBx (t : Array Value) : List Nat → List Value → Array Value
 | p :: ps,v :: vs=>zBx (t.setIfInBounds p v) ps vs
 | _,_=>t
theorem zPX : ∀ (ps : List Nat) (vs : List Value) (t : Array Value), zBx t ps vs = (ps.zip vs).foldl (fun t (p, v) => t.setIfInBounds p v) t
 | [],_,_=>by simp [zBx]
 | _ :: _,[],_=>by simp [zBx]
 | p :: ps,v :: vs,t=>by simp [zBx,zPX ps vs]
theorem yT.bind : ∀ (ps : List Nat) (vs : List Value) {fr : Fr} {a : Act}, yT n w0 H0 fr H a w β → (∀ p ∈ ps, p < n) →
  yT n w0 H0 (zAV fr ps vs) H { a with tmps:=zBx a.tmps ps vs } w β
 | [],vs,fr,a,h,_=>by simpa [zAV,zBx] using h
 | _ :: _,[],fr,a,h,_=>by simpa [zAV,zBx] using h
 | p :: ps, v :: vs, fr, a, h, hp => by
  have:=yT.bind ps vs (h.setv (hp p (List.mem_cons_self ..)) v) (fun q hq=>hp q (List.mem_cons_of_mem _ hq))
  simpa [zAV,zBx,Act.put] using this
theorem yT.fresh {w' : World} {H' : Hp} (h : yT n w0 H0 fr H a w β) (hs : Sat w'.heap H') : yT n w' H' fr.vals H' { a with defers := [] } w' (fun _ => none) where
 nodup:=Fr.nodup_filter _ h.nodup
 nt:=h.nt
 slots := fun s sv hg hc => by
  obtain⟨h1,h2⟩:=Fr.get_filter h.nodup hg
  have:=h.slots s sv h1 hc
  cases hp:sv.p with
  | val v=>rw [hp] at this; exact this
  | lp t o=>simp [hp] at h2
  | box vs=>simp [hp] at h2
 skip:=fun s sv hg hc=>h.skip s sv (Fr.get_filter h.nodup hg).1 hc
 sat:=hs
 own:=fun b o hb=>.inl (by rw [hb]; simp)
 priv:=fun s b hb=>by cases hb
 inj:=fun s s' b hb=>by cases hb
 os:=rfl
 tape:=rfl
 output:=rfl
 size:=Nat.le_refl _
 same:=fun _ _ _=>rfl
 shape:=fun _ _ ht=>⟨rfl,ht⟩
 mnd:=List.Pairwise.nil
 marks:=fun d hd=>by cases hd
end
end Go.SL
/- A range over a function: the round's contract, the statement. -/
namespace Go.SL
open Go
def zOt : X → Option Code
 | .nrm=>none
 | .exit id=>some (.exit id)
 | .ret=>some .ret
section
variable {E:Env} {n:Nat} {w0:World} {H0:Hp} {fr:Fr} {H:Hp} {a:Act} {w:World} {β:Nat→Option Nat}
theorem yOO (h : yT n w0 H0 fr H a w β) {as bd : Code} {ax bx : vM} {ps : Array Tmp} {qs : List Nat} (hps : ps.toList = qs) (hqs : ∀ p ∈ qs, p < n)
  (hassign:∀ {l:Nat} {w0:World} {H0:Hp} {fr:Fr} {H:Hp} {a:Act} {w:World} {Q:X→Fr→Hp→Prop},Rel n w0 H0 fr H a w→vc E ax fr H Q→as.wpIn (FW (some l)) 0 E.P (zAI n w0 H0 Q) a w)
  (hbody:∀ {l:Nat} {w0:World} {H0:Hp} {fr:Fr} {H:Hp} {a:Act} {w:World} {Q:X→Fr→Hp→Prop},Rel n w0 H0 fr H a w→vc E bx fr H Q→bd.wpIn (FW (some l)) 0 E.P (zAI n w0 H0 Q) a w)
  {l:Nat} {r:Loop} (hr1:r.tmps=a.tmps) (hr2:r.params=ps) (hr3:r.assign=as) (hr4:r.body=bd) (hr5:r.state = .ready) (hr6:r.pending=none)
  {H':Hp} (hl:H' l=none) {x:List Value} (hx:x.length=qs.length) {I1:Hp→Prop} {I2:X→Hp→Prop}
  (hv : vc E ax (zAV fr.vals qs x) H' fun e fr' H'' => e = .nrm ∧ vc E bx fr' H'' fun e _ H3 => match e with
   | .nrm=>I1 H3
   | e=>I2 e H3) :
  FnV E (.func (.yield l) #[] #[]) x (H'.put l (.obj (.loop r))) fun v K' =>
   (v = .bool true∧∃ H3,K'=H3.put l (.obj (.loop r))∧H3 l=none∧I1 H3) ∨
   (v = .bool false∧∃ H3 e c,zOt e=some c∧K'=H3.put l (.obj (.loop { r with state:=.done,pending:=some c }))∧H3 l=none∧I2 e H3):=by
 subst hr3
 subst hr4
 intro w' hs
 have hll:w'.heap[l]? = some (.loop r):=hs l _ (Hp.put_same ..)
 have hlt:l < w'.heap.size:=(Array.getElem?_eq_some_iff.1 hll).1
 have hsz:(([]:List Value) ++ x).toArray.size=r.params.size:=by rw [hr2]; simp [hx,← hps]
 have hs':Sat w'.heap H':=fun b o hb=>hs b o (by rw [Hp.put_ne]; exact hb; rintro rfl; rw [hl] at hb; cases hb)
 refine⟨r.fn,_,r.assign,r.body,run_yield hll hsz,?_⟩
 refine roundIn_of_wpIn (F:=Fence.wide) (n:=0) trivial ?_
 have h0:yT n w' H' (zAV fr.vals qs x) H' { tmps:=zBx a.tmps qs x,defers:=[] } w' (fun _=>none):=yT.bind qs x (h.fresh hs') hqs
 have ht : ((r.params.zip (([] : List Value) ++ x).toArray).foldl (fun tmps (t, a) => tmps.setIfInBounds t a) r.tmps) = zBx a.tmps qs x := by
  rw [zPX,hr1,hr2,← hps,← Array.foldl_toList]
  simp
 rw [ht]
 refine wpIn_mono (F:=FW (some l)) (hassign (l:=l) ⟨_,h0⟩ hv) ?_
 intro e a1 w1 hp
 cases e with
 | normal =>
  obtain⟨fr1,H1,⟨β1,h1⟩,_,hv1⟩:=hp
  have hl1:w1.heap[l]? = some (.loop r):=(h1.same l hlt hl).trans hll
  refine⟨_,run_beginRound hl1 hr5,?_⟩
  refine wpIn_mono (F:=FW (some l)) (hbody (l:=l) ⟨β1,h1.rebase (.loop { r with state:=.busy }) hlt hl⟩ hv1) ?_
  have fin : ∀ (a3 : Act) (w3 : World) (fr3 : Fr) (H3 : Hp) (jump : Option Code), Rel n (w'.putObj l (.loop { r with state := .busy })) H' fr3 H3 a3 w3 →
    ∃ v w4, (Instr.endRound l jump).run E.P w3 = .ok v w4 ∧ v = .bool jump.isNone ∧ H3 l = none ∧
     Sat w4.heap (H3.put l (.obj (.loop { r with state:=if jump.isNone then .ready else .done,pending:=jump }))) ∧
     Kept (H'.put l (.obj (.loop r))) w' w4 (H3.put l (.obj (.loop { r with state:=if jump.isNone then .ready else .done,pending:=jump }))):=by
   rintro a3 w3 fr3 H3 jump ⟨β3,h3⟩
   have hl3:w3.heap[l]? = some (.loop { r with state:=.busy }):=(h3.same l (by simpa using hlt) hl).trans (World.putObj_heap_same hlt)
   have hlt3:l < w3.heap.size:=(Array.getElem?_eq_some_iff.1 hl3).1
   have hn : H3 l = none := by
    cases hH:H3 l with
    | none=>rfl
    | some o => rcases h3.own l o hH with h4 | h4
                ·exact absurd hl h4
                ·simp at h4; omega
   refine⟨_,_,run_endRound jump hl3,rfl,hn,fun b o hb=>?_,⟨h3.os,h3.tape,h3.output,by have:=h3.size; simpa using this,fun b hb h0=>?_,fun b o hb=>?_,fun b hb ht=>?_⟩⟩
   ·by_cases e:b=l
    ·subst e; rw [Hp.put_same] at hb; cases hb; rw [World.putObj_heap_same hlt3]; rfl
    ·rw [Hp.put_ne _ _ e] at hb; rw [World.putObj_heap_other e]; exact h3.sat b o hb
   ·have e:b≠l:=by rintro rfl; rw [Hp.put_same] at h0; cases h0
    rw [Hp.put_ne _ _ e] at h0
    rw [World.putObj_heap_other e,h3.same b (by simpa using hb) h0,World.putObj_heap_other e]
   ·by_cases e:b=l
    ·subst e; exact .inl (by rw [Hp.put_same]; simp)
    ·rw [Hp.put_ne _ _ e] at hb ⊢
     have:=h3.own b o hb
     simpa using this
   ·by_cases e:b=l
    ·subst e; rw [World.putObj_heap_same hlt3,hll,Hp.put_same]; exact⟨rfl,fun h=>h.elim⟩
    ·rw [Hp.put_ne _ _ e] at ht ⊢
     have h5:=h3.shape b (by simpa using hb) ht
     exact⟨by rw [World.putObj_heap_other e,h5.1,World.putObj_heap_other e],h5.2⟩
  intro e a3 w3 hp
  cases e with
  | normal =>
   obtain⟨fr3,H3,hr3',hi⟩:=hp
   obtain⟨v,w4,hrun,rfl,hn,hs4,hk4⟩:=fin a3 w3 fr3 H3 none hr3'
   have er : ({ r with state := if (none : Option Code).isNone then .ready else .done, pending := none } : Loop) = r := by
    cases r; simp only at hr5 hr6; subst hr5; subst hr6; rfl
   rw [er] at hs4 hk4
   exact⟨_,w4,hrun,_,_,rfl,hs4,hk4,.inl ⟨rfl,H3,rfl,hn,hi⟩⟩
  | ret =>
   obtain⟨fr3,H3,hr3',hi⟩:=hp
   obtain⟨v,w4,hrun,rfl,hn,hs4,hk4⟩:=fin a3 w3 fr3 H3 (some .ret) hr3'
   exact⟨_,w4,hrun,_,_,rfl,hs4,hk4,.inr ⟨rfl,H3,.ret,.ret,rfl,rfl,hn,hi⟩⟩
  | exit id =>
   obtain⟨fr3,H3,hr3',hi⟩:=hp
   obtain⟨v,w4,hrun,rfl,hn,hs4,hk4⟩:=fin a3 w3 fr3 H3 (some (.exit id)) hr3'
   exact⟨_,w4,hrun,_,_,rfl,hs4,hk4,.inr ⟨rfl,H3,.exit id,.exit id,rfl,rfl,hn,hi⟩⟩
  | goto=>exact hp.elim
  | panic=>exact hp.elim
  | outgrown=>exact hp.elim
 | exit id=>obtain⟨_,_,_,he,_⟩:=hp; cases he
 | ret=>obtain⟨_,_,_,he,_⟩:=hp; cases he
 | goto=>exact hp.elim
 | panic=>exact hp.elim
 | outgrown=>exact hp.elim
theorem zPb (hr : Rel n w0 H0 fr H a w) {g : Operand} {f : Arg} {as bd : Code} {ax bx : vM} {ps : Array Tmp} {qs : List Nat} (hg : zQ E g f = true) (hps : ps.toList = qs) (hqs : ∀ p ∈ qs, p < n)
  (hassign:∀ {l:Nat} {w0:World} {H0:Hp} {fr:Fr} {H:Hp} {a:Act} {w:World} {Q:X→Fr→Hp→Prop},Rel n w0 H0 fr H a w→vc E ax fr H Q→as.wpIn (FW (some l)) 0 E.P (zAI n w0 H0 Q) a w)
  (hbody:∀ {l:Nat} {w0:World} {H0:Hp} {fr:Fr} {H:Hp} {a:Act} {w:World} {Q:X→Fr→Hp→Prop},Rel n w0 H0 fr H a w→vc E bx fr H Q→bd.wpIn (FW (some l)) 0 E.P (zAI n w0 H0 Q) a w)
  {Q:X→Fr→Hp→Prop} (h:vc E (.rangeF f qs ax bx) fr H Q):(Code.rangeFunc g ps as bd).wpIn (FW none) 0 E.P (zAI n w0 H0 Q) a w:=by
 obtain⟨β,hrb⟩:=hr
 obtain⟨h0,hfn,G,S,hit,hlen,Inv,hI0,hG,hround,hend⟩:=h
 have e:=zW hrb hg h0
 refine wpIn_rangeFunc (F:=FW none) fun fn _=>?_
 let r:Loop:={ state:=.ready,pending:=none,fn,tmps:=a.tmps,params:=ps,assign:=as,body:=bd,defers:=w.heap.size }
 let w1:World:=(w.alloc (.deferred (some []))).alloc (.loop r)
 have hw1:w1.heap=(w.heap.push (.deferred (some []))).push (.loop r):=rfl
 have hsz1:w1.heap.size=w.heap.size + 2:=by simp [hw1]
 have hl1 : w1.heap[w.heap.size + 1]? = some (.loop r) := by
  have:(w.heap.push (Obj.deferred (some []))).size=w.heap.size + 1:=by simp
  rw [hw1,Array.getElem?_push,if_pos (by omega)]
 have hD1 : w1.heap[w.heap.size]? = some (.deferred (some [])) := by
  rw [hw1,Array.getElem?_push,if_neg (by simp),Array.getElem?_push,if_pos rfl]
 have hold : ∀ b, b < w.heap.size → w1.heap[b]? = w.heap[b]? := fun b hb => by
  rw [hw1,Array.getElem?_push,if_neg (by simp; omega),Array.getElem?_push,if_neg (by omega)]
 have hHn : ∀ b, w.heap.size ≤ b → H b = none := fun b hb => by
  cases hH:H b with
  | none=>rfl
  | some o=>have:=hrb.sat.lt hH; omega
 have hs1 : Sat w1.heap (H.put (w.heap.size + 1) (.obj (.loop r))) := fun b o hb => by
  by_cases eb:b=w.heap.size + 1
  ·subst eb; rw [Hp.put_same] at hb; cases hb; exact hl1
  ·rw [Hp.put_ne _ _ eb] at hb; rw [hold b (hrb.sat.lt hb)]; exact hrb.sat b o hb
 have hk1 : Kept H w w1 (H.put (w.heap.size + 1) (.obj (.loop r))) := ⟨rfl, rfl, rfl, by omega, fun b hb _ => hold b hb, fun b o hb => by
  by_cases eb:b=w.heap.size + 1
  ·exact .inr (by omega)
  ·rw [Hp.put_ne _ _ eb] at hb; exact .inl (by rw [hb]; simp),fun b hb ht=>⟨by rw [hold b hb],by rw [Hp.put_ne _ _ (by omega)]; exact ht⟩⟩
 have hm1:=hrb.move hs1 hk1
 have hrel1 : yT n w0 H0 fr (H.put (w.heap.size + 1) (.obj (.loop r))) { a with defers := { target := .collected w.heap.size, args := #[] } :: a.defers } w1 β := {
  nodup:=hm1.nodup,nt:=hm1.nt,slots:=hm1.slots,skip:=hm1.skip,sat:=hm1.sat,own:=hm1.own,priv:=hm1.priv,inj:=hm1.inj,os:=hm1.os,tape:=hm1.tape,output:=hm1.output,size:=hm1.size,same:=hm1.same,shape:=hm1.shape
  mnd := List.pairwise_cons.2 ⟨(fun d hd heq => by
   obtain⟨D,h1,h2,_⟩:=hrb.marks d hd
   rw [h1] at heq
   cases heq
   rw [Array.getElem?_eq_none (Nat.le_refl _)] at h2
   cases h2),hm1.mnd⟩
  marks := fun d hd => by
   rcases List.mem_cons.1 hd with rfl | hd
   ·refine⟨w.heap.size,rfl,hD1,?_,fun s hs=>?_,hrb.size⟩
    ·rw [Hp.put_ne _ _ (by omega)]; exact hHn _ (Nat.le_refl _)
    ·have:=(hrb.priv s _ hs).2.2; omega
   ·exact hm1.marks d hd }
 have hcall := hit (.func (.yield (w.heap.size + 1)) #[] #[]) (fun pre K => ∃ H', K = H'.put (w.heap.size + 1) (.obj (.loop r)) ∧ H' (w.heap.size + 1) = none ∧ Inv pre H')
  (fun _ K=>∃ H3 e c,zOt e=some c∧K=H3.put (w.heap.size + 1) (.obj (.loop { r with state:=.done,pending:=some c }))∧H3 (w.heap.size + 1)=none∧Q e fr H3)
  (H.put (w.heap.size + 1) (.obj (.loop r)))
  (fun pre K hK b o hb => by
   obtain⟨H',rfl,hn,hi⟩:=hK
   have:=hG pre H' hi b o hb
   rw [Hp.put_ne]
   ·exact this
   ·rintro rfl; rw [hn] at this; cases this)
  (fun pre x K hS hK => by
   obtain⟨H',rfl,hn,hi⟩:=hK
   obtain⟨suf,hsuf⟩:=hS
   have hx:x.length=qs.length:=hlen _ hsuf x (by simp)
   refine(yOO hrb hps hqs hassign hbody (l:=w.heap.size + 1) (r:=r) rfl rfl rfl rfl rfl rfl hn hx (I1:=Inv (pre ++ [x])) (I2:=fun e H3=>Q e fr H3) (hround pre x H' ⟨suf,hsuf⟩ hi)).mono ?_
   rintro v K' (⟨rfl,H3,rfl,h1,h2⟩ | ⟨rfl,H3,e,c,h1,rfl,h2,h3⟩)
   ·exact .inl ⟨rfl,H3,rfl,h1,h2⟩
   ·exact .inr ⟨rfl,H3,e,c,h1,rfl,h2,h3⟩)
  ⟨H,rfl,hHn _ (by omega),hI0⟩
 have hcv:=hcall w1 hs1
 have fin : ∀ w3 : World, (∃ v H', Ending.returned v = Ending.returned v ∧ Sat w3.heap H' ∧ Kept (H.put (w.heap.size + 1) (.obj (.loop r))) w1 w3 H' ∧
   ((∃ xs, S xs ∧ ∃ H'', H' = H''.put (w.heap.size + 1) (.obj (.loop r)) ∧ H'' (w.heap.size + 1) = none ∧ Inv xs H'') ∨
    ∃ pre:List (List Value),∃ H3 e c,zOt e=some c∧H'=H3.put (w.heap.size + 1) (.obj (.loop { r with state:=.done,pending:=some c }))∧H3 (w.heap.size + 1)=none∧Q e fr H3)) →
   ∃ jump w4, (Instr.endLoop (w.heap.size + 1)).run E.P w3 = .ok jump w4 ∧
    (match jump with
     | none=>zAI n w0 H0 Q .normal { a with defers:={ target:=.collected w.heap.size,args:=#[] } :: a.defers } w4
     | some c=>c.wpIn (FW none) 0 E.P (zAI n w0 H0 Q) { a with defers:={ target:=.collected w.heap.size,args:=#[] } :: a.defers } w4):=by
  rintro w3 ⟨_,H',_,hs3,hk3,hq⟩
  have hr3:=hrel1.move hs3 hk3
  have out : ∀ (H'' : Hp) (r' : Loop), H' = H''.put (w.heap.size + 1) (.obj (.loop r')) → H'' (w.heap.size + 1) = none → ∀ o,
    yT n w0 H0 fr H'' { a with defers:={ target:=.collected w.heap.size,args:=#[] } :: a.defers } (w3.putObj (w.heap.size + 1) o) β:=by
   rintro H'' r' rfl hn o
   refine(hr3.forget (fun b o hb=>?_)).putOut o (by have:=hrb.size; omega) hn (fun s hs=>?_) (fun d hd ht=>?_)
   ·rw [Hp.put_ne]
    ·exact hb
    ·rintro rfl; rw [hn] at hb; cases hb
   ·have:=(hr3.priv s _ hs).1; rw [Hp.put_same] at this; cases this
   ·obtain⟨D,h1,_,h3,_⟩:=hr3.marks d hd
    rw [ht] at h1; cases h1
    rw [Hp.put_same] at h3; cases h3
  rcases hq with⟨xs,hS,H'',rfl,hn,hi⟩ | ⟨pre,H3,e,c,hj,rfl,hn,hi⟩
  ·have hl3:w3.heap[w.heap.size + 1]? = some (.loop r):=hs3 _ _ (Hp.put_same ..)
   exact⟨_,_,run_endLoop hl3 (by simp [r]),_,_,⟨β,out H'' r rfl hn _⟩,hend xs H'' hS hi⟩
  ·have hl3:w3.heap[w.heap.size + 1]? = some (.loop { r with state:=.done,pending:=some c }):=hs3 _ _ (Hp.put_same ..)
   refine⟨_,_,run_endLoop hl3 (by simp),?_⟩
   have hrel:=out H3 _ rfl hn (.loop { { r with state:=.done,pending:=some c } with state:=.exhausted })
   cases e with
   | nrm=>cases hj
   | exit id=>cases hj; exact wpIn_exit ⟨_,_,⟨β,hrel⟩,hi⟩
   | ret=>cases hj; exact wpIn_ret ⟨_,_,⟨β,hrel⟩,hi⟩
 unfold zFN at hcv
 split at hcv
 ·rename_i gf first cap hx
  rw [hx] at e
  refine⟨w.heap.size + 1,_,w1,_,w1,gf,(first.toList ++ [Value.func (Go.Fn.yield (w.heap.size + 1)) #[] #[]] ++ cap.toList).toArray,w1,run_enterLoop_outer ..,(show _=Result.ok { target:=.fn (.func gf) cap,args:=first ++ #[Value.func (Go.Fn.yield (w.heap.size + 1)) #[] #[]] } w1 by simp [resolve,e,Deferred.ofValue,show ∀ v,a.eval (.const v)=v from fun _=>rfl]),fun _ _=>trivial,?_,fun hd=>(by cases hd),?_⟩
  ·simp [invoke,zBT hcv.1]
  ·refine yCi (hcv.2.mono ?_) _
   rintro e w3 ⟨v,H',rfl,hs3,hk3,hq⟩
   exact fin w3 ⟨v,H',rfl,hs3,hk3,hq⟩
 ·rename_i l first cap hx
  rw [hx] at hfn
  exact hfn.elim
 ·exact hcv.elim
end
end Go.SL
/- What is shown of a body suffices. -/
namespace Go.SL
open Go
section
variable {E:Env} {n:Nat}
theorem yRk {ac : vM} : ∀ {ro : Option Nat} {w0 : World} {H0 : Hp} {c : Code} {rnd : Bool}, (rnd = false → ro = none) → wY E n rnd c ac = true → ∀ {fr : Fr} {H : Hp} {a : Act} {w : World} {Q : X → Fr → Hp → Prop}, Rel n w0 H0 fr H a w → vc E ac fr H Q →
  c.wpIn (FW ro) 0 E.P (zAI n w0 H0 Q) a w:=by
 induction ac with
 | skip =>
  intro ro w0 H0 c rnd hro hc fr H a w Q hr h
  cases c<;>simp [wY] at hc
  exact wpIn_skip ⟨fr,H,hr,h⟩
 | reg ops live =>
  intro ro w0 H0 c rnd hro hc fr H a w Q hr h
  have : ∃ i l, c = .region i l false ∧ pQ live = true ∧ zDM E n l l.toList ops = true := by
   unfold wY at hc
   split at hc<;>first | (rename_i hy; cases hy; done) | (cases hc; done) | skip
   rename_i i0 l0 ops0 live0 hy
   cases hy
   simp only [Bool.and_eq_true] at hc
   exact⟨_,_,rfl,hc.1,hc.2⟩
  obtain⟨i,l,rfl,hn,hc⟩:=this
  refine wpIn_region ?_
  have:=zKR (ro:=ro) (K:=fun fr' H'=>Q .nrm (fr'.keep live) H') (Q:=zAI n w0 H0 Q) (fun a w fr H ⟨β,hr⟩ hk=>⟨_,H,⟨β,hr.keep hn⟩,hk⟩) ops l.toList 0 rfl hc hr h
  simpa using this
 | regd ops live =>
  intro ro w0 H0 c rnd hro hc fr H a w Q hr h
  have : ∃ i l, c = .region i l true ∧ pQ live = true ∧ zFW E n l ops = true := by
   unfold wY at hc
   split at hc<;>first | (rename_i hy; cases hy; done) | (cases hc; done) | skip
   rename_i i0 l0 ops0 live0 hy
   cases hy
   simp only [Bool.and_eq_true] at hc
   exact⟨_,_,rfl,hc.1,hc.2⟩
  obtain⟨i,l,rfl,hn,hc⟩:=this
  exact zSA (K:=fun fr' H'=>Q .nrm (fr'.keep live) H') (Q:=zAI n w0 H0 Q) hc (fun a w fr H ⟨β,hr⟩ hk=>⟨_,H,⟨β,hr.keep hn⟩,hk⟩) (fun fr fr' H he hk=>by rw [yUJ he]; exact hk) hr h
 | rega ops live =>
  intro ro w0 H0 c rnd hro hc fr H a w Q hr h
  have : ∃ i l, c = .region i l true ∧ pQ live = true ∧ zJq E n l ops = true := by
   unfold wY at hc
   split at hc<;>first | (rename_i hy; cases hy; done) | (cases hc; done) | skip
   rename_i i0 l0 ops0 live0 hy
   cases hy
   simp only [Bool.and_eq_true] at hc
   exact⟨_,_,rfl,hc.1,hc.2⟩
  obtain⟨i,l,rfl,hn,hc⟩:=this
  exact zRK (K:=fun fr' H'=>Q .nrm (fr'.keep live) H') (Q:=zAI n w0 H0 Q) hc (fun a w fr H ⟨β,hr⟩ hk=>⟨_,H,⟨β,hr.keep hn⟩,hk⟩) hr h
 | regl ops mid last live =>
  intro ro w0 H0 c rnd hro hc fr H a w Q hr h
  have : ∃ i l, c = .region i l true ∧ (pQ live = true ∧ pQ mid = true) ∧ zEb E n l ops last = true := by
   unfold wY at hc
   split at hc<;>first | (rename_i hy; cases hy; done) | (cases hc; done) | skip
   rename_i i0 l0 ops0 mid0 last0 live0 hy
   cases hy
   simp only [Bool.and_eq_true] at hc
   exact⟨_,_,rfl,hc.1,hc.2⟩
  obtain⟨i,l,rfl,hn,hc⟩:=this
  exact zNJ (K := fun fr' H' => vI E last (fr'.keep mid) H' fun fr' H' => Q .nrm (fr'.keep live) H') (K0 := fun fr' H' => Q .nrm (fr'.keep live) H') (Q := zAI n w0 H0 Q) hc
   (fun fr H a w ⟨β,hr⟩ hk=>⟨_,⟨β,hr.keep hn.2⟩,hk⟩) (fun a w fr H ⟨β,hr⟩ hk=>⟨_,H,⟨β,hr.keep hn.1⟩,hk⟩) hr h
 | seq x y ihx ihy =>
  intro ro w0 H0 c rnd hro hc fr H a w Q hr h
  cases c<;>simp [wY] at hc
  refine wpIn_seq (wpIn_mono (ihx hro hc.1 hr h) ?_)
  intro e a' w' hp
  cases e with
  | normal=>obtain⟨fr',H',hr',h'⟩:=hp; exact ihy hro hc.2 hr' h'
  | exit id=>exact hp
  | ret=>exact hp
  | goto=>exact hp
  | panic=>exact hp
  | outgrown=>exact hp
 | cond d x y ihx ihy =>
  intro ro w0 H0 c rnd hro hc fr H a w Q hr h
  cases c<;>simp [wY] at hc
  obtain⟨⟨h1,h2⟩,h3⟩:=hc
  obtain⟨k1,k2⟩:=h
  obtain⟨β,hrb⟩:=hr
  have e:=zW hrb h1 k1
  split at k2
  ·rename_i b hb
   rw [hb] at e
   exact wpIn_cond_split e (fun hb=>ihx hro h2 ⟨β,hrb⟩ (k2.1 hb)) (fun hb=>ihy hro h3 ⟨β,hrb⟩ (k2.2 hb))
  ·exact k2.elim
 | block id x ih =>
  intro ro w0 H0 c rnd hro hc fr H a w Q hr h
  cases c<;>simp [wY] at hc
  rename_i id0 body0
  obtain⟨rfl,hc⟩:=hc
  refine wpIn_block (wpIn_mono (ih hro hc hr h) ?_)
  intro e a' w' hp
  cases e with
  | normal=>obtain⟨fr',H',hr',h'⟩:=hp; exact⟨fr',H',hr',by simpa using h'⟩
  | exit id' =>
   obtain⟨fr',H',hr',h'⟩:=hp
   simp only [Exit.inBlock]
   by_cases he:id'=id0
   ·rw [if_pos he]; subst he; exact⟨fr',H',hr',by simpa using h'⟩
   ·rw [if_neg he]
    refine⟨fr',H',hr',?_⟩
    rw [if_neg (by intro h; cases h; exact he rfl)] at h'
    exact h'
  | ret=>obtain⟨fr',H',hr',h'⟩:=hp; exact⟨fr',H',hr',by simpa using h'⟩
  | goto=>exact hp
  | panic=>exact hp
  | outgrown=>exact hp
 | loop live x ih =>
  intro ro w0 H0 c rnd hro hc fr H a w Q hr h
  cases c<;>simp [wY] at hc
  obtain⟨hn,hc⟩:=hc
  obtain⟨I,⟨m0,h0⟩,h1⟩:=h
  obtain⟨β,hrb⟩:=hr
  exact yHU (fun m a w => ∃ fr H, Rel n w0 H0 fr H a w ∧ I m fr H) m0 ⟨_, H, ⟨β, hrb.keep hn⟩, h0⟩ fun m a w ⟨fr', H', hr', hi⟩ => by
   refine wpIn_mono (ih hro hc hr' (h1 m fr' H' hi)) ?_
   intro e a' w' hp
   cases e with
   | normal=>obtain⟨fr'',H'',⟨β',hr''⟩,m',hm,hi'⟩:=hp; exact⟨m',hm,_,H'',⟨β',hr''.keep hn⟩,hi'⟩
   | exit id=>exact hp
   | ret=>exact hp
   | goto=>exact hp
   | panic=>exact hp
   | outgrown=>exact hp
 | exit id =>
  intro ro w0 H0 c rnd hro hc fr H a w Q hr h
  cases c<;>simp [wY] at hc
  subst hc
  exact wpIn_exit ⟨fr,H,hr,h⟩
 | ret =>
  intro ro w0 H0 c rnd hro hc fr H a w Q hr h
  cases c<;>simp [wY] at hc
  exact wpIn_ret ⟨fr,H,hr,h⟩
 | rangeF f ps x y ihx ihy =>
  intro ro w0 H0 c rnd hro hc fr H a w Q hr h
  cases c<;>simp [wY] at hc
  obtain⟨⟨⟨⟨⟨h1,h2⟩,h3⟩,h4⟩,h5⟩,h6⟩:=hc
  rw [hro h1]
  exact zPb hr h2 h3 h4 (fun hr hv=>ihx (fun e=>by cases e) h5 hr hv) (fun hr hv=>ihy (fun e=>by cases e) h6 hr hv) h
end
end Go.SL
/- A function's contract out of its body. -/
namespace Go.SL
open Go
inductive pT where
 | slot (s:Nat)
 | cell (s:Nat) (n:Option Nat)
structure zI where
 nt:Nat
 res:List pT
 body:vM
def pT.ok (E : Env) (fr : Fr) (H : Hp) : pT → Prop
 | .slot s=>vok fr (.t s)
 | .cell s m=>zBg E fr H (.ld m (.t s))
def pT.val (E : Env) (fr : Fr) (H : Hp) : pT → Value
 | .slot s=>vo E fr (.t s)
 | .cell s m => match xN E fr H (.ld m (.t s)) with
  | .val v=>v
  | _=>undef
def zCu (E : Env) (fr : Fr) (H : Hp) : List pT → Prop
 | []=>True
 | r :: l=>r.ok E fr H∧zCu E fr H l
def zBF (E : Env) (fr : Fr) (H : Hp) (l : List pT) : Value :=
 match l.map (pT.val E fr H) with
 | [v]=>v
 | vs=>.tuple vs.toArray
def zBC (i : Nat) : List Value → Fr
 | []=>[]
 | v :: r=>(i,⟨true,.val v⟩) :: zBC (i + 1) r
def zEQ (E : Env) : ResultVar → pT → Bool
 | .tmp t,.slot s=>t == s
 | .cell a t,.cell s m=>a == s && zFz E.P t m
 | _,_=>false
def zCf (E : Env) : List ResultVar → List pT → Bool
 | [],[]=>true
 | x :: r,y :: r'=>zEQ E x y && zCf E r r'
 | _,_=>false
def zB (E : Env) (f : FuncId) (af : zI) : Bool :=
 match E.P.funcs[f]? with
 | some fn => fn.ntmps == af.nt && zCf E fn.results.toList af.res && (match fn.body with
   | some c=>wY E af.nt false c af.body
   | none=>false)
 | none=>false
section
variable {E:Env} {n:Nat} {w0:World} {H0:Hp} {fr:Fr} {H:Hp} {a:Act} {w:World} {β:Nat→Option Nat}
theorem zJv (vs : List Value) (i s : Nat) : (zBC i vs).get s = if i ≤ s then (vs[s - i]?).map (fun v => ⟨true, .val v⟩) else none := by
 induction vs generalizing i with
 | nil=>simp [zBC,Fr.get]
 | cons v r ih =>
  simp only [zBC,Fr.get]
  by_cases h:i=s
  ·subst h; simp
  ·rw [if_neg h,ih]
   by_cases h2:i≤s
   ·have:i + 1≤s:=by omega
    simp only [this,if_true,h2]
    have e:s - i=(s - (i + 1)) + 1:=by omega
    rw [e,List.getElem?_cons_succ]
   ·rw [if_neg (by omega),if_neg h2]
theorem yLZ {vs : List Value} {i : Nat} : ∀ e ∈ zBC i vs, i ≤ e.1 := by
 induction vs generalizing i with
 | nil=>intro e he; cases he
 | cons v r ih =>
  intro e he
  rcases List.mem_cons.1 he with rfl | he
  ·exact Nat.le_refl _
  ·have:=ih e he; omega
theorem zOX (vs : List Value) (i : Nat) : (zBC i vs).nodup := by
 induction vs generalizing i with
 | nil=>trivial
 | cons v r ih=>exact⟨fun e he heq=>by have:=yLZ e he; omega,ih _⟩
def zGi (tmps : Array Value) : ResultVar → Sem Value
 | .tmp t=>pure (tmps.getD t undef)
 | .cell ad t=>do loadVar t (← asAddr (tmps.getD ad undef))
theorem yUs (h : yT n w0 H0 fr H a w β) {x : ResultVar} {y : pT} (hc : zEQ E x y = true) (hk : y.ok E fr H) :
  (zGi a.tmps x).run E.P w = .ok (y.val E fr H) w:=by
 cases x with
 | tmp t => cases y with
  | slot s =>
   simp only [zEQ,beq_iff_eq] at hc
   subst hc
   have:=zW h (E:=E) (X:=.tmp t) (x:=.t t) (by simp [zQ]) hk
   simp only [Act.eval] at this
   simp only [zGi,this,pT.val]
   rfl
  | cell=>simp [zEQ] at hc
 | cell ad t => cases y with
  | slot=>simp [zEQ] at hc
  | cell s m =>
   simp only [zEQ,Bool.and_eq_true,beq_iff_eq] at hc
   obtain⟨rfl,hn⟩:=hc
   obtain⟨k1,k2,k3⟩:=hk
   have hu:=zAo h (E:=E) (X:=.tmp ad) (x:=.t ad) (by simp [zQ]) k1
   simp only [Act.eval] at hu
   split at k3
   ·rename_i vs hvs
    obtain⟨b,c,T,fz,he,hh,hp⟩:=zHE h hu k2 hvs
    simp only [pT.val,xN,hvs]
    simp [zGi,he,asAddr,zDw hn hh hp k3]
   ·exact k3.elim
theorem zTE (h : yT n w0 H0 fr H a w β) : ∀ {xs : List ResultVar} {ys : List pT}, zCf E xs ys = true → zCu E fr H ys →
  (xs.mapM (zGi a.tmps)).run E.P w = .ok (ys.map (pT.val E fr H)) w
 | [],[],_,_=>rfl
 | x :: xs, y :: ys, hc, hk => by
  simp only [zCf,Bool.and_eq_true] at hc
  rw [List.mapM_cons,Sem.run_bind,yUs h hc.1 hk.1]
  simp only [Result.andThen]
  rw [Sem.run_bind,zTE h hc.2 hk.2]
  simp [Result.andThen,pure]
 | [],_ :: _,hc,_=>by simp [zCf] at hc
 | _ :: _,[],hc,_=>by simp [zCf] at hc
theorem zSJ (h : yT n w0 H0 fr H a w β) {fn : Func} {ys : List pT} (hc : zCf E fn.results.toList ys = true) (hk : zCu E fr H ys) :
  (results fn a.tmps).run E.P w = .ok (zBF E fr H ys) w:=by
 have e : results fn a.tmps = (do
   let vs ← fn.results.mapM (zGi a.tmps)
   pure (if h:vs.size=1 then vs[0] else .tuple vs)):=by
  unfold results
  congr 1
 rw [e,Array.mapM_eq_mapM_toList,Sem.run_bind]
 have:=zTE h hc hk
 simp only [map_eq_pure_bind,Sem.run_bind,this,Result.andThen]
 unfold zBF
 generalize ys.map (pT.val E fr H)=l
 match l with
 | []=>rfl
 | [v]=>rfl
 | _ :: _ :: _=>simp [pure]
theorem leaves {fn : Func} {R : Ending → World → Prop} (tmps : Array Value) : ∀ (ds : List Deferred) {w : World},
  (∀ d∈ds,∃ D,d.target = .collected D∧w.heap[D]? = some (.deferred (some [])))→ds.Pairwise (fun x y=>x.target≠y.target) →
  (∀ w',w'.os=w.os→w'.tape=w.tape→w'.output=w.output→w'.heap.size=w.heap.size→(∀ b,(∀ d∈ds,d.target≠.collected b)→w'.heap[b]? = w.heap[b]?)→∃ v,(results fn tmps).run E.P w' = .ok v w'∧R (.returned v) w') →
  LeavesInM (FW none) 0 E.P fn tmps R ds .returning w
 | [],w,_,_,h=>h w rfl rfl rfl rfl (fun _ _=>rfl)
 | d :: ds, w, hm, hn, h => by
  obtain⟨D,ht,hh⟩:=hm d (List.mem_cons_self ..)
  have hn':=List.pairwise_cons.1 hn
  refine⟨by simp,.inl ⟨D,_,ht,run_takeDeferred hh,leaves tmps ds (fun d' hd'=>?_) hn'.2 (fun w' h1 h2 h3 h4 h5=>?_)⟩⟩
  ·obtain⟨D',ht',hh'⟩:=hm d' (List.mem_cons_of_mem _ hd')
   refine⟨D',ht',?_⟩
   rw [World.putObj_heap_other]
   ·exact hh'
   ·rintro rfl; exact hn'.1 d' hd' (by rw [ht,ht'])
  ·refine h w' h1 h2 h3 (by simpa using h4) fun b hb=>?_
   rw [h5 b (fun d' hd'=>hb d' (List.mem_cons_of_mem _ hd')),World.putObj_heap_other]
   rintro rfl
   exact hb d (List.mem_cons_self ..) ht
theorem Fn.of_vc {f : FuncId} {af : zI} {args : List Value} {H : Hp} {Q : Value → Hp → Prop} (hc : zB E f af = true) (hl : args.length ≤ af.nt)
  (h : vc E af.body (zBC 0 args) H fun e fr' H' => match e with
   | .exit _=>False
   | _=>zCu E fr' H' af.res∧Q (zBF E fr' H' af.res) H'):Fn E.P f args H Q:=by
 intro w hs
 unfold zB at hc
 split at hc
 ·rename_i fn hf
  simp only [Bool.and_eq_true,beq_iff_eq] at hc
  obtain⟨⟨hnt,hres⟩,hbody⟩:=hc
  split at hbody
  ·rename_i c hbd
   refine (callsIn_wide (n := 0)).1 (callsIn_of_wp_marks (F := FW none) hf hbd trivial (wpIn_mono (Q := zAI af.nt w H fun e fr' H' => match e with
    | .exit _=>False
    | _=>zCu E fr' H' af.res∧Q (zBF E fr' H' af.res) H') ?_ ?_))
   ·refine yRk (fun _=>rfl) hbody ⟨fun _=>none,?_⟩ h
    exact {
     nodup:=zOX _ _
     nt:=by simp [hnt]; omega
     slots := fun s sv hg _ => by
      rw [zJv] at hg
      simp only [Nat.zero_le,if_true,Nat.sub_zero] at hg
      cases hv:args[s]? with
      | none=>rw [hv] at hg; cases hg
      | some v =>
       rw [hv] at hg
       cases hg
       have hlt:s < args.length:=(List.getElem?_eq_some_iff.1 hv).1
       simp only [zBK]
       rw [Array.getElem?_append_left (by simpa using hlt)]
       simpa using hv
     skip := fun s sv hg hc => by
      rw [zJv] at hg
      simp only [Nat.zero_le,if_true,Nat.sub_zero] at hg
      cases hv:args[s]? with
      | none=>rw [hv] at hg; cases hg
      | some v=>rw [hv] at hg; cases hg; cases hc
     sat:=hs
     own:=fun b o hb=>.inl (by rw [hb]; simp)
     priv:=fun s b hb=>by cases hb
     inj:=fun s s' b hb=>by cases hb
     os:=rfl
     tape:=rfl
     output:=rfl
     size:=Nat.le_refl _
     same:=fun _ _ _=>rfl
     shape:=fun _ _ ht=>⟨rfl,ht⟩
     mnd:=List.Pairwise.nil
     marks:=fun d hd=>by cases hd }
   ·have fin : ∀ a' w' fr' H', Rel af.nt w H fr' H' a' w' → zCu E fr' H' af.res ∧ Q (zBF E fr' H' af.res) H' →
      LeavesInM (FW none) 0 E.P fn a'.tmps (fun e w'=>∃ v H',e = .returned v∧Sat w'.heap H'∧Kept H w w' H'∧Q v H') a'.defers .returning w':=by
     rintro a' w' fr' H' ⟨β,hr⟩ ⟨hk,hq⟩
     refine leaves _ _ (fun d hd=>let ⟨D,h1,h2,_⟩:=hr.marks d hd; ⟨D,h1,h2⟩) hr.mnd fun w'' h1 h2 h3 h4 h5=>?_
     have hne : ∀ b, (∀ d ∈ a'.defers, d.target ≠ .collected b) ∨ (H' b = none ∧ (∀ s, β s ≠ some b) ∧ w.heap.size ≤ b) := fun b => by
      by_cases hx:∃ d∈a'.defers,d.target = .collected b
      ·obtain⟨d,hd,ht⟩:=hx
       obtain⟨D,h1,_,h3,h4,h5⟩:=hr.marks d hd
       rw [ht] at h1
       cases h1
       exact .inr ⟨h3,h4,h5⟩
      ·exact .inl fun d hd ht=>hx ⟨d,hd,ht⟩
     have hsame:∀ b o,H' b=some o→w''.heap[b]? = w'.heap[b]?:=fun b o hb=>(hne b).elim (h5 b) (fun h=>by rw [h.1] at hb; cases hb)
     have hs'':Sat w''.heap H':=fun b o hb=>by rw [hsame b o hb]; exact hr.sat b o hb
     have hr' : yT af.nt w H fr' H' { a' with defers := [] } w'' β := {
      nodup:=hr.nodup,nt:=hr.nt,skip:=hr.skip,sat:=hs'',own:=hr.own,inj:=hr.inj,os:=h1.trans hr.os,tape:=h2.trans hr.tape,output:=h3.trans hr.output
      slots := fun s sv hg hc => by
       have:=hr.slots s sv hg hc
       cases hp:sv.p with
       | val v=>rw [hp] at this; exact this
       | lp t o=>rw [hp] at this; exact this
       | box vs =>
        rw [hp] at this
        obtain⟨b,T,hb,ht,hh⟩:=this
        refine⟨b,T,hb,ht,?_⟩
        rw [(hne b).elim (h5 b) (fun h=>absurd hb (h.2.1 s))]
        exact hh
      priv:=fun s b hb=>by have:=hr.priv s b hb; exact⟨this.1,this.2.1,by omega⟩
      size:=by have:=hr.size; omega
      same := fun b hb h0 => by
       rw [(hne b).elim (h5 b) (fun h=>by have:=h.2.2; omega)]
       exact hr.same b hb h0
      shape := fun b hb ht => by
       rw [(hne b).elim (h5 b) (fun h=>by have:=h.2.2; omega)]
       exact hr.shape b hb ht
      mnd:=List.Pairwise.nil
      marks:=fun d hd=>by cases hd }
     refine⟨_,zSJ (a:={ a' with defers:=[] }) hr' hres hk,_,H',rfl,hs'',⟨hr'.os,hr'.tape,hr'.output,hr'.size,hr'.same,fun b o hb=>hr'.own b o hb,hr'.shape⟩,hq⟩
    intro e a' w' hp
    cases e with
    | normal=>obtain⟨fr',H',hr,hk⟩:=hp; exact fin a' w' fr' H' hr hk
    | ret=>obtain⟨fr',H',hr,hk⟩:=hp; exact fin a' w' fr' H' hr hk
    | exit id=>obtain⟨fr',H',hr,hk⟩:=hp; exact hk.elim
    | goto=>exact hp.elim
    | panic=>exact hp.elim
    | outgrown=>exact hp.elim
  ·cases hbody
 ·cases hc
end
end Go.SL
