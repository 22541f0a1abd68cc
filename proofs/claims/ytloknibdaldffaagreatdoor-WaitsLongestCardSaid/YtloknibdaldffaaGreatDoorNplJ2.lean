/- A range over a function: the round's contract, the statement. -/
import Derived.Test.YtloknibdaldffaaGreatDoorNplI5
namespace Go.SL
open Go
def jumpOf : X → Option Code
 | .nrm => none
 | .exit id => some (.exit id)
 | .ret => some .ret
section
variable {E : Env} {n : Nat} {w0 : World} {H0 : Hp} {fr : Fr} {H : Hp} {a : Act} {w : World} {β : Nat → Option Nat}
theorem round_fnv (h : RelB n w0 H0 fr H a w β) {as bd : Code} {ax bx : ACode} {ps : Array Tmp} {qs : List Nat} (hps : ps.toList = qs) (hqs : ∀ p ∈ qs, p < n)
  (hassign : ∀ {l : Nat} {w0 : World} {H0 : Hp} {fr : Fr} {H : Hp} {a : Act} {w : World} {Q : X → Fr → Hp → Prop},Rel n w0 H0 fr H a w → vc E ax fr H Q → as.wpIn (FW (some l)) 0 E.P (PostR n w0 H0 Q) a w)
  (hbody : ∀ {l : Nat} {w0 : World} {H0 : Hp} {fr : Fr} {H : Hp} {a : Act} {w : World} {Q : X → Fr → Hp → Prop},Rel n w0 H0 fr H a w → vc E bx fr H Q → bd.wpIn (FW (some l)) 0 E.P (PostR n w0 H0 Q) a w)
  {l : Nat} {r : Loop} (hr1 : r.tmps = a.tmps) (hr2 : r.params = ps) (hr3 : r.assign = as) (hr4 : r.body = bd) (hr5 : r.state = .ready) (hr6 : r.pending = none)
  {H' : Hp} (hl : H' l = none) {x : List Value} (hx : x.length = qs.length) {I1 : Hp → Prop} {I2 : X → Hp → Prop}
  (hv : vc E ax (bindps fr.vals qs x) H' fun e fr' H'' => e = .nrm ∧ vc E bx fr' H'' fun e _ H3 => match e with
   | .nrm => I1 H3
   | e => I2 e H3) :
  FnV E (.func (.yield l) #[] #[]) x (H'.put l (.obj (.loop r))) fun v K' =>
   (v = .bool true ∧ ∃ H3,K' = H3.put l (.obj (.loop r)) ∧ H3 l = none ∧ I1 H3) ∨
   (v = .bool false ∧ ∃ H3 e c,jumpOf e = some c ∧ K' = H3.put l (.obj (.loop { r with state := .done,pending := some c })) ∧ H3 l = none ∧ I2 e H3) := by
 subst hr3
 subst hr4
 intro w' hs
 have hll : w'.heap[l]? = some (.loop r) := hs l _ (Hp.put_same ..)
 have hlt : l < w'.heap.size := (Array.getElem?_eq_some_iff.1 hll).1
 have hsz : (([] : List Value) ++ x).toArray.size = r.params.size := by rw [hr2]; simp [hx,← hps]
 have hs' : Sat w'.heap H' := fun b o hb => hs b o (by rw [Hp.put_ne]; exact hb; rintro rfl; rw [hl] at hb; cases hb)
 refine ⟨r.fn,_,r.assign,r.body,run_yield hll hsz,?_⟩
 refine roundIn_of_wpIn (F := Fence.wide) (n := 0) trivial ?_
 have h0 : RelB n w' H' (bindps fr.vals qs x) H' { tmps := setps a.tmps qs x,defers := [] } w' (fun _ => none) := RelB.bind qs x (h.fresh hs') hqs
 have ht : ((r.params.zip (([] : List Value) ++ x).toArray).foldl (fun tmps (t, a) => tmps.setIfInBounds t a) r.tmps) = setps a.tmps qs x := by
  rw [setps_eq,hr1,hr2,← hps,← Array.foldl_toList]
  simp
 rw [ht]
 refine wpIn_mono (F := FW (some l)) (hassign (l := l) ⟨_,h0⟩ hv) ?_
 intro e a1 w1 hp
 cases e with
 | normal =>
  obtain ⟨fr1,H1,⟨β1,h1⟩,_,hv1⟩ := hp
  have hl1 : w1.heap[l]? = some (.loop r) := (h1.same l hlt hl).trans hll
  refine ⟨_,run_beginRound hl1 hr5,?_⟩
  refine wpIn_mono (F := FW (some l)) (hbody (l := l) ⟨β1,h1.rebase (.loop { r with state := .busy }) hlt hl⟩ hv1) ?_
  have fin : ∀ (a3 : Act) (w3 : World) (fr3 : Fr) (H3 : Hp) (jump : Option Code), Rel n (w'.putObj l (.loop { r with state := .busy })) H' fr3 H3 a3 w3 →
    ∃ v w4, (Instr.endRound l jump).run E.P w3 = .ok v w4 ∧ v = .bool jump.isNone ∧ H3 l = none ∧
     Sat w4.heap (H3.put l (.obj (.loop { r with state := if jump.isNone then .ready else .done,pending := jump }))) ∧
     Kept (H'.put l (.obj (.loop r))) w' w4 (H3.put l (.obj (.loop { r with state := if jump.isNone then .ready else .done,pending := jump }))) := by
   rintro a3 w3 fr3 H3 jump ⟨β3,h3⟩
   have hl3 : w3.heap[l]? = some (.loop { r with state := .busy }) := (h3.same l (by simpa using hlt) hl).trans (World.putObj_heap_same hlt)
   have hlt3 : l < w3.heap.size := (Array.getElem?_eq_some_iff.1 hl3).1
   have hn : H3 l = none := by
    cases hH : H3 l with
    | none => rfl
    | some o => rcases h3.own l o hH with h4 | h4
                ·exact absurd hl h4
                ·simp at h4; omega
   refine ⟨_,_,run_endRound jump hl3,rfl,hn,fun b o hb => ?_,⟨h3.os,h3.tape,h3.output,by have := h3.size; simpa using this,fun b hb h0 => ?_,fun b o hb => ?_,fun b hb ht => ?_⟩⟩
   ·by_cases e : b = l
    ·subst e; rw [Hp.put_same] at hb; cases hb; rw [World.putObj_heap_same hlt3]; rfl
    ·rw [Hp.put_ne _ _ e] at hb; rw [World.putObj_heap_other e]; exact h3.sat b o hb
   ·have e : b ≠ l := by rintro rfl; rw [Hp.put_same] at h0; cases h0
    rw [Hp.put_ne _ _ e] at h0
    rw [World.putObj_heap_other e,h3.same b (by simpa using hb) h0,World.putObj_heap_other e]
   ·by_cases e : b = l
    ·subst e; exact .inl (by rw [Hp.put_same]; simp)
    ·rw [Hp.put_ne _ _ e] at hb ⊢
     have := h3.own b o hb
     simpa using this
   ·by_cases e : b = l
    ·subst e; rw [World.putObj_heap_same hlt3,hll,Hp.put_same]; exact ⟨rfl,fun h => h.elim⟩
    ·rw [Hp.put_ne _ _ e] at ht ⊢
     have h5 := h3.shape b (by simpa using hb) ht
     exact ⟨by rw [World.putObj_heap_other e,h5.1,World.putObj_heap_other e],h5.2⟩
  intro e a3 w3 hp
  cases e with
  | normal =>
   obtain ⟨fr3,H3,hr3',hi⟩ := hp
   obtain ⟨v,w4,hrun,rfl,hn,hs4,hk4⟩ := fin a3 w3 fr3 H3 none hr3'
   have er : ({ r with state := if (none : Option Code).isNone then .ready else .done, pending := none } : Loop) = r := by
    cases r; simp only at hr5 hr6; subst hr5; subst hr6; rfl
   rw [er] at hs4 hk4
   exact ⟨_,w4,hrun,_,_,rfl,hs4,hk4,.inl ⟨rfl,H3,rfl,hn,hi⟩⟩
  | ret =>
   obtain ⟨fr3,H3,hr3',hi⟩ := hp
   obtain ⟨v,w4,hrun,rfl,hn,hs4,hk4⟩ := fin a3 w3 fr3 H3 (some .ret) hr3'
   exact ⟨_,w4,hrun,_,_,rfl,hs4,hk4,.inr ⟨rfl,H3,.ret,.ret,rfl,rfl,hn,hi⟩⟩
  | exit id =>
   obtain ⟨fr3,H3,hr3',hi⟩ := hp
   obtain ⟨v,w4,hrun,rfl,hn,hs4,hk4⟩ := fin a3 w3 fr3 H3 (some (.exit id)) hr3'
   exact ⟨_,w4,hrun,_,_,rfl,hs4,hk4,.inr ⟨rfl,H3,.exit id,.exit id,rfl,rfl,hn,hi⟩⟩
  | goto => exact hp.elim
  | panic => exact hp.elim
  | outgrown => exact hp.elim
 | exit id => obtain ⟨_,_,_,he,_⟩ := hp; cases he
 | ret => obtain ⟨_,_,_,he,_⟩ := hp; cases he
 | goto => exact hp.elim
 | panic => exact hp.elim
 | outgrown => exact hp.elim
theorem rangeF_sound (hr : Rel n w0 H0 fr H a w) {g : Operand} {f : Arg} {as bd : Code} {ax bx : ACode} {ps : Array Tmp} {qs : List Nat} (hg : chkArg E g f = true) (hps : ps.toList = qs) (hqs : ∀ p ∈ qs, p < n)
  (hassign : ∀ {l : Nat} {w0 : World} {H0 : Hp} {fr : Fr} {H : Hp} {a : Act} {w : World} {Q : X → Fr → Hp → Prop},Rel n w0 H0 fr H a w → vc E ax fr H Q → as.wpIn (FW (some l)) 0 E.P (PostR n w0 H0 Q) a w)
  (hbody : ∀ {l : Nat} {w0 : World} {H0 : Hp} {fr : Fr} {H : Hp} {a : Act} {w : World} {Q : X → Fr → Hp → Prop},Rel n w0 H0 fr H a w → vc E bx fr H Q → bd.wpIn (FW (some l)) 0 E.P (PostR n w0 H0 Q) a w)
  {Q : X → Fr → Hp → Prop} (h : vc E (.rangeF f qs ax bx) fr H Q) : (Code.rangeFunc g ps as bd).wpIn (FW none) 0 E.P (PostR n w0 H0 Q) a w := by
 obtain ⟨β,hrb⟩ := hr
 obtain ⟨h0,hfn,G,S,hit,hlen,Inv,hI0,hG,hround,hend⟩ := h
 have e := eval_vo hrb hg h0
 refine wpIn_rangeFunc (F := FW none) fun fn _ => ?_
 let r : Loop := { state := .ready,pending := none,fn,tmps := a.tmps,params := ps,assign := as,body := bd,defers := w.heap.size }
 let w1 : World := (w.alloc (.deferred (some []))).alloc (.loop r)
 have hw1 : w1.heap = (w.heap.push (.deferred (some []))).push (.loop r) := rfl
 have hsz1 : w1.heap.size = w.heap.size + 2 := by simp [hw1]
 have hl1 : w1.heap[w.heap.size + 1]? = some (.loop r) := by
  have : (w.heap.push (Obj.deferred (some []))).size = w.heap.size + 1 := by simp
  rw [hw1,Array.getElem?_push,if_pos (by omega)]
 have hD1 : w1.heap[w.heap.size]? = some (.deferred (some [])) := by
  rw [hw1,Array.getElem?_push,if_neg (by simp),Array.getElem?_push,if_pos rfl]
 have hold : ∀ b, b < w.heap.size → w1.heap[b]? = w.heap[b]? := fun b hb => by
  rw [hw1,Array.getElem?_push,if_neg (by simp; omega),Array.getElem?_push,if_neg (by omega)]
 have hHn : ∀ b, w.heap.size ≤ b → H b = none := fun b hb => by
  cases hH : H b with
  | none => rfl
  | some o => have := hrb.sat.lt hH; omega
 have hs1 : Sat w1.heap (H.put (w.heap.size + 1) (.obj (.loop r))) := fun b o hb => by
  by_cases eb : b = w.heap.size + 1
  ·subst eb; rw [Hp.put_same] at hb; cases hb; exact hl1
  ·rw [Hp.put_ne _ _ eb] at hb; rw [hold b (hrb.sat.lt hb)]; exact hrb.sat b o hb
 have hk1 : Kept H w w1 (H.put (w.heap.size + 1) (.obj (.loop r))) := ⟨rfl, rfl, rfl, by omega, fun b hb _ => hold b hb, fun b o hb => by
  by_cases eb : b = w.heap.size + 1
  ·exact .inr (by omega)
  ·rw [Hp.put_ne _ _ eb] at hb; exact .inl (by rw [hb]; simp),fun b hb ht => ⟨by rw [hold b hb],by rw [Hp.put_ne _ _ (by omega)]; exact ht⟩⟩
 have hm1 := hrb.move hs1 hk1
 have hrel1 : RelB n w0 H0 fr (H.put (w.heap.size + 1) (.obj (.loop r))) { a with defers := { target := .collected w.heap.size, args := #[] } :: a.defers } w1 β := {
  nodup := hm1.nodup,nt := hm1.nt,slots := hm1.slots,skip := hm1.skip,sat := hm1.sat,own := hm1.own,priv := hm1.priv,inj := hm1.inj,os := hm1.os,tape := hm1.tape,output := hm1.output,size := hm1.size,same := hm1.same,shape := hm1.shape
  mnd := List.pairwise_cons.2 ⟨(fun d hd heq => by
   obtain ⟨D,h1,h2,_⟩ := hrb.marks d hd
   rw [h1] at heq
   cases heq
   rw [Array.getElem?_eq_none (Nat.le_refl _)] at h2
   cases h2),hm1.mnd⟩
  marks := fun d hd => by
   rcases List.mem_cons.1 hd with rfl | hd
   ·refine ⟨w.heap.size,rfl,hD1,?_,fun s hs => ?_,hrb.size⟩
    ·rw [Hp.put_ne _ _ (by omega)]; exact hHn _ (Nat.le_refl _)
    ·have := (hrb.priv s _ hs).2.2; omega
   ·exact hm1.marks d hd }
 have hcall := hit (.func (.yield (w.heap.size + 1)) #[] #[]) (fun pre K => ∃ H', K = H'.put (w.heap.size + 1) (.obj (.loop r)) ∧ H' (w.heap.size + 1) = none ∧ Inv pre H')
  (fun _ K => ∃ H3 e c,jumpOf e = some c ∧ K = H3.put (w.heap.size + 1) (.obj (.loop { r with state := .done,pending := some c })) ∧ H3 (w.heap.size + 1) = none ∧ Q e fr H3)
  (H.put (w.heap.size + 1) (.obj (.loop r)))
  (fun pre K hK b o hb => by
   obtain ⟨H',rfl,hn,hi⟩ := hK
   have := hG pre H' hi b o hb
   rw [Hp.put_ne]
   ·exact this
   ·rintro rfl; rw [hn] at this; cases this)
  (fun pre x K hS hK => by
   obtain ⟨H',rfl,hn,hi⟩ := hK
   obtain ⟨suf,hsuf⟩ := hS
   have hx : x.length = qs.length := hlen _ hsuf x (by simp)
   refine (round_fnv hrb hps hqs hassign hbody (l := w.heap.size + 1) (r := r) rfl rfl rfl rfl rfl rfl hn hx (I1 := Inv (pre ++ [x])) (I2 := fun e H3 => Q e fr H3) (hround pre x H' ⟨suf,hsuf⟩ hi)).mono ?_
   rintro v K' (⟨rfl,H3,rfl,h1,h2⟩ | ⟨rfl,H3,e,c,h1,rfl,h2,h3⟩)
   ·exact .inl ⟨rfl,H3,rfl,h1,h2⟩
   ·exact .inr ⟨rfl,H3,e,c,h1,rfl,h2,h3⟩)
  ⟨H,rfl,hHn _ (by omega),hI0⟩
 have hcv := hcall w1 hs1
 have fin : ∀ w3 : World, (∃ v H', Ending.returned v = Ending.returned v ∧ Sat w3.heap H' ∧ Kept (H.put (w.heap.size + 1) (.obj (.loop r))) w1 w3 H' ∧
   ((∃ xs, S xs ∧ ∃ H'', H' = H''.put (w.heap.size + 1) (.obj (.loop r)) ∧ H'' (w.heap.size + 1) = none ∧ Inv xs H'') ∨
    ∃ pre : List (List Value),∃ H3 e c,jumpOf e = some c ∧ H' = H3.put (w.heap.size + 1) (.obj (.loop { r with state := .done,pending := some c })) ∧ H3 (w.heap.size + 1) = none ∧ Q e fr H3)) →
   ∃ jump w4, (Instr.endLoop (w.heap.size + 1)).run E.P w3 = .ok jump w4 ∧
    (match jump with
     | none => PostR n w0 H0 Q .normal { a with defers := { target := .collected w.heap.size,args := #[] } :: a.defers } w4
     | some c => c.wpIn (FW none) 0 E.P (PostR n w0 H0 Q) { a with defers := { target := .collected w.heap.size,args := #[] } :: a.defers } w4) := by
  rintro w3 ⟨_,H',_,hs3,hk3,hq⟩
  have hr3 := hrel1.move hs3 hk3
  have out : ∀ (H'' : Hp) (r' : Loop), H' = H''.put (w.heap.size + 1) (.obj (.loop r')) → H'' (w.heap.size + 1) = none → ∀ o,
    RelB n w0 H0 fr H'' { a with defers := { target := .collected w.heap.size,args := #[] } :: a.defers } (w3.putObj (w.heap.size + 1) o) β := by
   rintro H'' r' rfl hn o
   refine (hr3.forget (fun b o hb => ?_)).putOut o (by have := hrb.size; omega) hn (fun s hs => ?_) (fun d hd ht => ?_)
   ·rw [Hp.put_ne]
    ·exact hb
    ·rintro rfl; rw [hn] at hb; cases hb
   ·have := (hr3.priv s _ hs).1; rw [Hp.put_same] at this; cases this
   ·obtain ⟨D,h1,_,h3,_⟩ := hr3.marks d hd
    rw [ht] at h1; cases h1
    rw [Hp.put_same] at h3; cases h3
  rcases hq with ⟨xs,hS,H'',rfl,hn,hi⟩ | ⟨pre,H3,e,c,hj,rfl,hn,hi⟩
  ·have hl3 : w3.heap[w.heap.size + 1]? = some (.loop r) := hs3 _ _ (Hp.put_same ..)
   exact ⟨_,_,run_endLoop hl3 (by simp [r]),_,_,⟨β,out H'' r rfl hn _⟩,hend xs H'' hS hi⟩
  ·have hl3 : w3.heap[w.heap.size + 1]? = some (.loop { r with state := .done,pending := some c }) := hs3 _ _ (Hp.put_same ..)
   refine ⟨_,_,run_endLoop hl3 (by simp),?_⟩
   have hrel := out H3 _ rfl hn (.loop { { r with state := .done,pending := some c } with state := .exhausted })
   cases e with
   | nrm => cases hj
   | exit id => cases hj; exact wpIn_exit ⟨_,_,⟨β,hrel⟩,hi⟩
   | ret => cases hj; exact wpIn_ret ⟨_,_,⟨β,hrel⟩,hi⟩
 unfold CallV at hcv
 split at hcv
 ·rename_i gf first cap hx
  rw [hx] at e
  refine ⟨w.heap.size + 1,_,w1,_,w1,gf,(first.toList ++ [Value.func (Go.Fn.yield (w.heap.size + 1)) #[] #[]] ++ cap.toList).toArray,w1,run_enterLoop_outer ..,(show _ = Result.ok { target := .fn (.func gf) cap,args := first ++ #[Value.func (Go.Fn.yield (w.heap.size + 1)) #[] #[]] } w1 by simp [resolve,e,Deferred.ofValue,show ∀ v,a.eval (.const v) = v from fun _ => rfl]),fun _ _ => trivial,?_,fun hd => (by cases hd),?_⟩
  ·simp [invoke,run_callFunc hcv.1]
  ·refine callsFW (hcv.2.mono ?_) _
   rintro e w3 ⟨v,H',rfl,hs3,hk3,hq⟩
   exact fin w3 ⟨v,H',rfl,hs3,hk3,hq⟩
 ·rename_i l first cap hx
  rw [hx] at hfn
  exact hfn.elim
 ·exact hcv.elim
end
end Go.SL
/- What is shown of a body suffices. -/
namespace Go.SL
open Go
section
variable {E : Env} {n : Nat}
theorem vc_sound {ac : ACode} : ∀ {ro : Option Nat} {w0 : World} {H0 : Hp} {c : Code} {rnd : Bool}, (rnd = false → ro = none) → chkCode E n rnd c ac = true → ∀ {fr : Fr} {H : Hp} {a : Act} {w : World} {Q : X → Fr → Hp → Prop}, Rel n w0 H0 fr H a w → vc E ac fr H Q →
  c.wpIn (FW ro) 0 E.P (PostR n w0 H0 Q) a w := by
 induction ac with
 | skip =>
  intro ro w0 H0 c rnd hro hc fr H a w Q hr h
  cases c <;> simp [chkCode] at hc
  exact wpIn_skip ⟨fr,H,hr,h⟩
 | reg ops live =>
  intro ro w0 H0 c rnd hro hc fr H a w Q hr h
  have : ∃ i l, c = .region i l false ∧ nodupB live = true ∧ chkOps E n l l.toList ops = true := by
   unfold chkCode at hc
   split at hc <;> first | (rename_i hy; cases hy; done) | (cases hc; done) | skip
   rename_i i0 l0 ops0 live0 hy
   cases hy
   simp only [Bool.and_eq_true] at hc
   exact ⟨_,_,rfl,hc.1,hc.2⟩
  obtain ⟨i,l,rfl,hn,hc⟩ := this
  refine wpIn_region ?_
  have := evs_sound (ro := ro) (K := fun fr' H' => Q .nrm (fr'.keep live) H') (Q := PostR n w0 H0 Q) (fun a w fr H ⟨β,hr⟩ hk => ⟨_,H,⟨β,hr.keep hn⟩,hk⟩) ops l.toList 0 rfl hc hr h
  simpa using this
 | regd ops live =>
  intro ro w0 H0 c rnd hro hc fr H a w Q hr h
  have : ∃ i l, c = .region i l true ∧ nodupB live = true ∧ chkDrawn E n l ops = true := by
   unfold chkCode at hc
   split at hc <;> first | (rename_i hy; cases hy; done) | (cases hc; done) | skip
   rename_i i0 l0 ops0 live0 hy
   cases hy
   simp only [Bool.and_eq_true] at hc
   exact ⟨_,_,rfl,hc.1,hc.2⟩
  obtain ⟨i,l,rfl,hn,hc⟩ := this
  exact drawn_sound (K := fun fr' H' => Q .nrm (fr'.keep live) H') (Q := PostR n w0 H0 Q) hc (fun a w fr H ⟨β,hr⟩ hk => ⟨_,H,⟨β,hr.keep hn⟩,hk⟩) (fun fr fr' H he hk => by rw [keep_cg he]; exact hk) hr h
 | rega ops live =>
  intro ro w0 H0 c rnd hro hc fr H a w Q hr h
  have : ∃ i l, c = .region i l true ∧ nodupB live = true ∧ chkAll E n l ops = true := by
   unfold chkCode at hc
   split at hc <;> first | (rename_i hy; cases hy; done) | (cases hc; done) | skip
   rename_i i0 l0 ops0 live0 hy
   cases hy
   simp only [Bool.and_eq_true] at hc
   exact ⟨_,_,rfl,hc.1,hc.2⟩
  obtain ⟨i,l,rfl,hn,hc⟩ := this
  exact drawnA_sound (K := fun fr' H' => Q .nrm (fr'.keep live) H') (Q := PostR n w0 H0 Q) hc (fun a w fr H ⟨β,hr⟩ hk => ⟨_,H,⟨β,hr.keep hn⟩,hk⟩) hr h
 | regl ops mid last live =>
  intro ro w0 H0 c rnd hro hc fr H a w Q hr h
  have : ∃ i l, c = .region i l true ∧ (nodupB live = true ∧ nodupB mid = true) ∧ chkDrawnL E n l ops last = true := by
   unfold chkCode at hc
   split at hc <;> first | (rename_i hy; cases hy; done) | (cases hc; done) | skip
   rename_i i0 l0 ops0 mid0 last0 live0 hy
   cases hy
   simp only [Bool.and_eq_true] at hc
   exact ⟨_,_,rfl,hc.1,hc.2⟩
  obtain ⟨i,l,rfl,hn,hc⟩ := this
  exact drawnL_sound (K := fun fr' H' => ev1 E last (fr'.keep mid) H' fun fr' H' => Q .nrm (fr'.keep live) H') (K0 := fun fr' H' => Q .nrm (fr'.keep live) H') (Q := PostR n w0 H0 Q) hc
   (fun fr H a w ⟨β,hr⟩ hk => ⟨_,⟨β,hr.keep hn.2⟩,hk⟩) (fun a w fr H ⟨β,hr⟩ hk => ⟨_,H,⟨β,hr.keep hn.1⟩,hk⟩) hr h
 | seq x y ihx ihy =>
  intro ro w0 H0 c rnd hro hc fr H a w Q hr h
  cases c <;> simp [chkCode] at hc
  refine wpIn_seq (wpIn_mono (ihx hro hc.1 hr h) ?_)
  intro e a' w' hp
  cases e with
  | normal => obtain ⟨fr',H',hr',h'⟩ := hp; exact ihy hro hc.2 hr' h'
  | exit id => exact hp
  | ret => exact hp
  | goto => exact hp
  | panic => exact hp
  | outgrown => exact hp
 | cond d x y ihx ihy =>
  intro ro w0 H0 c rnd hro hc fr H a w Q hr h
  cases c <;> simp [chkCode] at hc
  obtain ⟨⟨h1,h2⟩,h3⟩ := hc
  obtain ⟨k1,k2⟩ := h
  obtain ⟨β,hrb⟩ := hr
  have e := eval_vo hrb h1 k1
  split at k2
  ·rename_i b hb
   rw [hb] at e
   exact wpIn_cond_split e (fun hb => ihx hro h2 ⟨β,hrb⟩ (k2.1 hb)) (fun hb => ihy hro h3 ⟨β,hrb⟩ (k2.2 hb))
  ·exact k2.elim
 | block id x ih =>
  intro ro w0 H0 c rnd hro hc fr H a w Q hr h
  cases c <;> simp [chkCode] at hc
  rename_i id0 body0
  obtain ⟨rfl,hc⟩ := hc
  refine wpIn_block (wpIn_mono (ih hro hc hr h) ?_)
  intro e a' w' hp
  cases e with
  | normal => obtain ⟨fr',H',hr',h'⟩ := hp; exact ⟨fr',H',hr',by simpa using h'⟩
  | exit id' =>
   obtain ⟨fr',H',hr',h'⟩ := hp
   simp only [Exit.inBlock]
   by_cases he : id' = id0
   ·rw [if_pos he]; subst he; exact ⟨fr',H',hr',by simpa using h'⟩
   ·rw [if_neg he]
    refine ⟨fr',H',hr',?_⟩
    rw [if_neg (by intro h; cases h; exact he rfl)] at h'
    exact h'
  | ret => obtain ⟨fr',H',hr',h'⟩ := hp; exact ⟨fr',H',hr',by simpa using h'⟩
  | goto => exact hp
  | panic => exact hp
  | outgrown => exact hp
 | loop live x ih =>
  intro ro w0 H0 c rnd hro hc fr H a w Q hr h
  cases c <;> simp [chkCode] at hc
  obtain ⟨hn,hc⟩ := hc
  obtain ⟨I,⟨m0,h0⟩,h1⟩ := h
  obtain ⟨β,hrb⟩ := hr
  exact wpIn_loopM (fun m a w => ∃ fr H, Rel n w0 H0 fr H a w ∧ I m fr H) m0 ⟨_, H, ⟨β, hrb.keep hn⟩, h0⟩ fun m a w ⟨fr', H', hr', hi⟩ => by
   refine wpIn_mono (ih hro hc hr' (h1 m fr' H' hi)) ?_
   intro e a' w' hp
   cases e with
   | normal => obtain ⟨fr'',H'',⟨β',hr''⟩,m',hm,hi'⟩ := hp; exact ⟨m',hm,_,H'',⟨β',hr''.keep hn⟩,hi'⟩
   | exit id => exact hp
   | ret => exact hp
   | goto => exact hp
   | panic => exact hp
   | outgrown => exact hp
 | exit id =>
  intro ro w0 H0 c rnd hro hc fr H a w Q hr h
  cases c <;> simp [chkCode] at hc
  subst hc
  exact wpIn_exit ⟨fr,H,hr,h⟩
 | ret =>
  intro ro w0 H0 c rnd hro hc fr H a w Q hr h
  cases c <;> simp [chkCode] at hc
  exact wpIn_ret ⟨fr,H,hr,h⟩
 | rangeF f ps x y ihx ihy =>
  intro ro w0 H0 c rnd hro hc fr H a w Q hr h
  cases c <;> simp [chkCode] at hc
  obtain ⟨⟨⟨⟨⟨h1,h2⟩,h3⟩,h4⟩,h5⟩,h6⟩ := hc
  rw [hro h1]
  exact rangeF_sound hr h2 h3 h4 (fun hr hv => ihx (fun e => by cases e) h5 hr hv) (fun hr hv => ihy (fun e => by cases e) h6 hr hv) h
end
end Go.SL
/- A function's contract out of its body. -/
namespace Go.SL
open Go
inductive ARes where
 | slot (s : Nat)
 | cell (s : Nat) (n : Option Nat)
structure AFunc where
 nt : Nat
 res : List ARes
 body : ACode
def ARes.ok (E : Env) (fr : Fr) (H : Hp) : ARes → Prop
 | .slot s => vok fr (.t s)
 | .cell s m => simC E fr H (.ld m (.t s))
def ARes.val (E : Env) (fr : Fr) (H : Hp) : ARes → Value
 | .slot s => vo E fr (.t s)
 | .cell s m => match simT E fr H (.ld m (.t s)) with
  | .val v => v
  | _ => undef
def resOk (E : Env) (fr : Fr) (H : Hp) : List ARes → Prop
 | [] => True
 | r :: l => r.ok E fr H ∧ resOk E fr H l
def resVal (E : Env) (fr : Fr) (H : Hp) (l : List ARes) : Value :=
 match l.map (ARes.val E fr H) with
 | [v] => v
 | vs => .tuple vs.toArray
def argsFr (i : Nat) : List Value → Fr
 | [] => []
 | v :: r => (i,⟨true,.val v⟩) :: argsFr (i + 1) r
def chkRes (E : Env) : ResultVar → ARes → Bool
 | .tmp t,.slot s => t == s
 | .cell a t,.cell s m => a == s && chkN E.P t m
 | _,_ => false
def chkRess (E : Env) : List ResultVar → List ARes → Bool
 | [],[] => true
 | x :: r,y :: r' => chkRes E x y && chkRess E r r'
 | _,_ => false
def chkFunc (E : Env) (f : FuncId) (af : AFunc) : Bool :=
 match E.P.funcs[f]? with
 | some fn => fn.ntmps == af.nt && chkRess E fn.results.toList af.res && (match fn.body with
   | some c => chkCode E af.nt false c af.body
   | none => false)
 | none => false
section
variable {E : Env} {n : Nat} {w0 : World} {H0 : Hp} {fr : Fr} {H : Hp} {a : Act} {w : World} {β : Nat → Option Nat}
theorem argsFr_get (vs : List Value) (i s : Nat) : (argsFr i vs).get s = if i ≤ s then (vs[s - i]?).map (fun v => ⟨true, .val v⟩) else none := by
 induction vs generalizing i with
 | nil => simp [argsFr,Fr.get]
 | cons v r ih =>
  simp only [argsFr,Fr.get]
  by_cases h : i = s
  ·subst h; simp
  ·rw [if_neg h,ih]
   by_cases h2 : i ≤ s
   ·have : i + 1 ≤ s := by omega
    simp only [this,if_true,h2]
    have e : s - i = (s - (i + 1)) + 1 := by omega
    rw [e,List.getElem?_cons_succ]
   ·rw [if_neg (by omega),if_neg h2]
theorem argsFr_ge {vs : List Value} {i : Nat} : ∀ e ∈ argsFr i vs, i ≤ e.1 := by
 induction vs generalizing i with
 | nil => intro e he; cases he
 | cons v r ih =>
  intro e he
  rcases List.mem_cons.1 he with rfl | he
  ·exact Nat.le_refl _
  ·have := ih e he; omega
theorem argsFr_nodup (vs : List Value) (i : Nat) : (argsFr i vs).nodup := by
 induction vs generalizing i with
 | nil => trivial
 | cons v r ih => exact ⟨fun e he heq => by have := argsFr_ge e he; omega,ih _⟩
def resSem (tmps : Array Value) : ResultVar → Sem Value
 | .tmp t => pure (tmps.getD t undef)
 | .cell ad t => do loadVar t (← asAddr (tmps.getD ad undef))
theorem res_one (h : RelB n w0 H0 fr H a w β) {x : ResultVar} {y : ARes} (hc : chkRes E x y = true) (hk : y.ok E fr H) :
  (resSem a.tmps x).run E.P w = .ok (y.val E fr H) w := by
 cases x with
 | tmp t => cases y with
  | slot s =>
   simp only [chkRes,beq_iff_eq] at hc
   subst hc
   have := eval_vo h (E := E) (X := .tmp t) (x := .t t) (by simp [chkArg]) hk
   simp only [Act.eval] at this
   simp only [resSem,this,ARes.val]
   rfl
  | cell => simp [chkRes] at hc
 | cell ad t => cases y with
  | slot => simp [chkRes] at hc
  | cell s m =>
   simp only [chkRes,Bool.and_eq_true,beq_iff_eq] at hc
   obtain ⟨rfl,hn⟩ := hc
   obtain ⟨k1,k2,k3⟩ := hk
   have hu := eval_pvo h (E := E) (X := .tmp ad) (x := .t ad) (by simp [chkArg]) k1
   simp only [Act.eval] at hu
   split at k3
   ·rename_i vs hvs
    obtain ⟨b,c,T,fz,he,hh,hp⟩ := cells_there h hu k2 hvs
    simp only [ARes.val,simT,hvs]
    simp [resSem,he,asAddr,run_loadVar' hn hh hp k3]
   ·exact k3.elim
theorem res_all (h : RelB n w0 H0 fr H a w β) : ∀ {xs : List ResultVar} {ys : List ARes}, chkRess E xs ys = true → resOk E fr H ys →
  (xs.mapM (resSem a.tmps)).run E.P w = .ok (ys.map (ARes.val E fr H)) w
 | [],[],_,_ => rfl
 | x :: xs, y :: ys, hc, hk => by
  simp only [chkRess,Bool.and_eq_true] at hc
  rw [List.mapM_cons,Sem.run_bind,res_one h hc.1 hk.1]
  simp only [Result.andThen]
  rw [Sem.run_bind,res_all h hc.2 hk.2]
  simp [Result.andThen,pure]
 | [],_ :: _,hc,_ => by simp [chkRess] at hc
 | _ :: _,[],hc,_ => by simp [chkRess] at hc
theorem run_results (h : RelB n w0 H0 fr H a w β) {fn : Func} {ys : List ARes} (hc : chkRess E fn.results.toList ys = true) (hk : resOk E fr H ys) :
  (results fn a.tmps).run E.P w = .ok (resVal E fr H ys) w := by
 have e : results fn a.tmps = (do
   let vs ← fn.results.mapM (resSem a.tmps)
   pure (if h : vs.size = 1 then vs[0] else .tuple vs)) := by
  unfold results
  congr 1
 rw [e,Array.mapM_eq_mapM_toList,Sem.run_bind]
 have := res_all h hc hk
 simp only [map_eq_pure_bind,Sem.run_bind,this,Result.andThen]
 unfold resVal
 generalize ys.map (ARes.val E fr H) = l
 match l with
 | [] => rfl
 | [v] => rfl
 | _ :: _ :: _ => simp [pure]
theorem leaves {fn : Func} {R : Ending → World → Prop} (tmps : Array Value) : ∀ (ds : List Deferred) {w : World},
  (∀ d ∈ ds,∃ D,d.target = .collected D ∧ w.heap[D]? = some (.deferred (some []))) → ds.Pairwise (fun x y => x.target ≠ y.target) →
  (∀ w',w'.os = w.os → w'.tape = w.tape → w'.output = w.output → w'.heap.size = w.heap.size → (∀ b,(∀ d ∈ ds,d.target ≠ .collected b) → w'.heap[b]? = w.heap[b]?) → ∃ v,(results fn tmps).run E.P w' = .ok v w' ∧ R (.returned v) w') →
  LeavesInM (FW none) 0 E.P fn tmps R ds .returning w
 | [],w,_,_,h => h w rfl rfl rfl rfl (fun _ _ => rfl)
 | d :: ds, w, hm, hn, h => by
  obtain ⟨D,ht,hh⟩ := hm d (List.mem_cons_self ..)
  have hn' := List.pairwise_cons.1 hn
  refine ⟨by simp,.inl ⟨D,_,ht,run_takeDeferred hh,leaves tmps ds (fun d' hd' => ?_) hn'.2 (fun w' h1 h2 h3 h4 h5 => ?_)⟩⟩
  ·obtain ⟨D',ht',hh'⟩ := hm d' (List.mem_cons_of_mem _ hd')
   refine ⟨D',ht',?_⟩
   rw [World.putObj_heap_other]
   ·exact hh'
   ·rintro rfl; exact hn'.1 d' hd' (by rw [ht,ht'])
  ·refine h w' h1 h2 h3 (by simpa using h4) fun b hb => ?_
   rw [h5 b (fun d' hd' => hb d' (List.mem_cons_of_mem _ hd')),World.putObj_heap_other]
   rintro rfl
   exact hb d (List.mem_cons_self ..) ht
theorem Fn.of_vc {f : FuncId} {af : AFunc} {args : List Value} {H : Hp} {Q : Value → Hp → Prop} (hc : chkFunc E f af = true) (hl : args.length ≤ af.nt)
  (h : vc E af.body (argsFr 0 args) H fun e fr' H' => match e with
   | .exit _ => False
   | _ => resOk E fr' H' af.res ∧ Q (resVal E fr' H' af.res) H') : Fn E.P f args H Q := by
 intro w hs
 unfold chkFunc at hc
 split at hc
 ·rename_i fn hf
  simp only [Bool.and_eq_true,beq_iff_eq] at hc
  obtain ⟨⟨hnt,hres⟩,hbody⟩ := hc
  split at hbody
  ·rename_i c hbd
   refine (callsIn_wide (n := 0)).1 (callsIn_of_wp_marks (F := FW none) hf hbd trivial (wpIn_mono (Q := PostR af.nt w H fun e fr' H' => match e with
    | .exit _ => False
    | _ => resOk E fr' H' af.res ∧ Q (resVal E fr' H' af.res) H') ?_ ?_))
   ·refine vc_sound (fun _ => rfl) hbody ⟨fun _ => none,?_⟩ h
    exact {
     nodup := argsFr_nodup _ _
     nt := by simp [hnt]; omega
     slots := fun s sv hg _ => by
      rw [argsFr_get] at hg
      simp only [Nat.zero_le,if_true,Nat.sub_zero] at hg
      cases hv : args[s]? with
      | none => rw [hv] at hg; cases hg
      | some v =>
       rw [hv] at hg
       cases hg
       have hlt : s < args.length := (List.getElem?_eq_some_iff.1 hv).1
       simp only [PVok]
       rw [Array.getElem?_append_left (by simpa using hlt)]
       simpa using hv
     skip := fun s sv hg hc => by
      rw [argsFr_get] at hg
      simp only [Nat.zero_le,if_true,Nat.sub_zero] at hg
      cases hv : args[s]? with
      | none => rw [hv] at hg; cases hg
      | some v => rw [hv] at hg; cases hg; cases hc
     sat := hs
     own := fun b o hb => .inl (by rw [hb]; simp)
     priv := fun s b hb => by cases hb
     inj := fun s s' b hb => by cases hb
     os := rfl
     tape := rfl
     output := rfl
     size := Nat.le_refl _
     same := fun _ _ _ => rfl
     shape := fun _ _ ht => ⟨rfl,ht⟩
     mnd := List.Pairwise.nil
     marks := fun d hd => by cases hd }
   ·have fin : ∀ a' w' fr' H', Rel af.nt w H fr' H' a' w' → resOk E fr' H' af.res ∧ Q (resVal E fr' H' af.res) H' →
      LeavesInM (FW none) 0 E.P fn a'.tmps (fun e w' => ∃ v H',e = .returned v ∧ Sat w'.heap H' ∧ Kept H w w' H' ∧ Q v H') a'.defers .returning w' := by
     rintro a' w' fr' H' ⟨β,hr⟩ ⟨hk,hq⟩
     refine leaves _ _ (fun d hd => let ⟨D,h1,h2,_⟩ := hr.marks d hd; ⟨D,h1,h2⟩) hr.mnd fun w'' h1 h2 h3 h4 h5 => ?_
     have hne : ∀ b, (∀ d ∈ a'.defers, d.target ≠ .collected b) ∨ (H' b = none ∧ (∀ s, β s ≠ some b) ∧ w.heap.size ≤ b) := fun b => by
      by_cases hx : ∃ d ∈ a'.defers,d.target = .collected b
      ·obtain ⟨d,hd,ht⟩ := hx
       obtain ⟨D,h1,_,h3,h4,h5⟩ := hr.marks d hd
       rw [ht] at h1
       cases h1
       exact .inr ⟨h3,h4,h5⟩
      ·exact .inl fun d hd ht => hx ⟨d,hd,ht⟩
     have hsame : ∀ b o,H' b = some o → w''.heap[b]? = w'.heap[b]? := fun b o hb => (hne b).elim (h5 b) (fun h => by rw [h.1] at hb; cases hb)
     have hs'' : Sat w''.heap H' := fun b o hb => by rw [hsame b o hb]; exact hr.sat b o hb
     have hr' : RelB af.nt w H fr' H' { a' with defers := [] } w'' β := {
      nodup := hr.nodup,nt := hr.nt,skip := hr.skip,sat := hs'',own := hr.own,inj := hr.inj,os := h1.trans hr.os,tape := h2.trans hr.tape,output := h3.trans hr.output
      slots := fun s sv hg hc => by
       have := hr.slots s sv hg hc
       cases hp : sv.p with
       | val v => rw [hp] at this; exact this
       | lp t o => rw [hp] at this; exact this
       | box vs =>
        rw [hp] at this
        obtain ⟨b,T,hb,ht,hh⟩ := this
        refine ⟨b,T,hb,ht,?_⟩
        rw [(hne b).elim (h5 b) (fun h => absurd hb (h.2.1 s))]
        exact hh
      priv := fun s b hb => by have := hr.priv s b hb; exact ⟨this.1,this.2.1,by omega⟩
      size := by have := hr.size; omega
      same := fun b hb h0 => by
       rw [(hne b).elim (h5 b) (fun h => by have := h.2.2; omega)]
       exact hr.same b hb h0
      shape := fun b hb ht => by
       rw [(hne b).elim (h5 b) (fun h => by have := h.2.2; omega)]
       exact hr.shape b hb ht
      mnd := List.Pairwise.nil
      marks := fun d hd => by cases hd }
     refine ⟨_,run_results (a := { a' with defers := [] }) hr' hres hk,_,H',rfl,hs'',⟨hr'.os,hr'.tape,hr'.output,hr'.size,hr'.same,fun b o hb => hr'.own b o hb,hr'.shape⟩,hq⟩
    intro e a' w' hp
    cases e with
    | normal => obtain ⟨fr',H',hr,hk⟩ := hp; exact fin a' w' fr' H' hr hk
    | ret => obtain ⟨fr',H',hr,hk⟩ := hp; exact fin a' w' fr' H' hr hk
    | exit id => obtain ⟨fr',H',hr,hk⟩ := hp; exact hk.elim
    | goto => exact hp.elim
    | panic => exact hp.elim
    | outgrown => exact hp.elim
  ·cases hbody
 ·cases hc
end
end Go.SL
