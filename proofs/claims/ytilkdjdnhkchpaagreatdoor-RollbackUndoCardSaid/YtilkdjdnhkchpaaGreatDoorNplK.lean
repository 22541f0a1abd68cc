/- A function's contract out of its body. -/
import Derived.Test.YtilkdjdnhkchpaaGreatDoorNplJ0
namespace Go.SL
open Go

/-- Where a result stands: in a slot, or in the row behind a slot's pointer. -/
inductive ARes where
  | slot (s : Nat)
  | cell (s : Nat) (n : Option Nat)

structure AFunc where
  nt : Nat
  res : List ARes
  body : ACode

def ARes.ok (E : Env) (fr : Fr) (H : Hp) : ARes → Prop
  | .slot s => vok fr (.t s)
  | .cell s m => simC E fr H (.ld m (.t s))
def ARes.val (E : Env) (fr : Fr) (H : Hp) : ARes → Value
  | .slot s => vo E fr (.t s)
  | .cell s m => match simT E fr H (.ld m (.t s)) with
    | .val v => v
    | _ => undef
def resOk (E : Env) (fr : Fr) (H : Hp) : List ARes → Prop
  | [] => True
  | r :: l => r.ok E fr H ∧ resOk E fr H l
def resVal (E : Env) (fr : Fr) (H : Hp) (l : List ARes) : Value :=
  match l.map (ARes.val E fr H) with
  | [v] => v
  | vs => .tuple vs.toArray

def argsFr (i : Nat) : List Value → Fr
  | [] => []
  | v :: r => (i, ⟨true, .val v⟩) :: argsFr (i + 1) r

def chkRes (E : Env) : ResultVar → ARes → Bool
  | .tmp t, .slot s => t == s
  | .cell a t, .cell s m => a == s && chkN E.P t m
  | _, _ => false
def chkRess (E : Env) : List ResultVar → List ARes → Bool
  | [], [] => true
  | x :: r, y :: r' => chkRes E x y && chkRess E r r'
  | _, _ => false
def chkFunc (E : Env) (f : FuncId) (af : AFunc) : Bool :=
  match E.P.funcs[f]? with
  | some fn => fn.ntmps == af.nt && chkRess E fn.results.toList af.res && (match fn.body with
      | some c => chkCode E af.nt false c af.body
      | none => false)
  | none => false

section
variable {E : Env} {n : Nat} {w0 : World} {H0 : Hp} {fr : Fr} {H : Hp} {a : Act} {w : World} {β : Nat → Option Nat}

theorem argsFr_get (vs : List Value) (i s : Nat) : (argsFr i vs).get s = if i ≤ s then (vs[s - i]?).map (fun v => ⟨true, .val v⟩) else none := by
  induction vs generalizing i with
  | nil => simp [argsFr, Fr.get]
  | cons v r ih =>
    simp only [argsFr, Fr.get]
    by_cases h : i = s
    · subst h; simp
    · rw [if_neg h, ih]
      by_cases h2 : i ≤ s
      · have : i + 1 ≤ s := by omega
        simp only [this, if_true, h2]
        have e : s - i = (s - (i + 1)) + 1 := by omega
        rw [e, List.getElem?_cons_succ]
      · rw [if_neg (by omega), if_neg h2]
theorem argsFr_ge {vs : List Value} {i : Nat} : ∀ e ∈ argsFr i vs, i ≤ e.1 := by
  induction vs generalizing i with
  | nil => intro e he; cases he
  | cons v r ih =>
    intro e he
    rcases List.mem_cons.1 he with rfl | he
    · exact Nat.le_refl _
    · have := ih e he; omega
theorem argsFr_nodup (vs : List Value) (i : Nat) : (argsFr i vs).nodup := by
  induction vs generalizing i with
  | nil => trivial
  | cons v r ih => exact ⟨fun e he heq => by have := argsFr_ge e he; omega, ih _⟩

def resSem (tmps : Array Value) : ResultVar → Sem Value
  | .tmp t => pure (tmps.getD t undef)
  | .cell ad t => do loadVar t (← asAddr (tmps.getD ad undef))

theorem res_one (h : RelB n w0 H0 fr H a w β) {x : ResultVar} {y : ARes} (hc : chkRes E x y = true) (hk : y.ok E fr H) :
    (resSem a.tmps x).run E.P w = .ok (y.val E fr H) w := by
  cases x with
  | tmp t => cases y with
    | slot s =>
      simp only [chkRes, beq_iff_eq] at hc
      subst hc
      have := eval_vo h (E := E) (X := .tmp t) (x := .t t) (by simp [chkArg]) hk
      simp only [Act.eval] at this
      simp only [resSem, this, ARes.val]
      rfl
    | cell => simp [chkRes] at hc
  | cell ad t => cases y with
    | slot => simp [chkRes] at hc
    | cell s m =>
      simp only [chkRes, Bool.and_eq_true, beq_iff_eq] at hc
      obtain ⟨rfl, hn⟩ := hc
      obtain ⟨k1, k2, k3⟩ := hk
      have hu := eval_pvo h (E := E) (X := .tmp ad) (x := .t ad) (by simp [chkArg]) k1
      simp only [Act.eval] at hu
      split at k3
      · rename_i vs hvs
        obtain ⟨b, c, T, fz, he, hh, hp⟩ := cells_there h hu k2 hvs
        simp only [ARes.val, simT, hvs]
        simp [resSem, he, asAddr, run_loadVar' hn hh hp k3]
      · exact k3.elim

theorem res_all (h : RelB n w0 H0 fr H a w β) : ∀ {xs : List ResultVar} {ys : List ARes}, chkRess E xs ys = true → resOk E fr H ys →
    (xs.mapM (resSem a.tmps)).run E.P w = .ok (ys.map (ARes.val E fr H)) w
  | [], [], _, _ => rfl
  | x :: xs, y :: ys, hc, hk => by
    simp only [chkRess, Bool.and_eq_true] at hc
    rw [List.mapM_cons, Sem.run_bind, res_one h hc.1 hk.1]
    simp only [Result.andThen]
    rw [Sem.run_bind, res_all h hc.2 hk.2]
    simp [Result.andThen, pure]
  | [], _ :: _, hc, _ => by simp [chkRess] at hc
  | _ :: _, [], hc, _ => by simp [chkRess] at hc

theorem run_results (h : RelB n w0 H0 fr H a w β) {fn : Func} {ys : List ARes} (hc : chkRess E fn.results.toList ys = true) (hk : resOk E fr H ys) :
    (results fn a.tmps).run E.P w = .ok (resVal E fr H ys) w := by
  have e : results fn a.tmps = (do
      let vs ← fn.results.mapM (resSem a.tmps)
      pure (if h : vs.size = 1 then vs[0] else .tuple vs)) := by
    unfold results
    congr 1
  rw [e, Array.mapM_eq_mapM_toList, Sem.run_bind]
  have := res_all h hc hk
  simp only [map_eq_pure_bind, Sem.run_bind, this, Result.andThen]
  unfold resVal
  generalize ys.map (ARes.val E fr H) = l
  match l with
  | [] => rfl
  | [v] => rfl
  | _ :: _ :: _ => simp [pure]

theorem leaves {fn : Func} {R : Ending → World → Prop} (tmps : Array Value) : ∀ (ds : List Deferred) {w : World},
    (∀ d ∈ ds, ∃ D, d.target = .collected D ∧ w.heap[D]? = some (.deferred (some []))) → ds.Pairwise (fun x y => x.target ≠ y.target) →
    (∀ w', w'.os = w.os → w'.tape = w.tape → w'.output = w.output → w'.heap.size = w.heap.size → (∀ b, (∀ d ∈ ds, d.target ≠ .collected b) → w'.heap[b]? = w.heap[b]?) → ∃ v, (results fn tmps).run E.P w' = .ok v w' ∧ R (.returned v) w') →
    LeavesInM (FW none) 0 E.P fn tmps R ds .returning w
  | [], w, _, _, h => h w rfl rfl rfl rfl (fun _ _ => rfl)
  | d :: ds, w, hm, hn, h => by
    obtain ⟨D, ht, hh⟩ := hm d (List.mem_cons_self ..)
    have hn' := List.pairwise_cons.1 hn
    refine ⟨by simp, .inl ⟨D, _, ht, run_takeDeferred hh, leaves tmps ds (fun d' hd' => ?_) hn'.2 (fun w' h1 h2 h3 h4 h5 => ?_)⟩⟩
    · obtain ⟨D', ht', hh'⟩ := hm d' (List.mem_cons_of_mem _ hd')
      refine ⟨D', ht', ?_⟩
      rw [World.putObj_heap_other]
      · exact hh'
      · rintro rfl; exact hn'.1 d' hd' (by rw [ht, ht'])
    · refine h w' h1 h2 h3 (by simpa using h4) fun b hb => ?_
      rw [h5 b (fun d' hd' => hb d' (List.mem_cons_of_mem _ hd')), World.putObj_heap_other]
      rintro rfl
      exact hb d (List.mem_cons_self ..) ht

/-- THE RULE: a contract from what is shown of the body. -/
theorem Fn.of_vc {f : FuncId} {af : AFunc} {args : List Value} {H : Hp} {Q : Value → Hp → Prop} (hc : chkFunc E f af = true) (hl : args.length ≤ af.nt)
    (h : vc E af.body (argsFr 0 args) H fun e fr' H' => match e with
      | .exit _ => False
      | _ => resOk E fr' H' af.res ∧ Q (resVal E fr' H' af.res) H') : Fn E.P f args H Q := by
  intro w hs
  unfold chkFunc at hc
  split at hc
  · rename_i fn hf
    simp only [Bool.and_eq_true, beq_iff_eq] at hc
    obtain ⟨⟨hnt, hres⟩, hbody⟩ := hc
    split at hbody
    · rename_i c hbd
      refine (callsIn_wide (n := 0)).1 (callsIn_of_wp_marks (F := FW none) hf hbd trivial (wpIn_mono (Q := PostR af.nt w H fun e fr' H' => match e with
        | .exit _ => False
        | _ => resOk E fr' H' af.res ∧ Q (resVal E fr' H' af.res) H') ?_ ?_))
      · refine vc_sound (fun _ => rfl) hbody ⟨fun _ => none, ?_⟩ h
        exact {
          nodup := argsFr_nodup _ _
          nt := by simp [hnt]; omega
          slots := fun s sv hg _ => by
            rw [argsFr_get] at hg
            simp only [Nat.zero_le, if_true, Nat.sub_zero] at hg
            cases hv : args[s]? with
            | none => rw [hv] at hg; cases hg
            | some v =>
              rw [hv] at hg
              cases hg
              have hlt : s < args.length := (List.getElem?_eq_some_iff.1 hv).1
              simp only [PVok]
              rw [Array.getElem?_append_left (by simpa using hlt)]
              simpa using hv
          skip := fun s sv hg hc => by
            rw [argsFr_get] at hg
            simp only [Nat.zero_le, if_true, Nat.sub_zero] at hg
            cases hv : args[s]? with
            | none => rw [hv] at hg; cases hg
            | some v => rw [hv] at hg; cases hg; cases hc
          sat := hs
          own := fun b o hb => .inl (by rw [hb]; simp)
          priv := fun s b hb => by cases hb
          inj := fun s s' b hb => by cases hb
          os := rfl
          tape := rfl
          output := rfl
          size := Nat.le_refl _
          same := fun _ _ _ => rfl
          shape := fun _ _ => rfl
          mnd := List.Pairwise.nil
          marks := fun d hd => by cases hd }
      · have fin : ∀ a' w' fr' H', Rel af.nt w H fr' H' a' w' → resOk E fr' H' af.res ∧ Q (resVal E fr' H' af.res) H' →
            LeavesInM (FW none) 0 E.P fn a'.tmps (fun e w' => ∃ v H', e = .returned v ∧ Sat w'.heap H' ∧ Kept H w w' H' ∧ Q v H') a'.defers .returning w' := by
          rintro a' w' fr' H' ⟨β, hr⟩ ⟨hk, hq⟩
          refine leaves _ _ (fun d hd => let ⟨D, h1, h2, _⟩ := hr.marks d hd; ⟨D, h1, h2⟩) hr.mnd fun w'' h1 h2 h3 h4 h5 => ?_
          have hne : ∀ b, (∀ d ∈ a'.defers, d.target ≠ .collected b) ∨ (H' b = none ∧ (∀ s, β s ≠ some b) ∧ w.heap.size ≤ b) := fun b => by
            by_cases hx : ∃ d ∈ a'.defers, d.target = .collected b
            · obtain ⟨d, hd, ht⟩ := hx
              obtain ⟨D, h1, _, h3, h4, h5⟩ := hr.marks d hd
              rw [ht] at h1
              cases h1
              exact .inr ⟨h3, h4, h5⟩
            · exact .inl fun d hd ht => hx ⟨d, hd, ht⟩
          have hsame : ∀ b o, H' b = some o → w''.heap[b]? = w'.heap[b]? := fun b o hb => (hne b).elim (h5 b) (fun h => by rw [h.1] at hb; cases hb)
          have hs'' : Sat w''.heap H' := fun b o hb => by rw [hsame b o hb]; exact hr.sat b o hb
          have hr' : RelB af.nt w H fr' H' { a' with defers := [] } w'' β := {
            nodup := hr.nodup, nt := hr.nt, skip := hr.skip, sat := hs'', own := hr.own, inj := hr.inj, os := h1.trans hr.os, tape := h2.trans hr.tape, output := h3.trans hr.output
            slots := fun s sv hg hc => by
              have := hr.slots s sv hg hc
              cases hp : sv.p with
              | val v => rw [hp] at this; exact this
              | lp t o => rw [hp] at this; exact this
              | box vs =>
                rw [hp] at this
                obtain ⟨b, T, hb, ht, hh⟩ := this
                refine ⟨b, T, hb, ht, ?_⟩
                rw [(hne b).elim (h5 b) (fun h => absurd hb (h.2.1 s))]
                exact hh
            priv := fun s b hb => by have := hr.priv s b hb; exact ⟨this.1, this.2.1, by omega⟩
            size := by have := hr.size; omega
            same := fun b hb h0 => by
              rw [(hne b).elim (h5 b) (fun h => by have := h.2.2; omega)]
              exact hr.same b hb h0
            shape := fun b hb => by
              rw [(hne b).elim (h5 b) (fun h => by have := h.2.2; omega)]
              exact hr.shape b hb
            mnd := List.Pairwise.nil
            marks := fun d hd => by cases hd }
          refine ⟨_, run_results (a := { a' with defers := [] }) hr' hres hk, _, H', rfl, hs'', ⟨hr'.os, hr'.tape, hr'.output, hr'.size, hr'.same, fun b o hb => hr'.own b o hb, hr'.shape⟩, hq⟩
        intro e a' w' hp
        cases e with
        | normal => obtain ⟨fr', H', hr, hk⟩ := hp; exact fin a' w' fr' H' hr hk
        | ret => obtain ⟨fr', H', hr, hk⟩ := hp; exact fin a' w' fr' H' hr hk
        | exit id => obtain ⟨fr', H', hr, hk⟩ := hp; exact hk.elim
        | goto => exact hp.elim
        | panic => exact hp.elim
        | outgrown => exact hp.elim
    · cases hbody
  · cases hc
end
end Go.SL

/- The verification condition with a stack of codes: first-order steps for simp. -/
namespace Go.SL
open Go

inductive Item where
  | code (c : ACode)
  | ops (l : List AOper) (live : List Nat)
  | opd (p l : List DOp) (live : List Nat)
  | blk (id : Nat)
  | goal (G : Fr → Hp → Prop)

mutual
def vks (E : Env) : List Item → Fr → Hp → (X → Fr → Hp → Prop) → Prop
  | [], fr, H, Q => Q .nrm fr H
  | .code c :: k, fr, H, Q => vc E c fr H fun e fr' H' => match e with
    | .nrm => vks E k fr' H' Q
    | e => unw E k e fr' H' Q
  | .ops l live :: k, fr, H, Q => evs E l fr H fun fr' H' => vks E k (fr'.keep live) H' Q
  | .opd p l live :: k, fr, H, Q => evd E p l fr H fun fr' H' => vks E k (fr'.keep live) H' Q
  | .blk _ :: k, fr, H, Q => vks E k fr H Q
  | .goal G :: _, fr, H, _ => G fr H
def unw (E : Env) : List Item → X → Fr → Hp → (X → Fr → Hp → Prop) → Prop
  | [], e, fr, H, Q => Q e fr H
  | .blk id :: k, e, fr, H, Q => if e = .exit id then vks E k fr H Q else unw E k e fr H Q
  | .code _ :: k, e, fr, H, Q => unw E k e fr H Q
  | .ops _ _ :: k, e, fr, H, Q => unw E k e fr H Q
  | .opd _ _ _ :: k, e, fr, H, Q => unw E k e fr H Q
  | .goal _ :: k, e, fr, H, Q => unw E k e fr H Q
end

section
variable {E : Env} {fr : Fr} {H : Hp} {Q : X → Fr → Hp → Prop} {k : List Item}

theorem vc_of_vks {c : ACode} (h : vks E [.code c] fr H Q) : vc E c fr H Q := by
  simp only [vks] at h
  refine vc_mono (fun e fr H h => ?_) h
  cases e <;> simpa [unw] using h

theorem vks_nil : vks E [] fr H Q = Q .nrm fr H := by simp [vks]
theorem vks_skip : vks E (.code .skip :: k) fr H Q = vks E k fr H Q := by simp [vks, vc]
theorem vks_reg {l : List AOper} {live : List Nat} : vks E (.code (.reg l live) :: k) fr H Q = vks E (.ops l live :: k) fr H Q := by simp [vks, vc]
theorem vks_regd {l : List DOp} {live : List Nat} : vks E (.code (.regd l live) :: k) fr H Q = vks E (.opd [] l live :: k) (fr.start (dsts l)) H Q := by simp [vks, vc]
theorem vks_regl {l : List DOp} {mid live : List Nat} {last : AOper} : vks E (.code (.regl l mid last live) :: k) fr H Q = vks E (.opd [] l mid :: .ops [last] live :: k) (fr.start (dsts l)) H Q := by simp [vks, vc, evs]
theorem vks_rega {l : List ROp} {live : List Nat} : vks E (.code (.rega l live) :: k) fr H Q = evAll E l fr H (fun fr' H' => vks E k (fr'.keep live) H' Q) := by simp [vks, vc]
/-- one operation of a drawn region: as the list of it alone, with what must stay true -/
theorem vks_opd {x : DOp} {p l : List DOp} {live : List Nat} : vks E (.opd p (x :: l) live :: k) fr H Q = ev1 E x.o fr H (fun fr' H' => stabs E fr' H' x.ls p ∧ vks E (.opd (x :: p) l live :: k) fr' H' Q) := by simp [vks, evd]
theorem vks_opdnil {p : List DOp} {live : List Nat} : vks E (.opd p [] live :: k) fr H Q = vks E k (fr.keep live) H Q := by simp [vks, evd]
theorem stabs_nil {p : List DOp} : stabs E fr H [] p := by
  induction p with
  | nil => trivial
  | cons y p ih => exact ⟨by simp, ih⟩
theorem vks_dsim {i : Nat} {d : Option Nat} {x : AOp} {g : Option (Nat × Bool)} {p r : List DOp} {live : List Nat} :
    vks E (.opd p (⟨i, ⟨d, .sim x, g⟩, []⟩ :: r) live :: k) fr H Q = (gok fr g ∧ (gcond fr g = true → simC E fr H x) ∧ vks E (.opd (⟨i, ⟨d, .sim x, g⟩, []⟩ :: p) r live :: k) (setD fr d ⟨gcond fr g, simT E fr H x⟩) H Q) := by
  simp [vks, evd, ev1, stabs_nil]
theorem vks_seq {a b : ACode} : vks E (.code (.seq a b) :: k) fr H Q = vks E (.code a :: .code b :: k) fr H Q := by
  simp only [vks, vc]
  congr 1
  funext e fr' H'
  cases e <;> simp [unw]
theorem vks_block {id : Nat} {c : ACode} : vks E (.code (.block id c) :: k) fr H Q = vks E (.code c :: .blk id :: k) fr H Q := by
  simp only [vks, vc]
  congr 1
  funext e fr' H'
  cases e <;> simp [unw]
theorem vks_exit {id : Nat} : vks E (.code (.exit id) :: k) fr H Q = unw E k (.exit id) fr H Q := by simp [vks, vc]
theorem vks_ret : vks E (.code .ret :: k) fr H Q = unw E k .ret fr H Q := by simp [vks, vc]
theorem vks_blk {id : Nat} : vks E (.blk id :: k) fr H Q = vks E k fr H Q := by simp [vks]
theorem vks_goal {G : Fr → Hp → Prop} : vks E (.goal G :: k) fr H Q = G fr H := by simp [vks]
theorem vks_opsnil {live : List Nat} : vks E (.ops [] live :: k) fr H Q = vks E k (fr.keep live) H Q := by simp [vks, evs]
theorem unw_nil {e : X} : unw E [] e fr H Q = Q e fr H := by simp [unw]
theorem unw_code {e : X} {c : ACode} : unw E (.code c :: k) e fr H Q = unw E k e fr H Q := by simp [unw]
theorem unw_ops {e : X} {l : List AOper} {live : List Nat} : unw E (.ops l live :: k) e fr H Q = unw E k e fr H Q := by simp [unw]
theorem unw_opd {e : X} {p l : List DOp} {live : List Nat} : unw E (.opd p l live :: k) e fr H Q = unw E k e fr H Q := by simp [unw]
theorem unw_goal {e : X} {G : Fr → Hp → Prop} : unw E (.goal G :: k) e fr H Q = unw E k e fr H Q := by simp [unw]
theorem unw_blk_exit {i j : Nat} : unw E (.blk i :: k) (.exit j) fr H Q = if j = i then vks E k fr H Q else unw E k (.exit j) fr H Q := by simp [unw]
theorem unw_blk_ret {i : Nat} : unw E (.blk i :: k) .ret fr H Q = unw E k .ret fr H Q := by simp [unw]

/-- a test -/
theorem vks_cond {c : Arg} {x y : ACode} {b : Bool} (h1 : vok fr c) (h2 : vo E fr c = .bool b) (hx : b = true → vks E (.code x :: k) fr H Q) (hy : b = false → vks E (.code y :: k) fr H Q) :
    vks E (.code (.cond c x y) :: k) fr H Q := by
  simp only [vks, vc]
  refine ⟨h1, ?_⟩
  rw [h2]
  exact ⟨hx, hy⟩
theorem vks_cond_eq {c : Arg} {x y : ACode} : vks E (.code (.cond c x y) :: k) fr H Q = (vok fr c ∧ (match vo E fr c with
    | .bool b => (b = true → vks E (.code x :: k) fr H Q) ∧ (b = false → vks E (.code y :: k) fr H Q)
    | _ => False)) := by
  simp only [vks, vc]
  congr 1

/-- a loop -/
theorem vks_loop {live : List Nat} {c : ACode} (I : Nat → Fr → Hp → Prop) (m0 : Nat) (h0 : I m0 (fr.keep live) H)
    (h : ∀ m fr' H', I m fr' H' → vks E (.code c :: .goal (fun fr'' H'' => ∃ m', m' < m ∧ I m' (fr''.keep live) H'') :: k) fr' H' Q) :
    vks E (.code (.loop live c) :: k) fr H Q := by
  simp only [vks, vc]
  refine ⟨I, ⟨m0, h0⟩, fun m fr' H' hi => ?_⟩
  have := h m fr' H' hi
  simp only [vks] at this
  refine vc_mono (fun e fr H h => ?_) this
  cases e <;> simpa [unw] using h

/-- a cut: what holds here -/
theorem vks_cut {a b : ACode} (R : Fr → Hp → Prop) (ha : vks E (.code a :: .goal R :: k) fr H Q) (hb : ∀ fr' H', R fr' H' → vks E (.code b :: k) fr' H' Q) :
    vks E (.code a :: .code b :: k) fr H Q := by
  simp only [vks] at ha ⊢
  refine vc_mono (fun e fr H h => ?_) ha
  cases e with
  | nrm => exact hb _ _ h
  | exit id => simpa [unw] using h
  | ret => simpa [unw] using h

theorem vks_sim {d : Option Nat} {x : AOp} {g : Option (Nat × Bool)} {r : List AOper} {live : List Nat} :
    vks E (.ops (⟨d, .sim x, g⟩ :: r) live :: k) fr H Q = (gok fr g ∧ (gcond fr g = true → simC E fr H x) ∧ vks E (.ops r live :: k) (setD fr d ⟨gcond fr g, simT E fr H x⟩) H Q) := by simp [vks, evs, ev1]
theorem vks_sim0 {d : Option Nat} {x : AOp} {r : List AOper} {live : List Nat} :
    vks E (.ops (⟨d, .sim x, none⟩ :: r) live :: k) fr H Q = (simC E fr H x ∧ vks E (.ops r live :: k) (setD fr d ⟨true, simT E fr H x⟩) H Q) := by simp [vks, evs, ev1, gok, gcond]
theorem vks_callp {d : Option Nat} {f : Nat} {args : List Arg} {g : Option (Nat × Bool)} {r : List AOper} {live : List Nat} (v : Value) (h0 : gok fr g)
    (h1 : gcond fr g = true → allok fr args ∧ FnP E f (args.map (vo E fr)) H v) (h : vks E (.ops r live :: k) (setD fr d ⟨gcond fr g, .val v⟩) H Q) :
    vks E (.ops (⟨d, .callp f args, g⟩ :: r) live :: k) fr H Q := by
  simp only [vks, evs, ev1]
  refine ⟨h0, v, h1, ?_⟩
  simpa [vks] using h
theorem vks_call {d : Option Nat} {f : Nat} {args : List Arg} {r : List AOper} {live : List Nat} {R : Value → Hp → Prop} (h0 : allok fr args) (h1 : Fn E.P (E.fn f) (args.map (vo E fr)) H R)
    (h : ∀ v H', R v H' → vks E (.ops r live :: k) (setD fr d ⟨true, .val v⟩) H' Q) :
    vks E (.ops (⟨d, .call f args, none⟩ :: r) live :: k) fr H Q := by
  simp only [vks, evs, ev1, gok, gcond, big]
  refine ⟨trivial, fun _ => ⟨h0, R, h1, fun v H' hr => ?_⟩, fun e => by cases e⟩
  simpa [vks] using h v H' hr
theorem vks_callv {d : Option Nat} {x : Arg} {args : List Arg} {r : List AOper} {live : List Nat} {R : Value → Hp → Prop} (h0 : vok fr x) (h0' : allok fr args) (h1 : FnV E (vo E fr x) (args.map (vo E fr)) H R)
    (h : ∀ v H', R v H' → vks E (.ops r live :: k) (setD fr d ⟨true, .val v⟩) H' Q) :
    vks E (.ops (⟨d, .callv x args, none⟩ :: r) live :: k) fr H Q := by
  simp only [vks, evs, ev1, gok, gcond, big]
  refine ⟨trivial, fun _ => ⟨h0, h0', R, h1, fun v H' hr => ?_⟩, fun e => by cases e⟩
  simpa [vks] using h v H' hr

/-- lookups -/
theorem get_nil (s : Nat) : Fr.get [] s = none := rfl
theorem get_cons (k : Nat) (v : SV) (r : Fr) (s : Nat) : Fr.get ((k, v) :: r) s = if k = s then some v else Fr.get r s := rfl
theorem keep_nil (fr : Fr) : fr.keep [] = [] := rfl
theorem keep_cons (e : Nat × SV) (fr : Fr) (s : Nat) (l : List Nat) : Fr.keep (e :: fr) (s :: l) = match Fr.get (e :: fr) s with
    | some v => (s, v) :: Fr.keep (e :: fr) l
    | none => Fr.keep (e :: fr) l := rfl
theorem set_nil (s : Nat) (v : SV) : Fr.set [] s v = [(s, v)] := rfl
theorem set_cons (e : Nat × SV) (fr : Fr) (s : Nat) (v : SV) : Fr.set (e :: fr) s v = (s, v) :: (e :: fr).filter (fun e => !(e.1 == s) && !(e.2.p.isLp s)) := rfl
theorem cond_or (a b : Bool) : (bif a then true else b) = (a || b) := by cases a <;> rfl
theorem cond_and (a b : Bool) : (bif a then b else false) = (a && b) := by cases a <;> rfl
theorem beq_false' (a : Bool) : (a == false) = !a := by cases a <;> rfl
theorem beq_true' (a : Bool) : (a == true) = a := by cases a <;> rfl
end
end Go.SL
