/- One operation, and a list of them: the abstract run is sound. -/
import Derived.Test.YthedjffolgeomaaGreatDoorANplF
namespace Go.SL
open Go
theorem Fr.get_upb (fr : Fr) (s t : Nat) (vs : List Value) : (fr.upb s vs).get t = (fr.get t).map (fun sv => if t = s then ⟨sv.c, .box vs⟩ else sv) := by
 induction fr with
 | nil=>rfl
 | cons e r ih =>
  obtain⟨k,u⟩:=e
  simp only [Fr.upb,List.map_cons] at ih ⊢
  by_cases hk:k=s
  ·subst hk
   simp only [if_true,Fr.get]
   by_cases ht:k=t
   ·subst ht; simp
   ·simp only [ht,if_false]; exact ih
  ·simp only [hk,if_false,Fr.get]
   by_cases ht:k=t
   ·subst ht; simp [hk]
   ·simp only [ht,if_false]; exact ih
theorem Fr.nodup_upb {fr : Fr} (h : fr.nodup) (s : Nat) (vs : List Value) : (fr.upb s vs).nodup := by
 induction fr with
 | nil=>exact h
 | cons e r ih =>
  obtain⟨k,u⟩:=e
  have hr : ∀ e ∈ Fr.upb r s vs, e.1 ≠ k := by
   intro e he
   simp only [Fr.upb,List.mem_map] at he
   obtain⟨e',he',rfl⟩:=he
   have:=h.1 e' he'
   split<;>exact this
  simp only [Fr.upb,List.map_cons] at ih hr ⊢
  by_cases hk:k=s
  ·simp only [hk,if_true]; rw [hk] at hr; exact⟨hr,ih h.2⟩
  ·simp only [hk,if_false]; exact⟨hr,ih h.2⟩
section
variable {E:Env} {n:Nat} {w0:World} {H0:Hp} {fr:Fr} {H:Hp} {a:Act} {w:World} {β:Nat→Option Nat} {ro:Option Nat}
theorem yT.upb (h : yT n w0 H0 fr H a w β) {s b : Nat} {T : TypeId} {vs0 : List Value} (hs : fr.get s = some ⟨true, .box vs0⟩) (hb : β s = some b) (vs : List Value) :
  yT n w0 H0 (fr.upb s vs) H a (w.putObj b (.cells vs.toArray T (0,0))) β where
 nodup:=Fr.nodup_upb h.nodup s vs
 nt:=h.nt
 slots := fun t sv hg hc => by
  rw [Fr.get_upb] at hg
  cases hgt:fr.get t with
  | none=>rw [hgt] at hg; cases hg
  | some sv' =>
   rw [hgt] at hg
   simp only [Option.map_some,Option.some.injEq] at hg
   have hlt:=(h.priv _ _ hb).2.2
   by_cases e:t=s
   ·subst e
    simp only [if_true] at hg
    subst hg
    obtain⟨b0,T0,hb0,ht,_⟩:=h.slots _ _ hs rfl
    rw [hb] at hb0
    cases hb0
    exact⟨b,T,hb,ht,World.putObj_heap_same hlt⟩
   ·simp only [e,if_false] at hg
    subst hg
    have:=h.slots t sv' hgt hc
    cases hp:sv'.p with
    | val v=>rw [hp] at this; exact this
    | lp t' o=>rw [hp] at this; exact this
    | box vs' =>
     rw [hp] at this
     obtain⟨b',T',hb',ht,hh⟩:=this
     refine⟨b',T',hb',ht,?_⟩
     rw [World.putObj_heap_other]
     ·exact hh
     ·rintro rfl; exact e (h.inj _ _ _ hb' hb)
 skip := fun t sv hg hc => by
  rw [Fr.get_upb] at hg
  cases hgt:fr.get t with
  | none=>rw [hgt] at hg; cases hg
  | some sv' =>
   rw [hgt] at hg
   simp only [Option.map_some,Option.some.injEq] at hg
   refine h.skip t sv' hgt ?_
   split at hg<;>(subst hg; exact hc)
 sat := fun c o hc => by
  rw [World.putObj_heap_other]
  ·exact h.sat c o hc
  ·rintro rfl; have:=(h.priv _ _ hb).1; rw [hc] at this; cases this
 own:=h.own
 priv:=fun t c hc=>by simpa using h.priv t c hc
 inj:=h.inj
 os:=h.os
 tape:=h.tape
 output:=h.output
 size:=by simpa using h.size
 same := fun c hc h0 => by
  rw [World.putObj_heap_other]
  ·exact h.same c hc h0
  ·rintro rfl; have:=(h.priv _ _ hb).2.1; omega
 shape := fun c hc ht => by
  refine⟨?_,(h.shape c hc ht).2⟩
  rw [World.putObj_heap_other]
  ·exact(h.shape c hc ht).1
  ·rintro rfl; have:=(h.priv _ _ hb).2.1; omega
 mnd:=h.mnd
 marks := fun d hd => by
  obtain⟨D,ht,hh,hn,hβ,hs⟩:=h.marks d hd
  refine⟨D,ht,?_,hn,hβ,hs⟩
  rw [World.putObj_heap_other]
  ·exact hh
  ·rintro rfl; exact hβ s hb
theorem zGj {t : TypeId} {z : List Value} (hz : zDS E.P t z = true) : (Instr.alloc t true (.tuple #[])).run E.P w = .ok (.pointer (some ⟨w.heap.size, 0, none⟩)) { w with heap := w.heap.push (.cells z.toArray t) } := by
 unfold zDS at hz
 split at hz
 ·rename_i i hi
  split at hz
  ·rename_i v hv
   have:v.cells=z.toArray:=by apply Array.toList_inj.1; simpa using zCg hz
   simp [Instr.alloc,zeroValue,Sem.run_bind,uT hi,Result.andThen,hv,newVar,newRow,newObj,Sem.run,pure,this]
  ·cases hz
 ·cases hz
theorem zYs {t : TypeId} {v : Value} : (Instr.box t v).run E.P w = .ok (.pointer (some ⟨w.heap.size, 0, none⟩)) { w with heap := w.heap.push (.cells v.cells t) } := by
 simp [Instr.box,Sem.run_bind,Result.andThen,newVar,newRow,newObj,Sem.run,pure]
theorem zGu {o : Op} {x : pB} (h : zCy E o x = true) : ∀ c, o ≠ .defer c := by
 rintro c rfl
 unfold zCy at h
 split at h<;>first | (simp at h; done) | (rename_i he; cases he; done) | (simp [zMj] at h; done) | skip
 all_goals simp_all
abbrev pW (n:Nat) (w0:World) (H0:Hp) (K:Fr→Hp→Prop):Act→World→Prop:=fun a' w'=>∃ fr' H',Rel n w0 H0 fr' H' a' w'∧K fr' H'
theorem zHI (h : yT n w0 H0 fr H a w β) {o : Oper} {d : Option Nat} (hd : vN n o.dst d = true) (hnd : ∀ c, o.op ≠ .defer c) {vs : List Value} {T : TypeId}
  (hrun:(execOp a.eval o).run E.P w = .ok (.value (.pointer (some ⟨w.heap.size,0,none⟩))) { w with heap:=w.heap.push (.cells vs.toArray T) })
  {K:Fr→Hp→Prop} (hk:K (setD fr d ⟨true,.box vs⟩) H) {Q:Exit→Act→World→Prop}:o.wpIn (FW ro) 0 E.P a w (pW n w0 H0 K) Q:=by
 refine wN (fun _=>trivial) hnd hrun ⟨_,_,?_,hk⟩
 cases hod:o.dst with
 | none => cases d with
  | none =>
   have:=(uC (w:=w) h.sat (o:=.cells vs.toArray T) (x:=.row [] vs.toArray.size false) ⟨_,_,_,rfl,rfl,by simp,fun e=>by cases e⟩)
   exact⟨β,h.move (H':=H) (this.1.le (Hp.le.put this.2.2)) ⟨rfl,rfl,rfl,by simp,fun b hb _=>by show(w.heap.push _)[b]? = _; rw [Array.getElem?_push,if_neg (by omega)],fun b y hb=>.inl (by rw [hb]; simp),fun b hb ht=>⟨(this.2.1.shape b hb ht).1,ht⟩⟩⟩
  | some=>simp [hod,vN] at hd
 | some d0 => cases d with
  | none=>simp [hod,vN] at hd
  | some e =>
   simp only [hod,vN,Bool.and_eq_true,beq_iff_eq,decide_eq_true_eq] at hd
   obtain⟨rfl,hlt⟩:=hd
   have:=h.box hlt vs.toArray T
   rw [List.toList_toArray] at this
   exact⟨_,this⟩
theorem Fn.keepH {P : Program} {f : FuncId} {args : List Value} {H : Hp} {v : Value} (h : Fn P f args H fun u H' => u = v ∧ H.le H') : Fn P f args H fun u H' => u = v ∧ H' = H :=
 fun w hw=>(h w hw).mono fun e w' ⟨u,H',he,hs,hk,hq,hle⟩=>⟨u,H,he,hs.le hle,⟨hk.os,hk.tape,hk.output,hk.size,hk.same,fun b o hb=>.inl (by rw [hb]; simp),fun b hb ht=>⟨(hk.shape b hb ht).1,ht⟩⟩,hq,rfl⟩
theorem zSj (h : yT n w0 H0 fr H a w β) {o : Oper} {d : Option Nat} (hd : vN n o.dst d = true) (hnd : ∀ c, o.op ≠ .defer c) {f : FuncId} {args : List Value} {Q' : Value → Hp → Prop}
  (hrun:(execOp a.eval o).run E.P w = .ok (.enter f args.toArray) w) (hfn:Fn E.P f args H Q')
  {K:Fr→Hp→Prop} (hk:∀ v H',Q' v H'→K (setD fr d ⟨true,.val v⟩) H') {Q:Exit→Act→World→Prop}:o.wpIn (FW ro) 0 E.P a w (pW n w0 H0 K) Q:=by
 refine zRc hnd hrun ((hfn w h.sat).mono ?_)
 rintro e w' ⟨v,H',rfl,hs,hkp,hq⟩
 exact⟨v,rfl,_,_,⟨β,(h.move hs hkp).setD hd v (.val v) rfl⟩,hk v H' hq⟩
theorem yGZ (h : yT n w0 H0 fr H a w β) {o : Oper} {d : Option Nat} (hd : vN n o.dst d = true) (hnd : ∀ c, o.op ≠ .defer c) {t kt et : TypeId} {M I : Operand} {ok ag : Bool} {ks : List Kd} {zero : Value} {m k : Arg}
  (ho:o.op = .lookup t M I ok) (hu:E.P.underlying t=some (.map kt et)) (hkey:pH E.P kt ag ks=true) (hz:zBp E.P et zero=true) (h2:zQ E M m=true) (h3:zQ E I k=true)
  {K:Fr→Hp→Prop} (hk:xU E (.look ag ks zero ok m k) d fr H K) {Q:Exit→Act→World→Prop}:o.wpIn (FW ro) 0 E.P a w (pW n w0 H0 K) Q:=by
 obtain⟨k1,k2,k3,k4⟩:=hk
 have e1:=zW h h2 k1
 have e2:=zW h h3 k2
 have hck:∀ em,(Instr.checkKey em 10000 kt (vo E fr k)).run E.P w = .ok () w:=fun em=>zCQ 9998 rfl hkey k3
 have done : ∀ v, (Instr.lookup t (vo E fr m) (vo E fr k) ok).run E.P w = .ok v w → K (setD fr d ⟨true, .val v⟩) H → o.wpIn (FW ro) 0 E.P a w (pW n w0 H0 K) Q := by
  intro v hrun hkk
  exact wN (w':=w) (v:=v) (fun _=>trivial) hnd (by simp [execOp,ho,e1,e2,Sem.run_bind,Result.andThen,hrun,pure,Sem.run]) ⟨_,_,⟨β,h.setD hd v (.val v) rfl⟩,hkk⟩
 split at k4
 ·rename_i hm
  refine done _ ?_ k4
  obtain⟨dk,hdk⟩:=zHJ hkey
  have hfk : ∀ l : List MapEntry, l = [] → (Instr.findKey kt (vo E fr k) l).run E.P w = .ok none w := by
   rintro l rfl
   simp only [Instr.findKey,Sem.run_bind,run_underlying hdk,Result.andThen,Instr.findNow,Sem.run_pure]
  simp only [Instr.lookup,Sem.run_bind,run_underlying hu,Result.andThen,hm,Sem.run_pure,hck,hfk _ rfl,zEL hz]
 ·rename_i r hm
  split at k4
  ·rename_i es clock hH
   have hobj:w.heap[r]? = some (.map es clock):=h.sat r _ hH
   have hget:(getObj r).run E.P w = .ok (.map es clock) w:=by simp [getObj,Sem.run,hobj]
   split at k4
   ·rename_i i v hf
    refine done _ ?_ k4
    simp only [Instr.lookup,Sem.run_bind,run_underlying hu,Result.andThen,hm,hget,Sem.run_pure,hck]
    rw [run_findKey hkey hf]
    simp only [Sem.run_bind,Sem.run_pure,Result.andThen]
   ·rename_i hf
    refine done _ ?_ k4
    simp only [Instr.lookup,Sem.run_bind,run_underlying hu,Result.andThen,hm,hget,Sem.run_pure,hck]
    rw [run_findKey hkey hf]
    simp only [Sem.run_bind,zEL hz,Result.andThen,Sem.run_pure]
   ·exact k4.elim
  ·exact k4.elim
 ·exact k4.elim
theorem zKH (h : yT n w0 H0 fr H a w β) {o : Oper} {d : Option Nat} (hd : vN n o.dst d = true) (hnd : ∀ c, o.op ≠ .defer c) {t kt et : TypeId} {M I V : Operand} {ag : Bool} {ks : List Kd} {m k v : Arg}
  (ho:o.op = .mapUpdate t M I V∨o.op = .insert t M I V) (hu:E.P.underlying t=some (.map kt et)) (h1:pH E.P kt ag ks=true) (h2:zQ E M m=true) (h3:zQ E I k=true) (h4:zQ E V v=true)
  {K:Fr→Hp→Prop} (hk:xU E (.upd ag ks m k v) d fr H K) {Q:Exit→Act→World→Prop}:o.wpIn (FW ro) 0 E.P a w (pW n w0 H0 K) Q:=by
 obtain⟨k1,k2,k2',k3,k4⟩:=hk
 have e1:=zW h h2 k1
 have e2:=zW h h3 k2
 have e3:=zW h h4 k2'
 have hck:∀ em,(Instr.checkKey em 10000 kt (vo E fr k)).run E.P w = .ok () w:=fun em=>zCQ 9998 rfl h1 k3
 split at k4
 ·rename_i r hm
  split at k4
  ·rename_i es clock hH
   have hobj:w.heap[r]? = some (.map es clock):=h.sat r _ hH
   have hget:(getObj r).run E.P w = .ok (.map es clock) w:=by simp [getObj,Sem.run,hobj]
   have hset:∀ o',(setObj r o').run E.P w = .ok () (w.putObj r o'):=fun o'=>by simp [setObj,Sem.run,hobj,World.putObj]
   have done : ∀ es' clock', (Instr.mapUpdate t (vo E fr m) (vo E fr k) (vo E fr v)).run E.P w = .ok () (w.putObj r (.map es' clock')) → K (setD fr d ⟨true, .val undef⟩) (H.put r (.obj (.map es' clock'))) →
     o.wpIn (FW ro) 0 E.P a w (pW n w0 H0 K) Q:=by
    intro es' clock' hrun hkk
    have hp:=zAq h.sat hH (o:=.map es' clock') (x:=.obj (.map es' clock')) rfl (by rw [hobj]; rfl)
    exact zDz (w':=w.putObj r (.map es' clock')) (fun _=>trivial) hnd (by rcases ho with ho | ho<;>simp [execOp,ho,e1,e2,e3,Sem.run_bind,Result.andThen,hrun,pure,Sem.run]) ⟨_,_,⟨β,(h.move hp.1 hp.2).setD hd undef (.val undef) rfl⟩,hkk⟩
   split at k4
   ·rename_i i u hf
    refine done _ _ ?_ k4
    obtain⟨e,_,he,hb,_⟩:=zIm hf
    simp only [Nat.sub_zero] at he
    have hei:es[i]? = some e:=by simpa using he
    have hst : (Instr.keyThatStays (((es[i]?).map (·.key)).getD (vo E fr k)) (vo E fr k)).run E.P w = .ok (vo E fr k) w := by
     simp only [hei,Option.map_some,Option.getD_some,Instr.keyThatStays,zLc 9999 rfl hb,if_true]
     rfl
    simp only [Instr.mapUpdate,Sem.run_bind,run_underlying hu,Result.andThen,hm,hget,hck]
    rw [run_findKey h1 hf]
    simp only [Sem.run_bind,hst,Result.andThen,hset]
   ·rename_i hf
    refine done _ _ ?_ k4
    simp only [Instr.mapUpdate,Sem.run_bind,run_underlying hu,Result.andThen,hm,hget,hck]
    rw [run_findKey h1 hf]
    simp only [hset]
   ·exact k4.elim
  ·exact k4.elim
 ·exact k4.elim
theorem yHN (h : yT n w0 H0 fr H a w β) {o : Oper} {d : Option Nat} (hd : vN n o.dst d = true) (hnd : ∀ c, o.op ≠ .defer c) {t kt et : TypeId} {M I : Operand} {ag : Bool} {ks : List Kd} {zero : Value} {m k : Arg}
  (ho:o.op = .mapEntry t M I) (hu:E.P.underlying t=some (.map kt et)) (h1:pH E.P kt ag ks=true) (hz:zBp E.P et zero=true) (h2:zQ E M m=true) (h3:zQ E I k=true)
  {K:Fr→Hp→Prop} (hk:xU E (.ment ag ks zero m k) d fr H K) {Q:Exit→Act→World→Prop}:o.wpIn (FW ro) 0 E.P a w (pW n w0 H0 K) Q:=by
 obtain⟨k1,k2,k3,r,es,clock,hm,hH,k4⟩:=hk
 have e1:=zW h h2 k1
 have e2:=zW h h3 k2
 have hck:∀ em,(Instr.checkKey em 10000 kt (vo E fr k)).run E.P w = .ok () w:=fun em=>zCQ 9998 rfl h1 k3
 have hobj:w.heap[r]? = some (.map es clock):=h.sat r _ hH
 have hget:(getObj r).run E.P w = .ok (.map es clock) w:=by simp [getObj,Sem.run,hobj]
 have hset:∀ o',(setObj r o').run E.P w = .ok () (w.putObj r o'):=fun o'=>by simp [setObj,Sem.run,hobj,World.putObj]
 have done : ∀ v es' clock', (Instr.mapEntry t (vo E fr m) (vo E fr k)).run E.P w = .ok v (w.putObj r (.map es' clock')) → K (setD fr d ⟨true, .val v⟩) (H.put r (.obj (.map es' clock'))) →
   o.wpIn (FW ro) 0 E.P a w (pW n w0 H0 K) Q:=by
  intro v es' clock' hrun hkk
  have hp:=zAq h.sat hH (o:=.map es' clock') (x:=.obj (.map es' clock')) rfl (by rw [hobj]; rfl)
  exact wN (v:=v) (w':=w.putObj r (.map es' clock')) (fun _=>trivial) hnd (by simp [execOp,ho,e1,e2,Sem.run_bind,Result.andThen,hrun,pure,Sem.run]) ⟨_,_,⟨β,(h.move hp.1 hp.2).setD hd v (.val v) rfl⟩,hkk⟩
 rcases k4 with⟨i,u,hf,hkk⟩ | ⟨hf,hkk⟩
 ·refine done _ _ _ ?_ hkk
  obtain⟨e,_,he,hb,_⟩:=zIm hf
  simp only [Nat.sub_zero] at he
  have hei:es[i]? = some e:=by simpa using he
  have hst : (Instr.keyThatStays (((es[i]?).map (·.key)).getD (vo E fr k)) (vo E fr k)).run E.P w = .ok (vo E fr k) w := by
   simp only [hei,Option.map_some,Option.getD_some,Instr.keyThatStays,zLc 9999 rfl hb,if_true]
   rfl
  simp only [Instr.mapEntry,Sem.run_bind,run_underlying hu,Result.andThen,hm,hget,hck]
  rw [run_findKey h1 hf]
  simp only [Sem.run_bind,hst,Result.andThen,hset,Sem.run_pure,goInt]
 ·refine done _ _ _ ?_ hkk
  simp only [Instr.mapEntry,Sem.run_bind,run_underlying hu,Result.andThen,hm,hget,hck]
  rw [run_findKey h1 hf]
  simp only [Sem.run_bind,zEL hz,Result.andThen,hset,Sem.run_pure,goInt]
theorem yJs (h : yT n w0 H0 fr H a w β) {o : Oper} {d : Option Nat} (hd : vN n o.dst d = true) (hnd : ∀ c, o.op ≠ .defer c) {t : TypeId} {M S V : Operand} {m s v : Arg}
  (ho:o.op = .entryStore t M S V) (h2:zQ E M m=true) (h3:zQ E S s=true) (h4:zQ E V v=true)
  {K:Fr→Hp→Prop} (hk:xU E (.est m s v) d fr H K) {Q:Exit→Act→World→Prop}:o.wpIn (FW ro) 0 E.P a w (pW n w0 H0 K) Q:=by
 obtain⟨k1,k2,k3,r,kd,b,es,clock,i,hm,hs,hH,hf,hkk⟩:=hk
 have e1:=zW h h2 k1
 have e2:=zW h h3 k2
 have e3:=zW h h4 k3
 rw [hm] at e1
 rw [hs] at e2
 have hobj:w.heap[r]? = some (.map es clock):=h.sat r _ hH
 have hget:(getObj r).run E.P w = .ok (.map es clock) w:=by simp [getObj,Sem.run,hobj]
 have hset:∀ o',(setObj r o').run E.P w = .ok () (w.putObj r o'):=fun o'=>by simp [setObj,Sem.run,hobj,World.putObj]
 have hrun : (Instr.entryStore t (.map (some r)) (.int kd b) (vo E fr v)).run E.P w = .ok () (w.putObj r (.map (es.modify i fun e => { e with val := vo E fr v }) clock)) := by
  simp only [Instr.entryStore,Sem.run_bind,hget,Result.andThen,asInt,asIntOf,Sem.run_pure,hf,hset]
 have hp:=zAq h.sat hH (o:=.map (es.modify i fun e=>{ e with val:=vo E fr v }) clock) (x:=.obj (.map (es.modify i fun e=>{ e with val:=vo E fr v }) clock)) rfl (by rw [hobj]; rfl)
 exact zDz (fun _=>trivial) hnd (by simp [execOp,ho,e1,e2,e3,Sem.run_bind,Result.andThen,hrun,pure,Sem.run]) ⟨_,_,⟨β,(h.move hp.1 hp.2).setD hd undef (.val undef) rfl⟩,hkk⟩
theorem yJv (h : yT n w0 H0 fr H a w β) {o : Oper} {d : Option Nat} (hd : vN n o.dst d = true) (hnd : ∀ c, o.op ≠ .defer c) {t kt et : TypeId} {M : Operand} {m : Arg}
  (ho:o.op = .range t M) (hu:E.P.underlying t=some (.map kt et)) (h2:zQ E M m=true)
  {K:Fr→Hp→Prop} (hk:xU E (.rng m) d fr H K) {Q:Exit→Act→World→Prop}:o.wpIn (FW ro) 0 E.P a w (pW n w0 H0 K) Q:=by
 obtain⟨k1,r,es,clock,hm,hH,hkk⟩:=hk
 have e1:=zW h h2 k1
 rw [hm] at e1
 have hobj:w.heap[r]? = some (.map es clock):=h.sat r _ hH
 have hget:(getObj r).run E.P w = .ok (.map es clock) w:=by simp [getObj,Sem.run,hobj]
 have hp:=uC (w:=w) h.sat (o:=.mapIter (some r) clock #[] clock) (x:=.obj (.mapIter (some r) clock #[] clock)) rfl
 exact wN (fun _=>trivial) hnd (by simp [execOp,ho,e1,Instr.range,run_underlying hu,hget,newObj,Sem.run_bind,Sem.run,Result.andThen,pure]) ⟨_,_,⟨β,(h.move hp.1 hp.2.1).setD hd _ (.val _) rfl⟩,hkk _ hp.2.2⟩
theorem zSm (P : Program) (w : World) (k : Nat) : ∃ j w', (choose (.mapNext k)).run P w = .ok j w' ∧ (0 < k → j < k) ∧ ∃ c, w' = { w with drawn := c } := by
 by_cases hk:k≤1
 ·exact⟨0,w,by simp [choose,Sem.run,Question.forced,hk],fun h=>h,w.drawn,rfl⟩
 ·exact⟨w.tape w.drawn (.mapNext k) % k,w.drew,by simp [choose,Sem.run,Question.forced,hk,Question.cut],fun h=>Nat.mod_lt _ h,w.drawn + 1,rfl⟩
theorem yME (h : yT n w0 H0 fr H a w β) {o : Oper} {d : Option Nat} (hd : vN n o.dst d = true) (hnd : ∀ c, o.op ≠ .defer c) {I : Operand} {it : Arg}
  (ho:o.op = .next I false) (h2:zQ E I it=true)
  {K:Fr→Hp→Prop} (hk:xU E (.nxt it) d fr H K) {Q:Exit→Act→World→Prop}:o.wpIn (FW ro) 0 E.P a w (pW n w0 H0 K) Q:=by
 obtain⟨k1,b,r,since,seen,last,es,clock,hv,hb,hr,h5,h6,h7,h8⟩:=hk
 have e1:=zW h h2 k1
 rw [hv] at e1
 have hob:w.heap[b]? = some (.mapIter (some r) since seen last):=h.sat b _ hb
 have hor:w.heap[r]? = some (.map es clock):=h.sat r _ hr
 have hgb:(getObj b).run E.P w = .ok (.mapIter (some r) since seen last) w:=by simp [getObj,Sem.run,hob]
 have hgr:(getObj r).run E.P w = .ok (.map es clock) w:=by simp [getObj,Sem.run,hor]
 have hset:∀ c o',(setObj b o').run E.P { w with drawn:=c } = .ok () (World.putObj { w with drawn:=c } b o'):=fun c o'=>by simp [setObj,Sem.run,hob,World.putObj]
 have hall : (!seen.isEmpty && !es.isEmpty && es.all (fun e => decide (e.born ≥ last))) = false := by
  cases hes:es.isEmpty with
  | true=>simp
  | false =>
   have:0 < es.size:=Nat.pos_of_ne_zero fun e=>by simp [Array.isEmpty,e] at hes
   have hx:=h6 _ (Array.getElem_mem this)
   have : es.all (fun e => decide (e.born ≥ last)) = false := by
    rw [Bool.eq_false_iff]
    intro hc
    have:=Array.all_eq_true.1 hc 0 this
    simp at this
    omega
   simp [this]
 have hold : (es.filter fun e => !seen.contains e.born).filter (fun e => decide (e.born < since)) = es.filter fun e => !seen.contains e.born := by
  rw [Array.filter_eq_self]
  intro e he
  simp only [decide_eq_true_eq]
  exact h6 e (Array.mem_filter.1 he).1
 have hnew : (es.filter fun e => !seen.contains e.born).filter (fun e => decide (e.born ≥ since)) = #[] := by
  rw [Array.filter_eq_empty_iff]
  intro e he
  have:=h6 e (Array.mem_filter.1 he).1
  simp; omega
 by_cases hl:(es.filter fun e=>!seen.contains e.born) = #[]
 ·have hdone : ∀ e ∈ es, seen.contains e.born = true := by
   intro e he
   have:=(Array.filter_eq_empty_iff.1 hl) e he
   simpa using this
  refine wN (v:=.tuple #[.bool false]) (w':=w) (fun _=>trivial) hnd ?_ ⟨_,_,⟨β,h.setD hd _ (.val _) rfl⟩,h7 hdone⟩
  have : (Instr.next (.pointer (some ⟨b, 0, none⟩)) false o.type).run E.P w = .ok (.tuple #[.bool false]) w := by
   have hc1:(choose (.mapNext 1)).run E.P w = .ok 0 w:=by simp [choose,Sem.run,Question.forced]
   have he1:(#[]:Array MapEntry).isEmpty=true:=rfl
   have hfe:∀ p:MapEntry→Bool,Array.filter p #[] = #[]:=fun p=>by simp
   have hsz:(#[none]:Array (Option MapEntry)).size=1:=rfl
   have hg0:(#[none]:Array (Option MapEntry))[0]? = some none:=rfl
   simp only [Instr.next,Sem.run_bind,hgb,hgr,Result.andThen,hall,hl,hfe,he1,if_true,Bool.false_eq_true,if_false,Array.append_empty,List.map_toArray,List.map_nil,hsz,hc1,hg0,Sem.run_pure]
  simp [execOp,ho,e1,Sem.run_bind,Result.andThen,this,pure,Sem.run]
 ·have hpos:0 < (es.filter fun e=>!seen.contains e.born).size:=Nat.pos_of_ne_zero fun e=>hl (Array.eq_empty_of_size_eq_zero e)
  obtain⟨j,w',hj,hlt,c,rfl⟩:=zSm E.P w (es.filter fun e=>!seen.contains e.born).size
  have hlt:=hlt hpos
  have hm:=Array.getElem_mem hlt
  generalize he:(es.filter fun e=>!seen.contains e.born)[j]=e at hm
  have hm':=Array.mem_filter.1 hm
  have hk8:=h8 e hm'.1 (by simpa using hm'.2)
  have hd':=h.drawn c
  have hp:=zAq hd'.sat hb (o:=.mapIter (some r) since (seen.push e.born) clock) (x:=.obj (.mapIter (some r) since (seen.push e.born) clock)) rfl (by rw [show({ w with drawn:=c }:World).heap[b]? = _ from hd'.sat _ _ hb]; rfl)
  refine wN (v:=.tuple #[.bool true,e.key,e.val]) (w':=World.putObj { w with drawn:=c } b (.mapIter (some r) since (seen.push e.born) clock)) (fun _=>trivial) hnd ?_ ⟨_,_,⟨β,(hd'.move hp.1 hp.2).setD hd _ (.val _) rfl⟩,hk8⟩
  have : (Instr.next (.pointer (some ⟨b, 0, none⟩)) false o.type).run E.P w = .ok (.tuple #[.bool true, e.key, e.val]) (World.putObj { w with drawn := c } b (.mapIter (some r) since (seen.push e.born) clock)) := by
   have hne:(es.filter fun e=>!seen.contains e.born).isEmpty=false:=by simpa [Array.isEmpty] using hl
   have hget : ((es.filter fun e => !seen.contains e.born).map some)[j]? = some (some e) := by
    rw [Array.getElem?_map,Array.getElem?_eq_getElem hlt,he]; rfl
   simp only [Instr.next,Sem.run_bind,hgb,hgr,Result.andThen,hall,hold,hnew,hne,Bool.false_eq_true,if_false,Array.append_empty,Array.empty_append,Array.size_map,hj,hget,hset,Sem.run_pure]
  simp [execOp,ho,e1,Sem.run_bind,Result.andThen,this,pure,Sem.run]
theorem yOj (h : yT n w0 H0 fr H a w β) {o : Oper} {d : Option Nat} (hd : vN n o.dst d = true) (hnd : ∀ c, o.op ≠ .defer c) {I : Operand} {it : Arg}
  (ho:o.op = .entry I) (h2:zQ E I it=true)
  {K:Fr→Hp→Prop} (hk:xU E (.ent it) d fr H K) {Q:Exit→Act→World→Prop}:o.wpIn (FW ro) 0 E.P a w (pW n w0 H0 K) Q:=by
 obtain⟨k1,b,r,since,seen,es,clock,stamp,e,hv,hb,hr,h5,h6,hkk⟩:=hk
 have e1:=zW h h2 k1
 rw [hv] at e1
 have hob:w.heap[b]? = some (.mapIter (some r) since seen clock):=h.sat b _ hb
 have hor:w.heap[r]? = some (.map es clock):=h.sat r _ hr
 have hgb:(getObj b).run E.P w = .ok (.mapIter (some r) since seen clock) w:=by simp [getObj,Sem.run,hob]
 have hgr:(getObj r).run E.P w = .ok (.map es clock) w:=by simp [getObj,Sem.run,hor]
 have hrun : (Instr.entry (.pointer (some ⟨b, 0, none⟩))).run E.P w = .ok (.tuple #[e.key, e.val]) w := by
  simp only [Instr.entry,Sem.run_bind,hgb,hgr,Result.andThen,h5,h6,bne_self_eq_false,Bool.false_eq_true,if_false,Sem.run_pure]
 exact wN (v:=.tuple #[e.key,e.val]) (w':=w) (fun _=>trivial) hnd (by simp [execOp,ho,e1,Sem.run_bind,Result.andThen,hrun,pure,Sem.run]) ⟨_,_,⟨β,h.setD hd _ (.val _) rfl⟩,hkk⟩
theorem yMq (h : yT n w0 H0 fr H a w β) {o : Oper} {x : pB} {d : Option Nat} (hd : vN n o.dst d = true) (hc : zCy E o.op x = true)
  {K:Fr→Hp→Prop} (hk:xU E x d fr H K) {Q:Exit→Act→World→Prop}:o.wpIn (FW ro) 0 E.P a w (pW n w0 H0 K) Q:=by
 have hnd:=zGu hc
 unfold zCy at hc
 split at hc
 ·exact hk.elim
 ·exact hk.elim
 ·exact hk.elim
 ·-- store
  rename_i t X V m x v ho
  simp only [Bool.and_eq_true] at hc
  obtain⟨⟨h1,h2⟩,h3⟩:=hc
  obtain⟨k1,k2,k3,k4,k5⟩:=hk
  have hu:=zAo h h2 k1
  have ev:=zW h h3 k2
  have hsz:(vo E fr v).cells.size=m:=by simpa using k3
  split at k5
  ·rename_i s o' hp
   rw [hp] at hu
   obtain⟨b,hb,he⟩:=hu
   split at k5
   ·rename_i vs hs
    obtain⟨k5,k6⟩:=k5
    obtain⟨b0,T,hb0,ht,hh⟩:=h.slots _ _ hs rfl
    rw [hb] at hb0
    cases hb0
    refine zDz (w':=w.putObj b (.cells (xC vs o' (vo E fr v).cells.toList).toArray T (0,0))) (fun _=>trivial) hnd ?_ ⟨_,_,⟨β,((h.upb hs hb _).setD hd undef (.val undef) rfl)⟩,k6⟩
    have hst:=kV (P:=E.P) (vo E fr v).cells.toList 0 (o:=o') hh (by simp; omega) (fun j _ _ hj=>by simp at hj) k4
    simp only [Nat.add_zero] at hst
    simp [execOp,ho,Instr.storeAt,Instr.sureAddr,storeVar,ev,he,Sem.run_bind,Result.andThen,wL h1,hsz,hst,pure,Sem.run]
   ·exact k5.elim
  ·rename_i ad hp
   rw [hp] at hu
   simp only [wF] at hu
   obtain⟨hsp,k5⟩:=k5
   obtain⟨b,o',sp⟩:=ad
   simp only at hsp
   subst hsp
   split at k5
   ·rename_i vs cap hH
    obtain⟨k5,k6⟩:=k5
    obtain⟨c,T,fz,hh,hcap,hpre,hfz⟩:=h.sat _ _ hH
    have hle:vs.length≤c.size:=by simpa using hpre.length_le
    have hfz':=hfz rfl
    simp only at k5 hh hH k6
    have hst:=kV (P:=E.P) (vo E fr v).cells.toList 0 (o:=o') hh (by simp; omega) (fun j _ hj=>hfz' j (by simp at hj; omega)) k4
    simp only [Nat.add_zero] at hst
    have hkp := zAq h.sat hH (o := .cells (xC c.toList o' (vo E fr v).cells.toList).toArray T fz) (x := .row (xC vs o' (vo E fr v).cells.toList) cap true)
     ⟨_,_,_,rfl,by simp; rw [pU (by simp; omega)]; simpa using hcap,by simpa using zLq hpre (by simp; omega),fun _=>hfz'⟩ (by rw [hh]; simp only [shp]; rw [List.size_toArray,pU (by simp; omega)]; simp)
    refine zDz (w':=w.putObj b (.cells (xC c.toList o' (vo E fr v).cells.toList).toArray T fz)) (fun _=>trivial) hnd ?_ ⟨_,_,⟨β,(h.move hkp.1 hkp.2).setD hd undef (.val undef) rfl⟩,k6⟩
    simp [execOp,ho,Instr.storeAt,Instr.sureAddr,storeVar,ev,hu,Sem.run_bind,Result.andThen,wL h1,hsz,hst,pure,Sem.run]
   ·exact k5.elim
  ·exact k5.elim
 ·-- newH
  rename_i t z ho
  have hp:=uC (w:=w) h.sat (o:=.cells z.toArray t) (x:=.row z z.length true) ⟨_,_,_,rfl,by simp,by simp,fun _ i _ hi=>by simp at hi⟩
  refine wN (fun _=>trivial) hnd (by simp [execOp,ho,Sem.run_bind,Result.andThen,zGj hc,pure,Sem.run]) ⟨_,_,⟨β,(h.move hp.1 hp.2.1).setD hd _ (.val _) rfl⟩,hk _ hp.2.2⟩
 ·-- newT
  rename_i t k z ho
  simp only [Bool.and_eq_true,beq_iff_eq] at hc
  obtain⟨hc,rfl⟩:=hc
  have hp:=uC (w:=w) h.sat (o:=.cells z.toArray (E.gl k)) (x:=.obj (.cells z.toArray (E.gl k) (0,0))) rfl
  refine wN (fun _=>trivial) hnd (by simp [execOp,ho,Sem.run_bind,Result.andThen,zGj hc,pure,Sem.run]) ⟨_,_,⟨β,(h.move hp.1 hp.2.1).setD hd _ (.val _) rfl⟩,hk _ hp.2.2⟩
 ·-- a typed load
  rename_i t X x ho
  simp only [Bool.and_eq_true] at hc
  obtain⟨k1,b,o',c,T,fz,v,hv,hH,hcv,hkk⟩:=hk
  have e1:=zW h hc.2 k1
  rw [hv] at e1
  have hh:w.heap[b]? = some (.cells c T fz):=h.sat _ _ hH
  have hlt:o' < c.size:=(Array.getElem?_eq_some_iff.1 hcv).1
  have hl:=zDw (E:=E) hc.1 hh (List.prefix_refl _) (o:=o') (by simp [zHY]; omega)
  have hp:zBa none c.toList o'=v:=by simp [zBa,hcv]
  rw [hp] at hl
  exact wN (v:=v) (w':=w) (fun _=>trivial) hnd (by simp [execOp,ho,Instr.loadAt,e1,Instr.sureAddr,Sem.run_bind,Result.andThen,hl,pure,Sem.run]) ⟨_,_,⟨β,h.setD hd _ (.val _) rfl⟩,hkk⟩
 ·-- a typed store
  rename_i t X V x v ho
  simp only [Bool.and_eq_true] at hc
  obtain⟨⟨h1,h2⟩,h3⟩:=hc
  obtain⟨k1,k2,k3,k4,b,o',c,T,hv,hH,hlt,hkk⟩:=hk
  have e1:=zW h h2 k1
  rw [hv] at e1
  have ev:=zW h h3 k2
  have hsz:(vo E fr v).cells.size=1:=by simpa using k3
  have hh:w.heap[b]? = some (.cells c T (0,0)):=h.sat _ _ hH
  have hst:=kV (P:=E.P) (vo E fr v).cells.toList 0 (o:=o') hh (by simp; omega) (fun j _ hj=>by simp) k4
  simp only [Nat.add_zero] at hst
  have hkp := zAq h.sat hH (o := .cells (xC c.toList o' (vo E fr v).cells.toList).toArray T (0, 0)) (x := .obj (.cells (xC c.toList o' (vo E fr v).cells.toList).toArray T (0, 0)))
   rfl (by rw [hh]; simp only [shp]; rw [List.size_toArray,pU (by simp; omega)]; simp) (fun _=>by rw [hH]; trivial)
  refine zDz (w':=w.putObj b (.cells (xC c.toList o' (vo E fr v).cells.toList).toArray T (0,0))) (fun _=>trivial) hnd ?_ ⟨_,_,⟨β,(h.move hkp.1 hkp.2).setD hd undef (.val undef) rfl⟩,hkk⟩
  simp [execOp,ho,Instr.storeAt,Instr.sureAddr,storeVar,ev,e1,Sem.run_bind,Result.andThen,wL h1,hsz,hst,pure,Sem.run]
 ·-- boxH
  rename_i t X x ho
  obtain⟨k1,k2⟩:=hk
  have ev:=zW h hc k1
  have hp:=uC (w:=w) h.sat (o:=.cells (vo E fr x).cells t) (x:=.row (vo E fr x).cells.toList (vo E fr x).cells.toList.length true) ⟨_,_,_,rfl,by simp,by simp,fun _ i _ hi=>by simp at hi⟩
  refine wN (fun _=>trivial) hnd (by simp [execOp,ho,ev,Sem.run_bind,Result.andThen,zYs,pure,Sem.run]) ⟨_,_,⟨β,(h.move hp.1 hp.2.1).setD hd _ (.val _) rfl⟩,k2 _ hp.2.2⟩
 ·exact hk.elim
 ·-- call
  rename_i g args ats f xs ho
  simp only [Bool.and_eq_true,beq_iff_eq] at hc
  obtain⟨⟨rfl,h2⟩,h3⟩:=hc
  obtain⟨k1,Q',hfn,k2⟩:=hk
  have e:=zCc h h3 k1
  refine zSj h hd hnd (args:=xs.map (vo E fr)) ?_ hfn k2
  have:args.map a.eval=(xs.map (vo E fr)).toArray:=by apply Array.toList_inj.1; simpa using e
  simp [execOp,ho,resolve,Act.eval,Deferred.ofValue,invoke,Sem.run_bind,Result.andThen,zBT h2,this,pure,Sem.run]
 ·-- a literal
  rename_i t len parts size l zero ps ho
  simp only [Bool.and_eq_true,beq_iff_eq] at hc
  obtain⟨rfl,hc⟩:=hc
  split at hc
  ·rename_i e hu
   simp only [Bool.and_eq_true,decide_eq_true_eq] at hc
   obtain⟨⟨⟨h1,h2⟩,h3⟩,h4⟩:=hc
   split at h4
   ·rename_i zc hz
    have hrun:=ySZ h hu h1 h2 h3 hz (zCg h4) hk.1
    have hlen : ∀ (qs : List (Nat × Nat × Arg)) (cells : List Value), zAL E fr cells.length qs → (qH E fr cells qs).length = cells.length := by
     intro qs
     induction qs with
     | nil=>intro cells _; rfl
     | cons q qs ih =>
      obtain⟨off,sz,y⟩:=q
      intro cells hf
      have hs:=zFI (l:=cells) (k:=off) (vs:=(vo E fr y).cells.toList) (by have:=hf.2.1; have:=hf.2.2.1; omega)
      simp only [qH]
      rw [ih _ (by rw [hs]; exact hf.2.2.2),hs]
    have hp:=uC (w:=w) h.sat (o:=.cells (qH E fr zero ps).toArray e) (x:=.row (qH E fr zero ps) zero.length true) ⟨_,_,_,rfl,by simp [hlen ps zero hk.1],by simp,fun _ i _ hi=>by simp at hi⟩
    refine wN (fun _=>trivial) hnd (by simp [execOp,ho,Sem.run_bind,Result.andThen,hrun,pure,Sem.run]) ⟨_,_,⟨β,(h.move hp.1 hp.2.1).setD hd _ (.val _) rfl⟩,hk.2 _ hp.2.2⟩
   ·cases h4
  ·cases hc
 ·-- make
  rename_i t L C size bytes zero l c ho
  simp only [Bool.and_eq_true] at hc
  obtain⟨⟨h1,h2⟩,h3⟩:=hc
  obtain⟨k1,k2,k3⟩:=hk
  have e1:=zW h h2 k1
  have e2:=zW h h3 k2
  split at h1
  ·rename_i e hu
   split at k3
   ·rename_i kl p kc q hp hq
    rw [hp] at e1; rw [hq] at e2
    obtain⟨g0,g1,g2,g3,k4⟩:=k3
    have hrun:=run_mk (w:=w) (kl:=kl) (kc:=kc) hu h1 g0 g1 g2 g3
    obtain⟨_,_,_,_,_,_,_,hzl,_⟩:=jD h1
    have hpu:=uC (w:=w) h.sat (o:=.cells (rep zero q.toNat).toArray e) (x:=.row (rep zero p.toNat) (q.toNat * size) true) ⟨_,_,_,rfl,by simp [zFE,hzl],by simpa using yGC zero (by omega),fun _ i _ hi=>by simp at hi⟩
    refine wN (fun _=>trivial) hnd (by simp [execOp,ho,e1,e2,Sem.run_bind,Result.andThen,hrun,pure,Sem.run]) ⟨_,_,⟨β,(h.move hpu.1 hpu.2.1).setD hd _ (.val _) rfl⟩,k4 _ hpu.2.2⟩
   ·exact k3.elim
  ·cases h1
 ·-- append
  rename_i args ats size bytes zero s x ho
  split at hc
  ·rename_i t0 t1 S X ht hx
   have ea:args = #[S,X]:=by apply Array.toList_inj.1; simpa using hx
   have et:ats = #[t0,t1]:=by apply Array.toList_inj.1; simpa using ht
   subst ea; subst et
   simp only [Bool.and_eq_true] at hc
   obtain⟨⟨⟨h1,h2⟩,h3⟩,h4⟩:=hc
   obtain⟨k1,k2,k3,k4,k5⟩:=hk
   have e1:=zW h h3 k1
   have e2:=zW h h4 k2
   split at h1
   ·rename_i e hu
    have hu1 : (∃ d, E.P.underlying t1 = some (.slice d)) ∨ E.P.underlying t1 = some .string := by
     split at h2
     ·rename_i d hd; exact .inl ⟨d,hd⟩
     ·rename_i hd; exact .inr hd
     ·cases h2
    obtain⟨_,_,_,_,_,_,_,_,hpos⟩:=jD h1
    have hlen:=(zDq (E:=E) h.sat k3).2.2
    have done : ∀ (v : Value) (w' : World) (H' : Hp), (Builtin.append_ #[t0, t1] o.type #[vo E fr s, vo E fr x]).run E.P w = .ok v w' → Sat w'.heap H' → Kept H w w' H' → K (setD fr d ⟨true, .val v⟩) H' →
      o.wpIn (FW ro) 0 E.P a w (pW n w0 H0 K) Q:=by
     intro v w' H' hrun hs hkp hkk
     refine wN (w':=w') (v:=v) (fun _=>trivial) hnd (by simp [execOp,ho,resolve,invoke,builtin,e1,e2,Sem.run_bind,Result.andThen,hrun,pure,Sem.run]) ⟨_,_,⟨β,(h.move hs hkp).setD hd v (.val v) rfl⟩,hkk⟩
    split at k5
    ·rename_i hv
     obtain⟨g1,g2,g3,g4⟩:=k5
     by_cases h0:zV (vo E fr x)=0
     ·refine done (.slice none 0 0) w H (by rw [hv]; exact zGz h.sat hu hu1 h1 k3 h0) h.sat ⟨rfl,rfl,rfl,Nat.le_refl _,fun _ _ _=>rfl,fun b o hb=>.inl (by rw [hb]; simp),fun _ _ ht=>⟨rfl,ht⟩⟩ (g3 h0)
     ·obtain⟨cap,rest,hc1,hc2,hrun⟩:=zBW (E:=E) (ty:=o.type) h.sat hu hu1 h1 k3 (base:=none) (m:=0) (c:=0) (olds:=[]) rfl (by simpa using g1) (by simpa using g2) (by omega)
      simp only [Nat.zero_add,List.nil_append] at hc1 hc2 hrun
      have hpu := uC (w := w.drew) (H := H) h.sat (o := .cells (zN H size (vo E fr x) ++ rest).toArray e) (x := .row (zN H size (vo E fr x)) (cap * size) true)
       ⟨_,_,_,rfl,by simp [hlen,hc2]; rw [← Nat.add_mul]; congr 1; omega,by simp,fun _ i _ hi=>by simp at hi⟩
      exact done _ (w.drew.alloc (.cells (zN H size (vo E fr x) ++ rest).toArray e)) (H.put w.heap.size (.row (zN H size (vo E fr x)) (cap * size) true)) (by rw [hv]; exact hrun) hpu.1 ⟨rfl,rfl,rfl,hpu.2.1.size,hpu.2.1.same,hpu.2.1.fresh,hpu.2.1.shape⟩ (g4 (by omega) _ cap hpu.2.2)
    ·rename_i b0 m cap0 hv
     obtain⟨g1,g2,g3⟩:=k5
     split at g3
     ·rename_i vs capc hH
      obtain⟨g4,g5,g6⟩:=g3
      subst g5
      obtain⟨cc,T,fz,hh,hcc,hpre,hfz⟩:=h.sat _ _ hH
      have hle:vs.length≤cc.size:=by simpa using hpre.length_le
      by_cases hroom:m + zV (vo E fr x)≤cap0
      ·have hrun:=zGs (E:=E) (ty:=o.type) h.sat hu hu1 h1 k3 hh hcc (fun i hi=>hfz rfl i (by omega)) k4 hroom
       have hspl:m * size + (zN H size (vo E fr x)).length≤cc.size:=by rw [hlen,hcc,← Nat.add_mul]; exact Nat.mul_le_mul_right _ hroom
       have hkp := zAq h.sat hH (o := .cells (xC cc.toList (m * size) (zN H size (vo E fr x))).toArray T fz) (x := .row (vs ++ zN H size (vo E fr x)) (cap0 * size) true)
        ⟨_, _, _, rfl, by simp; rw [pU (by simpa using hspl)]; simpa using hcc, by
         obtain⟨r,hr⟩:=hpre
         simp only [xC,← hr]
         rw [← g4,List.take_left]
         exact List.prefix_append _ _,fun _=>hfz rfl⟩ (by rw [hh]; simp only [shp]; rw [List.size_toArray,pU (by simpa using hspl)]; simp)
       have hd0 : (H.del b0).put b0 (.row (vs ++ zN H size (vo E fr x)) (cap0 * size) true) = H.put b0 (.row (vs ++ zN H size (vo E fr x)) (cap0 * size) true) := by
        funext c; simp only [Hp.put,Hp.del]; split<;>rfl
       have:=g6 b0 cap0 (Hp.del_same ..)
       rw [hd0] at this
       exact done _ _ _ (by rw [hv]; exact hrun) hkp.1 hkp.2 this
      ·have hfc : (Builtin.firstCells size m (.slice (some ⟨b0, 0, none⟩) m cap0)).run E.P w.drew = .ok vs.toArray w.drew := by
        have:=run_loadCellsFrom (E:=E) (w:=w.drew) hh hpre 0 (m * size) 0 #[] (by omega)
        simp only [Builtin.firstCells,loadCells,this]
        simp [← g4]
       obtain⟨cap,rest,hc1,hc2,hrun⟩:=zBW (E:=E) (ty:=o.type) h.sat hu hu1 h1 k3 hfc g1 g2 (by omega)
       have hsd : Sat w.heap (H.del b0) := fun b o hb => by
        by_cases eb:b=b0
        ·subst eb; rw [Hp.del_same] at hb; cases hb
        ·rw [Hp.del_ne _ eb] at hb; exact h.sat b o hb
       have hpu := uC (w := w.drew) (H := H.del b0) hsd (o := .cells (vs ++ zN H size (vo E fr x) ++ rest).toArray e) (x := .row (vs ++ zN H size (vo E fr x)) (cap * size) true)
        ⟨_,_,_,rfl,by simp [hlen,hc2,g4]; rw [← Nat.add_assoc,← Nat.add_mul,← Nat.add_mul]; congr 1; omega,by simp,fun _ i _ hi=>by simp at hi⟩
       refine done _ (w.drew.alloc (.cells (vs ++ zN H size (vo E fr x) ++ rest).toArray e)) ((H.del b0).put w.heap.size (.row (vs ++ zN H size (vo E fr x)) (cap * size) true)) (by rw [hv]; exact hrun) hpu.1 ⟨rfl,rfl,rfl,hpu.2.1.size,fun b hb h0=>?_,fun b y hb=>?_,fun b hb ht=>hpu.2.1.shape b hb (fun hx=>ht hx.del)⟩ (g6 _ cap hpu.2.2)
       ·refine hpu.2.1.same b hb ?_
        simp only [Hp.del]; split
        ·rfl
        ·exact h0
       ·rcases hpu.2.1.fresh b y hb with h5 | h5
        ·refine .inl fun h6=>h5 ?_
         simp only [Hp.del]; split
         ·rfl
         ·exact h6
        ·exact .inr h5
     ·exact g3.elim
    ·exact k5.elim
   ·cases h1
  ·cases hc
 ·-- append, typed
  rename_i args ats kk bytes zero s x ho
  split at hc
  ·rename_i t0 t1 S X ht hx
   have ea:args = #[S,X]:=by apply Array.toList_inj.1; simpa using hx
   have et:ats = #[t0,t1]:=by apply Array.toList_inj.1; simpa using ht
   subst ea; subst et
   simp only [Bool.and_eq_true] at hc
   obtain⟨⟨⟨h1,h2⟩,h3⟩,h4⟩:=hc
   obtain⟨k1,k2,k3,k4,k5⟩:=hk
   have e1:=zW h h3 k1
   have e2:=zW h h4 k2
   split at h1
   ·rename_i e hu
    simp only [Bool.and_eq_true,beq_iff_eq] at h1
    obtain⟨h1,rfl⟩:=h1
    have hu1 : (∃ d, E.P.underlying t1 = some (.slice d)) ∨ E.P.underlying t1 = some .string := by
     split at h2
     ·rename_i d hd; exact .inl ⟨d,hd⟩
     ·rename_i hd; exact .inr hd
     ·cases h2
    have hlen:=(zDq (E:=E) h.sat k3).2.2
    rw [Nat.mul_one] at hlen
    have done : ∀ (v : Value) (w' : World) (H' : Hp), (Builtin.append_ #[t0, t1] o.type #[vo E fr s, vo E fr x]).run E.P w = .ok v w' → Sat w'.heap H' → Kept H w w' H' → K (setD fr d ⟨true, .val v⟩) H' →
      o.wpIn (FW ro) 0 E.P a w (pW n w0 H0 K) Q:=by
     intro v w' H' hrun hs hkp hkk
     refine wN (w':=w') (v:=v) (fun _=>trivial) hnd (by simp [execOp,ho,resolve,invoke,builtin,e1,e2,Sem.run_bind,Result.andThen,hrun,pure,Sem.run]) ⟨_,_,⟨β,(h.move hs hkp).setD hd v (.val v) rfl⟩,hkk⟩
    split at k5
    ·rename_i hv
     obtain⟨g1,g2,g3,g4⟩:=k5
     by_cases h0:zV (vo E fr x)=0
     ·refine done (.slice none 0 0) w H (by rw [hv]; exact zGz h.sat hu hu1 h1 k3 h0) h.sat ⟨rfl,rfl,rfl,Nat.le_refl _,fun _ _ _=>rfl,fun b o hb=>.inl (by rw [hb]; simp),fun _ _ ht=>⟨rfl,ht⟩⟩ (g3 h0)
     ·obtain⟨cap,rest,hc1,hc2,hrun⟩:=zBW (E:=E) (ty:=o.type) h.sat hu hu1 h1 k3 (base:=none) (m:=0) (c:=0) (olds:=[]) rfl (by simpa using g1) (by simpa using g2) (by omega)
      simp only [Nat.zero_add,List.nil_append,Nat.mul_one] at hc1 hc2 hrun
      have hpu:=uC (w:=w.drew) (H:=H) h.sat (o:=.cells (zN H 1 (vo E fr x) ++ rest).toArray (E.gl kk)) (x:=.obj (.cells (zN H 1 (vo E fr x) ++ rest).toArray (E.gl kk) (0,0))) rfl
      exact done _ (w.drew.alloc (.cells (zN H 1 (vo E fr x) ++ rest).toArray (E.gl kk))) _ (by rw [hv]; exact hrun) hpu.1 ⟨rfl,rfl,rfl,hpu.2.1.size,hpu.2.1.same,hpu.2.1.fresh,hpu.2.1.shape⟩ (g4 (by omega) _ cap rest hpu.2.2 hc1 hc2)
    ·rename_i b0 m cap0 hv
     obtain⟨g1,g2,g0,cc,hH,hcc,g6⟩:=k5
     have hh:w.heap[b0]? = some (.cells cc (E.gl kk) (0,0)):=h.sat _ _ hH
     by_cases hroom:m + zV (vo E fr x)≤cap0
     ·have hrun:=zGs (E:=E) (ty:=o.type) h.sat hu hu1 h1 k3 hh (by simpa using hcc) (fun i hi=>by simp) k4 hroom
      rw [Nat.mul_one] at hrun
      have hsp:xC cc.toList m (zN H 1 (vo E fr x))=cc.toList.take m ++ zN H 1 (vo E fr x) ++ cc.toList.drop (m + zV (vo E fr x)):=by simp only [xC,hlen]
      have hkp := zAq h.sat hH (o := .cells (xC cc.toList m (zN H 1 (vo E fr x))).toArray (E.gl kk) (0, 0)) (x := .obj (.cells (xC cc.toList m (zN H 1 (vo E fr x))).toArray (E.gl kk) (0, 0)))
       rfl (by rw [hh]; simp only [shp]; rw [List.size_toArray,pU (by simp; omega)]; simp) (fun _=>by rw [hH]; trivial)
      have hd0 : (H.del b0).put b0 (.obj (.cells (xC cc.toList m (zN H 1 (vo E fr x))).toArray (E.gl kk) (0, 0))) = H.put b0 (.obj (.cells (xC cc.toList m (zN H 1 (vo E fr x))).toArray (E.gl kk) (0, 0))) := by
       funext c; simp only [Hp.put,Hp.del]; split<;>rfl
      have:=g6 b0 cap0 (cc.toList.drop (m + zV (vo E fr x))) (Hp.del_same ..) hroom (by simp [hcc])
      rw [← hsp,hd0] at this
      exact done _ _ _ (by rw [hv]; exact hrun) hkp.1 hkp.2 this
     ·have hfc : (Builtin.firstCells 1 m (.slice (some ⟨b0, 0, none⟩) m cap0)).run E.P w.drew = .ok (cc.toList.take m).toArray w.drew := by
       have:=run_loadCellsFrom (E:=E) (w:=w.drew) hh (List.prefix_refl _) 0 m 0 #[] (by simp; omega)
       simp only [Builtin.firstCells,loadCells,Nat.mul_one,this]
       simp
      obtain⟨cap,rest,hc1,hc2,hrun⟩:=zBW (E:=E) (ty:=o.type) h.sat hu hu1 h1 k3 hfc g1 g2 (by omega)
      rw [Nat.mul_one] at hc2
      have hsd : Sat w.heap (H.del b0) := fun b o hb => by
       by_cases eb:b=b0
       ·subst eb; rw [Hp.del_same] at hb; cases hb
       ·rw [Hp.del_ne _ eb] at hb; exact h.sat b o hb
      have hpu:=uC (w:=w.drew) (H:=H.del b0) hsd (o:=.cells (cc.toList.take m ++ zN H 1 (vo E fr x) ++ rest).toArray (E.gl kk)) (x:=.obj (.cells (cc.toList.take m ++ zN H 1 (vo E fr x) ++ rest).toArray (E.gl kk) (0,0))) rfl
      refine done _ (w.drew.alloc (.cells (cc.toList.take m ++ zN H 1 (vo E fr x) ++ rest).toArray (E.gl kk))) ((H.del b0).put w.heap.size (.obj (.cells (cc.toList.take m ++ zN H 1 (vo E fr x) ++ rest).toArray (E.gl kk) (0,0)))) (by rw [hv]; exact hrun) hpu.1 ⟨rfl,rfl,rfl,hpu.2.1.size,fun b hb h0=>?_,fun b y hb=>?_,fun b hb ht=>hpu.2.1.shape b hb (fun hx=>ht hx.del)⟩ (g6 _ cap rest hpu.2.2 hc1 hc2)
      ·refine hpu.2.1.same b hb ?_
       simp only [Hp.del]; split
       ·rfl
       ·exact h0
      ·rcases hpu.2.1.fresh b y hb with h5 | h5
       ·refine .inl fun h6=>h5 ?_
        simp only [Hp.del]; split
        ·rfl
        ·exact h6
       ·exact .inr h5
    ·exact k5.elim
   ·cases h1
  ·cases hc
 ·-- a new map
  rename_i t ho
  have hp:=uC (w:=w) h.sat (o:=.map #[] 0) (x:=.obj (.map #[] 0)) rfl
  exact wN (fun _=>trivial) hnd (by simp [execOp,ho,Instr.makeMap,newObj,Sem.run_bind,Sem.run,Result.andThen,pure]) ⟨_,_,⟨β,(h.move hp.1 hp.2.1).setD hd _ (.val _) rfl⟩,hk.2 _ hp.2.2⟩
 ·-- a new map with a hint
  rename_i t R r ho
  simp only [Bool.and_eq_true] at hc
  obtain⟨⟨k1,k2⟩,k3⟩:=hk
  have e1:=zW h hc.2 k1
  have hp:=uC (w:=w) h.sat (o:=.map #[] 0) (x:=.obj (.map #[] 0)) rfl
  have h1:=hc.1
  split at h1
  ·rename_i kt et hu
   split at k2
   ·rename_i kk q hq
    rw [hq] at e1
    exact wN (fun _=>trivial) hnd (by simp [execOp,ho,e1,Instr.makeMap,asInt,asIntOf,run_underlying hu,newObj,Sem.run_bind,Sem.run,Result.andThen,pure]) ⟨_,_,⟨β,(h.move hp.1 hp.2.1).setD hd _ (.val _) rfl⟩,k3 _ hp.2.2⟩
   ·exact k2.elim
  ·cases h1
 ·-- a look
  rename_i t M I ok ag ks zero ok' m k ho
  simp only [Bool.and_eq_true,beq_iff_eq] at hc
  obtain⟨⟨⟨rfl,h1⟩,h2⟩,h3⟩:=hc
  split at h1
  ·rename_i kt et hu
   simp only [Bool.and_eq_true] at h1
   exact yGZ h hd hnd ho hu h1.1 h1.2 h2 h3 hk
  ·cases h1
 ·-- an update
  rename_i t M I V ag ks m k v ho
  simp only [Bool.and_eq_true] at hc
  obtain⟨⟨⟨h1,h2⟩,h3⟩,h4⟩:=hc
  split at h1
  ·rename_i kt et hu
   exact zKH h hd hnd (.inl ho) hu h1 h2 h3 h4 hk
  ·cases h1
 ·-- an insertion
  rename_i t M I V ag ks m k v ho
  simp only [Bool.and_eq_true] at hc
  obtain⟨⟨⟨h1,h2⟩,h3⟩,h4⟩:=hc
  split at h1
  ·rename_i kt et hu
   exact zKH h hd hnd (.inr ho) hu h1 h2 h3 h4 hk
  ·cases h1
 ·-- an entry
  rename_i t M I ag ks zero m k ho
  simp only [Bool.and_eq_true] at hc
  obtain⟨⟨h1,h2⟩,h3⟩:=hc
  split at h1
  ·rename_i kt et hu
   simp only [Bool.and_eq_true] at h1
   exact yHN h hd hnd ho hu h1.1 h1.2 h2 h3 hk
  ·cases h1
 ·rename_i t M S V m s v ho
  simp only [Bool.and_eq_true] at hc
  exact yJs h hd hnd ho hc.1.1 hc.1.2 hc.2 hk
 ·rename_i t M m ho
  simp only [Bool.and_eq_true] at hc
  have h1:=hc.1
  split at h1
  ·rename_i kt et hu
   exact yJv h hd hnd ho hu hc.2 hk
  ·cases h1
 ·rename_i I it ho
  exact yME h hd hnd ho hc hk
 ·rename_i I it ho
  exact yOj h hd hnd ho hc hk
 ·-- the length of a map
  rename_i args ats m ho
  split at hc
  ·rename_i t M ht hx
   have ea:args = #[M]:=by apply Array.toList_inj.1; simpa using hx
   have et:ats = #[t]:=by apply Array.toList_inj.1; simpa using ht
   subst ea; subst et
   simp only [Bool.and_eq_true] at hc
   obtain⟨h1,h2⟩:=hc
   obtain⟨k1,k2⟩:=hk
   have e1:=zW h h2 k1
   split at h1
   ·rename_i kt et hu
    split at k2
    ·rename_i hm
     rw [hm] at e1
     exact wN (w':=w) (fun _=>trivial) hnd (by simp [execOp,ho,resolve,invoke,builtin,Builtin.len_,e1,Sem.run_bind,Result.andThen,yH hu,pure,Sem.run,goInt]) ⟨_,_,⟨β,h.setD hd (.int .i64 0) (.val _) rfl⟩,k2⟩
    ·rename_i r hm
     rw [hm] at e1
     split at k2
     ·rename_i es clock hH
      have hobj:w.heap[r]? = some (.map es clock):=h.sat r _ hH
      have hget:(getObj r).run E.P w = .ok (.map es clock) w:=by simp [getObj,Sem.run,hobj]
      exact wN (w':=w) (fun _=>trivial) hnd (by simp [execOp,ho,resolve,invoke,builtin,Builtin.len_,e1,Sem.run_bind,Result.andThen,yH hu,hget,pure,Sem.run,goInt]) ⟨_,_,⟨β,h.setD hd (.int .i64 es.size) (.val _) rfl⟩,k2⟩
     ·exact k2.elim
    ·exact k2.elim
   ·cases h1
  ·cases hc
 ·-- callv
  rename_i X args ats x xs ho
  simp only [Bool.and_eq_true] at hc
  obtain⟨h2,h3⟩:=hc
  obtain⟨k0,k1,Q',hfn,k2⟩:=hk
  have e0:=zW h h2 k0
  have e:=zCc h h3 k1
  have hargs:args.map a.eval=(xs.map (vo E fr)).toArray:=by apply Array.toList_inj.1; simpa using e
  have hcv:=hfn w h.sat
  unfold zFN at hcv
  split at hcv
  ·rename_i g first cap hx
   rw [hx] at e0
   refine zRc hnd (f:=g) (args:=(first.toList ++ xs.map (vo E fr) ++ cap.toList).toArray) ?_ (hcv.2.mono ?_)
   ·simp [execOp,ho,resolve,e0,Deferred.ofValue,invoke,Sem.run_bind,Result.andThen,zBT hcv.1,pure,Sem.run,e]
   ·rintro e w' ⟨v,H',rfl,hs,hkp,hq⟩
    exact⟨v,rfl,_,_,⟨β,(h.move hs hkp).setD hd v (.val v) rfl⟩,k2 v H' hq⟩
  ·rename_i l first cap hx
   rw [hx] at e0
   obtain⟨fn,tmps,assign,body,hy,hround⟩:=hcv
   have hrun : (execOp a.eval o).run E.P w = .ok (.round l fn tmps assign body) w := by
    have : (first ++ args.map a.eval) = (first.toList ++ xs.map (vo E fr)).toArray := by
     rw [hargs]; apply Array.toList_inj.1; simp
    simp [execOp,ho,resolve,e0,Deferred.ofValue,invoke,Sem.run_bind,Result.andThen,this,hy,pure,Sem.run]
   refine⟨fun f _=>trivial,?_⟩
   rw [Oper.semAt_eq _ _ _ hnd,hrun]
   refine⟨fun hd=>(by cases hd),?_⟩
   refine RoundIn.mono (R:=fun e w'=>∃ v H',e = .returned v∧Sat w'.heap H'∧Kept H w w' H'∧Q' v H') hround ?_
   rintro e w' ⟨v,H',rfl,hs,hkp,hq⟩
   exact⟨_,_,⟨β,(h.move hs hkp).setD hd v (.val v) rfl⟩,k2 v H' hq⟩
  ·exact hcv.elim
 ·cases hc
theorem zSa {o : Op} {f : Nat} {xs : List Arg} (h : zCy E o (.callp f xs) = true) :
  ∃ as ats,o = .call { callee:=.value (.func (E.fn f)),args:=as,argTypes:=ats }∧enters E.P (E.fn f)=true∧kT E as.toList xs=true:=by
 unfold zCy at h
 split at h
 all_goals (first | (rename_i hy; cases hy; done) | (cases h; done) | skip)
 all_goals simp_all
 obtain⟨⟨rfl,h1⟩,h2⟩:=h
 exact h1
theorem zAn (hr : Rel n w0 H0 fr H a w) {ops : Array Oper} {i : Nat} {o : Oper} {x : zA} (hi : ops[i]? = some o) (hc : zDW E n ops o x = true)
  {K:Fr→Hp→Prop} (h:vI E x fr H K) {Q:Exit→Act→World→Prop}:wpOpIn (FW ro) 0 E.P ops Q i (pW n w0 H0 K) a w:=by
 obtain⟨β,hr⟩:=hr
 simp only [zDW,Bool.and_eq_true] at hc
 obtain⟨⟨hd,hg⟩,hb⟩:=hc
 obtain⟨hgk,h⟩:=h
 have hnd:=zGu hb
 unfold wpOpIn
 simp only [hi,zOs hr hg hgk]
 have hfalse : ∀ p, yY fr x.guard = false → K (setD fr x.dst ⟨yY fr x.guard, p⟩) H → (∀ f, o.about E.P w a.eval = some f → (FW ro).fn f) ∧ pW n w0 H0 K (a.put o.dst undef) w := by
  intro p hgf hk
  rw [hgf] at hk
  exact⟨fun _ _=>trivial,_,_,⟨β,hr.skipD hd p⟩,hk⟩
 split at h
 ·-- simple
  rename_i y hop
  split
  ·rename_i hgt
   rw [hgt] at h
   have hs:=h.1 rfl
   rw [hop] at hb
   unfold zCy at hb
   split at hb
   ·rename_i t X x' ho hy
    cases hy
    have ev:=zW hr hb hs
    exact zHI hr hd hnd (T:=t) (vs:=(vo E fr x').cells.toList) (by simp [execOp,ho,ev,Sem.run_bind,Result.andThen,zYs,pure,Sem.run]) h.2
   ·rename_i t z ho hy
    cases hy
    exact zHI hr hd hnd (T:=t) (vs:=z) (by simp [execOp,ho,Sem.run_bind,Result.andThen,zGj hb,pure,Sem.run]) h.2
   ·rename_i y' hy _ _
    cases hy
    obtain⟨v,hrun,hv⟩:=yWw hr (o:=o) hb hs
    exact wN (fun _=>trivial) hnd hrun ⟨_,_,⟨β,hr.setD hd v _ hv⟩,h.2⟩
   all_goals (rename_i hy; first | cases hy | skip)
   cases hb
  ·rename_i hgf
   exact hfalse _ (by simpa using hgf) h.2
 ·-- a call with a known value
  rename_i f args hop
  obtain⟨v,h1,h2⟩:=h
  split
  ·rename_i hgt
   rw [hgt] at h2
   obtain⟨k1,k2⟩:=h1 hgt
   rw [hop] at hb
   obtain⟨as,ats,ho,hb2,hb3⟩:=zSa hb
   have e:=zCc hr hb3 k1
   refine zSj hr hd hnd (args:=args.map (vo E fr)) ?_ (Fn.keepH k2) (fun u H' hq=>?_)
   ·simp [execOp,ho,resolve,Act.eval,Deferred.ofValue,invoke,Sem.run_bind,Result.andThen,zBT hb2,pure,Sem.run]
    rw [← e]
    apply Array.toList_inj.1
    simp
   ·obtain⟨rfl,rfl⟩:=hq; exact h2
  ·rename_i hgf
   exact hfalse _ (by simpa using hgf) h2
 ·rename_i op h1 h2
  split
  ·rename_i hgt
   exact yMq hr hd hb (h.1 hgt)
  ·rename_i hgf
   have hgf:yY fr x.guard=false:=by simpa using hgf
   exact hfalse (.val undef) hgf (by rw [hgf]; exact h.2 hgf)
end
end Go.SL
