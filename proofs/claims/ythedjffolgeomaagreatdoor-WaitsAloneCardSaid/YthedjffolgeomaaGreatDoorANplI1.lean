/- Operations look at a frame through the slots that they name. -/
import Derived.Test.YthedjffolgeomaaGreatDoorANplI
namespace Go.SL
open Go
def zAc (x : Option Arg) : List Arg := match x with
 | none=>[]
 | some a=>[a]
def jS.args : jS → List Arg
 | .mov x=>[x]
 | .pick c a b=>[c,a,b]
 | .ld _ x=>[x]
 | .fld _ x=>[x]
 | .idx _ x i=>[x,i]
 | .idxa _ _ x i=>[x,i]
 | .len _ x=>[x]
 | .bin _ x y=>[x,y]
 | .eqb _ x y=>[x,y]
 | .eqs _ _ x y=>[x,y]
 | .eqn _ x y=>[x,y]
 | .not x=>[x]
 | .neg x=>[x]
 | .ext _ x=>[x]
 | .bld _ parts=>parts.map (fun p=>p.2.2)
 | .idxs x i=>[x,i]
 | .cvi _ x=>[x]
 | .cvs x=>[x]
 | .slc _ x lo hi mx=>x :: (zAc lo ++ zAc hi ++ zAc mx)
 | .slcs x lo hi=>x :: (zAc lo ++ zAc hi)
 | .box x=>[x]
 | .new _=>[]
 | .mkf _ first cap=>first ++ cap
 | .nilc x=>[x]
 | .mm _ x y=>[x,y]
 | .fldv _ _ x=>[x]
 | .nop=>[]
def pB.args : pB → List Arg
 | .sim x=>x.args
 | .st _ x v=>[x,v]
 | .newH _=>[]
 | .newT _ _=>[]
 | .ldo x=>[x]
 | .sto x v=>[x,v]
 | .boxH x=>[x]
 | .callp _ xs=>xs
 | .call _ xs=>xs
 | .callv x xs=>x :: xs
 | .mksl _ _ _ parts=>parts.map (fun p=>p.2.2)
 | .mk _ _ _ l c=>[l,c]
 | .app _ _ _ s x=>[s,x]
 | .appT _ _ _ s x=>[s,x]
 | .mkmap r=>zAc r
 | .look _ _ _ _ m k=>[m,k]
 | .upd _ _ m k v=>[m,k,v]
 | .mlen m=>[m]
 | .ment _ _ _ m k=>[m,k]
 | .est m s v=>[m,s,v]
 | .rng m=>[m]
 | .nxt it=>[it]
 | .ent it=>[it]
def vR (fr fr' : Fr) : Arg → Prop
 | .t s=>fr.get s=fr'.get s∧∀ c t o,fr.get s=some ⟨c,.lp t o⟩→fr.get t=fr'.get t
 | _=>True
section
variable {E:Env} {fr fr':Fr} {H:Hp}
theorem vR.vo {a:Arg} (h:vR fr fr' a):vo E fr a=SL.vo E fr' a:=by cases a<;>simp_all [vR,SL.vo]
theorem vR.vok {a:Arg} (h:vR fr fr' a):vok fr a=SL.vok fr' a:=by cases a<;>simp_all [vR,SL.vok]
theorem vR.pvo {a:Arg} (h:vR fr fr' a):pvo E fr a=SL.pvo E fr' a:=by cases a<;>simp_all [vR,SL.pvo,SL.vo]
theorem vR.pok {a:Arg} (h:vR fr fr' a):pok fr a=SL.pok fr' a:=by cases a<;>simp_all [vR,SL.pok]
theorem yLl {a : Arg} {t o : Nat} (h : pvo E fr a = .lp t o) : ∃ s, a = .t s ∧ ((s = t ∧ o = 0 ∧ ∃ c vs, fr.get s = some ⟨c, .box vs⟩) ∨ ∃ c, fr.get s = some ⟨c, .lp t o⟩) := by
 cases a with
 | t s =>
  refine⟨s,rfl,?_⟩
  simp only [SL.pvo] at h
  split at h
  ·rename_i c vs he; cases h; exact .inl ⟨rfl,rfl,_,_,he⟩
  ·rename_i c p hp he; subst h; exact .inr ⟨c,he⟩
  ·cases h
 | c=>simp [SL.pvo] at h
 | g=>simp [SL.pvo] at h
 | f=>simp [SL.pvo] at h
theorem vR.get_lp {a : Arg} {t o : Nat} (h : vR fr fr' a) (hp : SL.pvo E fr a = .lp t o) : fr.get t = fr'.get t := by
 obtain⟨s,rfl,h'⟩:=yLl hp
 rcases h' with⟨rfl,_,_⟩ | ⟨c,hc⟩
 ·exact h.1
 ·exact h.2 _ _ _ hc
theorem vR.cells {a : Arg} (h : vR fr fr' a) : vZ fr H (SL.pvo E fr' a) = vZ fr' H (SL.pvo E fr' a) := by
 have hp:=h.pvo (E:=E)
 rw [← hp]
 cases e:SL.pvo E fr a with
 | lp t o=>simp only [vZ,h.get_lp e]
 | val v => cases v with
  | pointer q=>cases q<;>rfl
  | _=>rfl
 | box vs=>simp only [vZ]
theorem vR.row {a : Arg} (h : vR fr fr' a) : pP fr H (SL.pvo E fr' a) = pP fr' H (SL.pvo E fr' a) := by
 have hp:=h.pvo (E:=E)
 rw [← hp]
 cases e:SL.pvo E fr a with
 | lp t o=>simp only [pP,h.get_lp e]
 | val v => cases v with
  | pointer q=>cases q<;>rfl
  | _=>rfl
 | box vs=>simp only [pP]
theorem zQd {parts : List (Nat × Nat × Arg)} : ∀ {z : List Value}, (∀ a ∈ parts.map (fun p => p.2.2), vR fr fr' a) → qH E fr z parts = qH E fr' z parts := by
 induction parts with
 | nil=>intros; rfl
 | cons p r ih =>
  intro z h
  obtain⟨o,s,x⟩:=p
  simp only [qH]
  rw [(h x (by simp)).vo,ih fun a ha=>h a (by simp only [List.map_cons,List.mem_cons]; exact .inr ha)]
theorem zPG {parts : List (Nat × Nat × Arg)} {n : Nat} : (∀ a ∈ parts.map (fun p => p.2.2), vR fr fr' a) → zAL E fr n parts = zAL E fr' n parts := by
 induction parts with
 | nil=>intros; rfl
 | cons p r ih =>
  intro h
  obtain⟨o,s,x⟩:=p
  simp only [zAL]
  rw [(h x (by simp)).vo,(h x (by simp)).vok,ih fun a ha=>h a (by simp only [List.map_cons,List.mem_cons]; exact .inr ha)]
theorem zDN {xs : List Arg} : (∀ a ∈ xs, vR fr fr' a) → kA fr xs = kA fr' xs := by
 induction xs with
 | nil=>intros; rfl
 | cons x r ih =>
  intro h
  simp only [kA]
  rw [(h x (by simp)).vok,ih fun a ha=>h a (List.mem_cons_of_mem _ ha)]
theorem zGn {xs : List Arg} (h : ∀ a ∈ xs, vR fr fr' a) : xs.map (vo E fr) = xs.map (vo E fr') :=
 List.map_congr_left fun a ha=>(h a ha).vo
theorem zCz {x : Option Arg} {d : Nat} (h : ∀ a ∈ zAc x, vR fr fr' a) : kP E fr d x = kP E fr' d x := by
 cases x with
 | none=>rfl
 | some a=>simp only [kP,(h a (by simp [zAc])).vo]
theorem zEP {x : Option Arg} {d : Nat} (h : ∀ a ∈ zAc x, vR fr fr' a) : zCi E fr d x = zCi E fr' d x := by
 cases x with
 | none=>rfl
 | some a=>simp only [zCi,(h a (by simp [zAc])).vo,(h a (by simp [zAc])).vok]
theorem zQX {x : jS} (h : ∀ a ∈ x.args, vR fr fr' a) : xN E fr H x = xN E fr' H x ∧ zBg E fr H x = zBg E fr' H x := by
 have hv:∀ a∈x.args,vo E fr a=vo E fr' a:=fun a ha=>(h a ha).vo
 have hk:∀ a∈x.args,vok fr a=vok fr' a:=fun a ha=>(h a ha).vok
 have hp:∀ a∈x.args,pvo E fr a=pvo E fr' a:=fun a ha=>(h a ha).pvo
 have hq:∀ a∈x.args,pok fr a=pok fr' a:=fun a ha=>(h a ha).pok
 have hc:∀ a∈x.args,vZ fr H (pvo E fr' a)=vZ fr' H (pvo E fr' a):=fun a ha=>(h a ha).cells
 have hr:∀ a∈x.args,pP fr H (pvo E fr' a)=pP fr' H (pvo E fr' a):=fun a ha=>(h a ha).row
 cases x with
 | bld zero parts=>exact⟨by simp only [xN,zQd h],by simp only [zBg,zPG h]⟩
 | mkf f first cap =>
  have h1:∀ a∈first,vR fr fr' a:=fun a ha=>h a (List.mem_append_left _ ha)
  have h2:∀ a∈cap,vR fr fr' a:=fun a ha=>h a (List.mem_append_right _ ha)
  exact⟨by simp only [xN,zGn h1,zGn h2],by simp only [zBg,zDN h1,zDN h2]⟩
 | slc size x lo hi mx =>
  have h1:∀ a∈zAc lo,vR fr fr' a:=fun a ha=>h a (by simp [jS.args,ha])
  have h2:∀ a∈zAc hi,vR fr fr' a:=fun a ha=>h a (by simp [jS.args,ha])
  have h3:∀ a∈zAc mx,vR fr fr' a:=fun a ha=>h a (by simp [jS.args,ha])
  have hx:=hv x (by simp [jS.args])
  have hx':=hk x (by simp [jS.args])
  exact⟨by simp only [xN,hx,zCz h1,zCz h2,zCz h3],by simp only [zBg,hx,hx',zCz h2,zCz h3,zEP h1,zEP h2,zEP h3]⟩
 | slcs x lo hi =>
  have h1:∀ a∈zAc lo,vR fr fr' a:=fun a ha=>h a (by simp [jS.args,ha])
  have h2:∀ a∈zAc hi,vR fr fr' a:=fun a ha=>h a (by simp [jS.args,ha])
  have hx:=hv x (by simp [jS.args])
  have hx':=hk x (by simp [jS.args])
  exact⟨by simp only [xN,hx,zCz h1,zCz h2],by simp only [zBg,hx,hx',zCz h2,zEP h1,zEP h2]⟩
 | _ =>
  simp only [jS.args,List.mem_cons,List.not_mem_nil,or_false,forall_eq_or_imp,forall_eq,false_implies,implies_true] at hv hk hp hq hc hr
  refine⟨?_,?_⟩
  ·simp only [xN,hv,hp,hc]
  ·simp only [zBg,hv,hk,hp,hq,hc,hr]
theorem yVr {op : pB} {d : Option Nat} {K K' : Fr → Hp → Prop} (hag : ∀ a ∈ op.args, vR fr fr' a)
  (k1:∀ v H',K' (setD fr' d ⟨true,.val v⟩) H'→K (setD fr d ⟨true,.val v⟩) H')
  (k2:∀ s vs us H',fr.get s=some ⟨true,.box vs⟩→fr'.get s=some ⟨true,.box vs⟩→K' (setD (fr'.upb s us) d ⟨true,.val undef⟩) H'→K (setD (fr.upb s us) d ⟨true,.val undef⟩) H')
  (h:xU E op d fr' H K'):xU E op d fr H K:=by
 have hv:∀ a∈op.args,vo E fr a=vo E fr' a:=fun a ha=>(hag a ha).vo
 have hk:∀ a∈op.args,vok fr a=vok fr' a:=fun a ha=>(hag a ha).vok
 have hp:∀ a∈op.args,pvo E fr a=pvo E fr' a:=fun a ha=>(hag a ha).pvo
 have hq:∀ a∈op.args,pok fr a=pok fr' a:=fun a ha=>(hag a ha).pok
 cases op with
 | sim x=>exact h
 | callp f xs=>exact h
 | st n x v =>
  simp only [pB.args,List.mem_cons,List.not_mem_nil,or_false,forall_eq_or_imp,forall_eq] at hv hk hp hq
  simp only [xU,hv,hk,hp,hq] at h ⊢
  obtain⟨g0,g1,g2,g3,h⟩:=h
  refine⟨g0,g1,g2,g3,?_⟩
  cases e:pvo E fr' x with
  | lp s o =>
   have hg:fr.get s=fr'.get s:=(hag x (by simp [pB.args])).get_lp (E:=E) (o:=o) (by rw [hp.1,e])
   simp only [e] at h ⊢
   rw [hg]
   cases eg:fr'.get s with
   | none=>simp only [eg] at h
   | some sv =>
    obtain⟨c,p⟩:=sv
    cases c with
    | false=>simp only [eg] at h
    | true =>
     cases p with
     | box vs=>simp only [eg] at h ⊢; exact⟨h.1,k2 s vs _ _ (hg.trans eg) eg h.2⟩
     | val=>simp only [eg] at h
     | lp=>simp only [eg] at h
  | box vs=>simp only [e] at h
  | val u =>
   simp only [e] at h ⊢
   split at h
   ·rename_i he; cases he
   ·rename_i a he
    cases he
    obtain⟨g0,h⟩:=h
    refine⟨g0,?_⟩
    split at h
    ·rename_i vs cap hH
     try simp only [hH]
     exact⟨h.1,k1 _ _ h.2⟩
    ·exact h.elim
   ·exact h.elim
 | newH z=>exact fun b hb=>k1 _ _ (h b hb)
 | newT k z=>exact fun b hb=>k1 _ _ (h b hb)
 | ldo x =>
  simp only [pB.args,List.mem_cons,List.not_mem_nil,or_false,forall_eq] at hv hk
  simp only [xU,hv,hk] at h ⊢
  obtain⟨h1,b,o,c,T,fz,v,h2,h3,h4,h5⟩:=h
  exact⟨h1,b,o,c,T,fz,v,h2,h3,h4,k1 _ _ h5⟩
 | sto x v =>
  simp only [pB.args,List.mem_cons,List.not_mem_nil,or_false,forall_eq_or_imp,forall_eq] at hv hk
  simp only [xU,hv,hk] at h ⊢
  obtain⟨h1,h2,h3,h4,b,o,c,T,h5,h6,h7,h8⟩:=h
  exact⟨h1,h2,h3,h4,b,o,c,T,h5,h6,h7,k1 _ _ h8⟩
 | boxH x =>
  simp only [pB.args,List.mem_cons,List.not_mem_nil,or_false,forall_eq] at hv hk
  simp only [xU,hv,hk] at h ⊢
  exact⟨h.1,fun b hb=>k1 _ _ (h.2 b hb)⟩
 | call f args =>
  have ha:∀ a∈args,vR fr fr' a:=hag
  simp only [xU,zDN ha,zGn (E:=E) ha] at h ⊢
  obtain⟨h1,Q,hQ,h2⟩:=h
  exact⟨h1,Q,hQ,fun v H' q=>k1 _ _ (h2 v H' q)⟩
 | callv x args =>
  have ha:∀ a∈args,vR fr fr' a:=fun a ha=>hag a (List.mem_cons_of_mem _ ha)
  have hx:=hv x (by simp [pB.args])
  have hx':=hk x (by simp [pB.args])
  simp only [xU,zDN ha,zGn (E:=E) ha,hx,hx'] at h ⊢
  obtain⟨h0,h1,Q,hQ,h2⟩:=h
  exact⟨h0,h1,Q,hQ,fun v H' q=>k1 _ _ (h2 v H' q)⟩
 | mksl size len zero parts =>
  have ha:∀ a∈parts.map (fun p=>p.2.2),vR fr fr' a:=hag
  simp only [xU,zQd (E:=E) ha,zPG (E:=E) ha] at h ⊢
  exact⟨h.1,fun b hb=>k1 _ _ (h.2 b hb)⟩
 | mk size bytes zero l c =>
  simp only [pB.args,List.mem_cons,List.not_mem_nil,or_false,forall_eq_or_imp,forall_eq] at hv hk
  simp only [xU,hv,hk] at h ⊢
  obtain⟨g0,g1,h⟩:=h
  refine⟨g0,g1,?_⟩
  split at h
  ·rename_i hx hy
   try simp only [hx,hy]
   exact⟨h.1,h.2.1,h.2.2.1,h.2.2.2.1,fun b hb=>k1 _ _ (h.2.2.2.2 b hb)⟩
  ·exact h.elim
 | app size bytes zero s x =>
  simp only [pB.args,List.mem_cons,List.not_mem_nil,or_false,forall_eq_or_imp,forall_eq] at hv hk
  simp only [xU,hv,hk] at h ⊢
  obtain⟨g0,g1,g2,g3,h⟩:=h
  refine⟨g0,g1,g2,g3,?_⟩
  split at h
  ·rename_i hx
   try simp only [hx]
   exact⟨h.1,h.2.1,fun e=>k1 _ _ (h.2.2.1 e),fun e b cap hb=>k1 _ _ (h.2.2.2 e b cap hb)⟩
  ·rename_i hx
   try simp only [hx]
   obtain⟨g0,g1,h⟩:=h
   refine⟨g0,g1,?_⟩
   split at h
   ·rename_i hH
    try simp only [hH]
    exact⟨h.1,h.2.1,fun b cap hb=>k1 _ _ (h.2.2 b cap hb)⟩
   ·exact h.elim
  ·exact h.elim
 | appT kk bytes zero s x =>
  simp only [pB.args,List.mem_cons,List.not_mem_nil,or_false,forall_eq_or_imp,forall_eq] at hv hk
  simp only [xU,hv,hk] at h ⊢
  obtain⟨g0,g1,g2,g3,h⟩:=h
  refine⟨g0,g1,g2,g3,?_⟩
  split at h
  ·rename_i hx
   try simp only [hx]
   exact⟨h.1,h.2.1,fun e=>k1 _ _ (h.2.2.1 e),fun e b cap rest hb h1 h2=>k1 _ _ (h.2.2.2 e b cap rest hb h1 h2)⟩
  ·rename_i hx
   try simp only [hx]
   obtain⟨h1,h2,h3,c,h4,h5,h6⟩:=h
   exact⟨h1,h2,h3,c,h4,h5,fun b cap rest hb h7 h8=>k1 _ _ (h6 b cap rest hb h7 h8)⟩
  ·exact h.elim
 | mkmap r =>
  cases r with
  | none=>exact⟨trivial,fun b hb=>k1 _ _ (h.2 b hb)⟩
  | some x =>
   simp only [pB.args,zAc,List.mem_cons,List.not_mem_nil,or_false,forall_eq] at hv hk
   simp only [xU,hv,hk] at h ⊢
   exact⟨h.1,fun b hb=>k1 _ _ (h.2 b hb)⟩
 | look ag ks zero ok m k =>
  simp only [pB.args,List.mem_cons,List.not_mem_nil,or_false,forall_eq_or_imp,forall_eq] at hv hk
  simp only [xU,hv,hk] at h ⊢
  obtain⟨g0,g1,g2,h⟩:=h
  refine⟨g0,g1,g2,?_⟩
  split at h
  ·rename_i hx; (try simp only [hx]); exact k1 _ _ h
  ·rename_i hx
   try simp only [hx]
   split at h
   ·rename_i hH
    try simp only [hH]
    split at h
    ·rename_i hf; (try simp only [hf]); exact k1 _ _ h
    ·rename_i hf; (try simp only [hf]); exact k1 _ _ h
    ·exact h.elim
   ·exact h.elim
  ·exact h.elim
 | upd ag ks m k v =>
  simp only [pB.args,List.mem_cons,List.not_mem_nil,or_false,forall_eq_or_imp,forall_eq] at hv hk
  simp only [xU,hv,hk] at h ⊢
  obtain⟨g0,g1,g2,g3,h⟩:=h
  refine⟨g0,g1,g2,g3,?_⟩
  split at h
  ·rename_i hx
   try simp only [hx]
   split at h
   ·rename_i hH
    try simp only [hH]
    split at h
    ·rename_i hf; (try simp only [hf]); exact k1 _ _ h
    ·rename_i hf; (try simp only [hf]); exact k1 _ _ h
    ·exact h.elim
   ·exact h.elim
  ·exact h.elim
 | mlen m =>
  simp only [pB.args,List.mem_cons,List.not_mem_nil,or_false,forall_eq] at hv hk
  simp only [xU,hv,hk] at h ⊢
  obtain⟨g0,h⟩:=h
  refine⟨g0,?_⟩
  split at h
  ·rename_i hx; (try simp only [hx]); exact k1 _ _ h
  ·rename_i hx
   try simp only [hx]
   split at h
   ·rename_i hH; (try simp only [hH]); exact k1 _ _ h
   ·exact h.elim
  ·exact h.elim
 | ment ag ks zero m k =>
  simp only [pB.args,List.mem_cons,List.not_mem_nil,or_false,forall_eq_or_imp,forall_eq] at hv hk
  simp only [xU,hv,hk] at h ⊢
  obtain⟨h1,h2,h3,r,es,clock,h4,h5,h6⟩:=h
  refine⟨h1,h2,h3,r,es,clock,h4,h5,?_⟩
  rcases h6 with⟨i,v,h6,h7⟩ | ⟨h6,h7⟩
  ·exact .inl ⟨i,v,h6,k1 _ _ h7⟩
  ·exact .inr ⟨h6,k1 _ _ h7⟩
 | est m s v =>
  simp only [pB.args,List.mem_cons,List.not_mem_nil,or_false,forall_eq_or_imp,forall_eq] at hv hk
  simp only [xU,hv,hk] at h ⊢
  obtain⟨h1,h2,h3,r,kd,b,es,clock,i,h4,h5,h6,h7,h8⟩:=h
  exact⟨h1,h2,h3,r,kd,b,es,clock,i,h4,h5,h6,h7,k1 _ _ h8⟩
 | rng m =>
  simp only [pB.args,List.mem_cons,List.not_mem_nil,or_false,forall_eq] at hv hk
  simp only [xU,hv,hk] at h ⊢
  obtain⟨h1,r,es,clock,h4,h5,h6⟩:=h
  exact⟨h1,r,es,clock,h4,h5,fun b hb=>k1 _ _ (h6 b hb)⟩
 | nxt it =>
  simp only [pB.args,List.mem_cons,List.not_mem_nil,or_false,forall_eq] at hv hk
  simp only [xU,hv,hk] at h ⊢
  obtain⟨h1,b,r,since,seen,last,es,clock,h2,h3,h4,h5,h6,h7,h8⟩:=h
  exact⟨h1,b,r,since,seen,last,es,clock,h2,h3,h4,h5,h6,fun e=>k1 _ _ (h7 e),fun e he hs=>k1 _ _ (h8 e he hs)⟩
 | ent it =>
  simp only [pB.args,List.mem_cons,List.not_mem_nil,or_false,forall_eq] at hv hk
  simp only [xU,hv,hk] at h ⊢
  obtain⟨h1,b,r,since,seen,es,clock,stamp,e,h2,h3,h4,h5,h6,h7⟩:=h
  exact⟨h1,b,r,since,seen,es,clock,stamp,e,h2,h3,h4,h5,h6,k1 _ _ h7⟩
end
end Go.SL
/- Regions that draw their order: a run in one good order, with what was read staying true, stands for all. -/
namespace Go.SL
open Go
structure yU where
 i:Nat
 o:zA
 ls:List Nat
def zA.isSim (o : zA) : Bool := match o.op with
 | .sim _=>true
 | _=>false
def zA.sl (o : zA) : List Arg := (match o.guard with
 | none=>[]
 | some (s,_)=>[.t s]) ++ o.op.args
def zAk (E : Env) (fr : Fr) (H : Hp) (o : zA) : Prop :=
 match o.op with
 | .sim x => qA fr o.guard ∧ (yY fr o.guard = true → zBg E fr H x) ∧ (match o.dst with
  | none=>True
  | some d=>fr.get d=some ⟨yY fr o.guard,xN E fr H x⟩)
 | _=>False
def pX (E : Env) (fr : Fr) (H : Hp) (ls : List Nat) : List yU → Prop
 | []=>True
 | y :: p=>(if ls.contains y.i then zAk E fr H y.o else True)∧pX E fr H ls p
def evd (E : Env) : List yU → List yU → Fr → Hp → (Fr → Hp → Prop) → Prop
 | _,[],fr,H,K=>K fr H
 | p,x :: r,fr,H,K=>vI E x.o fr H fun fr' H'=>pX E fr' H' x.ls p∧evd E (x :: p) r fr' H' K
def wV : List yU → List Nat
 | []=>[]
 | x :: r => (match x.o.dst with
  | none=>wV r
  | some d=>d :: wV r)
def Fr.start (ds : List Nat) (fr : Fr) : Fr := fr.filter fun e => !(ds.contains e.1) && (match e.2.p with
 | .lp t _ => !(ds.contains t) && (match fr.get t with
  | some ⟨_,.box _⟩=>true
  | _=>false)
 | _=>true)
theorem zHV {E : Env} : ∀ {r p : List yU} {fr : Fr} {H : Hp} {K K' : Fr → Hp → Prop}, (∀ fr H, K fr H → K' fr H) → evd E p r fr H K → evd E p r fr H K'
 | [],_,_,_,_,_,hk,h=>hk _ _ h
 | _ :: _,_,_,_,_,_,hk,h=>zHT (fun _ _ h=>⟨h.1,zHV hk h.2⟩) h
def jE (fr:Fr):Prop:=∀ s c t o,fr.get s=some ⟨c,.lp t o⟩→∃ c' vs,fr.get t=some ⟨c',.box vs⟩
theorem zAZ {fr : Fr} (hn : fr.nodup) (q : Nat × SV → Bool) (s : Nat) : Fr.get (fr.filter q) s = (match fr.get s with
  | some v=>if q (s,v) then some v else none
  | none=>none):=by
 cases h:Fr.get (fr.filter q) s with
 | some v =>
  obtain⟨h1,h2⟩:=Fr.get_filter hn h
  simp [h1,h2]
 | none =>
  cases h':fr.get s with
  | none=>rfl
  | some v =>
   have hm:=Fr.mem_of_get h'
   by_cases hq:q (s,v)=true
   ·have:=Fr.get_of_mem (Fr.nodup_filter q hn) (List.mem_filter.2 ⟨hm,hq⟩)
    rw [h] at this; cases this
   ·simp [hq]
theorem zBc {fr : Fr} (hn : fr.nodup) (hc : jE fr) {d : Nat} (hd : fr.get d = none) (v : SV) (s : Nat) : (fr.set d v).get s = if s = d then some v else fr.get s := by
 by_cases e:s=d
 ·subst e; simp [Fr.get_set_same]
 ·simp only [Fr.set,Fr.get,Ne.symm e,if_false,e]
  rw [zAZ hn]
  cases h:fr.get s with
  | none=>rfl
  | some u =>
   have : u.p.isLp d = false := by
    obtain⟨c,p⟩:=u
    cases p with
    | lp t o =>
     obtain⟨c',vs,ht⟩:=hc s c t o h
     simp only [PV.isLp,beq_eq_false_iff_ne]
     rintro rfl
     rw [hd] at ht; cases ht
    | val=>rfl
    | box=>rfl
   simp [this,e]
theorem get_upb (fr : Fr) (s : Nat) (vs : List Value) (t : Nat) : (fr.upb s vs).get t = if t = s then (fr.get s).map (fun v => ⟨v.c, .box vs⟩) else fr.get t := by
 induction fr with
 | nil=>simp [Fr.upb,Fr.get]
 | cons e r ih =>
  obtain⟨k,u⟩:=e
  have ih':Fr.get (List.map (fun e=>if e.1=s then (e.1,(⟨e.2.c,.box vs⟩:SV)) else e) r) t=if t=s then (Fr.get r s).map (fun v=>⟨v.c,.box vs⟩) else Fr.get r t:=ih
  simp only [Fr.upb,List.map_cons]
  by_cases hk:k=s
  ·subst hk
   simp only [if_true,Fr.get,Option.map_some]
   by_cases ht:t=k
   ·subst ht; simp
   ·simp only [Ne.symm ht,ht,if_false,ih']
  ·simp only [hk,if_false,Fr.get]
   by_cases ht:k=t
   ·subst ht; simp [hk]
   ·simp only [ht,if_false,ih']
theorem nodup_upb {fr : Fr} (h : fr.nodup) (s : Nat) (vs : List Value) : (fr.upb s vs).nodup := by
 induction fr with
 | nil=>exact h
 | cons e r ih =>
  obtain⟨k,u⟩:=e
  simp only [Fr.upb,List.map_cons]
  have h2:Fr.nodup (Fr.upb r s vs):=ih h.2
  have h1 : ∀ e ∈ Fr.upb r s vs, e.1 ≠ k := by
   intro e he
   simp only [Fr.upb,List.mem_map] at he
   obtain⟨e',he',rfl⟩:=he
   have:=h.1 e' he'
   split<;>exact this
  split<;>exact⟨h1,h2⟩
theorem yUJ {fr fr' : Fr} (h : ∀ s, fr.get s = fr'.get s) (l : List Nat) : fr.keep l = fr'.keep l := by
 induction l with
 | nil=>rfl
 | cons s l ih=>simp only [Fr.keep,h s,ih]
theorem zBB {fr : Fr} (hn : fr.nodup) (ds : List Nat) : jE (fr.start ds) := by
 intro s c t o h
 rw [Fr.start,zAZ hn] at h
 cases hv:fr.get s with
 | none=>rw [hv] at h; cases h
 | some v =>
  rw [hv] at h
  simp only at h
  by_cases hq : (!(ds.contains s) && (match v.p with
   | .lp t _ => !(ds.contains t) && (match fr.get t with
    | some ⟨_,.box _⟩=>true
    | _=>false)
   | _=>true))=true
  ·rw [if_pos hq] at h
   cases h
   simp only [Bool.and_eq_true,Bool.not_eq_true',List.contains_eq_mem,decide_eq_false_iff_not] at hq
   obtain⟨h1,h2,h3⟩:=hq
   split at h3
   ·rename_i c' vs ht
    refine⟨c',vs,?_⟩
    rw [Fr.start,zAZ hn,ht]
    simp [h2]
   ·cases h3
  ·rw [if_neg hq] at h; cases h
theorem zHN {fr : Fr} (hn : fr.nodup) {ds : List Nat} {d : Nat} (hd : d ∈ ds) : (fr.start ds).get d = none := by
 rw [Fr.start,zAZ hn]
 split
 ·simp [hd]
 ·rfl
theorem zUv {E : Env} {fr : Fr} {H : Hp} {x : jS} {t o : Nat} (h : xN E fr H x = .lp t o) : ∃ a u, pvo E fr a = .lp t u := by
 have sh : ∀ {off p}, zDo off p = .lp t o → ∃ u, p = .lp t u := by
  intro off p hp
  unfold zDo at hp
  split at hp<;>first | (cases hp; done) | (cases hp; exact⟨_,rfl⟩)
 cases x<;>simp only [xN] at h<;>(try (exact⟨_,_,h⟩))<;>(try (obtain⟨u,hu⟩:=sh h; exact⟨_,_,hu⟩))<;>exfalso<;>(repeat' split at h)<;>cases h
theorem jE.lp {E : Env} {fr : Fr} (hc : jE fr) {a : Arg} {t o : Nat} (h : pvo E fr a = .lp t o) : ∃ c vs, fr.get t = some ⟨c, .box vs⟩ := by
 obtain⟨s,rfl,h'⟩:=yLl h
 rcases h' with⟨rfl,_,c,vs,hb⟩ | ⟨c,hb⟩
 ·exact⟨c,vs,hb⟩
 ·exact hc _ _ _ _ hb
end Go.SL
/- Regions that draw their order: soundness. -/
namespace Go.SL
open Go
def pO (o:Oper):List Nat:=(o.after.toList.filter (Region.binds .any)).map (·.on)
def zGO (acc : List Nat) : List Nat → Nat
 | []=>0
 | j :: r=>zGO acc r ||| 2 ^ j ||| acc.getD j 0
def jI : List Oper → List Nat → List Nat
 | [],acc=>acc
 | o :: r,acc=>jI r (acc ++ [zGO acc (pO o)])
def isDst (s : Nat) : Option Nat → Bool
 | some d=>d == s
 | none=>false
def zNl (E : Env) (n : Nat) (ops : Array Oper) (m : List Nat) (all p : List yU) (x : yU) : Bool :=
 match ops[x.i]? with
 | none=>false
 | some o => zDW E n ops o x.o && (pO o).all (fun j => decide (j < x.i) && p.any (fun y => y.i == j)) &&
  p.all (fun y=>y.i != x.i && (match x.o.dst with | none=>true | some d=>!(isDst d y.o.dst))) &&
  x.o.sl.all (fun a=>match a with | .t s=>all.all (fun y=>!(isDst s y.o.dst) || (pO o).contains y.i) | _=>true) &&
  p.all (fun y=>(y.o.isSim && x.o.isSim) || (m.getD x.i 0).testBit y.i || (y.o.isSim && x.ls.contains y.i))
def zAO (E : Env) (n : Nat) (ops : Array Oper) (m : List Nat) (all : List yU) : List yU → List yU → Bool
 | p,[]=>(List.range m.length).all (fun i=>p.any (fun y=>y.i == i))
 | p,x :: r=>zNl E n ops m all p x && zAO E n ops m all (x :: p) r
def Cl (ops:Array Oper) (L:Nat→Prop):Prop:=∀ i o,ops[i]? = some o→L i→∀ j∈pO o,L j
def Pre (ops:Array Oper) (i j:Nat):Prop:=∀ L:Nat→Prop,Cl ops L→(∀ o,ops[i]? = some o→∀ k∈pO o,L k)→L j
theorem zIG {acc : List Nat} {j : Nat} : ∀ {l : List Nat}, (zGO acc l).testBit j = true → ∃ k ∈ l, j = k ∨ (acc.getD k 0).testBit j = true
 | [],h=>by simp [zGO] at h
 | k :: r, h => by
  simp only [zGO,Nat.testBit_or,Bool.or_eq_true,Nat.testBit_two_pow,decide_eq_true_eq] at h
  rcases h with(h | h) | h
  ·obtain⟨k',hk,hh⟩:=zIG h; exact⟨k',List.mem_cons_of_mem _ hk,hh⟩
  ·exact⟨k,List.mem_cons_self ..,.inl h.symm⟩
  ·exact⟨k,List.mem_cons_self ..,.inr h⟩
theorem zEy {ops : Array Oper} : ∀ (r : List Oper) (acc : List Nat), ops.toList.drop acc.length = r → (∀ i j, (acc.getD i 0).testBit j = true → Pre ops i j) →
  ∀ i j,((jI r acc).getD i 0).testBit j=true→Pre ops i j
 | [],acc,_,ha=>ha
 | o :: r, acc, hr, ha => by
  have hk : acc.length < ops.toList.length := Classical.byContradiction fun hn => by
   rw [List.drop_eq_nil_of_le (Nat.le_of_not_lt hn)] at hr; cases hr
  rw [List.drop_eq_getElem_cons hk] at hr
  obtain⟨ho,hr⟩:=List.cons.inj hr
  simp only [jI]
  refine zEy r _ (by simpa using hr) ?_
  intro i j hb
  rw [List.getD_eq_getElem?_getD,List.getElem?_append] at hb
  by_cases e:i < acc.length
  ·rw [if_pos e,← List.getD_eq_getElem?_getD] at hb; exact ha i j hb
  ·rw [if_neg e] at hb
   by_cases e':i=acc.length
   ·subst e'
    simp only [Nat.sub_self,List.getElem?_cons_zero,Option.getD_some] at hb
    obtain⟨k,hk',hh⟩:=zIG hb
    intro L hcl hL
    have hLk:L k:=hL o (by rw [← Array.getElem?_toList,List.getElem?_eq_getElem hk,ho]) k hk'
    rcases hh with rfl | hh
    ·exact hLk
    ·exact ha k j hh L hcl (fun o' ho' m hm=>hcl k o' ho' hLk m hm)
   ·have:i - acc.length≠0:=by omega
    obtain⟨q,hq⟩:=Nat.exists_eq_succ_of_ne_zero this
    rw [hq] at hb
    simp at hb
theorem zDO : ∀ (r : List Oper) (acc : List Nat), (jI r acc).length = acc.length + r.length
 | [],acc=>rfl
 | o :: r,acc=>by simp only [jI]; rw [zDO]; simp; omega
section
variable {E:Env} {n:Nat} {ops:Array Oper} {m:List Nat} {all:List yU} {K:Fr→Hp→Prop}
structure yIe (E : Env) (n : Nat) (ops : Array Oper) (all p : List yU) : Prop where
 op:∀ x∈p,∃ o,ops[x.i]? = some o∧zDW E n ops o x.o=true∧(∀ j∈pO o,j < x.i∧∃ z∈p,z.i=j)∧(∀ s,Arg.t s∈x.o.sl→∀ y∈all,y.o.dst=some s→y.i∈pO o)
 inj:∀ x∈p,∀ y∈p,x.i=y.i→x=y
 dinj:∀ x∈p,∀ y∈p,∀ d,x.o.dst=some d→y.o.dst=some d→x=y
 sub:∀ x∈p,x∈all
theorem zAB {p : List yU} {x : yU} (h : zNl E n ops m all p x = true) : ∃ o, ops[x.i]? = some o ∧ zDW E n ops o x.o = true ∧ (∀ j ∈ pO o, j < x.i ∧ ∃ z ∈ p, z.i = j) ∧
  (∀ s,Arg.t s∈x.o.sl→∀ y∈all,y.o.dst=some s→y.i∈pO o)∧(∀ y∈p,y.i≠x.i∧∀ d,x.o.dst=some d→y.o.dst≠some d) ∧
  (∀ y∈p,(y.o.isSim=true∧x.o.isSim=true)∨(m.getD x.i 0).testBit y.i=true∨(y.o.isSim=true∧x.ls.contains y.i=true)):=by
 unfold zNl at h
 split at h
 ·cases h
 ·rename_i o ho
  simp only [Bool.and_eq_true] at h
  obtain⟨⟨⟨⟨h1,h2⟩,h3⟩,h4⟩,h5⟩:=h
  refine⟨o,ho,h1,?_,?_,?_,?_⟩
  ·intro j hj
   have:=List.all_eq_true.1 h2 j hj
   simp only [Bool.and_eq_true,decide_eq_true_eq] at this
   obtain⟨z,hz,e⟩:=List.any_eq_true.1 this.2
   exact⟨this.1,z,hz,by simpa using e⟩
  ·intro s hs y hy hd
   have:=List.all_eq_true.1 (List.all_eq_true.1 h4 _ hs) y hy
   simpa [hd,isDst] using this
  ·intro y hy
   have:=List.all_eq_true.1 h3 y hy
   simp only [Bool.and_eq_true,bne_iff_ne,ne_eq] at this
   refine⟨this.1,fun d hd he=>?_⟩
   have h:=this.2
   rw [hd,he] at h
   simp [isDst] at h
  ·intro y hy
   have:=List.all_eq_true.1 h5 y hy
   simpa [Bool.or_eq_true,Bool.and_eq_true,or_assoc] using this
theorem yIe.cons {p : List yU} {x : yU} (hp : yIe E n ops all p) (h : zNl E n ops m all p x = true) (hx : x ∈ all) : yIe E n ops all (x :: p) := by
 obtain⟨o,h1,h2,h3,h4,h5,_⟩:=zAB h
 refine⟨?_,?_,?_,?_⟩
 ·intro y hy
  rcases List.mem_cons.1 hy with rfl | hy
  ·exact⟨o,h1,h2,fun j hj=>⟨(h3 j hj).1,(h3 j hj).2.imp fun z hz=>⟨List.mem_cons_of_mem _ hz.1,hz.2⟩⟩,h4⟩
  ·obtain⟨o',k1,k2,k3,k4⟩:=hp.op y hy
   exact⟨o',k1,k2,fun j hj=>⟨(k3 j hj).1,(k3 j hj).2.imp fun z hz=>⟨List.mem_cons_of_mem _ hz.1,hz.2⟩⟩,k4⟩
 ·intro y hy z hz e
  rcases List.mem_cons.1 hy with ey | hy'<;>rcases List.mem_cons.1 hz with ez | hz'
  ·rw [ey,ez]
  ·subst ey; exact absurd e.symm (h5 z hz').1
  ·subst ez; exact absurd e (h5 y hy').1
  ·exact hp.inj y hy' z hz' e
 ·intro y hy z hz d e1 e2
  rcases List.mem_cons.1 hy with ey | hy'<;>rcases List.mem_cons.1 hz with ez | hz'
  ·rw [ey,ez]
  ·subst ey; exact absurd e2 ((h5 z hz').2 d e1)
  ·subst ez; exact absurd e1 ((h5 y hy').2 d e2)
  ·exact hp.dinj y hy' z hz' d e1 e2
 ·intro y hy
  rcases List.mem_cons.1 hy with rfl | hy
  ·exact hx
  ·exact hp.sub y hy
theorem kJ {D : List yU} {d : Nat} : d ∈ wV D ↔ ∃ x ∈ D, x.o.dst = some d := by
 induction D with
 | nil=>simp [wV]
 | cons x r ih =>
  simp only [wV]
  cases e:x.o.dst with
  | none=>simp [ih,e]
  | some d' =>
   simp only [List.mem_cons,ih,exists_eq_or_imp,e,Option.some.injEq]
   constructor
   ·rintro(rfl | h)
    ·exact .inl rfl
    ·exact .inr h
   ·rintro(rfl | h)
    ·exact .inl rfl
    ·exact .inr h
structure DI (E : Env) (n : Nat) (ops : Array Oper) (m : List Nat) (all : List yU) (K : Fr → Hp → Prop) (L : Array Bool) (p D rest : List yU) (fr frC : Fr) (H : Hp) : Prop where
 past:yIe E n ops all p
 chk:zAO E n ops m all p rest=true
 sub:∀ x∈rest,x∈all
 dp:∀ x∈D,x∈p
 lst:∀ x∈p,x ∉ D→L.getD x.i false=true
 unl:∀ x∈D,L.getD x.i false=false
 unr:∀ x∈rest,L.getD x.i false=false
 lsz:L.size=ops.size
 cl:Cl ops (fun i=>L.getD i false=true)
 nd:fr.nodup
 ndC:frC.nodup
 cf:jE fr
 cfC:jE frC
 rel:∀ s,fr.get s=if s∈wV D then none else frC.get s
 fresh:∀ x∈rest,∀ d,x.o.dst=some d→frC.get d=none
 stab:∀ x∈D,zAk E frC H x.o
 ev:evd E p rest frC H K
variable {L:Array Bool} {p D rest:List yU} {fr frC:Fr} {H:Hp}
theorem DI.ag (h : DI E n ops m all K L p D rest fr frC H) {o : Oper} {x : zA} (hr : ∀ s, Arg.t s ∈ x.sl → ∀ y ∈ all, y.o.dst = some s → y.i ∈ pO o) (hl : ∀ j ∈ pO o, L.getD j false = true) :
  ∀ a∈x.sl,vR fr frC a:=by
 intro a ha
 cases a with
 | t s =>
  refine⟨?_,?_⟩
  ·rw [h.rel s]
   by_cases e:s∈wV D
   ·obtain⟨y,hy,hd⟩:=kJ.1 e
    have:=hl _ (hr s ha y (h.past.sub y (h.dp y hy)) hd)
    rw [h.unl y hy] at this; cases this
   ·simp [e]
  ·intro c t o' hg
   obtain⟨c',vs,ht⟩:=h.cf s c t o' hg
   have:=h.rel t
   by_cases e:t∈wV D
   ·rw [if_pos e,ht] at this; cases this
   ·rw [if_neg e] at this; exact this
 | c=>trivial
 | g=>trivial
 | f=>trivial
theorem zFs {fr fr' : Fr} {x : zA} (h : ∀ a ∈ x.sl, vR fr fr' a) : qA fr x.guard = qA fr' x.guard ∧ yY fr x.guard = yY fr' x.guard := by
 cases e:x.guard with
 | none=>exact⟨rfl,rfl⟩
 | some g =>
  obtain⟨s,b⟩:=g
  have:=(h (.t s) (by simp [zA.sl,e])).1
  exact⟨by simp only [qA,this],by simp only [yY,this]⟩
theorem zHo {fr fr':Fr} {x:zA} (h:∀ a∈x.sl,vR fr fr' a):∀ a∈x.op.args,vR fr fr' a:=fun a ha=>h a (List.mem_append_right _ ha)
theorem zAH {i : Nat} (h : i ∈ Region.ready .any ops L) : i < ops.size ∧ L.getD i true = false ∧ ∀ o, ops[i]? = some o → ∀ j ∈ pO o, L.getD j false = true := by
 simp only [Region.ready,List.mem_filter,List.mem_range,Bool.and_eq_true,Bool.not_eq_true'] at h
 obtain⟨h1,h2,h3⟩:=h
 refine⟨h1,h2,fun o ho j hj=>?_⟩
 simp only [ho,Option.map_some,Option.getD_some,Array.all_eq_true_iff_forall_mem,Bool.or_eq_true,Bool.not_eq_true'] at h3
 simp only [pO,List.mem_map,List.mem_filter] at hj
 obtain⟨e,⟨he,hb⟩,rfl⟩:=hj
 rcases h3 e (by simpa using he) with h | h
 ·rw [hb] at h; cases h
 ·exact h
theorem qV {i j : Nat} (hi : i < L.size) : (L.setIfInBounds i true).getD j false = if j = i then true else L.getD j false := by
 by_cases e:j=i
 ·subst e; simp [Array.getD,hi]
 ·simp only [if_neg e]
  have:(L.setIfInBounds i true)[j]? = L[j]?:=Array.getElem?_setIfInBounds_ne (Ne.symm e)
  rw [Array.getD_eq_getD_getElem?,Array.getD_eq_getD_getElem?,this]
theorem yNm {i : Nat} {o : Oper} (h : Cl ops (fun i => L.getD i false = true)) (hi : i < L.size) (ho : ops[i]? = some o) (hl : ∀ j ∈ pO o, L.getD j false = true) :
  Cl ops (fun j=>(L.setIfInBounds i true).getD j false=true):=by
 intro k o' ho' hk j hj
 show(L.setIfInBounds i true).getD j false=true
 rw [qV hi]
 split
 ·rfl
 ·have hk:(L.setIfInBounds i true).getD k false=true:=hk
  rw [qV hi] at hk
  by_cases e:k=i
  ·subst e; rw [ho] at ho'; cases ho'; exact hl j hj
  ·rw [if_neg e] at hk; exact h k o' ho' hk j hj
theorem zDb {fr : Fr} (hn : fr.nodup) (hc : jE fr) {d : Nat} (hd : fr.get d = none) {v : SV} (hv : ∀ t o, v.p = .lp t o → ∃ c vs, fr.get t = some ⟨c, .box vs⟩) : jE (fr.set d v) := by
 intro s c t o h
 rw [zBc hn hc hd] at h
 have ht : ∃ c vs, fr.get t = some ⟨c, .box vs⟩ := by
  by_cases e:s=d
  ·rw [if_pos e] at h; cases h; exact hv t o rfl
  ·rw [if_neg e] at h; exact hc s c t o h
 obtain⟨c',vs,ht⟩:=ht
 refine⟨c',vs,?_⟩
 rw [zBc hn hc hd,if_neg (by rintro rfl; rw [hd] at ht; cases ht)]
 exact ht
theorem zIJ {fr : Fr} (hc : jE fr) (s : Nat) (us : List Value) {c0 : Bool} {vs : List Value} (hs : fr.get s = some ⟨c0, .box vs⟩) : jE (fr.upb s us) := by
 intro r c t o h
 rw [get_upb] at h
 by_cases e:r=s
 ·rw [if_pos e,hs] at h; cases h
 ·rw [if_neg e] at h
  obtain⟨c',vs',ht⟩:=hc r c t o h
  by_cases e':t=s
  ·subst e'; exact⟨c0,us,by rw [get_upb]; simp [hs]⟩
  ·exact⟨c',vs',by rw [get_upb,if_neg e']; exact ht⟩
end
end Go.SL
