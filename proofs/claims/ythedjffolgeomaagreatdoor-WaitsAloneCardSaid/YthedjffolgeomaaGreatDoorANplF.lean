/- Operations that write, lay new rows, or call; one operation; a list of them. -/
import Derived.Test.YthedjffolgeomaaGreatDoorANplD
import Derived.Laws.AppendOwn
import Derived.IntWalk
namespace Go.SL
open Go
def yV : Value → Bool
 | .agg _ | .tuple _=>false
 | _=>true
inductive pB where
 | sim (x:jS)
 | st (n:Nat) (x v:Arg)
 | newH (zero:List Value)
 | newT (k:Nat) (zero:List Value)
 | ldo (x:Arg)
 | sto (x v:Arg)
 | boxH (x:Arg)
 | callp (f:Nat) (args:List Arg)
 | call (f:Nat) (args:List Arg)
 | callv (x:Arg) (args:List Arg)
 | mksl (size len:Nat) (zero:List Value) (parts:List (Nat × Nat × Arg))
 | mk (size bytes:Nat) (zero:List Value) (l c:Arg)
 | app (size bytes:Nat) (zero:List Value) (s x:Arg)
 | appT (k bytes:Nat) (zero:List Value) (s x:Arg)
 | mkmap (r:Option Arg)
 | look (ag:Bool) (ks:List Kd) (zero:Value) (ok:Bool) (m k:Arg)
 | upd (ag:Bool) (ks:List Kd) (m k v:Arg)
 | mlen (m:Arg)
 | ment (ag:Bool) (ks:List Kd) (zero:Value) (m k:Arg)
 | est (m s v:Arg)
 | rng (m:Arg)
 | nxt (it:Arg)
 | ent (it:Arg)
structure zA where
 dst:Option Nat
 op:pB
 guard:Option (Nat × Bool)
def qA (fr : Fr) : Option (Nat × Bool) → Prop
 | none=>True
 | some (s, _) => match fr.get s with
  | some ⟨_,.val (.bool _)⟩=>True
  | _=>False
def yY (fr : Fr) : Option (Nat × Bool) → Bool
 | none=>true
 | some (s, want) => match fr.get s with
  | some ⟨c,.val (.bool b)⟩=>c && (b == want)
  | _=>false
def setD (fr : Fr) : Option Nat → SV → Fr
 | none,_=>fr
 | some d,v=>fr.set d v
def Fr.upb (fr:Fr) (s:Nat) (vs:List Value):Fr:=fr.map fun e=>if e.1=s then (e.1,⟨e.2.c,.box vs⟩) else e
def yB (E:Env) (f:Nat) (args:List Value) (H:Hp) (v:Value):Prop:=Fn E.P (E.fn f) args H fun u H'=>u=v∧H.le H'
def enters (P : Program) (f : FuncId) : Bool :=
 match P.funcs[f]? with
 | some fn => fn.name != "runtime.NumGoroutine" && fn.body.isSome
 | none=>false
def zFN (P : Program) (x : Value) (args : List Value) (w : World) (R : Ending → World → Prop) : Prop :=
 match x with
 | .func (.func g) first cap=>enters P g=true∧Calls P g (first.toList ++ args ++ cap.toList).toArray w R
 | .func (.yield l) first _=>∃ fn tmps assign body,(Instr.yield l (first.toList ++ args).toArray).run P w = .ok (.round l fn tmps assign body) w∧RoundIn Fence.wide 0 P l fn tmps assign body w R
 | _=>False
def FnV (E : Env) (x : Value) (args : List Value) (H : Hp) (Q : Value → Hp → Prop) : Prop :=
 ∀ w,Sat w.heap H→zFN E.P x args w fun e w'=>∃ v H',e = .returned v∧Sat w'.heap H'∧Kept H w w' H'∧Q v H'
theorem zFN.mono {P : Program} {x : Value} {args : List Value} {w : World} {R R' : Ending → World → Prop} (h : zFN P x args w R) (k : ∀ e w, R e w → R' e w) : zFN P x args w R' := by
 unfold zFN at *
 split<;>simp only at h
 ·exact⟨h.1,h.2.mono k⟩
 ·obtain⟨fn,tmps,assign,body,h1,h2⟩:=h; exact⟨fn,tmps,assign,body,h1,h2.mono k⟩
theorem FnV.mono {E : Env} {x : Value} {args : List Value} {H : Hp} {Q Q' : Value → Hp → Prop} (h : FnV E x args H Q) (k : ∀ v H', Q v H' → Q' v H') : FnV E x args H Q' :=
 fun w hw=>(h w hw).mono fun _ _ ⟨v,H',he,hs,hk,hq⟩=>⟨v,H',he,hs,hk,k v H' hq⟩
def rep (z : List Value) : Nat → List Value
 | 0=>[]
 | n + 1=>z ++ rep z n
def zV : Value → Nat
 | .slice _ n _=>n
 | .string s=>s.data.toList.length
 | _=>0
def zN (H : Hp) (size : Nat) : Value → List Value
 | .slice (some a) n _ => match H a.block with
  | some (.row vs _ _)=>(vs.drop a.off).take (n * size)
  | _=>[]
 | .slice none _ _=>[]
 | .string s=>s.data.toList.map fun b=>.int .u8 b.toNat
 | _=>[]
def pG (H : Hp) (size : Nat) : Value → Prop
 | .slice (some a) n _ => n = 0 ∨ (a.spot = none ∧ (match H a.block with
  | some (.row vs _ _)=>a.off + n * size≤vs.length
  | _=>False))
 | .slice none n _=>n=0
 | .string _=>size=1
 | _=>False
def xU (E : Env) (op : pB) (d : Option Nat) (fr : Fr) (H : Hp) (K : Fr → Hp → Prop) : Prop :=
 match op with
 | .st n x v => pok fr x ∧ vok fr v ∧ (vo E fr v).cells.toList.length = n ∧ (vo E fr v).cells.toList.all yV = true ∧
   (match pvo E fr x with
    | .lp s o => (match fr.get s with
     | some ⟨true,.box vs⟩=>o + n≤vs.length∧K (setD (fr.upb s (xC vs o (vo E fr v).cells.toList)) d ⟨true,.val undef⟩) H
     | _=>False)
    | .val (.pointer (some a)) => a.spot = none ∧ (match H a.block with
     | some (.row vs cap true)=>a.off + n≤vs.length∧K (setD fr d ⟨true,.val undef⟩) (H.put a.block (.row (xC vs a.off (vo E fr v).cells.toList) cap true))
     | _=>False)
    | _=>False)
 | .newH zero=>∀ b,H b=none→K (setD fr d ⟨true,.val (.pointer (some ⟨b,0,none⟩))⟩) (H.put b (.row zero zero.length true))
 | .newT k zero=>∀ b,H b=none→K (setD fr d ⟨true,.val (.pointer (some ⟨b,0,none⟩))⟩) (H.put b (.obj (.cells zero.toArray (E.gl k) (0,0))))
 | .ldo x=>vok fr x∧∃ b o c T fz v,vo E fr x = .pointer (some ⟨b,o,none⟩)∧H b=some (.obj (.cells c T fz))∧c[o]? = some v∧K (setD fr d ⟨true,.val v⟩) H
 | .sto x v => vok fr x ∧ vok fr v ∧ (vo E fr v).cells.toList.length = 1 ∧ (vo E fr v).cells.toList.all yV = true ∧ ∃ b o c T, vo E fr x = .pointer (some ⟨b, o, none⟩) ∧ H b = some (.obj (.cells c T (0, 0))) ∧ o < c.size ∧
   K (setD fr d ⟨true,.val undef⟩) (H.put b (.obj (.cells (xC c.toList o (vo E fr v).cells.toList).toArray T (0,0))))
 | .boxH x=>vok fr x∧∀ b,H b=none→K (setD fr d ⟨true,.val (.pointer (some ⟨b,0,none⟩))⟩) (H.put b (.row (vo E fr x).cells.toList (vo E fr x).cells.toList.length true))
 | .call f args=>kA fr args∧∃ Q,Fn E.P (E.fn f) (args.map (vo E fr)) H Q∧∀ v H',Q v H'→K (setD fr d ⟨true,.val v⟩) H'
 | .callv x args=>vok fr x∧kA fr args∧∃ Q,FnV E (vo E fr x) (args.map (vo E fr)) H Q∧∀ v H',Q v H'→K (setD fr d ⟨true,.val v⟩) H'
 | .mksl _ len zero parts=>zAL E fr zero.length parts∧∀ b,H b=none→K (setD fr d ⟨true,.val (.slice (some ⟨b,0,none⟩) len len)⟩) (H.put b (.row (qH E fr zero parts) zero.length true))
 | .mk size bytes zero l c => vok fr l ∧ vok fr c ∧ (match vo E fr l, vo E fr c with
  | .int _ p, .int _ q => 0 ≤ p ∧ p ≤ q ∧ bytes * q ≤ 140737488355328 ∧ q ≤ 4611686018427387904 ∧
    ∀ b,H b=none→K (setD fr d ⟨true,.val (.slice (some ⟨b,0,none⟩) p.toNat q.toNat)⟩) (H.put b (.row (rep zero p.toNat) (q.toNat * size) true))
  | _,_=>False)
 | .app size bytes _ s x => vok fr s ∧ vok fr x ∧ pG H size (vo E fr x) ∧ (zN H size (vo E fr x)).all yV = true ∧ (match vo E fr s with
  | .slice none 0 0 => zV (vo E fr x) * bytes ≤ 140737488355328 ∧ zV (vo E fr x) ≤ 4611686018427387904 ∧
    (zV (vo E fr x)=0→K (setD fr d ⟨true,.val (.slice none 0 0)⟩) H) ∧
    (0 < zV (vo E fr x)→∀ b cap,H b=none→K (setD fr d ⟨true,.val (.slice (some ⟨b,0,none⟩) (zV (vo E fr x)) cap)⟩) (H.put b (.row (zN H size (vo E fr x)) (cap * size) true)))
  | .slice (some ⟨b0, 0, none⟩) n cap0 => (n + zV (vo E fr x)) * bytes ≤ 140737488355328 ∧ n + zV (vo E fr x) ≤ 4611686018427387904 ∧ (match H b0 with
    | some (.row vs capc true) => vs.length = n * size ∧ capc = cap0 * size ∧
      ∀ b cap,(H.del b0) b=none→K (setD fr d ⟨true,.val (.slice (some ⟨b,0,none⟩) (n + zV (vo E fr x)) cap)⟩) ((H.del b0).put b (.row (vs ++ zN H size (vo E fr x)) (cap * size) true))
    | _=>False)
  | _=>False)
 | .appT k bytes _ s x => vok fr s ∧ vok fr x ∧ pG H 1 (vo E fr x) ∧ (zN H 1 (vo E fr x)).all yV = true ∧ (match vo E fr s with
  | .slice none 0 0 => zV (vo E fr x) * bytes ≤ 140737488355328 ∧ zV (vo E fr x) ≤ 4611686018427387904 ∧
    (zV (vo E fr x)=0→K (setD fr d ⟨true,.val (.slice none 0 0)⟩) H) ∧
    (0 < zV (vo E fr x)→∀ b cap rest,H b=none→zV (vo E fr x)≤cap→rest.length=cap - zV (vo E fr x)→K (setD fr d ⟨true,.val (.slice (some ⟨b,0,none⟩) (zV (vo E fr x)) cap)⟩) (H.put b (.obj (.cells (zN H 1 (vo E fr x) ++ rest).toArray (E.gl k) (0,0)))))
  | .slice (some ⟨b0, 0, none⟩) n cap0 => (n + zV (vo E fr x)) * bytes ≤ 140737488355328 ∧ n + zV (vo E fr x) ≤ 4611686018427387904 ∧ n ≤ cap0 ∧ (∃ c : Array Value, H b0 = some (.obj (.cells c (E.gl k) (0, 0))) ∧ c.size = cap0 ∧
    ∀ b cap rest,(H.del b0) b=none→n + zV (vo E fr x)≤cap→rest.length=cap - (n + zV (vo E fr x))→K (setD fr d ⟨true,.val (.slice (some ⟨b,0,none⟩) (n + zV (vo E fr x)) cap)⟩) ((H.del b0).put b (.obj (.cells (c.toList.take n ++ zN H 1 (vo E fr x) ++ rest).toArray (E.gl k) (0,0)))))
  | _=>False)
 | .mkmap r => (match r with
  | none=>True
  | some x => vok fr x ∧ (match vo E fr x with
   | .int _ _=>True
   | _=>False))∧∀ b,H b=none→K (setD fr d ⟨true,.val (.map (some b))⟩) (H.put b (.obj (.map #[] 0)))
 | .look ag ks zero ok m k => vok fr m ∧ vok fr k ∧ zBb ag ks (vo E fr k) ∧ (match vo E fr m with
  | .map none=>K (setD fr d ⟨true,.val (if ok then .tuple #[zero,.bool false] else zero)⟩) H
  | .map (some r) => (match H r with
   | some (.obj (.map es _)) => (match uH ag ks (vo E fr k) es.toList 0 with
    | some (some (_,v))=>K (setD fr d ⟨true,.val (if ok then .tuple #[v,.bool true] else v)⟩) H
    | some none=>K (setD fr d ⟨true,.val (if ok then .tuple #[zero,.bool false] else zero)⟩) H
    | none=>False)
   | _=>False)
  | _=>False)
 | .upd ag ks m k v => vok fr m ∧ vok fr k ∧ vok fr v ∧ zBb ag ks (vo E fr k) ∧ (match vo E fr m with
  | .map (some r) => (match H r with
   | some (.obj (.map es clock)) => (match uH ag ks (vo E fr k) es.toList 0 with
    | some (some (i,_))=>K (setD fr d ⟨true,.val undef⟩) (H.put r (.obj (.map (es.modify i fun e=>{ e with key:=vo E fr k,val:=vo E fr v }) clock)))
    | some none=>K (setD fr d ⟨true,.val undef⟩) (H.put r (.obj (.map (es.push { key:=vo E fr k,val:=vo E fr v,born:=clock }) (clock + 1))))
    | none=>False)
   | _=>False)
  | _=>False)
 | .mlen m => vok fr m ∧ (match vo E fr m with
  | .map none=>K (setD fr d ⟨true,.val (.int .i64 0)⟩) H
  | .map (some r) => (match H r with
   | some (.obj (.map es _))=>K (setD fr d ⟨true,.val (.int .i64 es.size)⟩) H
   | _=>False)
  | _=>False)
 | .ment ag ks zero m k => vok fr m ∧ vok fr k ∧ zBb ag ks (vo E fr k) ∧ ∃ r es clock, vo E fr m = .map (some r) ∧ H r = some (.obj (.map es clock)) ∧
   ((∃ i v, uH ag ks (vo E fr k) es.toList 0 = some (some (i, v)) ∧ K (setD fr d ⟨true, .val (.tuple #[v, .int .i64 (((es[i]?).map (·.born)).getD 0)])⟩) (H.put r (.obj (.map (es.modify i fun e => { e with key := vo E fr k }) clock)))) ∨
    (uH ag ks (vo E fr k) es.toList 0=some none∧K (setD fr d ⟨true,.val (.tuple #[zero,.int .i64 clock])⟩) (H.put r (.obj (.map (es.push { key:=vo E fr k,val:=zero,born:=clock }) (clock + 1))))))
 | .est m s v => vok fr m ∧ vok fr s ∧ vok fr v ∧ ∃ r kd b es clock i, vo E fr m = .map (some r) ∧ vo E fr s = .int kd b ∧ H r = some (.obj (.map es clock)) ∧ es.findIdx? (fun e => (e.born : Int) == b) = some i ∧
   K (setD fr d ⟨true,.val undef⟩) (H.put r (.obj (.map (es.modify i fun e=>{ e with val:=vo E fr v }) clock)))
 | .rng m => vok fr m ∧ ∃ r es clock, vo E fr m = .map (some r) ∧ H r = some (.obj (.map es clock)) ∧
   ∀ b,H b=none→K (setD fr d ⟨true,.val (.pointer (some ⟨b,0,none⟩))⟩) (H.put b (.obj (.mapIter (some r) clock #[] clock)))
 | .nxt it => vok fr it ∧ ∃ b r since seen last es clock, vo E fr it = .pointer (some ⟨b, 0, none⟩) ∧ H b = some (.obj (.mapIter (some r) since seen last)) ∧ H r = some (.obj (.map es clock)) ∧
   since≤last∧(∀ e∈es,e.born < since)∧((∀ e∈es,seen.contains e.born=true)→K (setD fr d ⟨true,.val (.tuple #[.bool false])⟩) H) ∧
   ∀ e∈es,seen.contains e.born=false→K (setD fr d ⟨true,.val (.tuple #[.bool true,e.key,e.val])⟩) (H.put b (.obj (.mapIter (some r) since (seen.push e.born) clock)))
 | .ent it => vok fr it ∧ ∃ b r since seen es clock stamp e, vo E fr it = .pointer (some ⟨b, 0, none⟩) ∧ H b = some (.obj (.mapIter (some r) since seen clock)) ∧ H r = some (.obj (.map es clock)) ∧
   seen.back? = some stamp∧es.find? (·.born == stamp)=some e∧K (setD fr d ⟨true,.val (.tuple #[e.key,e.val])⟩) H
 | _=>False
def vI (E : Env) (o : zA) (fr : Fr) (H : Hp) (K : Fr → Hp → Prop) : Prop :=
 qA fr o.guard ∧
 match o.op with
 | .sim x=>(yY fr o.guard=true→zBg E fr H x)∧K (setD fr o.dst ⟨yY fr o.guard,xN E fr H x⟩) H
 | .callp f args=>∃ v,(yY fr o.guard=true→kA fr args∧yB E f (args.map (vo E fr)) H v)∧K (setD fr o.dst ⟨yY fr o.guard,.val v⟩) H
 | op=>(yY fr o.guard=true→xU E op o.dst fr H K)∧(yY fr o.guard=false→K (setD fr o.dst ⟨false,.val undef⟩) H)
def kE (E : Env) : List zA → Fr → Hp → (Fr → Hp → Prop) → Prop
 | [],fr,H,K=>K fr H
 | o :: r,fr,H,K=>vI E o fr H fun fr' H'=>kE E r fr' H' K
theorem yRD {E : Env} {op : pB} {d : Option Nat} {fr : Fr} {H : Hp} {K K' : Fr → Hp → Prop} (hk : ∀ fr H, K fr H → K' fr H) (h : xU E op d fr H K) : xU E op d fr H K' := by
 cases op with
 | sim x=>exact h
 | st n x v =>
  simp only [xU] at h ⊢
  refine⟨h.1,h.2.1,h.2.2.1,h.2.2.2.1,?_⟩
  have h:=h.2.2.2.2
  split<;>simp_all
  ·split<;>simp_all
  ·split<;>simp_all
 | newH z=>exact fun b hb=>hk _ _ (h b hb)
 | newT k z=>exact fun b hb=>hk _ _ (h b hb)
 | ldo x =>
  obtain⟨h1,b,o,c,T,fz,v,h2,h3,h4,h5⟩:=h
  exact⟨h1,b,o,c,T,fz,v,h2,h3,h4,hk _ _ h5⟩
 | sto x v =>
  obtain⟨h1,h2,h3,h4,b,o,c,T,h5,h6,h7,h8⟩:=h
  exact⟨h1,h2,h3,h4,b,o,c,T,h5,h6,h7,hk _ _ h8⟩
 | boxH x=>exact⟨h.1,fun b hb=>hk _ _ (h.2 b hb)⟩
 | callp f args=>exact h
 | call f args=>obtain⟨h1,Q,hQ,h2⟩:=h; exact⟨h1,Q,hQ,fun v H' q=>hk _ _ (h2 v H' q)⟩
 | callv x args=>obtain⟨h0,h1,Q,hQ,h2⟩:=h; exact⟨h0,h1,Q,hQ,fun v H' q=>hk _ _ (h2 v H' q)⟩
 | mksl size len zero parts=>exact⟨h.1,fun b hb=>hk _ _ (h.2 b hb)⟩
 | mk size bytes zero l c =>
  simp only [xU] at h ⊢
  refine⟨h.1,h.2.1,?_⟩
  have h:=h.2.2
  split
  ·rename_i hx hy
   simp only [hx,hy] at h
   exact⟨h.1,h.2.1,h.2.2.1,h.2.2.2.1,fun b hb=>hk _ _ (h.2.2.2.2 b hb)⟩
  ·rename_i hn
   split at h
   ·rename_i hx hy; exact hn _ _ _ _ hx hy
   ·exact h
 | app size bytes zero s x =>
  simp only [xU] at h ⊢
  refine⟨h.1,h.2.1,h.2.2.1,h.2.2.2.1,?_⟩
  have h:=h.2.2.2.2
  split
  ·rename_i hx
   simp only [hx] at h
   exact⟨h.1,h.2.1,fun e=>hk _ _ (h.2.2.1 e),fun e b cap hb=>hk _ _ (h.2.2.2 e b cap hb)⟩
  ·rename_i hx
   simp only [hx] at h
   refine⟨h.1,h.2.1,?_⟩
   have h:=h.2.2
   split
   ·rename_i hH
    simp only [hH] at h
    exact⟨h.1,h.2.1,fun b cap hb=>hk _ _ (h.2.2 b cap hb)⟩
   ·rename_i hn
    split at h
    ·rename_i hH; exact(hn _ _ hH).elim
    ·exact h
  ·rename_i hn1 hn2
   split at h
   ·rename_i hx; exact(hn1 hx).elim
   ·rename_i hx; exact(hn2 _ _ _ hx).elim
   ·exact h
 | appT kk bytes zero s x =>
  simp only [xU] at h ⊢
  refine⟨h.1,h.2.1,h.2.2.1,h.2.2.2.1,?_⟩
  have h:=h.2.2.2.2
  split
  ·rename_i hx
   simp only [hx] at h
   exact⟨h.1,h.2.1,fun e=>hk _ _ (h.2.2.1 e),fun e b cap rest hb h1 h2=>hk _ _ (h.2.2.2 e b cap rest hb h1 h2)⟩
  ·rename_i hx
   simp only [hx] at h
   obtain⟨h1,h2,h3,c,h4,h5,h6⟩:=h
   exact⟨h1,h2,h3,c,h4,h5,fun b cap rest hb h7 h8=>hk _ _ (h6 b cap rest hb h7 h8)⟩
  ·rename_i hn1 hn2
   split at h
   ·rename_i hx; exact(hn1 hx).elim
   ·rename_i hx; exact(hn2 _ _ _ hx).elim
   ·exact h
 | mkmap r=>exact⟨h.1,fun b hb=>hk _ _ (h.2 b hb)⟩
 | look ag ks zero ok m k =>
  simp only [xU] at h ⊢
  refine⟨h.1,h.2.1,h.2.2.1,?_⟩
  have h:=h.2.2.2
  cases hm:vo E fr m<;>simp only [hm] at h ⊢
  rename_i r
  cases r with
  | none=>exact hk _ _ h
  | some r =>
   simp only at h ⊢
   cases hH:H r with
   | none=>simp only [hH] at h
   | some o =>
    cases o with
    | row=>simp only [hH] at h
    | obj o =>
     cases o<;>simp only [hH] at h ⊢
     rename_i es clock
     cases hf:uH ag ks (vo E fr k) es.toList 0 with
     | none=>simp only [hf] at h
     | some q => cases q with
      | none=>simp only [hf] at h ⊢; exact hk _ _ h
      | some p=>simp only [hf] at h ⊢; exact hk _ _ h
 | upd ag ks m k v =>
  simp only [xU] at h ⊢
  refine⟨h.1,h.2.1,h.2.2.1,h.2.2.2.1,?_⟩
  have h:=h.2.2.2.2
  cases hm:vo E fr m<;>simp only [hm] at h ⊢
  rename_i r
  cases r with
  | none=>exact h
  | some r =>
   simp only at h ⊢
   cases hH:H r with
   | none=>simp only [hH] at h
   | some o =>
    cases o with
    | row=>simp only [hH] at h
    | obj o =>
     cases o<;>simp only [hH] at h ⊢
     rename_i es clock
     cases hf:uH ag ks (vo E fr k) es.toList 0 with
     | none=>simp only [hf] at h
     | some q => cases q with
      | none=>simp only [hf] at h ⊢; exact hk _ _ h
      | some p=>simp only [hf] at h ⊢; exact hk _ _ h
 | mlen m =>
  simp only [xU] at h ⊢
  refine⟨h.1,?_⟩
  have h:=h.2
  cases hm:vo E fr m<;>simp only [hm] at h ⊢
  rename_i r
  cases r with
  | none=>exact hk _ _ h
  | some r =>
   simp only at h ⊢
   cases hH:H r with
   | none=>simp only [hH] at h
   | some o =>
    cases o with
    | row=>simp only [hH] at h
    | obj o =>
     cases o<;>simp only [hH] at h ⊢
     exact hk _ _ h
 | ment ag ks zero m k =>
  simp only [xU] at h ⊢
  obtain⟨h1,h2,h3,r,es,clock,h4,h5,h6⟩:=h
  refine⟨h1,h2,h3,r,es,clock,h4,h5,?_⟩
  rcases h6 with⟨i,v,h6,h7⟩ | ⟨h6,h7⟩
  ·exact .inl ⟨i,v,h6,hk _ _ h7⟩
  ·exact .inr ⟨h6,hk _ _ h7⟩
 | est m s v =>
  simp only [xU] at h ⊢
  obtain⟨h1,h2,h3,r,kd,b,es,clock,i,h4,h5,h6,h7,h8⟩:=h
  exact⟨h1,h2,h3,r,kd,b,es,clock,i,h4,h5,h6,h7,hk _ _ h8⟩
 | rng m =>
  simp only [xU] at h ⊢
  obtain⟨h1,r,es,clock,h4,h5,h6⟩:=h
  exact⟨h1,r,es,clock,h4,h5,fun b hb=>hk _ _ (h6 b hb)⟩
 | nxt it =>
  simp only [xU] at h ⊢
  obtain⟨h1,b,r,since,seen,last,es,clock,h2,h3,h4,h5,h6,h7,h8⟩:=h
  exact⟨h1,b,r,since,seen,last,es,clock,h2,h3,h4,h5,h6,fun e=>hk _ _ (h7 e),fun e he hs=>hk _ _ (h8 e he hs)⟩
 | ent it =>
  simp only [xU] at h ⊢
  obtain⟨h1,b,r,since,seen,es,clock,stamp,e,h2,h3,h4,h5,h6,h7⟩:=h
  exact⟨h1,b,r,since,seen,es,clock,stamp,e,h2,h3,h4,h5,h6,hk _ _ h7⟩
theorem zHT {E : Env} {o : zA} {fr : Fr} {H : Hp} {K K' : Fr → Hp → Prop} (hk : ∀ fr H, K fr H → K' fr H) (h : vI E o fr H K) : vI E o fr H K' := by
 refine⟨h.1,?_⟩
 have h:=h.2
 split<;>simp_all
 ·obtain⟨v,h1,h2⟩:=h; exact⟨v,h1,hk _ _ h2⟩
 ·exact fun hg=>yRD (by assumption) (h.1 hg)
theorem zHW {E : Env} : ∀ {l : List zA} {fr : Fr} {H : Hp} {K K' : Fr → Hp → Prop}, (∀ fr H, K fr H → K' fr H) → kE E l fr H K → kE E l fr H K'
 | [],_,_,_,_,hk,h=>hk _ _ h
 | _ :: _,_,_,_,_,hk,h=>zHT (fun _ _ h=>zHW hk h) h
end Go.SL
/- The model's operations do what the abstract ones say. -/
namespace Go.SL
open Go
abbrev FW (ro:Option Nat):Fence:={ Fence.wide with round:=ro }
theorem yCi {ro : Option Nat} {P : Program} {f : FuncId} {args : Array Value} {w : World} {R : Ending → World → Prop} (h : Calls P f args w R) (k : Nat) : CallsIn (FW ro) k P f args w R :=
 (callsIn_wide (n:=k)).2 h
theorem zBT {P : Program} {f : FuncId} {args : Array Value} {w : World} (h : enters P f = true) : (callFunc f args).run P w = .ok (.enter f args) w := by
 unfold enters at h
 split at h
 ·rename_i fn hf
  simp only [Bool.and_eq_true,bne_iff_ne,ne_eq] at h
  obtain⟨h1,h2⟩:=h
  have h3:(fn.body=none)=False:=by cases hb:fn.body<;>simp_all
  simp [callFunc,program,Sem.run_bind,Sem.run,Result.andThen,hf,h1,h3]
 ·cases h
def vN (n : Nat) : Option Nat → Option Nat → Bool
 | none,none=>true
 | some d,some e=>d == e && decide (d < n)
 | _,_=>false
def zDX (ops : Array Oper) : Option (Nat × Bool) → Option (Nat × Bool) → Bool
 | none,none=>true
 | some (j, b), some (s, b') => b == b' && (match ops[j]? with
   | some o=>(match o.dst with | some d=>d == s | none=>false)
   | none=>false)
 | _,_=>false
def zBN (P : Program) (e : TypeId) (size bytes : Nat) (zero : List Value) : Bool :=
 match P.info? e with
 | some i => i.size == size && i.bytes == bytes && zero.length == size && decide (0 < size) && (match i.zero with
  | some v=>zDf v.cells.toList zero
  | none=>false)
 | none=>false
def zHc (P : Program) (e : TypeId) (n : Nat) : Option (Array Value) :=
 if n=0 then some #[] else match P.info? e with
 | some i=>i.zero.map (·.cells)
 | none=>none
def pH (P : Program) (t : TypeId) (ag : Bool) (ks : List Kd) : Bool :=
 if ag then zFv P t ks else match ks with
  | [k]=>zFF P t == some k
  | _=>false
def zBp (P : Program) (t : TypeId) (z : Value) : Bool :=
 match P.info? t with
 | some i => (match i.zero, z with
  | some (.agg a),.agg b=>zDf a.toList b.toList
  | some v,z=>zQD v z
  | none,_=>false)
 | none=>false
def zCy (E : Env) : Op → pB → Bool
 | .box _ X,.sim (.box x)=>zQ E X x
 | .alloc t,.sim (.new z)=>zDS E.P t z
 | o,.sim x=>zMj E o x
 | .store t X V,.st n x v=>qM E.P t n && zQ E X x && zQ E V v
 | .alloc t,.newH z=>zDS E.P t z
 | .alloc t,.newT k z=>zDS E.P t z && t == E.gl k
 | .load t X,.ldo x=>zFz E.P t none && zQ E X x
 | .store t X V,.sto x v=>qM E.P t 1 && zQ E X x && zQ E V v
 | .box _ X,.boxH x=>zQ E X x
 | .call { callee:=.value (.func g),args,.. },.callp f xs=>g == E.fn f && enters E.P g && kT E args.toList xs
 | .call { callee:=.value (.func g),args,.. },.call f xs=>g == E.fn f && enters E.P g && kT E args.toList xs
 | .buildSlice t len parts, .mksl size l zero ps => len == l && (match E.P.underlying t with
   | some (.slice e) => qM E.P e size && decide (len * size ≤ 2 ^ 24) && jH E size parts.toList ps && (match zHc E.P e (len * size) with
    | some z=>zDf ((Array.range (len * size)).map (z[· % z.size]!)).toList zero
    | none=>false)
   | _=>false)
 | .makeSlice t L C, .mk size bytes zero l c => (match E.P.underlying t with
   | some (.slice e)=>zBN E.P e size bytes zero
   | _=>false) && zQ E L l && zQ E C c
 | .call { callee := .builtin .append, args, argTypes }, .app size bytes zero s x => (match argTypes.toList, args.toList with
   | [t0, t1], [S, X] => (match E.P.underlying t0 with
     | some (.slice e)=>zBN E.P e size bytes zero
     | _=>false) && (match E.P.underlying t1 with
     | some (.slice _)=>true
     | some .string=>true
     | _=>false) && zQ E S s && zQ E X x
   | _,_=>false)
 | .call { callee := .builtin .append, args, argTypes }, .appT k bytes zero s x => (match argTypes.toList, args.toList with
   | [t0, t1], [S, X] => (match E.P.underlying t0 with
     | some (.slice e)=>zBN E.P e 1 bytes zero && e == E.gl k
     | _=>false) && (match E.P.underlying t1 with
     | some (.slice _)=>true
     | some .string=>true
     | _=>false) && zQ E S s && zQ E X x
   | _,_=>false)
 | .makeMap _ none,.mkmap none=>true
 | .makeMap t (some R), .mkmap (some r) => (match E.P.underlying t with
   | some (.map _ _)=>true
   | _=>false) && zQ E R r
 | .lookup t M I ok, .look ag ks zero ok' m k => ok == ok' && (match E.P.underlying t with
   | some (.map kt et)=>pH E.P kt ag ks && zBp E.P et zero
   | _=>false) && zQ E M m && zQ E I k
 | .mapUpdate t M I V, .upd ag ks m k v => (match E.P.underlying t with
   | some (.map kt _)=>pH E.P kt ag ks
   | _=>false) && zQ E M m && zQ E I k && zQ E V v
 | .insert t M I V, .upd ag ks m k v => (match E.P.underlying t with
   | some (.map kt _)=>pH E.P kt ag ks
   | _=>false) && zQ E M m && zQ E I k && zQ E V v
 | .mapEntry t M I, .ment ag ks zero m k => (match E.P.underlying t with
   | some (.map kt et)=>pH E.P kt ag ks && zBp E.P et zero
   | _=>false) && zQ E M m && zQ E I k
 | .entryStore _ M S V,.est m s v=>zQ E M m && zQ E S s && zQ E V v
 | .range t M, .rng m => (match E.P.underlying t with
   | some (.map _ _)=>true
   | _=>false) && zQ E M m
 | .next I false,.nxt it=>zQ E I it
 | .entry I,.ent it=>zQ E I it
 | .call { callee := .builtin .len, args, argTypes }, .mlen m => (match argTypes.toList, args.toList with
   | [t], [M] => (match E.P.underlying t with
    | some (.map _ _)=>true
    | _=>false) && zQ E M m
   | _,_=>false)
 | .call { callee:=.value X,args,.. },.callv x xs=>zQ E X x && kT E args.toList xs
 | _,_=>false
def zDW (E : Env) (n : Nat) (ops : Array Oper) (o : Oper) (x : zA) : Bool :=
 vN n o.dst x.dst && zDX ops o.guard x.guard && zCy E o.op x.op
section
variable {E:Env} {n:Nat} {w0:World} {H0:Hp} {fr:Fr} {H:Hp} {a:Act} {w:World} {β:Nat→Option Nat} {ro:Option Nat}
theorem yT.setD (h : yT n w0 H0 fr H a w β) {d d' : Option Nat} (hd : vN n d d' = true) (v : Value) (p : PV) (hp : wF β p v) :
  yT n w0 H0 (setD fr d' ⟨true,p⟩) H (a.put d v) w β:=by
 cases d with
 | none => cases d' with
  | none=>exact h
  | some=>simp [vN] at hd
 | some d => cases d' with
  | none=>simp [vN] at hd
  | some e =>
   simp only [vN,Bool.and_eq_true,beq_iff_eq,decide_eq_true_eq] at hd
   obtain⟨rfl,hlt⟩:=hd
   refine h.setp hlt v true p (fun _=>?_) (fun e=>by cases e)
   cases p with
   | val u=>simp only [wF] at hp; subst hp; simp [zBK,h.nt,hlt]
   | lp s o=>obtain⟨b,hb,rfl⟩:=hp; exact⟨b,hb,by simp [h.nt,hlt]⟩
   | box=>exact hp.elim
theorem yT.skipD (h : yT n w0 H0 fr H a w β) {d d' : Option Nat} (hd : vN n d d' = true) (p : PV) :
  yT n w0 H0 (SL.setD fr d' ⟨false,p⟩) H (a.put d undef) w β:=by
 cases d with
 | none => cases d' with
  | none=>exact h
  | some=>simp [vN] at hd
 | some d => cases d' with
  | none=>simp [vN] at hd
  | some e =>
   simp only [vN,Bool.and_eq_true,beq_iff_eq,decide_eq_true_eq] at hd
   obtain⟨rfl,hlt⟩:=hd
   exact h.skipped hlt p
theorem zOs (h : yT n w0 H0 fr H a w β) {ops : Array Oper} {o : Oper} {g : Option (Nat × Bool)} (hc : zDX ops o.guard g = true) (hg : qA fr g) :
  Region.wanted o (yielded ops a.tmps)=yY fr g:=by
 unfold Region.wanted
 cases hog:o.guard with
 | none => cases g with
  | none=>rfl
  | some=>simp [hog,zDX] at hc
 | some jb => cases g with
  | none=>simp [hog,zDX] at hc
  | some sb =>
   obtain⟨j,b⟩:=jb
   obtain⟨s,b'⟩:=sb
   simp only [hog,zDX,Bool.and_eq_true,beq_iff_eq] at hc
   obtain⟨rfl,hc⟩:=hc
   split at hc
   ·rename_i oj hoj
    split at hc
    ·rename_i d hd
     have hds:d=s:=by simpa using hc
     subst hds
     simp only [qA] at hg
     split at hg
     ·rename_i c q he
      simp only [yY,he]
      have hy : yielded ops a.tmps j = if c = true then some q else none := by
       simp only [yielded,hoj,hd,Option.bind_some]
       cases c with
       | true=>have:=h.slots _ _ he rfl; simp only [zBK] at this; simp [this]
       | false=>have:=h.skip _ _ he rfl; simp [this,undef]
      rw [hy]
      cases c<;>cases q<;>cases b<;>rfl
     ·exact hg.elim
    ·cases hc
   ·cases hc
theorem wN {F : Fence} (hF : ∀ f, F.fn f) {m : Nat} {P : Program} {o : Oper} {a : Act} {w w' : World} {K : Act → World → Prop} {Q : Exit → Act → World → Prop} {v : Value}
  (hd:∀ c,o.op≠.defer c) (h:(execOp a.eval o).run P w = .ok (.value v) w') (k:K (a.put o.dst v) w'):o.wpIn F m P a w K Q:=by
 refine⟨fun f _=>hF f,?_⟩
 rw [Oper.semAt_eq _ _ _ hd,h]
 exact k
theorem zDz {F : Fence} (hF : ∀ f, F.fn f) {m : Nat} {P : Program} {o : Oper} {a : Act} {w w' : World} {K : Act → World → Prop} {Q : Exit → Act → World → Prop}
  (hd:∀ c,o.op≠.defer c) (h:(execOp a.eval o).run P w = .ok .skip w') (k:K (a.put o.dst undef) w'):o.wpIn F m P a w K Q:=by
 refine⟨fun f _=>hF f,?_⟩
 rw [Oper.semAt_eq _ _ _ hd,h]
 exact k
theorem zRc {m : Nat} {P : Program} {o : Oper} {a : Act} {w : World} {K : Act → World → Prop} {Q : Exit → Act → World → Prop} {f : FuncId} {args : Array Value}
  (hd:∀ c,o.op≠.defer c) (h:(execOp a.eval o).run P w = .ok (.enter f args) w)
  (k:Calls P f args w fun e w'=>∃ v,e = .returned v∧K (a.put o.dst v) w'):o.wpIn (FW ro) m P a w K Q:=by
 refine⟨fun f _=>trivial,?_⟩
 rw [Oper.semAt_eq _ _ _ hd,h]
 refine⟨fun hd=>(by cases hd),?_⟩
 refine yCi (k.mono ?_) _
 rintro e w' ⟨v,rfl,hk⟩
 exact hk
end
end Go.SL
/- Stores, new rows. -/
namespace Go.SL
open Go
theorem pU {l : List Value} {k : Nat} {vs : List Value} (h : k + vs.length ≤ l.length) : (xC l k vs).length = l.length := by
 simp [xC]; omega
theorem yGJ (l:List Value) (k:Nat):xC l k []=l:=by simp [xC]
theorem yIz {l : List Value} {k : Nat} {v : Value} {r : List Value} (h : k < l.length) : xC (l.set k v) (k + 1) r = xC l k (v :: r) := by
 unfold xC
 have e1 : (l.set k v).take (k + 1) = l.take k ++ [v] := by
  rw [List.take_succ_eq_append_getElem (by simpa using h)]
  simp [List.take_set_of_le]
 have e2 : (l.set k v).drop (k + 1 + r.length) = l.drop (k + (v :: r).length) := by
  rw [List.drop_set_of_lt (by omega)]
  congr 1
  simp; omega
 rw [e1,e2]
 simp
theorem zLq {l m : List Value} {k : Nat} {vs : List Value} (hp : l <+: m) (h : k + vs.length ≤ l.length) : xC l k vs <+: xC m k vs := by
 obtain⟨r,rfl⟩:=hp
 refine⟨r,?_⟩
 unfold xC
 rw [List.take_append_of_le_length (by omega),List.drop_append_of_le_length (by omega)]
 simp
section
variable {P:Program}
theorem zSz {w : World} {b o : Nat} {c : Array Value} {T : TypeId} {fz : Nat × Nat} (v : Value) (hh : w.heap[b]? = some (.cells c T fz)) :
  w.setCell ⟨b,o,none⟩ v=w.putObj b (.cells (c.setIfInBounds o v) T fz):=by
 unfold World.setCell World.putObj
 congr 1
 obtain⟨hlt,he⟩:=Array.getElem?_eq_some_iff.1 hh
 apply Array.ext
 ·simp
 ·intro i h1 h2
  by_cases e:i=b
  ·subst e
   rw [Array.getElem_modify_self,Array.getElem_setIfInBounds_self]
   ·rw [he]; simp
  ·rw [Array.getElem_modify_of_ne (Ne.symm e),Array.getElem_setIfInBounds_ne]
   exact Ne.symm e
theorem zLp (w : World) (b : Nat) (x y : Obj) : (w.putObj b x).putObj b y = w.putObj b y := by
 unfold World.putObj
 simp
theorem zSu {w : World} {b : Nat} {x : Obj} (h : w.heap[b]? = some x) : w.putObj b x = w := by
 unfold World.putObj
 have : w.heap.setIfInBounds b x = w.heap := by
  obtain⟨hlt,he⟩:=Array.getElem?_eq_some_iff.1 h
  apply Array.ext
  ·simp
  ·intro i h1 h2
   by_cases e:i=b
   ·subst e; rw [Array.getElem_setIfInBounds_self,he]
   ·rw [Array.getElem_setIfInBounds_ne]; exact Ne.symm e
 rw [this]
theorem kV : ∀ (vs : List Value) (i : Nat) {w : World} {b o : Nat} {c : Array Value} {T : TypeId} {fz : Nat × Nat}, w.heap[b]? = some (.cells c T fz) →
  o + i + vs.length≤c.size→(∀ j,o + i≤j→j < o + i + vs.length→¬ (fz.1≤j∧j < fz.2))→vs.all yV=true →
  (storeCells ⟨b,o,none⟩ vs i).run P w = .ok () (w.putObj b (.cells (xC c.toList (o + i) vs).toArray T fz))
 | [], i, w, b, o, c, T, fz, hh, _, _, _ => by
  simp only [storeCells,yGJ,Array.toArray_toList,zSu hh]
  rfl
 | v :: r, i, w, b, o, c, T, fz, hh, hl, hf, h1 => by
  simp only [List.all_cons,Bool.and_eq_true] at h1
  simp only [List.length_cons] at hl hf
  have hlt:o + i < c.size:=by omega
  have hc:w.cell? ⟨b,o + i,none⟩=some c[o + i]:=by simp [World.cell?,hh,hlt]
  have hfz : w.frozen? ⟨b, o + i, none⟩ = false := by
   simp only [World.frozen?,hh]
   have:=hf (o + i) (Nat.le_refl _) (by omega)
   rw [Bool.eq_false_iff]
   simpa using this
  have hst : (store ⟨b, o + i, none⟩ v).run P w = .ok () (w.putObj b (.cells (c.setIfInBounds (o + i) v) T fz)) := by
   unfold store
   cases v <;> first
    | (simp [yV] at h1; done)
    | simp [Sem.run,hc,hfz,zSz _ hh]
  simp only [storeCells,zBh]
  rw [Sem.run_bind,hst]
  simp only [Result.andThen]
  have hb:b < w.heap.size:=(Array.getElem?_eq_some_iff.1 hh).1
  rw [kV r (i + 1) (World.putObj_heap_same hb) (by simp; omega) (fun j h1 h2=>hf j (by omega) (by omega)) h1.2]
  rw [zLp]
  congr 3
  rw [Array.toList_setIfInBounds]
  have:=yIz (l:=c.toList) (k:=o + i) (v:=v) (r:=r) (by simpa using hlt)
  rw [← this,Nat.add_assoc]
theorem uC {H : Hp} {w : World} (hs : Sat w.heap H) {o : Obj} {x : xI} (hx : x.ok (some o)) :
  Sat ({ w with heap:=w.heap.push o }:World).heap (H.put w.heap.size x)∧Kept H w { w with heap:=w.heap.push o } (H.put w.heap.size x)∧H w.heap.size=none:=by
 have hn : H w.heap.size = none := by
  cases hH:H w.heap.size with
  | none=>rfl
  | some o=>exact absurd (hs.lt hH) (Nat.lt_irrefl _)
 have hshape : Shp H w { w with heap := w.heap.push o } (H.put w.heap.size x) := fun b hb ht => by
  refine⟨?_,by rw [Hp.put_ne _ _ (by omega)]; exact ht⟩
  show shp ((w.heap.push o)[b]?)=_
  rw [Array.getElem?_push,if_neg (by omega)]
 refine⟨fun b y hb=>?_,⟨rfl,rfl,rfl,by simp,fun b hb _=>?_,fun b y hb=>?_,hshape⟩,hn⟩
 ·show xI.ok ((w.heap.push o)[b]?) y
  by_cases e:b=w.heap.size
  ·subst e; rw [Hp.put_same] at hb; cases hb; simpa using hx
  ·rw [Hp.put_ne _ _ e] at hb
   have:=hs.lt hb
   rw [Array.getElem?_push,if_neg e]
   exact hs b y hb
 ·show(w.heap.push o)[b]? = _
  rw [Array.getElem?_push,if_neg (by omega)]
 ·by_cases e:b=w.heap.size
  ·exact .inr (by omega)
  ·rw [Hp.put_ne _ _ e] at hb; exact .inl (by rw [hb]; simp)
theorem zAq {H : Hp} {w : World} (hs : Sat w.heap H) {b : Nat} {y x : xI} (hb : H b = some y) {o : Obj} (hx : x.ok (some o)) (hsh : shp (some o) = shp (w.heap[b]?)) (hty : zAT (some x) → zAT (H b) := by exact fun h => h.elim) :
  Sat (w.putObj b o).heap (H.put b x)∧Kept H w (w.putObj b o) (H.put b x):=by
 have hlt:=hs.lt hb
 have hshape : Shp H w (w.putObj b o) (H.put b x) := fun c hc ht => by
  by_cases e:c=b
  ·subst e; rw [World.putObj_heap_same hlt,hsh,Hp.put_same]; exact⟨rfl,fun h=>ht (hty h)⟩
  ·rw [World.putObj_heap_other e,Hp.put_ne _ _ e]; exact⟨rfl,ht⟩
 refine⟨fun c z hc=>?_,⟨rfl,rfl,rfl,by simp,fun c hc h0=>?_,fun c z hc=>?_,hshape⟩⟩
 ·by_cases e:c=b
  ·subst e; rw [Hp.put_same] at hc; cases hc; rw [World.putObj_heap_same hlt]; exact hx
  ·rw [Hp.put_ne _ _ e] at hc; rw [World.putObj_heap_other e]; exact hs c z hc
 ·refine World.putObj_heap_other ?_
  rintro rfl; rw [hb] at h0; cases h0
 ·by_cases e:c=b
  ·subst e; exact .inl (by rw [hb]; simp)
  ·rw [Hp.put_ne _ _ e] at hc; exact .inl (by rw [hc]; simp)
end
end Go.SL
/- Slices: a literal, make, append. -/
namespace Go.SL
open Go
section
variable {E:Env} {n:Nat} {w0:World} {H0:Hp} {fr:Fr} {H:Hp} {a:Act} {w:World} {β:Nat→Option Nat}
theorem ySZ (h : yT n w0 H0 fr H a w β) {t e : TypeId} {len size : Nat} {parts : Array (Nat × Operand)} {zero : List Value} {zc : Array Value} {ps : List (Nat × Nat × Arg)} (hu : E.P.underlying t = some (.slice e))
  (hs:qM E.P e size=true) (hl:len * size≤2 ^ 24) (hp:jH E size parts.toList ps=true) (hz:zHc E.P e (len * size)=some zc)
  (hzz:((Array.range (len * size)).map (zc[· % zc.size]!)).toList=zero) (hk:zAL E fr zero.length ps) :
  (Instr.buildSlice t len (parts.map fun (i, x) => (i, a.eval x))).run E.P w =
   .ok (.slice (some ⟨w.heap.size,0,none⟩) len len) { w with heap:=w.heap.push (.cells (qH E fr zero ps).toArray e) }:=by
 have hf:=zEK h (cells:=zero) hp hk
 have hl':¬ (len * size > 2 ^ 24):=by omega
 have ha:(Array.range (len * size)).map (zc[· % zc.size]!)=zero.toArray:=by apply Array.toList_inj.1; simpa using hzz
 by_cases h0:len * size=0
 ·have hzc:zc = #[]:=by simp only [zHc,h0,if_true,Option.some.injEq] at hz; exact hz.symm
  subst hzc
  simp only [Instr.buildSlice,Sem.run_bind,yH hu,Result.andThen,wL hs,if_neg hl',if_pos h0,Sem.run_pure,ha,Array.toList_map,hf]
  simp [newRow,newObj,Sem.run_bind,Sem.run,Result.andThen,pure]
 ·have : ∃ v, (zeroValue e).run E.P w = .ok v w ∧ v.cells = zc := by
   simp only [zHc,h0,if_false] at hz
   split at hz
   ·rename_i i hi
    cases hzv:i.zero with
    | none=>rw [hzv] at hz; cases hz
    | some v=>rw [hzv] at hz; cases hz; exact⟨v,by simp [zeroValue,uT hi,hzv],rfl⟩
   ·cases hz
  obtain⟨v,hv,rfl⟩:=this
  simp only [Instr.buildSlice,Sem.run_bind,yH hu,Result.andThen,wL hs,if_neg hl',if_neg h0,hv,Sem.run_pure,ha,Array.toList_map,hf]
  simp [newRow,newObj,Sem.run_bind,Sem.run,Result.andThen,pure]
theorem jD {P : Program} {e : TypeId} {size bytes : Nat} {zero : List Value} (h : zBN P e size bytes zero = true) :
  ∃ i v,P.info? e=some i∧i.size=size∧i.bytes=bytes∧i.zero=some v∧v.cells.toList=zero∧zero.length=size∧0 < size:=by
 unfold zBN at h
 split at h
 ·rename_i i hi
  simp only [Bool.and_eq_true,beq_iff_eq,decide_eq_true_eq] at h
  obtain⟨⟨⟨⟨h1,h2⟩,h3⟩,h4⟩,h5⟩:=h
  split at h5
  ·rename_i v hv; exact⟨i,v,hi,h1,h2,hv,zCg h5,h3,h4⟩
  ·cases h5
 ·cases h
theorem zFE (z : List Value) : ∀ n, (rep z n).length = n * z.length
 | 0=>by simp [rep]
 | n + 1=>by simp [rep,zFE z n,Nat.succ_mul]; omega
theorem yAI (z : List Value) (hz : 0 < z.length) : ∀ (n i : Nat), i < n * z.length → (rep z n)[i]? = z[i % z.length]?
 | 0,i,h=>by simp at h
 | n + 1, i, h => by
  simp only [rep]
  by_cases hi:i < z.length
  ·rw [List.getElem?_append_left hi,Nat.mod_eq_of_lt hi]
  ·rw [List.getElem?_append_right (by omega),yAI z hz n (i - z.length) (by rw [Nat.succ_mul] at h; omega)]
   congr 1
   conv=>rhs; rw [show i=(i - z.length) + z.length by omega]
   simp
theorem yOQ (z : List Value) (hz : 0 < z.length) (n : Nat) : ((Array.range (n * z.length)).map (z.toArray[· % z.toArray.size]!)).toList = rep z n := by
 apply List.ext_getElem?
 intro i
 by_cases hi:i < n * z.length
 ·rw [yAI z hz n i hi]
  have hm:i % z.length < z.length:=Nat.mod_lt _ hz
  simp [hi,hm]
 ·rw [List.getElem?_eq_none (by simpa using hi),List.getElem?_eq_none (by rw [zFE]; omega)]
theorem yGC (z : List Value) {p q : Nat} (h : p ≤ q) : rep z p <+: rep z q := by
 induction p generalizing q with
 | zero=>simp [rep]
 | succ p ih =>
  obtain⟨q,rfl⟩:∃ q',q=q' + 1:=⟨q - 1,by omega⟩
  simp only [rep]
  exact(List.prefix_append_right_inj z).2 (ih (by omega))
theorem wrap_small {x:Int} (h0:0≤x) (h1:x≤4611686018427387904):IntKind.i64.wrap x=x:=IntWalk.i64_in x (by omega)
theorem run_mk {t e : TypeId} {size bytes : Nat} {zero : List Value} {kl kc : IntKind} {p q : Int} (hu : E.P.underlying t = some (.slice e)) (he : zBN E.P e size bytes zero = true)
  (h0:0≤p) (h1:p≤q) (h2:bytes * q≤140737488355328) (h3:q≤4611686018427387904) :
  (Instr.makeSlice t (.int kl p) (.int kc q)).run E.P w =
   .ok (.slice (some ⟨w.heap.size,0,none⟩) p.toNat q.toNat) { w with heap:=w.heap.push (.cells (rep zero q.toNat).toArray e) }:=by
 obtain⟨i,v,hi,hs,hb,hv,hvz,hzl,hpos⟩:=jD he
 have hsz:(sizeOf e).run E.P w = .ok size w:=wL (by simp [qM,hi,hs])
 have hwp:=wrap_small h0 (by omega)
 have hwq:IntKind.i64.wrap q=q:=wrap_small (by omega) h3
 have hcond : ((q < 0 || (bytes : Int) * q > 2 ^ 48) || p < 0 || p > q) = false := by
  simp
  omega
 have hroom : ¬ (q.toNat * bytes > roomBytes) := by
  simp only [roomBytes]
  have:(q.toNat:Int)=q:=Int.toNat_of_nonneg (by omega)
  have h2':((bytes * q.toNat:Nat):Int)≤140737488355328:=by rw [Int.natCast_mul,this]; exact h2
  rw [Nat.mul_comm]
  omega
 have hz:v.cells=zero.toArray:=by apply Array.toList_inj.1; simpa using hvz
 simp only [Instr.makeSlice,Sem.run_bind,yH hu,Result.andThen,asInt,asIntOf,Sem.run_pure,uT hi,hb,hwp,hwq]
 simp only [hcond,Bool.false_eq_true,if_false]
 by_cases hn0:q.toNat * size=0
 ·have hq0 : q.toNat = 0 := by
   rcases Nat.mul_eq_zero.1 hn0 with h | h
   ·exact h
   ·omega
  simp only [askRoom,if_neg hroom,Sem.run_pure,Result.andThen,hsz,Sem.run_bind,if_pos hn0]
  simp [newRow,newObj,Sem.run_bind,Sem.run,Result.andThen,pure,hq0,rep]
  congr 2
  apply Array.toList_inj.1
  simp
 ·have hzr:(zeroValue e).run E.P w = .ok v w:=by simp [zeroValue,uT hi,hv]
  have harr : (Array.range (q.toNat * size)).map (v.cells[· % v.cells.size]!) = (rep zero q.toNat).toArray := by
   rw [hz]
   apply Array.toList_inj.1
   have:=yOQ zero (by omega) q.toNat
   rw [hzl] at this
   simpa using this
  simp only [askRoom,if_neg hroom,Sem.run_pure,Result.andThen,hsz,Sem.run_bind,if_neg hn0,hzr,harr]
  simp [newRow,newObj,Sem.run_bind,Sem.run,Result.andThen,pure]
theorem zDq (hsat : Sat w.heap H) {size : Nat} {x : Value} (hk : pG H size x) :
  (Builtin.lenOf x).run E.P w = .ok (zV x) w∧(Builtin.firstCells size (zV x) x).run E.P w = .ok (zN H size x).toArray w∧(zN H size x).length=zV x * size:=by
 unfold pG at hk
 split at hk
 ·rename_i ad m c
  rcases hk with rfl | ⟨hs,hk⟩
  ·have e : zN H size (.slice (some ad) 0 c) = [] := by
    simp only [zN]
    split<;>simp
   rw [e]
   refine⟨rfl,?_,by simp [zV]⟩
   simp [Builtin.firstCells,zV,loadCells,loadCellsFrom]
  obtain⟨b,o,sp⟩:=ad
  simp only at hs
  subst hs
  simp only at hk
  split at hk
  ·rename_i vs cap wr hH
   obtain⟨cc,T,fz,hh,_,hp,_⟩:=hsat _ _ hH
   have:=run_loadCellsFrom (E:=E) hh hp o (m * size) 0 #[] (by omega)
   refine⟨rfl,?_,?_⟩
   ·simp only [Builtin.firstCells,zV,zN,loadCells,hH,this]
    simp
   ·simp only [zN,hH,zV]
    simp; omega
  ·exact hk.elim
 ·rename_i m c
  subst hk
  exact⟨rfl,rfl,by simp [zN,zV]⟩
 ·rename_i s
  subst hk
  refine⟨?_,?_,?_⟩
  ·simp [Builtin.lenOf,zV]
  ·simp only [Builtin.firstCells,zV,zN]
   have : s.extract 0 s.data.toList.length = s := by
    apply ByteArray.ext
    rw [ByteArray.data_extract]
    simp
   rw [this]
   simp only [Sem.run_pure]
   congr 1
   apply Array.toList_inj.1
   simp
  ·simp [zN,zV]
 ·exact hk.elim
theorem yVG (need t:Nat):need≤need + t % (2 ^ 63 - need):=Nat.le_add_right _ _
theorem zBW (hsat : Sat w.heap H) {t0 t1 e ty : TypeId} {size bytes : Nat} {zero : List Value} {x : Value} (hu : E.P.underlying t0 = some (.slice e)) (hu1 : (∃ d, E.P.underlying t1 = some (.slice d)) ∨ E.P.underlying t1 = some .string)
  (he:zBN E.P e size bytes zero=true) (hk:pG H size x) {base:Option Addr} {m c:Nat} {olds:List Value} (hold:(Builtin.firstCells size m (.slice base m c)).run E.P w.drew = .ok olds.toArray w.drew)
  (hb:(m + zV x) * bytes≤140737488355328) (hl:m + zV x≤4611686018427387904) (hg:c < m + zV x) :
  ∃ cap rest, m + zV x ≤ cap ∧ rest.length = (cap - (m + zV x)) * size ∧ (Builtin.append_ #[t0, t1] ty #[.slice base m c, x]).run E.P w =
   .ok (.slice (some ⟨w.heap.size,0,none⟩) (m + zV x) cap) (w.drew.alloc (.cells (olds ++ zN H size x ++ rest).toArray e)):=by
 obtain⟨i,v,hi,hs,hby,hv,hvz,hzl,hpos⟩:=jD he
 obtain⟨hl1,hf,hlen⟩:=zDq (E:=E) hsat hk
 have hf':(Builtin.firstCells size (zV x) x).run E.P w.drew = .ok (zN H size x).toArray w.drew:=(zDq (E:=E) (w:=w.drew) hsat hk).2.1
 have hzc:v.cells.size=size:=by have:=congrArg List.length hvz; simpa [hzl] using this
 have hfit:=growslice_fits (need:=m + zV x) (old:=c) (bytes:=bytes) hg hb
 refine⟨m + zV x + w.tape w.drawn (.appendCap (m + zV x) c e) % (2 ^ 63 - (m + zV x)),(Builtin.zeroCells v.cells (m + zV x + w.tape w.drawn (.appendCap (m + zV x) c e) % (2 ^ 63 - (m + zV x)) - (m + zV x))).toList,yVG _ _,?_,?_⟩
 ·simp [size_zeroCells,hzc]
 ·have h0:¬ (m + zV x≤c):=by omega
  have h1:¬ (281474976710656 < Builtin.nextslicecap (m + zV x) c * bytes):=by omega
  have h2:¬ (9223372036854775807 < (m:Int) + (zV x:Int)):=by omega
  rcases hu1 with⟨d,hd⟩ | hd
  ·simp [Builtin.append_,run_underlying hu,run_underlying hd,sizeOf,typeInfo,hi,hs,hby,hl1,h0,h1,h2,zeroValue,hv,choose,Sem.run,Question.forced,Question.cut,askRoom]
   rw [hold]
   simp only [Result.andThen,hf']
   simp [newRow,newObj,Sem.run_bind,Sem.run,Result.andThen,pure]
   generalize Builtin.zeroCells v.cells _=z
   show w.drew.alloc _=w.drew.alloc _
   congr 2
   apply Array.toList_inj.1
   simp
  ·simp [Builtin.append_,run_underlying hu,run_underlying hd,sizeOf,typeInfo,hi,hs,hby,hl1,h0,h1,h2,zeroValue,hv,choose,Sem.run,Question.forced,Question.cut,askRoom]
   rw [hold]
   simp only [Result.andThen,hf']
   simp [newRow,newObj,Sem.run_bind,Sem.run,Result.andThen,pure]
   generalize Builtin.zeroCells v.cells _=z
   show w.drew.alloc _=w.drew.alloc _
   congr 2
   apply Array.toList_inj.1
   simp
theorem zGs (hsat : Sat w.heap H) {t0 t1 e ty : TypeId} {size bytes : Nat} {zero : List Value} {x : Value} (hu : E.P.underlying t0 = some (.slice e)) (hu1 : (∃ d, E.P.underlying t1 = some (.slice d)) ∨ E.P.underlying t1 = some .string)
  (he:zBN E.P e size bytes zero=true) (hk:pG H size x) {b m c:Nat} {cc:Array Value} {T:TypeId} {fz:Nat × Nat} (hh:w.heap[b]? = some (.cells cc T fz)) (hcc:cc.size=c * size)
  (hfz:∀ i,i < cc.size→¬ (fz.1≤i∧i < fz.2)) (h1:(zN H size x).all yV=true) (hroom:m + zV x≤c) :
  (Builtin.append_ #[t0, t1] ty #[.slice (some ⟨b, 0, none⟩) m c, x]).run E.P w =
   .ok (.slice (some ⟨b,0,none⟩) (m + zV x) c) (w.putObj b (.cells (xC cc.toList (m * size) (zN H size x)).toArray T fz)):=by
 obtain⟨i,v,hi,hs,hby,hv,hvz,hzl,hpos⟩:=jD he
 obtain⟨hl1,hf,hlen⟩:=zDq (E:=E) hsat hk
 have hle:m * size + (zN H size x).length≤cc.size:=by rw [hlen,hcc,← Nat.add_mul]; exact Nat.mul_le_mul_right _ hroom
 have hst:=kV (P:=E.P) (zN H size x) 0 (o:=m * size) hh (by simpa using hle) (fun j _ hj=>hfz j (by simp at hj; omega)) h1
 simp only [Nat.add_zero] at hst
 rcases hu1 with ⟨d, hd⟩ | hd <;>
  simp [Builtin.append_,run_underlying hu,run_underlying hd,sizeOf,typeInfo,hi,hs,hl1,hroom,hf,zBh,hst]
theorem zGz (hsat : Sat w.heap H) {t0 t1 e ty : TypeId} {size bytes : Nat} {zero : List Value} {x : Value} (hu : E.P.underlying t0 = some (.slice e)) (hu1 : (∃ d, E.P.underlying t1 = some (.slice d)) ∨ E.P.underlying t1 = some .string)
  (he:zBN E.P e size bytes zero=true) (hk:pG H size x) (h0:zV x=0):(Builtin.append_ #[t0,t1] ty #[.slice none 0 0,x]).run E.P w = .ok (.slice none 0 0) w:=by
 obtain⟨i,v,hi,hs,hby,hv,hvz,hzl,hpos⟩:=jD he
 obtain⟨hl1,hf,hlen⟩:=zDq (E:=E) hsat hk
 rw [h0] at hf
 rcases hu1 with⟨d,hd⟩ | hd<;>simp [Builtin.append_,run_underlying hu,run_underlying hd,sizeOf,typeInfo,hi,hs,hl1,h0,hf]
end
end Go.SL
/- Maps. -/
namespace Go.SL
open Go
section
variable {E:Env} {n:Nat} {w0:World} {H0:Hp} {fr:Fr} {H:Hp} {a:Act} {w:World} {β:Nat→Option Nat}
theorem zEL {t : TypeId} {z : Value} (h : zBp E.P t z = true) : (zeroValue t).run E.P w = .ok z w := by
 unfold zBp at h
 split at h
 ·rename_i i hi
  split at h
  ·rename_i x y hv
   have:x=y:=by apply Array.toList_inj.1; exact zCg h
   subst this
   simp [zeroValue,uT hi,hv]
  ·rename_i v z' hv hn
   rw [← zKx h]
   simp [zeroValue,uT hi,hv]
  ·cases h
 ·cases h
theorem zEa {em : Bool} {d : Nat} {cs : Array Value} : ∀ (fs : List Field) (i : Nat) (ks : List Kd), zCZ E.P fs i ks = true → i + ks.length ≤ cs.toList.length →
  (forIn fs PUnit.unit (fun f (_ : PUnit) => (do
   if f.name ≠ "_" then Instr.checkKey em (d + 1) f.type (← part f.type cs f.offset)
   pure (ForInStep.yield PUnit.unit):Sem (ForInStep PUnit)))).run E.P w = .ok PUnit.unit w
 | [],i,ks,_,_=>rfl
 | f :: fs, i, ks, hf, hl => by
  cases ks with
  | nil=>simp [zCZ] at hf
  | cons k ks =>
   simp only [zCZ,Bool.and_eq_true,bne_iff_ne,ne_eq,beq_iff_eq] at hf
   obtain⟨⟨⟨h1,h2⟩,h3⟩,h4⟩:=hf
   simp only [List.length_cons] at hl
   have hlt:i < cs.size:=by simp at hl; omega
   have hp:=zGl (E:=E) (w:=w) h3 (cs:=cs) (i:=i) (v:=cs[i]) (by simp [hlt])
   have hck : (Instr.checkKey em (d + 1) f.type cs[i]).run E.P w = .ok () w := by
    unfold zFF at h3
    split at h3
    ·rename_i hu; simp [Instr.checkKey,run_underlying hu]
    ·rename_i hu; simp [Instr.checkKey,run_underlying hu]
    ·rename_i hu; simp [Instr.checkKey,run_underlying hu]
    ·cases h3
   have ih:=zEa (em:=em) (d:=d) (cs:=cs) fs (i + 1) ks h4 (by omega)
   rw [List.forIn_cons,Sem.run_bind]
   simp only [if_pos (show f.name ≠ "_" from h1), Sem.run_bind, h2, hp, Result.andThen, hck, Sem.run_pure]
   exact ih
theorem zLo {t : TypeId} {ag : Bool} {ks : List Kd} {em : Bool} {k : Value} (d : Nat) (hk : pH E.P t ag ks = true) (hs : zBb ag ks k) : (Instr.checkKey em (d + 2) t k).run E.P w = .ok () w := by
 unfold pH at hk
 split at hk
 ·rename_i ha
  subst ha
  unfold zFv at hk
  split at hk
  ·rename_i fs hu
   simp only [Bool.and_eq_true] at hk
   simp only [zBb,if_true] at hs
   split at hs
   ·rename_i cs
    have:=zEa (E:=E) (w:=w) (em:=em) (d:=d) (cs:=cs) fs.toList 0 ks hk.2 (by omega)
    rw [Instr.checkKey]
    simp only [Sem.run_bind,run_underlying hu,Result.andThen]
    rw [← Array.forIn_toList]
    have e : (fun (f : Field) (_ : PUnit) => (do
      if f.name ≠ "_" then Instr.checkKey em (d + 1) f.type (← part f.type cs f.offset)
      pure (ForInStep.yield PUnit.unit) : Sem (ForInStep PUnit))) = (fun f _ => if f.name ≠ "_" then do
      let x ← part f.type cs f.offset
      Instr.checkKey em (d + 1) f.type x
      pure (ForInStep.yield PUnit.unit)
     else pure (ForInStep.yield PUnit.unit)):=by
     funext f _; rfl
    rw [e] at this
    rw [this]
    rfl
   ·exact hs.elim
  ·cases hk
 ·split at hk
  ·rename_i kd
   simp only [beq_iff_eq] at hk
   unfold zFF at hk
   split at hk
   ·rename_i hu; simp [Instr.checkKey,run_underlying hu]
   ·rename_i hu; simp [Instr.checkKey,run_underlying hu]
   ·rename_i hu; simp [Instr.checkKey,run_underlying hu]
   ·cases hk
  ·cases hk
theorem zCQ {t : TypeId} {ag : Bool} {ks : List Kd} {em : Bool} {k : Value} {N : Nat} (d : Nat) (hN : N = d + 2) (hk : pH E.P t ag ks = true) (hs : zBb ag ks k) : (Instr.checkKey em N t k).run E.P w = .ok () w := by
 subst hN
 exact zLo d hk hs
theorem yIE {t : TypeId} {ag : Bool} {ks : List Kd} {x y : Value} {b : Bool} (d : Nat) (hk : pH E.P t ag ks = true) (h : uX ag ks x y = some b) : (Op.equalIn (d + 2) t x y).run E.P w = .ok b w := by
 unfold pH at hk
 split at hk
 ·rename_i ha
  subst ha
  unfold zFv at hk
  split at hk
  ·rename_i fs hu
   simp only [Bool.and_eq_true,Bool.not_eq_true'] at hk
   simp only [uX,if_true] at h
   unfold zBG at h
   split at h
   ·rename_i xs ys
    have hfs:E.P.fieldsOf t=fs:=by simp [Program.fieldsOf,hu]
    rw [run_equalIn_struct w (d + 1) t xs ys (by rw [hfs]; exact hu) hk.1.1,hfs]
    exact zDR (d:=d) fs.toList 0 ks b hk.2 (by simpa using h)
   ·cases h
  ·cases hk
 ·rename_i ha
  simp only [uX,ha,Bool.false_eq_true,if_false] at h
  split at hk
  ·rename_i kd
   simp only [beq_iff_eq] at hk
   exact zNS (d:=d + 1) hk h
  ·cases hk
theorem yHI {t : TypeId} {ag : Bool} {ks : List Kd} {x y : Value} {b : Bool} {N : Nat} (d : Nat) (hN : N = d + 2) (hk : pH E.P t ag ks = true) (h : uX ag ks x y = some b) : (Op.equalIn N t x y).run E.P w = .ok b w := by
 subst hN
 exact yIE d hk h
theorem zFh {t : TypeId} {ag : Bool} {ks : List Kd} {k : Value} (hk : pH E.P t ag ks = true) : ∀ (es : List MapEntry) (i : Nat) (r : Option (Nat × Value)), uH ag ks k es i = some r →
  (Instr.findAsking t k es i).run E.P w = .ok r w
 | [],i,r,h=>by simp only [uH,Option.some.injEq] at h; subst h; rfl
 | e :: es, i, r, h => by
  simp only [uH] at h
  have he:∀ b,uX ag ks k e.key=some b→(Op.equal t k e.key).run E.P w = .ok b w:=fun b hb=>by unfold Op.equal; exact yHI Op.maxDepth.pred.pred rfl hk hb
  split at h
  ·rename_i hb
   cases h
   simp [Instr.findAsking,Sem.run_bind,he _ hb,Result.andThen]
  ·rename_i hb
   simp only [Instr.findAsking,Sem.run_bind,he _ hb,Result.andThen,Bool.false_eq_true,if_false]
   exact zFh hk es (i + 1) r h
  ·cases h
theorem zIy {t : TypeId} {ag : Bool} {ks : List Kd} {k : Value} {d : TypeDesc} (hd : E.P.underlying t = some d) (hk : pH E.P t ag ks = true) : ∀ (es : List MapEntry) (i : Nat) (r : Option (Nat × Value)), uH ag ks k es i = some r →
  Instr.findNow d k es i=some r∨Instr.findNow d k es i=none
 | [],i,r,h=>by simp only [uH,Option.some.injEq] at h; subst h; exact .inl rfl
 | e :: es, i, r, h => by
  simp only [uH] at h
  have hnow : ∀ b, uX ag ks k e.key = some b → Instr.sameNow d k e.key = some b ∨ Instr.sameNow d k e.key = none := by
   intro b hb
   cases hs:Instr.sameNow d k e.key with
   | none=>exact .inr rfl
   | some c =>
    refine .inl ?_
    unfold pH at hk
    split at hk
    ·rename_i ha
     unfold zFv at hk
     split at hk
     ·rename_i fs hu
      rw [hd] at hu
      cases hu
      simp [Instr.sameNow] at hs
     ·cases hk
    ·rename_i ha
     simp only [uX,ha,Bool.false_eq_true,if_false] at hb
     split at hk
     ·rename_i kd
      simp only at hb
      unfold pA at hb
      split at hb
      ·simp only [Option.some.injEq] at hb
       unfold Instr.sameNow at hs
       split at hs<;>simp_all
      ·unfold Instr.sameNow at hs
       split at hs<;>simp_all
      ·unfold Instr.sameNow at hs
       split at hs<;>simp_all [beq_toListBytes,ByteArray.toList_eq]
      ·cases hb
     ·cases hk
  split at h
  ·rename_i hb
   cases h
   rcases hnow _ hb with h1 | h1
   ·exact .inl (by simp [Instr.findNow,h1])
   ·exact .inr (by simp [Instr.findNow,h1])
  ·rename_i hb
   rcases hnow _ hb with h1 | h1
   ·simp only [Instr.findNow,h1]
    exact zIy hd hk es (i + 1) r h
   ·exact .inr (by simp [Instr.findNow,h1])
  ·cases h
theorem zHJ {t : TypeId} {ag : Bool} {ks : List Kd} (hk : pH E.P t ag ks = true) : ∃ d, E.P.underlying t = some d := by
 cases hu:E.P.underlying t with
 | some d=>exact⟨d,rfl⟩
 | none =>
  exfalso
  unfold pH at hk
  split at hk
  ·simp [zFv,hu] at hk
  ·split at hk
   ·simp [zFF,hu] at hk
   ·cases hk
theorem run_findKey {t : TypeId} {ag : Bool} {ks : List Kd} {k : Value} {es : List MapEntry} {r : Option (Nat × Value)} (hk : pH E.P t ag ks = true) (h : uH ag ks k es 0 = some r) :
  (Instr.findKey t k es).run E.P w = .ok r w:=by
 obtain⟨d,hd⟩:=zHJ hk
 rcases zIy hd hk es 0 r h with h1 | h1
 ·simp only [Instr.findKey,Sem.run_bind,run_underlying hd,Result.andThen,h1]; rfl
 ·simp only [Instr.findKey,Sem.run_bind,run_underlying hd,Result.andThen,h1]
  exact zFh hk es 0 r h
theorem zKQ {k : Kd} {x y : Value} (d : Nat) (h : pA k x y = some true) : Instr.sameBits d y x = true := by
 unfold pA at h
 split at h
 ·simp at h; subst h; simp [Instr.sameBits]
 ·split at h
  ·rename_i hk; subst hk; simp at h; subst h; simp [Instr.sameBits]
  ·cases h
 ·rename_i p q
  simp at h
  have : p = q := by
   obtain⟨⟨p⟩⟩:=p; obtain⟨⟨q⟩⟩:=q
   simp at h; subst h; rfl
  subst this
  simp [Instr.sameBits,beq_toListBytes]
 ·cases h
theorem zQS (d : Nat) : ∀ {ks : List Kd} {xs ys : List Value}, allEq ks xs ys = some true → xs.length = ys.length ∧ (ys.zip xs).all (fun (x, y) => Instr.sameBits d x y) = true
 | [],[],[],_=>by simp
 | k :: ks, x :: xs, y :: ys, h => by
  simp only [allEq] at h
  split at h
  ·rename_i p q hp hq
   simp only [Option.some.injEq,Bool.and_eq_true] at h
   obtain⟨rfl,rfl⟩:=h
   have:=zQS d hq
   refine⟨by simp [this.1],?_⟩
   simp only [List.zip_cons_cons,List.all_cons,Bool.and_eq_true]
   exact⟨zKQ d hp,this.2⟩
  ·cases h
 | [],_ :: _,_,h=>by simp [allEq] at h
 | [],[],_ :: _,h=>by simp [allEq] at h
 | _ :: _,[],_,h=>by simp [allEq] at h
 | _ :: _,_ :: _,[],h=>by simp [allEq] at h
theorem ySU {ag : Bool} {ks : List Kd} {x y : Value} (d : Nat) (h : uX ag ks x y = some true) : Instr.sameBits (d + 1) y x = true := by
 unfold uX at h
 split at h
 ·unfold zBG at h
  split at h
  ·rename_i xs ys
   have:=zQS d h
   have hl:ys.size=xs.size:=by have:=this.1; simp at this; omega
   rw [Instr.sameBits]
   simp only [hl,beq_self_eq_true,Bool.true_and]
   exact this.2
  ·cases h
 ·split at h
  ·exact zKQ _ h
  ·cases h
theorem zLc {ag : Bool} {ks : List Kd} {x y : Value} {N : Nat} (d : Nat) (hN : N = d + 1) (h : uX ag ks x y = some true) : Instr.sameBits N y x = true := by
 subst hN
 exact ySU d h
theorem zIm {ag : Bool} {ks : List Kd} {k : Value} : ∀ {es : List MapEntry} {i j : Nat} {v : Value}, uH ag ks k es i = some (some (j, v)) → ∃ e, i ≤ j ∧ es[j - i]? = some e ∧ uX ag ks k e.key = some true ∧ e.val = v
 | [],i,j,v,h=>by simp [uH] at h
 | e :: es, i, j, v, h => by
  simp only [uH] at h
  split at h
  ·rename_i hb
   simp only [Option.some.injEq,Prod.mk.injEq] at h
   obtain⟨rfl,rfl⟩:=h
   exact⟨e,Nat.le_refl _,by simp,hb,rfl⟩
  ·obtain⟨e',h1,h2,h3⟩:=zIm h
   refine⟨e',by omega,?_,h3⟩
   rw [show j - i=(j - (i + 1)) + 1 by omega,List.getElem?_cons_succ]
   exact h2
  ·cases h
end
end Go.SL
