/- Operations that write, lay new rows, or call; one operation; a list of them. -/
import Derived.Test.YtloknibdaldffaaGreatDoorNplD
namespace Go.SL
open Go
def one1 : Value → Bool
 | .agg _ | .tuple _ => false
 | _ => true
inductive BOp where
 | sim (x : AOp)
 | st (n : Nat) (x v : Arg)
 | newH (zero : List Value)
 | newT (k : Nat) (zero : List Value)
 | ldo (x : Arg)
 | sto (x v : Arg)
 | boxH (x : Arg)
 | callp (f : Nat) (args : List Arg)
 | call (f : Nat) (args : List Arg)
 | callv (x : Arg) (args : List Arg)
 | mksl (size len : Nat) (zero : List Value) (parts : List (Nat × Nat × Arg))
 | mk (size bytes : Nat) (zero : List Value) (l c : Arg)
 | app (size bytes : Nat) (zero : List Value) (s x : Arg)
 | appT (k bytes : Nat) (zero : List Value) (s x : Arg)
 | mkmap (r : Option Arg)
 | look (ag : Bool) (ks : List Kd) (zero : Value) (ok : Bool) (m k : Arg)
 | upd (ag : Bool) (ks : List Kd) (m k v : Arg)
 | mlen (m : Arg)
 | ment (ag : Bool) (ks : List Kd) (zero : Value) (m k : Arg)
 | est (m s v : Arg)
 | rng (m : Arg)
 | nxt (it : Arg)
 | ent (it : Arg)
structure AOper where
 dst : Option Nat
 op : BOp
 guard : Option (Nat × Bool)
def gok (fr : Fr) : Option (Nat × Bool) → Prop
 | none => True
 | some (s, _) => match fr.get s with
  | some ⟨_,.val (.bool _)⟩ => True
  | _ => False
def gcond (fr : Fr) : Option (Nat × Bool) → Bool
 | none => true
 | some (s, want) => match fr.get s with
  | some ⟨c,.val (.bool b)⟩ => c && (b == want)
  | _ => false
def setD (fr : Fr) : Option Nat → SV → Fr
 | none,_ => fr
 | some d,v => fr.set d v
def Fr.upb (fr : Fr) (s : Nat) (vs : List Value) : Fr := fr.map fun e => if e.1 = s then (e.1,⟨e.2.c,.box vs⟩) else e
def FnP (E : Env) (f : Nat) (args : List Value) (H : Hp) (v : Value) : Prop := Fn E.P (E.fn f) args H fun u H' => u = v ∧ H.le H'
def enters (P : Program) (f : FuncId) : Bool :=
 match P.funcs[f]? with
 | some fn => fn.name != "runtime.NumGoroutine" && fn.body.isSome
 | none => false
def CallV (P : Program) (x : Value) (args : List Value) (w : World) (R : Ending → World → Prop) : Prop :=
 match x with
 | .func (.func g) first cap => enters P g = true ∧ Calls P g (first.toList ++ args ++ cap.toList).toArray w R
 | .func (.yield l) first _ => ∃ fn tmps assign body,(Instr.yield l (first.toList ++ args).toArray).run P w = .ok (.round l fn tmps assign body) w ∧ RoundIn Fence.wide 0 P l fn tmps assign body w R
 | _ => False
def FnV (E : Env) (x : Value) (args : List Value) (H : Hp) (Q : Value → Hp → Prop) : Prop :=
 ∀ w,Sat w.heap H → CallV E.P x args w fun e w' => ∃ v H',e = .returned v ∧ Sat w'.heap H' ∧ Kept H w w' H' ∧ Q v H'
theorem CallV.mono {P : Program} {x : Value} {args : List Value} {w : World} {R R' : Ending → World → Prop} (h : CallV P x args w R) (k : ∀ e w, R e w → R' e w) : CallV P x args w R' := by
 unfold CallV at *
 split <;> simp only at h
 ·exact ⟨h.1,h.2.mono k⟩
 ·obtain ⟨fn,tmps,assign,body,h1,h2⟩ := h; exact ⟨fn,tmps,assign,body,h1,h2.mono k⟩
theorem FnV.mono {E : Env} {x : Value} {args : List Value} {H : Hp} {Q Q' : Value → Hp → Prop} (h : FnV E x args H Q) (k : ∀ v H', Q v H' → Q' v H') : FnV E x args H Q' :=
 fun w hw => (h w hw).mono fun _ _ ⟨v,H',he,hs,hk,hq⟩ => ⟨v,H',he,hs,hk,k v H' hq⟩
def rep (z : List Value) : Nat → List Value
 | 0 => []
 | n + 1 => z ++ rep z n
def srcLen : Value → Nat
 | .slice _ n _ => n
 | .string s => s.data.toList.length
 | _ => 0
def srcCells (H : Hp) (size : Nat) : Value → List Value
 | .slice (some a) n _ => match H a.block with
  | some (.row vs _ _) => (vs.drop a.off).take (n * size)
  | _ => []
 | .slice none _ _ => []
 | .string s => s.data.toList.map fun b => .int .u8 b.toNat
 | _ => []
def srcOk (H : Hp) (size : Nat) : Value → Prop
 | .slice (some a) n _ => n = 0 ∨ (a.spot = none ∧ (match H a.block with
  | some (.row vs _ _) => a.off + n * size ≤ vs.length
  | _ => False))
 | .slice none n _ => n = 0
 | .string _ => size = 1
 | _ => False
def big (E : Env) (op : BOp) (d : Option Nat) (fr : Fr) (H : Hp) (K : Fr → Hp → Prop) : Prop :=
 match op with
 | .st n x v => pok fr x ∧ vok fr v ∧ (vo E fr v).cells.toList.length = n ∧ (vo E fr v).cells.toList.all one1 = true ∧
   (match pvo E fr x with
    | .lp s o => (match fr.get s with
     | some ⟨true,.box vs⟩ => o + n ≤ vs.length ∧ K (setD (fr.upb s (splice vs o (vo E fr v).cells.toList)) d ⟨true,.val undef⟩) H
     | _ => False)
    | .val (.pointer (some a)) => a.spot = none ∧ (match H a.block with
     | some (.row vs cap true) => a.off + n ≤ vs.length ∧ K (setD fr d ⟨true,.val undef⟩) (H.put a.block (.row (splice vs a.off (vo E fr v).cells.toList) cap true))
     | _ => False)
    | _ => False)
 | .newH zero => ∀ b,H b = none → K (setD fr d ⟨true,.val (.pointer (some ⟨b,0,none⟩))⟩) (H.put b (.row zero zero.length true))
 | .newT k zero => ∀ b,H b = none → K (setD fr d ⟨true,.val (.pointer (some ⟨b,0,none⟩))⟩) (H.put b (.obj (.cells zero.toArray (E.gl k) (0,0))))
 | .ldo x => vok fr x ∧ ∃ b o c T fz v,vo E fr x = .pointer (some ⟨b,o,none⟩) ∧ H b = some (.obj (.cells c T fz)) ∧ c[o]? = some v ∧ K (setD fr d ⟨true,.val v⟩) H
 | .sto x v => vok fr x ∧ vok fr v ∧ (vo E fr v).cells.toList.length = 1 ∧ (vo E fr v).cells.toList.all one1 = true ∧ ∃ b o c T, vo E fr x = .pointer (some ⟨b, o, none⟩) ∧ H b = some (.obj (.cells c T (0, 0))) ∧ o < c.size ∧
   K (setD fr d ⟨true,.val undef⟩) (H.put b (.obj (.cells (splice c.toList o (vo E fr v).cells.toList).toArray T (0,0))))
 | .boxH x => vok fr x ∧ ∀ b,H b = none → K (setD fr d ⟨true,.val (.pointer (some ⟨b,0,none⟩))⟩) (H.put b (.row (vo E fr x).cells.toList (vo E fr x).cells.toList.length true))
 | .call f args => allok fr args ∧ ∃ Q,Fn E.P (E.fn f) (args.map (vo E fr)) H Q ∧ ∀ v H',Q v H' → K (setD fr d ⟨true,.val v⟩) H'
 | .callv x args => vok fr x ∧ allok fr args ∧ ∃ Q,FnV E (vo E fr x) (args.map (vo E fr)) H Q ∧ ∀ v H',Q v H' → K (setD fr d ⟨true,.val v⟩) H'
 | .mksl _ len zero parts => fillC E fr zero.length parts ∧ ∀ b,H b = none → K (setD fr d ⟨true,.val (.slice (some ⟨b,0,none⟩) len len)⟩) (H.put b (.row (fillT E fr zero parts) zero.length true))
 | .mk size bytes zero l c => vok fr l ∧ vok fr c ∧ (match vo E fr l, vo E fr c with
  | .int _ p, .int _ q => 0 ≤ p ∧ p ≤ q ∧ bytes * q ≤ 140737488355328 ∧ q ≤ 4611686018427387904 ∧
    ∀ b,H b = none → K (setD fr d ⟨true,.val (.slice (some ⟨b,0,none⟩) p.toNat q.toNat)⟩) (H.put b (.row (rep zero p.toNat) (q.toNat * size) true))
  | _,_ => False)
 | .app size bytes _ s x => vok fr s ∧ vok fr x ∧ srcOk H size (vo E fr x) ∧ (srcCells H size (vo E fr x)).all one1 = true ∧ (match vo E fr s with
  | .slice none 0 0 => srcLen (vo E fr x) * bytes ≤ 140737488355328 ∧ srcLen (vo E fr x) ≤ 4611686018427387904 ∧
    (srcLen (vo E fr x) = 0 → K (setD fr d ⟨true,.val (.slice none 0 0)⟩) H) ∧
    (0 < srcLen (vo E fr x) → ∀ b cap,H b = none → K (setD fr d ⟨true,.val (.slice (some ⟨b,0,none⟩) (srcLen (vo E fr x)) cap)⟩) (H.put b (.row (srcCells H size (vo E fr x)) (cap * size) true)))
  | .slice (some ⟨b0, 0, none⟩) n cap0 => (n + srcLen (vo E fr x)) * bytes ≤ 140737488355328 ∧ n + srcLen (vo E fr x) ≤ 4611686018427387904 ∧ (match H b0 with
    | some (.row vs capc true) => vs.length = n * size ∧ capc = cap0 * size ∧
      ∀ b cap,(H.del b0) b = none → K (setD fr d ⟨true,.val (.slice (some ⟨b,0,none⟩) (n + srcLen (vo E fr x)) cap)⟩) ((H.del b0).put b (.row (vs ++ srcCells H size (vo E fr x)) (cap * size) true))
    | _ => False)
  | _ => False)
 | .appT k bytes _ s x => vok fr s ∧ vok fr x ∧ srcOk H 1 (vo E fr x) ∧ (srcCells H 1 (vo E fr x)).all one1 = true ∧ (match vo E fr s with
  | .slice none 0 0 => srcLen (vo E fr x) * bytes ≤ 140737488355328 ∧ srcLen (vo E fr x) ≤ 4611686018427387904 ∧
    (srcLen (vo E fr x) = 0 → K (setD fr d ⟨true,.val (.slice none 0 0)⟩) H) ∧
    (0 < srcLen (vo E fr x) → ∀ b cap rest,H b = none → srcLen (vo E fr x) ≤ cap → rest.length = cap - srcLen (vo E fr x) → K (setD fr d ⟨true,.val (.slice (some ⟨b,0,none⟩) (srcLen (vo E fr x)) cap)⟩) (H.put b (.obj (.cells (srcCells H 1 (vo E fr x) ++ rest).toArray (E.gl k) (0,0)))))
  | .slice (some ⟨b0, 0, none⟩) n cap0 => (n + srcLen (vo E fr x)) * bytes ≤ 140737488355328 ∧ n + srcLen (vo E fr x) ≤ 4611686018427387904 ∧ n ≤ cap0 ∧ (∃ c : Array Value, H b0 = some (.obj (.cells c (E.gl k) (0, 0))) ∧ c.size = cap0 ∧
    ∀ b cap rest,(H.del b0) b = none → n + srcLen (vo E fr x) ≤ cap → rest.length = cap - (n + srcLen (vo E fr x)) → K (setD fr d ⟨true,.val (.slice (some ⟨b,0,none⟩) (n + srcLen (vo E fr x)) cap)⟩) ((H.del b0).put b (.obj (.cells (c.toList.take n ++ srcCells H 1 (vo E fr x) ++ rest).toArray (E.gl k) (0,0)))))
  | _ => False)
 | .mkmap r => (match r with
  | none => True
  | some x => vok fr x ∧ (match vo E fr x with
   | .int _ _ => True
   | _ => False)) ∧ ∀ b,H b = none → K (setD fr d ⟨true,.val (.map (some b))⟩) (H.put b (.obj (.map #[] 0)))
 | .look ag ks zero ok m k => vok fr m ∧ vok fr k ∧ keyIs ag ks (vo E fr k) ∧ (match vo E fr m with
  | .map none => K (setD fr d ⟨true,.val (if ok then .tuple #[zero,.bool false] else zero)⟩) H
  | .map (some r) => (match H r with
   | some (.obj (.map es _)) => (match mfind ag ks (vo E fr k) es.toList 0 with
    | some (some (_,v)) => K (setD fr d ⟨true,.val (if ok then .tuple #[v,.bool true] else v)⟩) H
    | some none => K (setD fr d ⟨true,.val (if ok then .tuple #[zero,.bool false] else zero)⟩) H
    | none => False)
   | _ => False)
  | _ => False)
 | .upd ag ks m k v => vok fr m ∧ vok fr k ∧ vok fr v ∧ keyIs ag ks (vo E fr k) ∧ (match vo E fr m with
  | .map (some r) => (match H r with
   | some (.obj (.map es clock)) => (match mfind ag ks (vo E fr k) es.toList 0 with
    | some (some (i,_)) => K (setD fr d ⟨true,.val undef⟩) (H.put r (.obj (.map (es.modify i fun e => { e with key := vo E fr k,val := vo E fr v }) clock)))
    | some none => K (setD fr d ⟨true,.val undef⟩) (H.put r (.obj (.map (es.push { key := vo E fr k,val := vo E fr v,born := clock }) (clock + 1))))
    | none => False)
   | _ => False)
  | _ => False)
 | .mlen m => vok fr m ∧ (match vo E fr m with
  | .map none => K (setD fr d ⟨true,.val (.int .i64 0)⟩) H
  | .map (some r) => (match H r with
   | some (.obj (.map es _)) => K (setD fr d ⟨true,.val (.int .i64 es.size)⟩) H
   | _ => False)
  | _ => False)
 | .ment ag ks zero m k => vok fr m ∧ vok fr k ∧ keyIs ag ks (vo E fr k) ∧ ∃ r es clock, vo E fr m = .map (some r) ∧ H r = some (.obj (.map es clock)) ∧
   ((∃ i v, mfind ag ks (vo E fr k) es.toList 0 = some (some (i, v)) ∧ K (setD fr d ⟨true, .val (.tuple #[v, .int .i64 (((es[i]?).map (·.born)).getD 0)])⟩) (H.put r (.obj (.map (es.modify i fun e => { e with key := vo E fr k }) clock)))) ∨
    (mfind ag ks (vo E fr k) es.toList 0 = some none ∧ K (setD fr d ⟨true,.val (.tuple #[zero,.int .i64 clock])⟩) (H.put r (.obj (.map (es.push { key := vo E fr k,val := zero,born := clock }) (clock + 1))))))
 | .est m s v => vok fr m ∧ vok fr s ∧ vok fr v ∧ ∃ r kd b es clock i, vo E fr m = .map (some r) ∧ vo E fr s = .int kd b ∧ H r = some (.obj (.map es clock)) ∧ es.findIdx? (fun e => (e.born : Int) == b) = some i ∧
   K (setD fr d ⟨true,.val undef⟩) (H.put r (.obj (.map (es.modify i fun e => { e with val := vo E fr v }) clock)))
 | .rng m => vok fr m ∧ ∃ r es clock, vo E fr m = .map (some r) ∧ H r = some (.obj (.map es clock)) ∧
   ∀ b,H b = none → K (setD fr d ⟨true,.val (.pointer (some ⟨b,0,none⟩))⟩) (H.put b (.obj (.mapIter (some r) clock #[] clock)))
 | .nxt it => vok fr it ∧ ∃ b r since seen last es clock, vo E fr it = .pointer (some ⟨b, 0, none⟩) ∧ H b = some (.obj (.mapIter (some r) since seen last)) ∧ H r = some (.obj (.map es clock)) ∧
   since ≤ last ∧ (∀ e ∈ es,e.born < since) ∧ ((∀ e ∈ es,seen.contains e.born = true) → K (setD fr d ⟨true,.val (.tuple #[.bool false])⟩) H) ∧
   ∀ e ∈ es,seen.contains e.born = false → K (setD fr d ⟨true,.val (.tuple #[.bool true,e.key,e.val])⟩) (H.put b (.obj (.mapIter (some r) since (seen.push e.born) clock)))
 | .ent it => vok fr it ∧ ∃ b r since seen es clock stamp e, vo E fr it = .pointer (some ⟨b, 0, none⟩) ∧ H b = some (.obj (.mapIter (some r) since seen clock)) ∧ H r = some (.obj (.map es clock)) ∧
   seen.back? = some stamp ∧ es.find? (·.born == stamp) = some e ∧ K (setD fr d ⟨true,.val (.tuple #[e.key,e.val])⟩) H
 | _ => False
def ev1 (E : Env) (o : AOper) (fr : Fr) (H : Hp) (K : Fr → Hp → Prop) : Prop :=
 gok fr o.guard ∧
 match o.op with
 | .sim x => (gcond fr o.guard = true → simC E fr H x) ∧ K (setD fr o.dst ⟨gcond fr o.guard,simT E fr H x⟩) H
 | .callp f args => ∃ v,(gcond fr o.guard = true → allok fr args ∧ FnP E f (args.map (vo E fr)) H v) ∧ K (setD fr o.dst ⟨gcond fr o.guard,.val v⟩) H
 | op => (gcond fr o.guard = true → big E op o.dst fr H K) ∧ (gcond fr o.guard = false → K (setD fr o.dst ⟨false,.val undef⟩) H)
def evs (E : Env) : List AOper → Fr → Hp → (Fr → Hp → Prop) → Prop
 | [],fr,H,K => K fr H
 | o :: r,fr,H,K => ev1 E o fr H fun fr' H' => evs E r fr' H' K
theorem big_mono {E : Env} {op : BOp} {d : Option Nat} {fr : Fr} {H : Hp} {K K' : Fr → Hp → Prop} (hk : ∀ fr H, K fr H → K' fr H) (h : big E op d fr H K) : big E op d fr H K' := by
 cases op with
 | sim x => exact h
 | st n x v =>
  simp only [big] at h ⊢
  refine ⟨h.1,h.2.1,h.2.2.1,h.2.2.2.1,?_⟩
  have h := h.2.2.2.2
  split <;> simp_all
  ·split <;> simp_all
  ·split <;> simp_all
 | newH z => exact fun b hb => hk _ _ (h b hb)
 | newT k z => exact fun b hb => hk _ _ (h b hb)
 | ldo x =>
  obtain ⟨h1,b,o,c,T,fz,v,h2,h3,h4,h5⟩ := h
  exact ⟨h1,b,o,c,T,fz,v,h2,h3,h4,hk _ _ h5⟩
 | sto x v =>
  obtain ⟨h1,h2,h3,h4,b,o,c,T,h5,h6,h7,h8⟩ := h
  exact ⟨h1,h2,h3,h4,b,o,c,T,h5,h6,h7,hk _ _ h8⟩
 | boxH x => exact ⟨h.1,fun b hb => hk _ _ (h.2 b hb)⟩
 | callp f args => exact h
 | call f args => obtain ⟨h1,Q,hQ,h2⟩ := h; exact ⟨h1,Q,hQ,fun v H' q => hk _ _ (h2 v H' q)⟩
 | callv x args => obtain ⟨h0,h1,Q,hQ,h2⟩ := h; exact ⟨h0,h1,Q,hQ,fun v H' q => hk _ _ (h2 v H' q)⟩
 | mksl size len zero parts => exact ⟨h.1,fun b hb => hk _ _ (h.2 b hb)⟩
 | mk size bytes zero l c =>
  simp only [big] at h ⊢
  refine ⟨h.1,h.2.1,?_⟩
  have h := h.2.2
  split
  ·rename_i hx hy
   simp only [hx,hy] at h
   exact ⟨h.1,h.2.1,h.2.2.1,h.2.2.2.1,fun b hb => hk _ _ (h.2.2.2.2 b hb)⟩
  ·rename_i hn
   split at h
   ·rename_i hx hy; exact hn _ _ _ _ hx hy
   ·exact h
 | app size bytes zero s x =>
  simp only [big] at h ⊢
  refine ⟨h.1,h.2.1,h.2.2.1,h.2.2.2.1,?_⟩
  have h := h.2.2.2.2
  split
  ·rename_i hx
   simp only [hx] at h
   exact ⟨h.1,h.2.1,fun e => hk _ _ (h.2.2.1 e),fun e b cap hb => hk _ _ (h.2.2.2 e b cap hb)⟩
  ·rename_i hx
   simp only [hx] at h
   refine ⟨h.1,h.2.1,?_⟩
   have h := h.2.2
   split
   ·rename_i hH
    simp only [hH] at h
    exact ⟨h.1,h.2.1,fun b cap hb => hk _ _ (h.2.2 b cap hb)⟩
   ·rename_i hn
    split at h
    ·rename_i hH; exact (hn _ _ hH).elim
    ·exact h
  ·rename_i hn1 hn2
   split at h
   ·rename_i hx; exact (hn1 hx).elim
   ·rename_i hx; exact (hn2 _ _ _ hx).elim
   ·exact h
 | appT kk bytes zero s x =>
  simp only [big] at h ⊢
  refine ⟨h.1,h.2.1,h.2.2.1,h.2.2.2.1,?_⟩
  have h := h.2.2.2.2
  split
  ·rename_i hx
   simp only [hx] at h
   exact ⟨h.1,h.2.1,fun e => hk _ _ (h.2.2.1 e),fun e b cap rest hb h1 h2 => hk _ _ (h.2.2.2 e b cap rest hb h1 h2)⟩
  ·rename_i hx
   simp only [hx] at h
   obtain ⟨h1,h2,h3,c,h4,h5,h6⟩ := h
   exact ⟨h1,h2,h3,c,h4,h5,fun b cap rest hb h7 h8 => hk _ _ (h6 b cap rest hb h7 h8)⟩
  ·rename_i hn1 hn2
   split at h
   ·rename_i hx; exact (hn1 hx).elim
   ·rename_i hx; exact (hn2 _ _ _ hx).elim
   ·exact h
 | mkmap r => exact ⟨h.1,fun b hb => hk _ _ (h.2 b hb)⟩
 | look ag ks zero ok m k =>
  simp only [big] at h ⊢
  refine ⟨h.1,h.2.1,h.2.2.1,?_⟩
  have h := h.2.2.2
  cases hm : vo E fr m <;> simp only [hm] at h ⊢
  rename_i r
  cases r with
  | none => exact hk _ _ h
  | some r =>
   simp only at h ⊢
   cases hH : H r with
   | none => simp only [hH] at h
   | some o =>
    cases o with
    | row => simp only [hH] at h
    | obj o =>
     cases o <;> simp only [hH] at h ⊢
     rename_i es clock
     cases hf : mfind ag ks (vo E fr k) es.toList 0 with
     | none => simp only [hf] at h
     | some q => cases q with
      | none => simp only [hf] at h ⊢; exact hk _ _ h
      | some p => simp only [hf] at h ⊢; exact hk _ _ h
 | upd ag ks m k v =>
  simp only [big] at h ⊢
  refine ⟨h.1,h.2.1,h.2.2.1,h.2.2.2.1,?_⟩
  have h := h.2.2.2.2
  cases hm : vo E fr m <;> simp only [hm] at h ⊢
  rename_i r
  cases r with
  | none => exact h
  | some r =>
   simp only at h ⊢
   cases hH : H r with
   | none => simp only [hH] at h
   | some o =>
    cases o with
    | row => simp only [hH] at h
    | obj o =>
     cases o <;> simp only [hH] at h ⊢
     rename_i es clock
     cases hf : mfind ag ks (vo E fr k) es.toList 0 with
     | none => simp only [hf] at h
     | some q => cases q with
      | none => simp only [hf] at h ⊢; exact hk _ _ h
      | some p => simp only [hf] at h ⊢; exact hk _ _ h
 | mlen m =>
  simp only [big] at h ⊢
  refine ⟨h.1,?_⟩
  have h := h.2
  cases hm : vo E fr m <;> simp only [hm] at h ⊢
  rename_i r
  cases r with
  | none => exact hk _ _ h
  | some r =>
   simp only at h ⊢
   cases hH : H r with
   | none => simp only [hH] at h
   | some o =>
    cases o with
    | row => simp only [hH] at h
    | obj o =>
     cases o <;> simp only [hH] at h ⊢
     exact hk _ _ h
 | ment ag ks zero m k =>
  simp only [big] at h ⊢
  obtain ⟨h1,h2,h3,r,es,clock,h4,h5,h6⟩ := h
  refine ⟨h1,h2,h3,r,es,clock,h4,h5,?_⟩
  rcases h6 with ⟨i,v,h6,h7⟩ | ⟨h6,h7⟩
  ·exact .inl ⟨i,v,h6,hk _ _ h7⟩
  ·exact .inr ⟨h6,hk _ _ h7⟩
 | est m s v =>
  simp only [big] at h ⊢
  obtain ⟨h1,h2,h3,r,kd,b,es,clock,i,h4,h5,h6,h7,h8⟩ := h
  exact ⟨h1,h2,h3,r,kd,b,es,clock,i,h4,h5,h6,h7,hk _ _ h8⟩
 | rng m =>
  simp only [big] at h ⊢
  obtain ⟨h1,r,es,clock,h4,h5,h6⟩ := h
  exact ⟨h1,r,es,clock,h4,h5,fun b hb => hk _ _ (h6 b hb)⟩
 | nxt it =>
  simp only [big] at h ⊢
  obtain ⟨h1,b,r,since,seen,last,es,clock,h2,h3,h4,h5,h6,h7,h8⟩ := h
  exact ⟨h1,b,r,since,seen,last,es,clock,h2,h3,h4,h5,h6,fun e => hk _ _ (h7 e),fun e he hs => hk _ _ (h8 e he hs)⟩
 | ent it =>
  simp only [big] at h ⊢
  obtain ⟨h1,b,r,since,seen,es,clock,stamp,e,h2,h3,h4,h5,h6,h7⟩ := h
  exact ⟨h1,b,r,since,seen,es,clock,stamp,e,h2,h3,h4,h5,h6,hk _ _ h7⟩
theorem ev1_mono {E : Env} {o : AOper} {fr : Fr} {H : Hp} {K K' : Fr → Hp → Prop} (hk : ∀ fr H, K fr H → K' fr H) (h : ev1 E o fr H K) : ev1 E o fr H K' := by
 refine ⟨h.1,?_⟩
 have h := h.2
 split <;> simp_all
 ·obtain ⟨v,h1,h2⟩ := h; exact ⟨v,h1,hk _ _ h2⟩
 ·exact fun hg => big_mono (by assumption) (h.1 hg)
theorem evs_mono {E : Env} : ∀ {l : List AOper} {fr : Fr} {H : Hp} {K K' : Fr → Hp → Prop}, (∀ fr H, K fr H → K' fr H) → evs E l fr H K → evs E l fr H K'
 | [],_,_,_,_,hk,h => hk _ _ h
 | _ :: _,_,_,_,_,hk,h => ev1_mono (fun _ _ h => evs_mono hk h) h
end Go.SL
/- The model's operations do what the abstract ones say. -/
namespace Go.SL
open Go
abbrev FW (ro : Option Nat) : Fence := { Fence.wide with round := ro }
theorem callsFW {ro : Option Nat} {P : Program} {f : FuncId} {args : Array Value} {w : World} {R : Ending → World → Prop} (h : Calls P f args w R) (k : Nat) : CallsIn (FW ro) k P f args w R :=
 (callsIn_wide (n := k)).2 h
theorem run_callFunc {P : Program} {f : FuncId} {args : Array Value} {w : World} (h : enters P f = true) : (callFunc f args).run P w = .ok (.enter f args) w := by
 unfold enters at h
 split at h
 ·rename_i fn hf
  simp only [Bool.and_eq_true,bne_iff_ne,ne_eq] at h
  obtain ⟨h1,h2⟩ := h
  have h3 : (fn.body = none) = False := by cases hb : fn.body <;> simp_all
  simp [callFunc,program,Sem.run_bind,Sem.run,Result.andThen,hf,h1,h3]
 ·cases h
def chkDst (n : Nat) : Option Nat → Option Nat → Bool
 | none,none => true
 | some d,some e => d == e && decide (d < n)
 | _,_ => false
def chkGuard (ops : Array Oper) : Option (Nat × Bool) → Option (Nat × Bool) → Bool
 | none,none => true
 | some (j, b), some (s, b') => b == b' && (match ops[j]? with
   | some o => (match o.dst with | some d => d == s | none => false)
   | none => false)
 | _,_ => false
def elemIs (P : Program) (e : TypeId) (size bytes : Nat) (zero : List Value) : Bool :=
 match P.info? e with
 | some i => i.size == size && i.bytes == bytes && zero.length == size && decide (0 < size) && (match i.zero with
  | some v => vbeqL v.cells.toList zero
  | none => false)
 | none => false
def litZero (P : Program) (e : TypeId) (n : Nat) : Option (Array Value) :=
 if n = 0 then some #[] else match P.info? e with
 | some i => i.zero.map (·.cells)
 | none => none
def keyOK (P : Program) (t : TypeId) (ag : Bool) (ks : List Kd) : Bool :=
 if ag then flatT P t ks else match ks with
  | [k] => kdOf P t == some k
  | _ => false
def zeroValIs (P : Program) (t : TypeId) (z : Value) : Bool :=
 match P.info? t with
 | some i => (match i.zero, z with
  | some (.agg a),.agg b => vbeqL a.toList b.toList
  | some v,z => vbeq v z
  | none,_ => false)
 | none => false
def chkBig (E : Env) : Op → BOp → Bool
 | .box _ X,.sim (.box x) => chkArg E X x
 | .alloc t,.sim (.new z) => zeroIs E.P t z
 | o,.sim x => chkOp E o x
 | .store t X V,.st n x v => sizeIs E.P t n && chkArg E X x && chkArg E V v
 | .alloc t,.newH z => zeroIs E.P t z
 | .alloc t,.newT k z => zeroIs E.P t z && t == E.gl k
 | .load t X,.ldo x => chkN E.P t none && chkArg E X x
 | .store t X V,.sto x v => sizeIs E.P t 1 && chkArg E X x && chkArg E V v
 | .box _ X,.boxH x => chkArg E X x
 | .call { callee := .value (.func g),args,.. },.callp f xs => g == E.fn f && enters E.P g && chkArgs E args.toList xs
 | .call { callee := .value (.func g),args,.. },.call f xs => g == E.fn f && enters E.P g && chkArgs E args.toList xs
 | .buildSlice t len parts, .mksl size l zero ps => len == l && (match E.P.underlying t with
   | some (.slice e) => sizeIs E.P e size && decide (len * size ≤ 2 ^ 24) && chkPartsA E size parts.toList ps && (match litZero E.P e (len * size) with
    | some z => vbeqL ((Array.range (len * size)).map (z[· % z.size]!)).toList zero
    | none => false)
   | _ => false)
 | .makeSlice t L C, .mk size bytes zero l c => (match E.P.underlying t with
   | some (.slice e) => elemIs E.P e size bytes zero
   | _ => false) && chkArg E L l && chkArg E C c
 | .call { callee := .builtin .append, args, argTypes }, .app size bytes zero s x => (match argTypes.toList, args.toList with
   | [t0, t1], [S, X] => (match E.P.underlying t0 with
     | some (.slice e) => elemIs E.P e size bytes zero
     | _ => false) && (match E.P.underlying t1 with
     | some (.slice _) => true
     | some .string => true
     | _ => false) && chkArg E S s && chkArg E X x
   | _,_ => false)
 | .call { callee := .builtin .append, args, argTypes }, .appT k bytes zero s x => (match argTypes.toList, args.toList with
   | [t0, t1], [S, X] => (match E.P.underlying t0 with
     | some (.slice e) => elemIs E.P e 1 bytes zero && e == E.gl k
     | _ => false) && (match E.P.underlying t1 with
     | some (.slice _) => true
     | some .string => true
     | _ => false) && chkArg E S s && chkArg E X x
   | _,_ => false)
 | .makeMap _ none,.mkmap none => true
 | .makeMap t (some R), .mkmap (some r) => (match E.P.underlying t with
   | some (.map _ _) => true
   | _ => false) && chkArg E R r
 | .lookup t M I ok, .look ag ks zero ok' m k => ok == ok' && (match E.P.underlying t with
   | some (.map kt et) => keyOK E.P kt ag ks && zeroValIs E.P et zero
   | _ => false) && chkArg E M m && chkArg E I k
 | .mapUpdate t M I V, .upd ag ks m k v => (match E.P.underlying t with
   | some (.map kt _) => keyOK E.P kt ag ks
   | _ => false) && chkArg E M m && chkArg E I k && chkArg E V v
 | .insert t M I V, .upd ag ks m k v => (match E.P.underlying t with
   | some (.map kt _) => keyOK E.P kt ag ks
   | _ => false) && chkArg E M m && chkArg E I k && chkArg E V v
 | .mapEntry t M I, .ment ag ks zero m k => (match E.P.underlying t with
   | some (.map kt et) => keyOK E.P kt ag ks && zeroValIs E.P et zero
   | _ => false) && chkArg E M m && chkArg E I k
 | .entryStore _ M S V,.est m s v => chkArg E M m && chkArg E S s && chkArg E V v
 | .range t M, .rng m => (match E.P.underlying t with
   | some (.map _ _) => true
   | _ => false) && chkArg E M m
 | .next I false,.nxt it => chkArg E I it
 | .entry I,.ent it => chkArg E I it
 | .call { callee := .builtin .len, args, argTypes }, .mlen m => (match argTypes.toList, args.toList with
   | [t], [M] => (match E.P.underlying t with
    | some (.map _ _) => true
    | _ => false) && chkArg E M m
   | _,_ => false)
 | .call { callee := .value X,args,.. },.callv x xs => chkArg E X x && chkArgs E args.toList xs
 | _,_ => false
def chk1 (E : Env) (n : Nat) (ops : Array Oper) (o : Oper) (x : AOper) : Bool :=
 chkDst n o.dst x.dst && chkGuard ops o.guard x.guard && chkBig E o.op x.op
section
variable {E : Env} {n : Nat} {w0 : World} {H0 : Hp} {fr : Fr} {H : Hp} {a : Act} {w : World} {β : Nat → Option Nat} {ro : Option Nat}
theorem RelB.setD (h : RelB n w0 H0 fr H a w β) {d d' : Option Nat} (hd : chkDst n d d' = true) (v : Value) (p : PV) (hp : PVval β p v) :
  RelB n w0 H0 (setD fr d' ⟨true,p⟩) H (a.put d v) w β := by
 cases d with
 | none => cases d' with
  | none => exact h
  | some => simp [chkDst] at hd
 | some d => cases d' with
  | none => simp [chkDst] at hd
  | some e =>
   simp only [chkDst,Bool.and_eq_true,beq_iff_eq,decide_eq_true_eq] at hd
   obtain ⟨rfl,hlt⟩ := hd
   refine h.setp hlt v true p (fun _ => ?_) (fun e => by cases e)
   cases p with
   | val u => simp only [PVval] at hp; subst hp; simp [PVok,h.nt,hlt]
   | lp s o => obtain ⟨b,hb,rfl⟩ := hp; exact ⟨b,hb,by simp [h.nt,hlt]⟩
   | box => exact hp.elim
theorem RelB.skipD (h : RelB n w0 H0 fr H a w β) {d d' : Option Nat} (hd : chkDst n d d' = true) (p : PV) :
  RelB n w0 H0 (SL.setD fr d' ⟨false,p⟩) H (a.put d undef) w β := by
 cases d with
 | none => cases d' with
  | none => exact h
  | some => simp [chkDst] at hd
 | some d => cases d' with
  | none => simp [chkDst] at hd
  | some e =>
   simp only [chkDst,Bool.and_eq_true,beq_iff_eq,decide_eq_true_eq] at hd
   obtain ⟨rfl,hlt⟩ := hd
   exact h.skipped hlt p
theorem guard_wanted (h : RelB n w0 H0 fr H a w β) {ops : Array Oper} {o : Oper} {g : Option (Nat × Bool)} (hc : chkGuard ops o.guard g = true) (hg : gok fr g) :
  Region.wanted o (yielded ops a.tmps) = gcond fr g := by
 unfold Region.wanted
 cases hog : o.guard with
 | none => cases g with
  | none => rfl
  | some => simp [hog,chkGuard] at hc
 | some jb => cases g with
  | none => simp [hog,chkGuard] at hc
  | some sb =>
   obtain ⟨j,b⟩ := jb
   obtain ⟨s,b'⟩ := sb
   simp only [hog,chkGuard,Bool.and_eq_true,beq_iff_eq] at hc
   obtain ⟨rfl,hc⟩ := hc
   split at hc
   ·rename_i oj hoj
    split at hc
    ·rename_i d hd
     have hds : d = s := by simpa using hc
     subst hds
     simp only [gok] at hg
     split at hg
     ·rename_i c q he
      simp only [gcond,he]
      have hy : yielded ops a.tmps j = if c = true then some q else none := by
       simp only [yielded,hoj,hd,Option.bind_some]
       cases c with
       | true => have := h.slots _ _ he rfl; simp only [PVok] at this; simp [this]
       | false => have := h.skip _ _ he rfl; simp [this,undef]
      rw [hy]
      cases c <;> cases q <;> cases b <;> rfl
     ·exact hg.elim
    ·cases hc
   ·cases hc
theorem wpIn_val {F : Fence} (hF : ∀ f, F.fn f) {m : Nat} {P : Program} {o : Oper} {a : Act} {w w' : World} {K : Act → World → Prop} {Q : Exit → Act → World → Prop} {v : Value}
  (hd : ∀ c,o.op ≠ .defer c) (h : (execOp a.eval o).run P w = .ok (.value v) w') (k : K (a.put o.dst v) w') : o.wpIn F m P a w K Q := by
 refine ⟨fun f _ => hF f,?_⟩
 rw [Oper.semAt_eq _ _ _ hd,h]
 exact k
theorem wpIn_skp {F : Fence} (hF : ∀ f, F.fn f) {m : Nat} {P : Program} {o : Oper} {a : Act} {w w' : World} {K : Act → World → Prop} {Q : Exit → Act → World → Prop}
  (hd : ∀ c,o.op ≠ .defer c) (h : (execOp a.eval o).run P w = .ok .skip w') (k : K (a.put o.dst undef) w') : o.wpIn F m P a w K Q := by
 refine ⟨fun f _ => hF f,?_⟩
 rw [Oper.semAt_eq _ _ _ hd,h]
 exact k
theorem wpIn_ent {m : Nat} {P : Program} {o : Oper} {a : Act} {w : World} {K : Act → World → Prop} {Q : Exit → Act → World → Prop} {f : FuncId} {args : Array Value}
  (hd : ∀ c,o.op ≠ .defer c) (h : (execOp a.eval o).run P w = .ok (.enter f args) w)
  (k : Calls P f args w fun e w' => ∃ v,e = .returned v ∧ K (a.put o.dst v) w') : o.wpIn (FW ro) m P a w K Q := by
 refine ⟨fun f _ => trivial,?_⟩
 rw [Oper.semAt_eq _ _ _ hd,h]
 refine ⟨fun hd => (by cases hd),?_⟩
 refine callsFW (k.mono ?_) _
 rintro e w' ⟨v,rfl,hk⟩
 exact hk
end
end Go.SL
/- Stores, new rows. -/
namespace Go.SL
open Go
theorem splice_length {l : List Value} {k : Nat} {vs : List Value} (h : k + vs.length ≤ l.length) : (splice l k vs).length = l.length := by
 simp [splice]; omega
theorem splice_nil (l : List Value) (k : Nat) : splice l k [] = l := by simp [splice]
theorem splice_set {l : List Value} {k : Nat} {v : Value} {r : List Value} (h : k < l.length) : splice (l.set k v) (k + 1) r = splice l k (v :: r) := by
 unfold splice
 have e1 : (l.set k v).take (k + 1) = l.take k ++ [v] := by
  rw [List.take_succ_eq_append_getElem (by simpa using h)]
  simp [List.take_set_of_le]
 have e2 : (l.set k v).drop (k + 1 + r.length) = l.drop (k + (v :: r).length) := by
  rw [List.drop_set_of_lt (by omega)]
  congr 1
  simp; omega
 rw [e1,e2]
 simp
theorem splice_prefix {l m : List Value} {k : Nat} {vs : List Value} (hp : l <+: m) (h : k + vs.length ≤ l.length) : splice l k vs <+: splice m k vs := by
 obtain ⟨r,rfl⟩ := hp
 refine ⟨r,?_⟩
 unfold splice
 rw [List.take_append_of_le_length (by omega),List.drop_append_of_le_length (by omega)]
 simp
section
variable {P : Program}
theorem setCell_put {w : World} {b o : Nat} {c : Array Value} {T : TypeId} {fz : Nat × Nat} (v : Value) (hh : w.heap[b]? = some (.cells c T fz)) :
  w.setCell ⟨b,o,none⟩ v = w.putObj b (.cells (c.setIfInBounds o v) T fz) := by
 unfold World.setCell World.putObj
 congr 1
 obtain ⟨hlt,he⟩ := Array.getElem?_eq_some_iff.1 hh
 apply Array.ext
 ·simp
 ·intro i h1 h2
  by_cases e : i = b
  ·subst e
   rw [Array.getElem_modify_self,Array.getElem_setIfInBounds_self]
   ·rw [he]; simp
  ·rw [Array.getElem_modify_of_ne (Ne.symm e),Array.getElem_setIfInBounds_ne]
   exact Ne.symm e
theorem putObj_putObj (w : World) (b : Nat) (x y : Obj) : (w.putObj b x).putObj b y = w.putObj b y := by
 unfold World.putObj
 simp
theorem putObj_self {w : World} {b : Nat} {x : Obj} (h : w.heap[b]? = some x) : w.putObj b x = w := by
 unfold World.putObj
 have : w.heap.setIfInBounds b x = w.heap := by
  obtain ⟨hlt,he⟩ := Array.getElem?_eq_some_iff.1 h
  apply Array.ext
  ·simp
  ·intro i h1 h2
   by_cases e : i = b
   ·subst e; rw [Array.getElem_setIfInBounds_self,he]
   ·rw [Array.getElem_setIfInBounds_ne]; exact Ne.symm e
 rw [this]
theorem run_storeCells : ∀ (vs : List Value) (i : Nat) {w : World} {b o : Nat} {c : Array Value} {T : TypeId} {fz : Nat × Nat}, w.heap[b]? = some (.cells c T fz) →
  o + i + vs.length ≤ c.size → (∀ j,o + i ≤ j → j < o + i + vs.length → ¬ (fz.1 ≤ j ∧ j < fz.2)) → vs.all one1 = true →
  (storeCells ⟨b,o,none⟩ vs i).run P w = .ok () (w.putObj b (.cells (splice c.toList (o + i) vs).toArray T fz))
 | [], i, w, b, o, c, T, fz, hh, _, _, _ => by
  simp only [storeCells,splice_nil,Array.toArray_toList,putObj_self hh]
  rfl
 | v :: r, i, w, b, o, c, T, fz, hh, hl, hf, h1 => by
  simp only [List.all_cons,Bool.and_eq_true] at h1
  simp only [List.length_cons] at hl hf
  have hlt : o + i < c.size := by omega
  have hc : w.cell? ⟨b,o + i,none⟩ = some c[o + i] := by simp [World.cell?,hh,hlt]
  have hfz : w.frozen? ⟨b, o + i, none⟩ = false := by
   simp only [World.frozen?,hh]
   have := hf (o + i) (Nat.le_refl _) (by omega)
   rw [Bool.eq_false_iff]
   simpa using this
  have hst : (store ⟨b, o + i, none⟩ v).run P w = .ok () (w.putObj b (.cells (c.setIfInBounds (o + i) v) T fz)) := by
   unfold store
   cases v <;> first
    | (simp [one1] at h1; done)
    | simp [Sem.run,hc,hfz,setCell_put _ hh]
  simp only [storeCells,add_none]
  rw [Sem.run_bind,hst]
  simp only [Result.andThen]
  have hb : b < w.heap.size := (Array.getElem?_eq_some_iff.1 hh).1
  rw [run_storeCells r (i + 1) (World.putObj_heap_same hb) (by simp; omega) (fun j h1 h2 => hf j (by omega) (by omega)) h1.2]
  rw [putObj_putObj]
  congr 3
  rw [Array.toList_setIfInBounds]
  have := splice_set (l := c.toList) (k := o + i) (v := v) (r := r) (by simpa using hlt)
  rw [← this,Nat.add_assoc]
theorem kept_push {H : Hp} {w : World} (hs : Sat w.heap H) {o : Obj} {x : AObj} (hx : x.ok (some o)) :
  Sat ({ w with heap := w.heap.push o } : World).heap (H.put w.heap.size x) ∧ Kept H w { w with heap := w.heap.push o } (H.put w.heap.size x) ∧ H w.heap.size = none := by
 have hn : H w.heap.size = none := by
  cases hH : H w.heap.size with
  | none => rfl
  | some o => exact absurd (hs.lt hH) (Nat.lt_irrefl _)
 have hshape : Shp H w { w with heap := w.heap.push o } (H.put w.heap.size x) := fun b hb ht => by
  refine ⟨?_,by rw [Hp.put_ne _ _ (by omega)]; exact ht⟩
  show shp ((w.heap.push o)[b]?) = _
  rw [Array.getElem?_push,if_neg (by omega)]
 refine ⟨fun b y hb => ?_,⟨rfl,rfl,rfl,by simp,fun b hb _ => ?_,fun b y hb => ?_,hshape⟩,hn⟩
 ·show AObj.ok ((w.heap.push o)[b]?) y
  by_cases e : b = w.heap.size
  ·subst e; rw [Hp.put_same] at hb; cases hb; simpa using hx
  ·rw [Hp.put_ne _ _ e] at hb
   have := hs.lt hb
   rw [Array.getElem?_push,if_neg e]
   exact hs b y hb
 ·show (w.heap.push o)[b]? = _
  rw [Array.getElem?_push,if_neg (by omega)]
 ·by_cases e : b = w.heap.size
  ·exact .inr (by omega)
  ·rw [Hp.put_ne _ _ e] at hb; exact .inl (by rw [hb]; simp)
theorem kept_put {H : Hp} {w : World} (hs : Sat w.heap H) {b : Nat} {y x : AObj} (hb : H b = some y) {o : Obj} (hx : x.ok (some o)) (hsh : shp (some o) = shp (w.heap[b]?)) (hty : typedO (some x) → typedO (H b) := by exact fun h => h.elim) :
  Sat (w.putObj b o).heap (H.put b x) ∧ Kept H w (w.putObj b o) (H.put b x) := by
 have hlt := hs.lt hb
 have hshape : Shp H w (w.putObj b o) (H.put b x) := fun c hc ht => by
  by_cases e : c = b
  ·subst e; rw [World.putObj_heap_same hlt,hsh,Hp.put_same]; exact ⟨rfl,fun h => ht (hty h)⟩
  ·rw [World.putObj_heap_other e,Hp.put_ne _ _ e]; exact ⟨rfl,ht⟩
 refine ⟨fun c z hc => ?_,⟨rfl,rfl,rfl,by simp,fun c hc h0 => ?_,fun c z hc => ?_,hshape⟩⟩
 ·by_cases e : c = b
  ·subst e; rw [Hp.put_same] at hc; cases hc; rw [World.putObj_heap_same hlt]; exact hx
  ·rw [Hp.put_ne _ _ e] at hc; rw [World.putObj_heap_other e]; exact hs c z hc
 ·refine World.putObj_heap_other ?_
  rintro rfl; rw [hb] at h0; cases h0
 ·by_cases e : c = b
  ·subst e; exact .inl (by rw [hb]; simp)
  ·rw [Hp.put_ne _ _ e] at hc; exact .inl (by rw [hc]; simp)
end
end Go.SL
