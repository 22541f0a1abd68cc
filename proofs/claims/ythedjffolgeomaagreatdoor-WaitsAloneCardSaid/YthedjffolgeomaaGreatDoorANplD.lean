/- Which operation of the model is which simple operation; each gives its value. -/
import Derived.Test.YthedjffolgeomaaGreatDoorANplA
import Derived.Laws.StructEq
import Derived.Laws.Cover3
namespace Go.SL
open Go
def qM (P : Program) (t : TypeId) (m : Nat) : Bool :=
 match P.info? t with
 | some i=>i.size == m
 | none=>false
def zET (P : Program) (t : TypeId) : Option Bool :=
 match P.underlying t with
 | some (.struct _) | some (.array _ _)=>some true
 | some _=>some false
 | none=>none
def zFz (P : Program) (t : TypeId) : Option Nat → Bool
 | none=>zET P t == some false
 | some m=>zET P t == some true && qM P t m
def zDS (P : Program) (t : TypeId) (z : List Value) : Bool :=
 match P.info? t with
 | some i => match i.zero with
  | some v=>zDf v.cells.toList z
  | none=>false
 | none=>false
def kX (E : Env) : Option Operand → Option Arg → Bool
 | none,none=>true
 | some X,some x=>zQ E X x
 | _,_=>false
def kT (E : Env) : List Operand → List Arg → Bool
 | [],[]=>true
 | X :: Xs,x :: xs=>zQ E X x && kT E Xs xs
 | _,_=>false
def zPR (P : Program) (t : TypeId) : Bool :=
 match P.underlying t with
 | some (.slice _)=>true
 | _=>false
def zCk (E : Env) (fields : Array Field) : List (Nat × Operand) → List (Nat × Nat × Arg) → Bool
 | [],[]=>true
 | (i, X) :: r, (off, size, x) :: r' => (match fields[i]? with
   | some f=>f.offset == off && qM E.P f.type size
   | none=>false) && zQ E X x && zCk E fields r r'
 | _,_=>false
def jH (E : Env) (sz : Nat) : List (Nat × Operand) → List (Nat × Nat × Arg) → Bool
 | [],[]=>true
 | (i,X) :: r,(off,size,x) :: r'=>(i * sz == off && sz == size) && zQ E X x && jH E sz r r'
 | _,_=>false
def zFF (P : Program) (t : TypeId) : Option Kd :=
 match P.underlying t with
 | some .bool=>some .b
 | some (.int _)=>some .i
 | some .string=>some .s
 | _=>none
def zCZ (P : Program) : List Field → Nat → List Kd → Bool
 | [],_,[]=>true
 | f :: fs, i, k :: ks => (f.name != "_") && f.offset == i && zFF P f.type == some k && zCZ P fs (i + 1) ks
 | _,_,_=>false
def zFv (P : Program) (t : TypeId) (ks : List Kd) : Bool :=
 match P.underlying t with
 | some (.struct fs)=>!(P.stoodInHeld t) && !(P.eqGuardType P.depth t) && zCZ P fs.toList 0 ks
 | _=>false
def zGY (P : Program) : List Field → Bool
 | []=>true
 | f :: fs=>(P.info? f.type).isSome && zGY P fs
def zMj (E : Env) : Op → jS → Bool
 | .move X,.mov x=>zQ E X x
 | .assign X,.mov x=>zQ E X x
 | .pick C A B,.pick c a b=>zQ E C c && zQ E A a && zQ E B b
 | .load t X,.ld m x=>zFz E.P t m && zQ E X x
 | .fieldAddr s X f, .fld off x => (match E.P.underlying s with
   | some (.struct fs) => (match fs[f]? with
    | some fd=>fd.offset == off && (match E.P.info? fd.type with | some i=>i.size != 0 | none=>false)
    | none=>false)
   | _=>false) && zQ E X x
 | .indexAddr t X I, .idx size x i => (match E.P.underlying t with
   | some (.slice e)=>qM E.P e size
   | _=>false) && zQ E X x && zQ E I i
 | .indexAddr t X I, .idxa size len x i => (match E.P.underlying t with
   | some (.array l e)=>l == len && qM E.P e size
   | _=>false) && zQ E X x && zQ E I i
 | .call { callee := .builtin .len, args, argTypes }, .len st x => (match argTypes.toList, args.toList with
   | [t], [X] => (match E.P.underlying t, st with
    | some .string,true=>true
    | some (.slice _),false=>true
    | _,_=>false) && zQ E X x
   | _,_=>false)
 | .binOp op _ X Y _,.bin op' x y=>op == op' && zQ E X x && zQ E Y y
 | .binOp op t X Y _,.eqb neg x y=>(op == (if neg then .neq else .eql)) && (match E.P.underlying t with | some .bool=>true | _=>false) && zQ E X x && zQ E Y y
 | .binOp op t X Y _,.eqs neg ks x y=>(op == (if neg then .neq else .eql)) && zFv E.P t ks && zQ E X x && zQ E Y y
 | .binOp op t X Y _,.eqn neg x y=>(op == (if neg then .neq else .eql)) && zPR E.P t && zQ E X x && zQ E Y y
 | .build t parts, .bld zero ps => zDS E.P t zero && (match E.P.underlying t with
   | some (.struct fs)=>zGY E.P fs.toList && zCk E fs parts.toList ps
   | some (.array _ e) => (match ps with
    | []=>parts.isEmpty && (E.P.info? e).isSome
    | (_,sz,_) :: _=>qM E.P e sz && jH E sz parts.toList ps)
   | _=>false)
 | .unOp .not _ X,.not x=>zQ E X x
 | .unOp .neg _ X,.neg x=>zQ E X x
 | .extract X i,.ext j x=>i == j && zQ E X x
 | .index t X I,.idxs x i=>(match E.P.underlying t with | some .string=>true | _=>false) && zQ E X x && zQ E I i
 | .convert s t X, .cvi k x => (match E.P.underlying s, E.P.underlying t with
   | some _,some (.int l)=>l == k
   | _,_=>false) && zQ E X x
 | .convert s t X, .cvs x => (match E.P.underlying s, E.P.underlying t with
   | some _,some .string=>true
   | _,_=>false) && zQ E X x
 | .slice t X lo hi mx, .slc size x l h m => (match E.P.underlying t with
   | some (.slice e)=>qM E.P e size
   | _=>false) && zQ E X x && kX E lo l && kX E hi h && kX E mx m && (mx.isNone || hi.isSome)
 | .slice t X lo hi none, .slcs x l h => (match E.P.underlying t with
   | some .string=>true
   | _=>false) && zQ E X x && kX E lo l && kX E hi h
 | .makeFunc (.func g) first cap,.mkf f fs cs=>g == E.fn f && kT E first.toList fs && kT E cap.toList cs
 | .nilCheck X,.nilc x=>zQ E X x
 | .call { callee := .builtin .max, args, .. }, .mm true x y => (match args.toList with
   | [X,Y]=>zQ E X x && zQ E Y y
   | _=>false)
 | .call { callee := .builtin .min, args, .. }, .mm false x y => (match args.toList with
   | [X,Y]=>zQ E X x && zQ E Y y
   | _=>false)
 | .field s X f, .fldv off m x => (match E.P.underlying s with
   | some (.struct fs) => (match fs[f]? with
    | some fd=>fd.offset == off && zFz E.P fd.type m
    | none=>false)
   | _=>false) && zQ E X x
 | _,_=>false
section
variable {E:Env} {n:Nat} {w0:World} {H0:Hp} {fr:Fr} {H:Hp} {a:Act} {w:World} {β:Nat→Option Nat}
theorem yH {t : TypeId} {d : TypeDesc} (h : E.P.underlying t = some d) : (underlying t).run E.P w = .ok d w := by
 simp [underlying,program,Sem.run_bind,Sem.run,Result.andThen,h]
theorem uT {t : TypeId} {i : TypeInfo} (h : E.P.info? t = some i) : (typeInfo t).run E.P w = .ok i w := by
 simp [typeInfo,program,Sem.run_bind,Sem.run,Result.andThen,h]
theorem wL {t : TypeId} {m : Nat} (h : qM E.P t m = true) : (sizeOf t).run E.P w = .ok m w := by
 unfold qM at h
 split at h
 ·rename_i i hi
  simp at h
  simp [sizeOf,uT hi,Result.andThen,h]
 ·cases h
theorem zBH {t : TypeId} {b : Bool} (h : zET E.P t = some b) : (isAgg t).run E.P w = .ok b w := by
 unfold zET at h
 split at h
 ·rename_i fs he; cases h; simp [isAgg,Sem.run_bind,yH he,Result.andThen]
 ·rename_i k e he; cases h; simp [isAgg,Sem.run_bind,yH he,Result.andThen]
 ·rename_i d h1 h2 he
  cases h
  simp only [isAgg,Sem.run_bind,yH he,Result.andThen]
  rfl
 ·cases h
theorem zDw {t : TypeId} {m : Option Nat} (hn : zFz E.P t m = true) {b o : Nat} {c : Array Value} {T : TypeId} {fz : Nat × Nat} {vs : List Value}
  (hh:w.heap[b]? = some (.cells c T fz)) (hp:vs <+: c.toList) (hl:o + zHY m≤vs.length) :
  (loadVar t ⟨b,o,none⟩).run E.P w = .ok (zBa m vs o) w:=by
 cases m with
 | none =>
  simp [zFz] at hn
  simp only [loadVar,Sem.run_bind,zBH hn,Result.andThen,Bool.false_eq_true,if_false,load,Sem.run,yCg hh hp (show o < vs.length from hl),zBa]
 | some k =>
  simp [zFz] at hn
  simp only [loadVar,Sem.run_bind,zBH hn.1,Result.andThen,if_true,wL hn.2,loadCells,run_loadCellsFrom hh hp o k 0 #[] (by simp [zHY] at hl; omega),zBa]
  simp [pure]
theorem ySG {op : BinOp} {x y v : Value} {t : TypeId} (h : zC op x y = some v) : (binOp op t x y).run E.P w = .ok v w := by
 unfold zC at h
 split at h
 ·rename_i k a k' b
  split at h
  ·split at h
   ·cases h
   ·cases h; rename_i hb; simp [binOp,Op.shift,hb]
  ·split at h
   ·cases h
   ·cases h; rename_i hb; simp [binOp,Op.shift,hb]
  ·rename_i n1 n2
   split at h
   ·rename_i hk
    subst hk
    split at h<;>(try (split at h))<;>(try (cases h))<;>simp_all [binOp,Op.intArith,Op.intDiv,Op.intBits,Op.intCmp]
   ·cases h
 ·rename_i a b
  have ea:∀ x:ByteArray,x.toList=x.data.toList:=ByteArray.toList_eq
  split at h<;>(try (split at h))<;>(try (cases h))<;>simp_all [binOp,Op.stringOp,IntKind.max,IntKind.signed,IntKind.bits]
  omega
 ·cases h
theorem zLs {op : BinOp} {x y v : Value} {t : TypeId} {X Y : Operand} (h : zC op x y = some v) : (eqGuard op t X Y x y).run E.P w = .ok () w := by
 unfold zC at h
 split at h
 ·unfold eqGuard; split<;>rfl
 ·unfold eqGuard; split<;>rfl
 ·cases h
theorem zJc {x : Value} {y : Nat} {c : BoundsCode} {k : IntKind} {i : Int} (hx : x = .int k i) (h0 : 0 ≤ i) (h1 : i ≤ y) : (Instr.sliceBound x y c).run E.P w = .ok i.toNat w := by
 subst hx
 simp [Instr.sliceBound,asIntOf,h0,h1]
theorem zQa (h : yT n w0 H0 fr H a w β) {isS : Bool} {len cap : Nat} {lo hi mx : Option Operand} {l hh m : Option Arg}
  (cl:kX E lo l=true) (ch:kX E hi hh=true) (cm:kX E mx m=true) (hx:mx.isNone=true∨hi.isSome=true)
  (bm:zCi E fr cap m) (bh:zCi E fr (kP E fr cap m) hh) (bl:zCi E fr (kP E fr len hh) l) :
  (Instr.sliceBounds isS len cap (lo.map a.eval) (hi.map a.eval) (mx.map a.eval)).run E.P w = .ok (kP E fr 0 l,kP E fr len hh,kP E fr cap m) w:=by
 have one : ∀ {X : Option Operand} {x : Option Arg} {y : Nat}, kX E X x = true → zCi E fr y x →
   (X=none∧x=none)∨(∃ X' x' k i,X=some X'∧x=some x'∧a.eval X' = .int k i∧vo E fr x' = .int k i∧0≤i∧i≤y):=by
  intro X x y hc hb
  cases X with
  | none => cases x with
   | none=>exact .inl ⟨rfl,rfl⟩
   | some=>simp [kX] at hc
  | some X' => cases x with
   | none=>simp [kX] at hc
   | some x' =>
    obtain⟨hv,hb⟩:=hb
    have e:=zW h (E:=E) hc hv
    split at hb
    ·rename_i k i hi
     exact .inr ⟨X',x',k,i,rfl,rfl,by rw [e,hi],hi,hb.1,hb.2⟩
    ·exact hb.elim
 unfold Instr.sliceBounds
 rcases one cm bm with ⟨rfl, rfl⟩ | ⟨X1, x1, k1, i1, rfl, rfl, e1, v1, p1, q1⟩ <;> rcases one ch bh with ⟨rfl, rfl⟩ | ⟨X2, x2, k2, i2, rfl, rfl, e2, v2, p2, q2⟩ <;>
  rcases one cl bl with⟨rfl,rfl⟩ | ⟨X3,x3,k3,i3,rfl,rfl,e3,v3,p3,q3⟩ <;>
  simp_all [Sem.run_bind,Result.andThen,kP,intOf,pure,Sem.run,zJc rfl]
theorem zNS {d : Nat} {t : TypeId} {k : Kd} {x y : Value} {b : Bool} (hk : zFF E.P t = some k) (h : pA k x y = some b) : (Op.equalIn (d + 1) t x y).run E.P w = .ok b w := by
 unfold zFF at hk
 split at hk
 ·rename_i hu; cases hk; unfold pA at h; split at h<;>simp_all [run_equalIn_bool' w d t _ _ hu]
 ·rename_i k' hu; cases hk; unfold pA at h
  split at h<;>simp_all
  rename_i kk a kk' c
  obtain⟨rfl,rfl⟩:=h
  exact run_equalIn_int w d t _ _ _ _ hu
 ·rename_i hu; cases hk; unfold pA at h
  split at h<;>simp_all [run_equalIn_string w d t _ _ hu,ByteArray.toList_eq]
 ·cases hk
theorem zGl {t : TypeId} {k : Kd} (hk : zFF E.P t = some k) {cs : Array Value} {i : Nat} {v : Value} (h : cs[i]? = some v) : (part t cs i).run E.P w = .ok v w := by
 have : zET E.P t = some false := by
  unfold zFF at hk
  split at hk<;>first | (rename_i hu; simp [zET,hu]; done) | cases hk
 simp [part,Sem.run_bind,zBH this,Result.andThen,h]
theorem zDR {xs ys : Array Value} {d : Nat} : ∀ (fs : List Field) (i : Nat) (ks : List Kd) (b : Bool), zCZ E.P fs i ks = true → allEq ks (xs.toList.drop i) (ys.toList.drop i) = some b →
  (Op.eqFields (d + 1) xs ys fs).run E.P w = .ok b w
 | [], i, ks, b, hf, h => by
  cases ks with
  | cons=>simp [zCZ] at hf
  | nil =>
   cases hx:xs.toList.drop i<;>cases hy:ys.toList.drop i<;>simp [hx,hy,allEq] at h
   subst h
   rfl
 | f :: fs, i, ks, b, hf, h => by
  cases ks with
  | nil=>simp [zCZ] at hf
  | cons k ks =>
   simp only [zCZ,Bool.and_eq_true,bne_iff_ne,ne_eq,beq_iff_eq] at hf
   obtain⟨⟨⟨h1,h2⟩,h3⟩,h4⟩:=hf
   cases hx:xs.toList.drop i with
   | nil=>simp [hx,allEq] at h
   | cons x xs' => cases hy : ys.toList.drop i with
    | nil=>simp [hx,hy,allEq] at h
    | cons y ys' =>
     have ex : xs[i]? = some x := by
      have:(xs.toList.drop i)[0]? = some x:=by rw [hx]; rfl
      simpa using this
     have ey : ys[i]? = some y := by
      have:(ys.toList.drop i)[0]? = some y:=by rw [hy]; rfl
      simpa using this
     have dx:xs.toList.drop (i + 1)=xs':=by rw [← List.drop_drop,hx]; rfl
     have dy:ys.toList.drop (i + 1)=ys':=by rw [← List.drop_drop,hy]; rfl
     rw [hx,hy] at h
     simp only [allEq] at h
     split at h
     ·rename_i c e hc he
      cases h
      have hrest:=zDR (xs:=xs) (ys:=ys) (d:=d) fs (i + 1) ks e h4 (by rw [dx,dy]; exact he)
      simp only [Op.eqFields]
      rw [if_pos h1,Sem.run_bind,h2,zGl h3 ex]
      simp only [Result.andThen]
      rw [Sem.run_bind,zGl h3 ey]
      simp only [Result.andThen]
      rw [Sem.run_bind,zNS h3 hc]
      simp only [Result.andThen]
      cases c<;>simp [hrest]
     ·cases h
theorem run_places : ∀ (fs : List Field), zGY E.P fs = true →
  (fs.mapM (fun f=>do pure (f.offset,← sizeOf f.type):Field→Sem (Nat × Nat))).run E.P w = .ok (fs.map fun f=>(f.offset,E.P.cellsOf f.type)) w
 | [],_=>rfl
 | f :: fs, h => by
  simp only [zGY,Bool.and_eq_true] at h
  obtain⟨i,hi⟩:=Option.isSome_iff_exists.1 h.1
  have hs:(sizeOf f.type).run E.P w = .ok (E.P.cellsOf f.type) w:=wL (by simp [qM,hi,Program.cellsOf])
  rw [List.mapM_cons,Sem.run_bind,Sem.run_bind,hs]
  simp only [Result.andThen,Sem.run_pure]
  rw [Sem.run_bind,run_places fs h.2]
  simp [Result.andThen]
end
theorem zGM (off : Nat) : ∀ (vs : List Value) (k : Nat) (cells : Array Value), off + k + vs.length ≤ cells.size →
  ((vs.zipIdx k).foldl (fun(cs:Array Value) (x:Value × Nat)=>cs.setIfInBounds (off + x.2) x.1) cells).toList=xC cells.toList (off + k) vs
 | [],k,cells,_=>by simp [xC]
 | v :: vs, k, cells, h => by
  simp only [List.zipIdx_cons,List.foldl_cons,List.length_cons] at h ⊢
  rw [zGM off vs (k + 1) _ (by simp; omega),Array.toList_setIfInBounds]
  unfold xC
  have hlt:off + k < cells.toList.length:=by simp; omega
  have e1 : (cells.toList.set (off + k) v).take (off + (k + 1)) = cells.toList.take (off + k) ++ [v] := by
   rw [← Nat.add_assoc,List.take_succ_eq_append_getElem (by simpa using hlt)]
   simp [List.take_set_of_le]
  have e2 : (cells.toList.set (off + k) v).drop (off + (k + 1) + vs.length) = cells.toList.drop (off + k + (v :: vs).length) := by
   rw [List.drop_set_of_lt (by omega)]
   congr 1
   simp; omega
  rw [e1,e2]
  simp
theorem zNX {place : Nat → Option (Nat × Nat)} {cells : Array Value} {i off size : Nat} {v : Value} {rest : List (Nat × Value)} (hp : place i = some (off, size)) (h1 : v.cells.toList.length = size)
  (h2:off + size≤cells.size):Instr.fill place cells ((i,v) :: rest)=Instr.fill place (xC cells.toList off v.cells.toList).toArray rest:=by
 have hs:v.cells.size=size:=by simpa using h1
 have hfold : v.cells.zipIdx.foldl (fun (cs : Array Value) (x : Value × Nat) => cs.setIfInBounds (off + x.2) x.1) cells = (xC cells.toList off v.cells.toList).toArray := by
  apply Array.toList_inj.1
  have:=zGM off v.cells.toList 0 cells (by simp; omega)
  rw [← Array.foldl_toList]
  simpa using this
 conv=>lhs; unfold Instr.fill
 simp only [hp]
 rw [if_neg (by simp [hs]; omega),hfold]
section
variable {E:Env} {n:Nat} {w0:World} {H0:Hp} {fr:Fr} {H:Hp} {a:Act} {w:World} {β:Nat→Option Nat}
theorem zFI {l : List Value} {k : Nat} {vs : List Value} (h : k + vs.length ≤ l.length) : (xC l k vs).length = l.length := by
 simp [xC]; omega
theorem zJn (h : yT n w0 H0 fr H a w β) {fs : Array Field} : ∀ {ps : List (Nat × Operand)} {qs : List (Nat × Nat × Arg)} {cells : List Value}, zCk E fs ps qs = true → zAL E fr cells.length qs →
  Instr.fill (fun i=>((fs.toList.map fun f=>(f.offset,E.P.cellsOf f.type)).toArray)[i]?) cells.toArray (ps.map fun(i,x)=>(i,a.eval x))=some (qH E fr cells qs).toArray
 | [],[],cells,_,_=>by simp [Instr.fill,qH]
 | (i, X) :: ps, (off, size, x) :: qs, cells, hc, hk => by
  simp only [zCk,Bool.and_eq_true] at hc
  obtain⟨⟨h1,h2⟩,h3⟩:=hc
  obtain⟨k1,k2,k3,k4⟩:=hk
  have ev:=zW h h2 k1
  split at h1
  ·rename_i f hf
   simp only [Bool.and_eq_true,beq_iff_eq] at h1
   obtain⟨rfl,h1⟩:=h1
   have hsz : E.P.cellsOf f.type = size := by
    unfold qM at h1
    split at h1
    ·rename_i q hq; simpa [Program.cellsOf,hq] using h1
    ·cases h1
   simp only [List.map_cons,ev]
   rw [zNX (off:=f.offset) (size:=size) (by simp [hf,hsz]) k2 (by simpa using k3)]
   rw [List.toList_toArray,zJn h (cells:=xC cells f.offset (vo E fr x).cells.toList) h3 (by rw [zFI (by omega)]; exact k4)]
   rfl
  ·cases h1
 | [],_ :: _,_,hc,_=>by simp [zCk] at hc
 | _ :: _,[],_,hc,_=>by simp [zCk] at hc
theorem zEK (h : yT n w0 H0 fr H a w β) {sz : Nat} : ∀ {ps : List (Nat × Operand)} {qs : List (Nat × Nat × Arg)} {cells : List Value}, jH E sz ps qs = true → zAL E fr cells.length qs →
  Instr.fill (fun i=>some (i * sz,sz)) cells.toArray (ps.map fun(i,x)=>(i,a.eval x))=some (qH E fr cells qs).toArray
 | [],[],cells,_,_=>by simp [Instr.fill,qH]
 | (i, X) :: ps, (off, size, x) :: qs, cells, hc, hk => by
  simp only [jH,Bool.and_eq_true,beq_iff_eq] at hc
  obtain⟨⟨⟨rfl,rfl⟩,h2⟩,h3⟩:=hc
  obtain⟨k1,k2,k3,k4⟩:=hk
  have ev:=zW h h2 k1
  simp only [List.map_cons,ev]
  rw [zNX rfl k2 (by simpa using k3)]
  rw [List.toList_toArray,zEK h (cells:=xC cells (i * sz) (vo E fr x).cells.toList) h3 (by rw [zFI (by omega)]; exact k4)]
  rfl
 | [],_ :: _,_,hc,_=>by simp [jH] at hc
 | _ :: _,[],_,hc,_=>by simp [jH] at hc
end
end Go.SL
/- Every simple operation runs to its value. -/
namespace Go.SL
open Go
section
variable {E:Env} {n:Nat} {w0:World} {H0:Hp} {fr:Fr} {H:Hp} {a:Act} {w:World} {β:Nat→Option Nat}
theorem zCc (h : yT n w0 H0 fr H a w β) : ∀ {Xs : List Operand} {xs : List Arg}, kT E Xs xs = true → kA fr xs → Xs.map a.eval = xs.map (vo E fr)
 | [],[],_,_=>rfl
 | X :: Xs, x :: xs, hc, hk => by
  simp only [kT,Bool.and_eq_true] at hc
  simp only [List.map_cons,zW h hc.1 hk.1,zCc h hc.2 hk.2]
 | [],_ :: _,hc,_=>by simp [kT] at hc
 | _ :: _,[],hc,_=>by simp [kT] at hc
theorem zLb {p : PV} {u : Value} (off : Nat) (hu : wF β p u) (hs : zIF p) : ∃ b o, u = .pointer (some ⟨b, o, none⟩) ∧ wF β (zDo off p) (.pointer (some ⟨b, o + off, none⟩)) := by
 unfold zIF at hs
 split at hs
 ·obtain⟨b,hb,rfl⟩:=hu; exact⟨b,_,rfl,b,hb,rfl⟩
 ·rename_i ad
  simp only [wF] at hu
  subst hu
  obtain⟨b,o,s⟩:=ad
  simp at hs
  subst hs
  exact⟨b,o,rfl,rfl⟩
 ·exact hs.elim
theorem yWw (h : yT n w0 H0 fr H a w β) {o : Oper} {x : jS} (hc : zMj E o.op x = true) (hk : zBg E fr H x) :
  ∃ v,(execOp a.eval o).run E.P w = .ok (.value v) w∧wF β (xN E fr H x) v:=by
 unfold zMj at hc
 split at hc
 ·-- move
  rename_i X x ho
  exact⟨_,by simp [execOp,ho,pure],zAo h hc hk⟩
 ·rename_i X x ho
  exact⟨_,by simp [execOp,ho,pure],zAo h hc hk⟩
 ·-- pick
  rename_i C A B c p q ho
  simp only [Bool.and_eq_true] at hc
  obtain⟨k1,k2⟩:=hk
  have e1:=zW h hc.1.1 k1
  split at k2
  ·rename_i b hb
   rw [hb] at e1
   cases b with
   | true =>
    refine⟨a.eval A,by simp [execOp,ho,e1,asBool,Sem.run_bind,Result.andThen,pure,Sem.run],?_⟩
    rw [zW h hc.1.2 (k2.1 rfl)]
    simp only [xN,hb]
    split<;>simp_all [wF]
   | false =>
    refine⟨a.eval B,by simp [execOp,ho,e1,asBool,Sem.run_bind,Result.andThen,pure,Sem.run],?_⟩
    rw [zW h hc.2 (k2.2 rfl)]
    simp only [xN,hb]
    split<;>simp_all [wF]
  ·exact k2.elim
 ·-- load
  rename_i t X m x ho
  simp only [Bool.and_eq_true] at hc
  obtain⟨k1,k2,k3⟩:=hk
  have hu:=zAo h hc.2 k1
  split at k3
  ·rename_i vs hvs
   obtain⟨b,c,T,fz,he,hh,hp⟩:=zHE h hu k2 hvs
   refine⟨zBa m vs (zFa (pvo E fr x)),?_,by simp only [xN,hvs,wF]⟩
   simp [execOp,ho,Instr.loadAt,he,Instr.sureAddr,Sem.run_bind,Result.andThen,zDw hc.1 hh hp k3,pure,Sem.run]
  ·exact k3.elim
 ·-- fieldAddr
  rename_i s X f off x ho
  simp only [Bool.and_eq_true] at hc
  obtain⟨h1,h2⟩:=hc
  obtain⟨k1,k2⟩:=hk
  obtain⟨b,o',he,hv⟩:=zLb off (zAo h h2 k1) k2
  refine⟨_,?_,hv⟩
  split at h1
  ·rename_i fs hfs
   split at h1
   ·rename_i fd hfd
    simp only [Bool.and_eq_true] at h1
    obtain⟨e1,e2⟩:=h1
    split at e2
    ·rename_i i hi
     have e1':fd.offset=off:=by simpa using e1
     have hz:(i.size=0)=False:=by simpa using e2
     have hsz:(sizeOf fd.type).run E.P w = .ok i.size w:=wL (by simp [qM,hi])
     simp [execOp,ho,Instr.fieldAt,he,Instr.sureAddr,fieldPlace,Sem.run_bind,Result.andThen,yH hfs,hfd,hsz,hz,pure,Sem.run,zBh,e1']
    ·cases e2
   ·cases h1
  ·cases h1
 ·-- indexAddr on a slice
  rename_i t X I size x i ho
  simp only [Bool.and_eq_true] at hc
  obtain⟨⟨h1,h2⟩,h3⟩:=hc
  obtain⟨k1,k2,k3⟩:=hk
  have e1:=zW h h2 k1
  have e2:=zW h h3 k2
  split at h1
  ·rename_i e hsl
   split at k3
   ·rename_i ad len cap k j hx hi
    rw [hx] at e1; rw [hi] at e2
    obtain⟨b,o',s⟩:=ad
    obtain⟨hs,k4,k5⟩:=k3
    simp at hs
    subst hs
    refine⟨.pointer (some ⟨b,o' + j.toNat * size,none⟩),?_,by simp only [xN,hx,hi,wF]⟩
    simp [execOp,ho,Instr.indexAt,e1,e2,asIntOf,Sem.run_bind,Result.andThen,yH hsl,wL h1,k4,k5,pure,Sem.run,zBh]
   ·exact k3.elim
  ·cases h1
 ·-- indexAddr on an array
  rename_i t X I size len x i ho
  simp only [Bool.and_eq_true] at hc
  obtain⟨⟨h1,h2⟩,h3⟩:=hc
  obtain⟨k1,k2,hs,k3⟩:=hk
  have hu:=zAo h h2 k1
  have e2:=zW h h3 k2
  split at h1
  ·rename_i l e har
   simp only [Bool.and_eq_true,beq_iff_eq] at h1
   obtain⟨rfl,h1⟩:=h1
   split at k3
   ·rename_i k j hi
    obtain⟨p0,p1⟩:=k3
    obtain⟨b,o',he,hv⟩:=zLb (j.toNat * size) hu hs
    rw [hi] at e2
    refine⟨_,?_,by simpa only [xN,hi,intOf] using hv⟩
    simp [execOp,ho,Instr.indexAt,he,e2,asIntOf,Instr.sureAddr,Sem.run_bind,Result.andThen,yH har,wL h1,p0,p1,pure,Sem.run,zBh]
   ·exact k3.elim
  ·cases h1
 ·-- len
  rename_i args argTypes st x ho
  split at hc
  ·rename_i t X ht hx
   simp only [Bool.and_eq_true] at hc
   obtain⟨h1,h2⟩:=hc
   obtain⟨k1,k2⟩:=hk
   have e1:=zW h h2 k1
   have ea:args = #[X]:=by apply Array.toList_inj.1; simpa using hx
   have et:argTypes = #[t]:=by apply Array.toList_inj.1; simpa using ht
   subst ea; subst et
   split at k2
   ·rename_i s hv
    subst k2
    rw [hv] at e1
    split at h1
    ·rename_i hu _
     refine⟨.int .i64 s.size,?_,by simp only [xN,hv,wF]⟩
     simp [execOp,ho,resolve,invoke,builtin,Builtin.len_,e1,Sem.run_bind,Result.andThen,yH hu,pure,Sem.run,goInt]
    ·rename_i he; cases he
    ·cases h1
   ·rename_i ad len cap hv
    subst k2
    rw [hv] at e1
    split at h1
    ·rename_i he; cases he
    ·rename_i el hu _
     refine⟨.int .i64 len,?_,by simp only [xN,hv,wF]⟩
     simp [execOp,ho,resolve,invoke,builtin,Builtin.len_,e1,Sem.run_bind,Result.andThen,yH hu,pure,Sem.run,goInt]
    ·cases h1
   ·exact k2.elim
  ·cases hc
 ·-- binOp
  rename_i op t X Y t' op' x y ho
  simp only [Bool.and_eq_true,beq_iff_eq] at hc
  obtain⟨⟨rfl,h2⟩,h3⟩:=hc
  obtain⟨k1,k2,k3⟩:=hk
  have e1:=zW h h2 k1
  have e2:=zW h h3 k2
  obtain⟨v,hv⟩:=Option.isSome_iff_exists.1 k3
  refine⟨v,?_,by simp [xN,hv,wF]⟩
  simp [execOp,ho,e1,e2,Sem.run_bind,Result.andThen,ySG hv,zLs hv]
 ·-- == on bools
  rename_i op t X Y t' neg x y ho
  simp only [Bool.and_eq_true,beq_iff_eq] at hc
  obtain⟨⟨⟨rfl,h1⟩,h2⟩,h3⟩:=hc
  obtain⟨k1,k2,k3⟩:=hk
  have e1:=zW h h2 k1
  have e2:=zW h h3 k2
  split at h1
  ·rename_i hu
   split at k3
   ·rename_i p q hp hq
    rw [hp] at e1; rw [hq] at e2
    refine⟨.bool ((p == q) ^^ neg),?_,by simp only [xN,hp,hq,wF]⟩
    cases neg<;>simp [execOp,ho,e1,e2,eqGuard,binOp,Op.equal,Op.maxDepth,Sem.run_bind,Result.andThen,run_equalIn_bool' w 9999 t _ _ hu,pure,Sem.run]
   ·exact k3.elim
  ·cases h1
 ·-- == on structs
  rename_i op t X Y t' neg ks x y ho
  simp only [Bool.and_eq_true,beq_iff_eq] at hc
  obtain⟨⟨⟨rfl,h1⟩,h2⟩,h3⟩:=hc
  obtain⟨k1,k2,k3⟩:=hk
  have e1:=zW h h2 k1
  have e2:=zW h h3 k2
  unfold zFv at h1
  split at h1
  ·rename_i fs hu
   simp only [Bool.and_eq_true,Bool.not_eq_true'] at h1
   obtain⟨⟨hs,hg⟩,hf⟩:=h1
   obtain⟨b,hb⟩:=Option.isSome_iff_exists.1 k3
   have hb':=hb
   unfold zBG at hb
   split at hb
   ·rename_i xs ys hp hq
    rw [hp] at e1; rw [hq] at e2
    have hfs:E.P.fieldsOf t=fs:=by simp [Program.fieldsOf,hu]
    have heq : (Op.equalIn 10000 t (.agg xs) (.agg ys)).run E.P w = .ok b w := by
     rw [run_equalIn_struct w 9999 t xs ys (by rw [hfs]; exact hu) hs,hfs]
     exact zDR (d:=9998) fs.toList 0 ks b hf (by simpa using hb)
    refine⟨.bool (b ^^ neg),?_,by simp only [xN,hb',Option.getD_some,wF]⟩
    cases neg
    ·simp only [execOp,ho,e1,e2,Sem.run_bind,run_eqGuard_agg w _ t _ _ _ _ hg,Result.andThen,run_eql_struct,heq,if_false,Bool.false_eq_true]; simp [pure]
    ·simp only [execOp,ho,e1,e2,Sem.run_bind,run_eqGuard_agg w _ t _ _ _ _ hg,Result.andThen,run_neq_struct,heq,if_true]; simp [pure]
   ·cases hb
  ·cases h1
 ·-- a slice against nil
  rename_i op t X Y t' neg x y ho
  simp only [Bool.and_eq_true,beq_iff_eq] at hc
  obtain⟨⟨⟨rfl,h1⟩,h2⟩,h3⟩:=hc
  obtain⟨k1,k2,k3⟩:=hk
  have e1:=zW h h2 k1
  have e2:=zW h h3 k2
  unfold zPR at h1
  split at h1
  ·rename_i el hu
   obtain⟨b,hb⟩:=Option.isSome_iff_exists.1 k3
   have hb':=hb
   unfold zIH at hb
   split at hb
   ·rename_i ad l c hp hq
    cases hb
    rw [hp] at e1; rw [hq] at e2
    refine⟨.bool (ad.isNone ^^ neg),?_,by simp only [xN,hb',Option.getD_some,wF]⟩
    cases neg<;>simp [execOp,ho,e1,e2,eqGuard,binOp,Sem.run_bind,Result.andThen,run_equal_slice_nil w t el ad l c hu,pure,Sem.run]
   ·cases hb
  ·cases h1
 ·-- build
  rename_i t parts zero ps ho
  simp only [Bool.and_eq_true] at hc
  obtain⟨hz,h1⟩:=hc
  have hzero : ∃ v, (zeroValue t).run E.P w = .ok v w ∧ v.cells = zero.toArray := by
   unfold zDS at hz
   split at hz
   ·rename_i i hi
    split at hz
    ·rename_i v hv
     exact⟨v,by simp [zeroValue,uT hi,hv],by apply Array.toList_inj.1; simpa using zCg hz⟩
    ·cases hz
   ·cases hz
  obtain⟨zv,hzr,hzc⟩:=hzero
  refine⟨.agg (qH E fr zero ps).toArray,?_,by simp only [xN,wF]⟩
  split at h1
  ·rename_i fs hu
   simp only [Bool.and_eq_true] at h1
   have hf:=zJn h (cells:=zero) h1.2 hk
   have hpl:=run_places (E:=E) (w:=w) fs.toList h1.1
   simp only [execOp,ho,Instr.build,Sem.run_bind,hzr,Result.andThen,yH hu,Array.mapM_eq_mapM_toList,map_eq_pure_bind,hpl,Sem.run_pure,hzc]
   simp only [Array.toList_map,hf]
   rfl
  ·rename_i l el hu
   split at h1
   ·simp only [Bool.and_eq_true,Array.isEmpty_iff] at h1
    obtain⟨rfl,hi⟩:=h1
    obtain⟨i,hi⟩:=Option.isSome_iff_exists.1 hi
    have hs:(sizeOf el).run E.P w = .ok i.size w:=wL (by simp [qM,hi])
    simp only [execOp,ho,Instr.build,Sem.run_bind,hzr,Result.andThen,yH hu,hs,hzc]
    simp [Instr.fill,qH]
   ·rename_i o1 sz x1 r1
    simp only [Bool.and_eq_true] at h1
    have hf:=zEK h (cells:=zero) h1.2 hk
    simp only [execOp,ho,Instr.build,Sem.run_bind,hzr,Result.andThen,yH hu,wL h1.1,hzc]
    simp only [Array.toList_map,hf]
    rfl
  ·cases h1
 ·-- not
  rename_i t X x ho
  obtain⟨k1,k2⟩:=hk
  have e1:=zW h hc k1
  split at k2
  ·rename_i b hb
   rw [hb] at e1
   exact⟨.bool !b,by simp [execOp,ho,e1,Op.unary],by simp [xN,hb,wF]⟩
  ·exact k2.elim
 ·-- neg
  rename_i t X x ho
  obtain⟨k1,k2⟩:=hk
  have e1:=zW h hc k1
  split at k2
  ·rename_i k b hb
   rw [hb] at e1
   exact⟨.int k (k.wrap (0 - b)),by simp [execOp,ho,e1,Op.unary,Op.intArith],by simp [xN,hb,wF]⟩
  ·exact k2.elim
 ·-- extract
  rename_i X i j x ho
  simp only [Bool.and_eq_true,beq_iff_eq] at hc
  obtain⟨rfl,h2⟩:=hc
  obtain⟨k1,k2⟩:=hk
  have e1:=zW h h2 k1
  split at k2
  ·rename_i vs hv
   rw [hv] at e1
   have hlt:i < vs.size:=by simpa using k2
   refine⟨vs.toList.getD i undef,?_,by simp only [xN,hv,wF]⟩
   simp [execOp,ho,e1,Instr.extract,hlt]
  ·exact k2.elim
 ·-- index of a string
  rename_i t X I x i ho
  simp only [Bool.and_eq_true] at hc
  obtain⟨⟨h1,h2⟩,h3⟩:=hc
  obtain⟨k1,k2,k3⟩:=hk
  have e1:=zW h h2 k1
  have e2:=zW h h3 k2
  split at h1
  ·rename_i hu
   split at k3
   ·rename_i s k j hx hi
    rw [hx] at e1; rw [hi] at e2
    have hlt:j.toNat < s.size:=by omega
    refine⟨.int .u8 (s.data.toList.getD j.toNat 0).toNat,?_,by simp [xN,hx,hi,wF,strOf,intOf]⟩
    have hlt':j.toNat < s.data.size:=hlt
    have hg : s[j.toNat]? = some (s.data.toList.getD j.toNat 0) := by
     simp [hlt]
     rfl
    simp [execOp,ho,e1,e2,Instr.index,asIntOf,Sem.run_bind,Result.andThen,yH hu,k3.1,hg,pure,Sem.run]
   ·exact k3.elim
  ·cases h1
 ·-- convert to an int
  rename_i s t X k x ho
  simp only [Bool.and_eq_true] at hc
  obtain⟨h1,h2⟩:=hc
  obtain⟨k1,k2⟩:=hk
  have e1:=zW h h2 k1
  split at h1
  ·rename_i d l hs ht
   have:l=k:=by simpa using h1
   subst this
   split at k2
   ·rename_i k' j hj
    rw [hj] at e1
    refine⟨.int l (l.wrap j),?_,by simp [xN,hj,wF]⟩
    simp [execOp,ho,e1,convert,Sem.run_bind,Result.andThen,yH hs,yH ht,Conv.intToInt,pure,Sem.run]
   ·exact k2.elim
  ·cases h1
 ·-- convert to a string
  rename_i s t X x ho
  simp only [Bool.and_eq_true] at hc
  obtain⟨h1,h2⟩:=hc
  obtain⟨k1,k2⟩:=hk
  have e1:=zW h h2 k1
  split at h1
  ·rename_i d hs ht
   split at k2
   ·rename_i j hj
    rw [hj] at e1
    refine⟨.string j,?_,by simp [xN,hj,wF]⟩
    simp [execOp,ho,e1,convert,Sem.run_bind,Result.andThen,yH hs,yH ht,pure,Sem.run]
   ·exact k2.elim
  ·cases h1
 ·-- slice of a slice
  rename_i t X lo hi mx size x l hh m ho
  simp only [Bool.and_eq_true,Bool.or_eq_true] at hc
  obtain⟨⟨⟨⟨⟨h1,h2⟩,h3⟩,h4⟩,h5⟩,h6⟩:=hc
  obtain⟨k1,k2⟩:=hk
  have e1:=zW h h2 k1
  split at h1
  ·rename_i e hu
   split at k2
   ·rename_i ad len cap hx
    rw [hx] at e1
    obtain⟨hs,bm,bh,bl⟩:=k2
    have hb:=zQa h (isS:=true) h3 h4 h5 h6 bm bh bl
    refine⟨.slice (if kP E fr cap m=kP E fr 0 l then ad else ad.map (fun a=>⟨a.block,a.off + kP E fr 0 l * size,none⟩)) (kP E fr len hh - kP E fr 0 l) (kP E fr cap m - kP E fr 0 l),?_,by simp only [xN,hx,wF]⟩
    simp [execOp,ho,e1,Instr.sliceAt,Instr.slice,Sem.run_bind,Result.andThen,yH hu,hb,wL h1,pure,Sem.run]
    cases ad with
    | none=>rfl
    | some ad =>
     obtain⟨b,o',s⟩:=ad
     have:=hs _ rfl
     simp at this
     subst this
     simp [zBh]
   ·exact k2.elim
  ·cases h1
 ·-- slice of a string
  rename_i t X lo hi x l hh ho
  simp only [Bool.and_eq_true] at hc
  obtain⟨⟨⟨h1,h2⟩,h3⟩,h4⟩:=hc
  obtain⟨k1,k2⟩:=hk
  have e1:=zW h h2 k1
  split at h1
  ·rename_i hu
   split at k2
   ·rename_i s hx
    rw [hx] at e1
    have hb:=zQa h (isS:=false) (mx:=none) (m:=none) h3 h4 rfl (.inl rfl) (cap:=s.size) (len:=s.size) trivial k2.1 k2.2
    simp only [Option.map_none] at hb
    refine⟨.string (s.extract (kP E fr 0 l) (kP E fr s.size hh)),?_,by simp only [xN,hx,wF]⟩
    simp [execOp,ho,e1,Instr.sliceAt,Instr.slice,Sem.run_bind,Result.andThen,yH hu,hb,pure,Sem.run]
   ·exact k2.elim
  ·cases h1
 ·-- makeFunc
  rename_i g first cap f fs cs ho
  simp only [Bool.and_eq_true,beq_iff_eq] at hc
  obtain⟨⟨rfl,h2⟩,h3⟩:=hc
  have e1:=zCc h h2 hk.1
  have e2:=zCc h h3 hk.2
  refine⟨.func (.func (E.fn f)) (fs.map (vo E fr)).toArray (cs.map (vo E fr)).toArray,?_,by simp only [xN,wF]⟩
  simp only [execOp,ho,Instr.makeFunc,pure,Sem.run,Sem.run_bind,Result.andThen,← e1,← e2]
  congr 3<;>(apply Array.toList_inj.1; simp)
 ·-- nilCheck
  rename_i X x ho
  obtain⟨k1,k2⟩:=hk
  have hu:=zAo h hc k1
  refine⟨a.eval X,?_,hu⟩
  split at k2
  ·rename_i s o' hx
   rw [hx] at hu
   obtain⟨b,_,e⟩:=hu
   simp [execOp,ho,e]
  ·rename_i ad hx
   rw [hx] at hu
   simp only [wF] at hu
   simp [execOp,ho,hu]
  ·rename_i g f c hx
   rw [hx] at hu
   simp only [wF] at hu
   simp [execOp,ho,hu]
  ·exact k2.elim
 ·-- max
  rename_i args ats x y ho
  split at hc
  ·rename_i X Y hx
   simp only [Bool.and_eq_true] at hc
   obtain⟨k1,k2,k3⟩:=hk
   have e1:=zW h hc.1 k1
   have e2:=zW h hc.2 k2
   have ea:args = #[X,Y]:=by apply Array.toList_inj.1; simpa using hx
   subst ea
   split at k3
   ·rename_i k p k' q hp hq
    subst k3
    rw [hp] at e1; rw [hq] at e2
    refine⟨.int k (max p q),?_,by simp only [xN,hp,hq,wF,if_true]⟩
    have hm:(if p < q then q else p)=max p q:=by split<;>omega
    simp [execOp,ho,resolve,invoke,builtin,Builtin.max_,Builtin.max2,e1,e2,Sem.run_bind,Result.andThen,pure,Sem.run,hm]
   ·exact k3.elim
  ·cases hc
 ·-- min
  rename_i args ats x y ho
  split at hc
  ·rename_i X Y hx
   simp only [Bool.and_eq_true] at hc
   obtain⟨k1,k2,k3⟩:=hk
   have e1:=zW h hc.1 k1
   have e2:=zW h hc.2 k2
   have ea:args = #[X,Y]:=by apply Array.toList_inj.1; simpa using hx
   subst ea
   split at k3
   ·rename_i k p k' q hp hq
    subst k3
    rw [hp] at e1; rw [hq] at e2
    refine⟨.int k (min p q),?_,by simp [xN,hp,hq,wF]⟩
    have hm:(if q < p then q else p)=min p q:=by split<;>omega
    simp [execOp,ho,resolve,invoke,builtin,Builtin.min_,Builtin.min2,e1,e2,Sem.run_bind,Result.andThen,pure,Sem.run,hm]
   ·exact k3.elim
  ·cases hc
 ·-- field
  rename_i s X f off m x ho
  simp only [Bool.and_eq_true] at hc
  obtain⟨h1,h2⟩:=hc
  obtain⟨k1,k2⟩:=hk
  have e1:=zW h h2 k1
  split at h1
  ·rename_i fs hfs
   split at h1
   ·rename_i fd hfd
    simp only [Bool.and_eq_true,beq_iff_eq] at h1
    obtain⟨rfl,h1⟩:=h1
    split at k2
    ·rename_i cs hx
     rw [hx] at e1
     refine⟨zBa m cs.toList fd.offset,?_,by simp only [xN,hx,wF]⟩
     cases m with
     | none =>
      simp [zFz] at h1
      have hlt:fd.offset < cs.size:=by simp [zHY] at k2; omega
      simp [execOp,ho,e1,Instr.field,part,asAgg,Sem.run_bind,Result.andThen,yH hfs,hfd,zBH h1,hlt,zBa,pure,Sem.run]
     | some k =>
      simp [zFz] at h1
      simp [execOp,ho,e1,Instr.field,part,asAgg,Sem.run_bind,Result.andThen,yH hfs,hfd,zBH h1.1,wL h1.2,zBa,pure,Sem.run]
      apply Array.toList_inj.1
      simp
    ·exact k2.elim
   ·cases h1
  ·cases h1
 ·cases hc
end
end Go.SL
