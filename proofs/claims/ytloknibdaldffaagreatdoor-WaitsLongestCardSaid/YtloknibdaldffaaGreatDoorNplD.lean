/- Which operation of the model is which simple operation; each gives its value. -/
import Derived.Test.YtloknibdaldffaaGreatDoorNplA
import Derived.Laws.StructEq
import Derived.Laws.Cover3
namespace Go.SL
open Go
def sizeIs (P : Program) (t : TypeId) (m : Nat) : Bool :=
 match P.info? t with
 | some i => i.size == m
 | none => false
def isAggB (P : Program) (t : TypeId) : Option Bool :=
 match P.underlying t with
 | some (.struct _) | some (.array _ _) => some true
 | some _ => some false
 | none => none
def chkN (P : Program) (t : TypeId) : Option Nat → Bool
 | none => isAggB P t == some false
 | some m => isAggB P t == some true && sizeIs P t m
def zeroIs (P : Program) (t : TypeId) (z : List Value) : Bool :=
 match P.info? t with
 | some i => match i.zero with
  | some v => vbeqL v.cells.toList z
  | none => false
 | none => false
def chkOArg (E : Env) : Option Operand → Option Arg → Bool
 | none,none => true
 | some X,some x => chkArg E X x
 | _,_ => false
def chkArgs (E : Env) : List Operand → List Arg → Bool
 | [],[] => true
 | X :: Xs,x :: xs => chkArg E X x && chkArgs E Xs xs
 | _,_ => false
def isSliceT (P : Program) (t : TypeId) : Bool :=
 match P.underlying t with
 | some (.slice _) => true
 | _ => false
def chkParts (E : Env) (fields : Array Field) : List (Nat × Operand) → List (Nat × Nat × Arg) → Bool
 | [],[] => true
 | (i, X) :: r, (off, size, x) :: r' => (match fields[i]? with
   | some f => f.offset == off && sizeIs E.P f.type size
   | none => false) && chkArg E X x && chkParts E fields r r'
 | _,_ => false
def chkPartsA (E : Env) (sz : Nat) : List (Nat × Operand) → List (Nat × Nat × Arg) → Bool
 | [],[] => true
 | (i,X) :: r,(off,size,x) :: r' => (i * sz == off && sz == size) && chkArg E X x && chkPartsA E sz r r'
 | _,_ => false
def kdOf (P : Program) (t : TypeId) : Option Kd :=
 match P.underlying t with
 | some .bool => some .b
 | some (.int _) => some .i
 | some .string => some .s
 | _ => none
def flatF (P : Program) : List Field → Nat → List Kd → Bool
 | [],_,[] => true
 | f :: fs, i, k :: ks => (f.name != "_") && f.offset == i && kdOf P f.type == some k && flatF P fs (i + 1) ks
 | _,_,_ => false
def flatT (P : Program) (t : TypeId) (ks : List Kd) : Bool :=
 match P.underlying t with
 | some (.struct fs) => !(P.stoodInHeld t) && !(P.eqGuardType P.depth t) && flatF P fs.toList 0 ks
 | _ => false
def allInfo (P : Program) : List Field → Bool
 | [] => true
 | f :: fs => (P.info? f.type).isSome && allInfo P fs
def chkOp (E : Env) : Op → AOp → Bool
 | .move X,.mov x => chkArg E X x
 | .assign X,.mov x => chkArg E X x
 | .pick C A B,.pick c a b => chkArg E C c && chkArg E A a && chkArg E B b
 | .load t X,.ld m x => chkN E.P t m && chkArg E X x
 | .fieldAddr s X f, .fld off x => (match E.P.underlying s with
   | some (.struct fs) => (match fs[f]? with
    | some fd => fd.offset == off && (match E.P.info? fd.type with | some i => i.size != 0 | none => false)
    | none => false)
   | _ => false) && chkArg E X x
 | .indexAddr t X I, .idx size x i => (match E.P.underlying t with
   | some (.slice e) => sizeIs E.P e size
   | _ => false) && chkArg E X x && chkArg E I i
 | .indexAddr t X I, .idxa size len x i => (match E.P.underlying t with
   | some (.array l e) => l == len && sizeIs E.P e size
   | _ => false) && chkArg E X x && chkArg E I i
 | .call { callee := .builtin .len, args, argTypes }, .len st x => (match argTypes.toList, args.toList with
   | [t], [X] => (match E.P.underlying t, st with
    | some .string,true => true
    | some (.slice _),false => true
    | _,_ => false) && chkArg E X x
   | _,_ => false)
 | .binOp op _ X Y _,.bin op' x y => op == op' && chkArg E X x && chkArg E Y y
 | .binOp op t X Y _,.eqb neg x y => (op == (if neg then .neq else .eql)) && (match E.P.underlying t with | some .bool => true | _ => false) && chkArg E X x && chkArg E Y y
 | .binOp op t X Y _,.eqs neg ks x y => (op == (if neg then .neq else .eql)) && flatT E.P t ks && chkArg E X x && chkArg E Y y
 | .binOp op t X Y _,.eqn neg x y => (op == (if neg then .neq else .eql)) && isSliceT E.P t && chkArg E X x && chkArg E Y y
 | .build t parts, .bld zero ps => zeroIs E.P t zero && (match E.P.underlying t with
   | some (.struct fs) => allInfo E.P fs.toList && chkParts E fs parts.toList ps
   | some (.array _ e) => (match ps with
    | [] => parts.isEmpty && (E.P.info? e).isSome
    | (_,sz,_) :: _ => sizeIs E.P e sz && chkPartsA E sz parts.toList ps)
   | _ => false)
 | .unOp .not _ X,.not x => chkArg E X x
 | .unOp .neg _ X,.neg x => chkArg E X x
 | .extract X i,.ext j x => i == j && chkArg E X x
 | .index t X I,.idxs x i => (match E.P.underlying t with | some .string => true | _ => false) && chkArg E X x && chkArg E I i
 | .convert s t X, .cvi k x => (match E.P.underlying s, E.P.underlying t with
   | some _,some (.int l) => l == k
   | _,_ => false) && chkArg E X x
 | .convert s t X, .cvs x => (match E.P.underlying s, E.P.underlying t with
   | some _,some .string => true
   | _,_ => false) && chkArg E X x
 | .slice t X lo hi mx, .slc size x l h m => (match E.P.underlying t with
   | some (.slice e) => sizeIs E.P e size
   | _ => false) && chkArg E X x && chkOArg E lo l && chkOArg E hi h && chkOArg E mx m && (mx.isNone || hi.isSome)
 | .slice t X lo hi none, .slcs x l h => (match E.P.underlying t with
   | some .string => true
   | _ => false) && chkArg E X x && chkOArg E lo l && chkOArg E hi h
 | .makeFunc (.func g) first cap,.mkf f fs cs => g == E.fn f && chkArgs E first.toList fs && chkArgs E cap.toList cs
 | .nilCheck X,.nilc x => chkArg E X x
 | .call { callee := .builtin .max, args, .. }, .mm true x y => (match args.toList with
   | [X,Y] => chkArg E X x && chkArg E Y y
   | _ => false)
 | .call { callee := .builtin .min, args, .. }, .mm false x y => (match args.toList with
   | [X,Y] => chkArg E X x && chkArg E Y y
   | _ => false)
 | .field s X f, .fldv off m x => (match E.P.underlying s with
   | some (.struct fs) => (match fs[f]? with
    | some fd => fd.offset == off && chkN E.P fd.type m
    | none => false)
   | _ => false) && chkArg E X x
 | _,_ => false
section
variable {E : Env} {n : Nat} {w0 : World} {H0 : Hp} {fr : Fr} {H : Hp} {a : Act} {w : World} {β : Nat → Option Nat}
theorem run_underlying' {t : TypeId} {d : TypeDesc} (h : E.P.underlying t = some d) : (underlying t).run E.P w = .ok d w := by
 simp [underlying,program,Sem.run_bind,Sem.run,Result.andThen,h]
theorem run_typeInfo' {t : TypeId} {i : TypeInfo} (h : E.P.info? t = some i) : (typeInfo t).run E.P w = .ok i w := by
 simp [typeInfo,program,Sem.run_bind,Sem.run,Result.andThen,h]
theorem run_sizeOf' {t : TypeId} {m : Nat} (h : sizeIs E.P t m = true) : (sizeOf t).run E.P w = .ok m w := by
 unfold sizeIs at h
 split at h
 ·rename_i i hi
  simp at h
  simp [sizeOf,run_typeInfo' hi,Result.andThen,h]
 ·cases h
theorem run_isAgg' {t : TypeId} {b : Bool} (h : isAggB E.P t = some b) : (isAgg t).run E.P w = .ok b w := by
 unfold isAggB at h
 split at h
 ·rename_i fs he; cases h; simp [isAgg,Sem.run_bind,run_underlying' he,Result.andThen]
 ·rename_i k e he; cases h; simp [isAgg,Sem.run_bind,run_underlying' he,Result.andThen]
 ·rename_i d h1 h2 he
  cases h
  simp only [isAgg,Sem.run_bind,run_underlying' he,Result.andThen]
  rfl
 ·cases h
theorem run_loadVar' {t : TypeId} {m : Option Nat} (hn : chkN E.P t m = true) {b o : Nat} {c : Array Value} {T : TypeId} {fz : Nat × Nat} {vs : List Value}
  (hh : w.heap[b]? = some (.cells c T fz)) (hp : vs <+: c.toList) (hl : o + szOf m ≤ vs.length) :
  (loadVar t ⟨b,o,none⟩).run E.P w = .ok (part1 m vs o) w := by
 cases m with
 | none =>
  simp [chkN] at hn
  simp only [loadVar,Sem.run_bind,run_isAgg' hn,Result.andThen,Bool.false_eq_true,if_false,load,Sem.run,cell_at hh hp (show o < vs.length from hl),part1]
 | some k =>
  simp [chkN] at hn
  simp only [loadVar,Sem.run_bind,run_isAgg' hn.1,Result.andThen,if_true,run_sizeOf' hn.2,loadCells,run_loadCellsFrom hh hp o k 0 #[] (by simp [szOf] at hl; omega),part1]
  simp [pure]
theorem run_binO {op : BinOp} {x y v : Value} {t : TypeId} (h : binO op x y = some v) : (binOp op t x y).run E.P w = .ok v w := by
 unfold binO at h
 split at h
 ·rename_i k a k' b
  split at h
  ·split at h
   ·cases h
   ·cases h; rename_i hb; simp [binOp,Op.shift,hb]
  ·split at h
   ·cases h
   ·cases h; rename_i hb; simp [binOp,Op.shift,hb]
  ·rename_i n1 n2
   split at h
   ·rename_i hk
    subst hk
    split at h <;> (try (split at h)) <;> (try (cases h)) <;> simp_all [binOp,Op.intArith,Op.intDiv,Op.intBits,Op.intCmp]
   ·cases h
 ·rename_i a b
  have ea : ∀ x : ByteArray,x.toList = x.data.toList := ByteArray.toList_eq
  split at h <;> (try (split at h)) <;> (try (cases h)) <;> simp_all [binOp,Op.stringOp,IntKind.max,IntKind.signed,IntKind.bits]
  omega
 ·cases h
theorem eqGuard_plain {op : BinOp} {x y v : Value} {t : TypeId} {X Y : Operand} (h : binO op x y = some v) : (eqGuard op t X Y x y).run E.P w = .ok () w := by
 unfold binO at h
 split at h
 ·unfold eqGuard; split <;> rfl
 ·unfold eqGuard; split <;> rfl
 ·cases h
theorem run_sliceBound' {x : Value} {y : Nat} {c : BoundsCode} {k : IntKind} {i : Int} (hx : x = .int k i) (h0 : 0 ≤ i) (h1 : i ≤ y) : (Instr.sliceBound x y c).run E.P w = .ok i.toNat w := by
 subst hx
 simp [Instr.sliceBound,asIntOf,h0,h1]
theorem run_bnds (h : RelB n w0 H0 fr H a w β) {isS : Bool} {len cap : Nat} {lo hi mx : Option Operand} {l hh m : Option Arg}
  (cl : chkOArg E lo l = true) (ch : chkOArg E hi hh = true) (cm : chkOArg E mx m = true) (hx : mx.isNone = true ∨ hi.isSome = true)
  (bm : bndC E fr cap m) (bh : bndC E fr (bnd E fr cap m) hh) (bl : bndC E fr (bnd E fr len hh) l) :
  (Instr.sliceBounds isS len cap (lo.map a.eval) (hi.map a.eval) (mx.map a.eval)).run E.P w = .ok (bnd E fr 0 l,bnd E fr len hh,bnd E fr cap m) w := by
 have one : ∀ {X : Option Operand} {x : Option Arg} {y : Nat}, chkOArg E X x = true → bndC E fr y x →
   (X = none ∧ x = none) ∨ (∃ X' x' k i,X = some X' ∧ x = some x' ∧ a.eval X' = .int k i ∧ vo E fr x' = .int k i ∧ 0 ≤ i ∧ i ≤ y) := by
  intro X x y hc hb
  cases X with
  | none => cases x with
   | none => exact .inl ⟨rfl,rfl⟩
   | some => simp [chkOArg] at hc
  | some X' => cases x with
   | none => simp [chkOArg] at hc
   | some x' =>
    obtain ⟨hv,hb⟩ := hb
    have e := eval_vo h (E := E) hc hv
    split at hb
    ·rename_i k i hi
     exact .inr ⟨X',x',k,i,rfl,rfl,by rw [e,hi],hi,hb.1,hb.2⟩
    ·exact hb.elim
 unfold Instr.sliceBounds
 rcases one cm bm with ⟨rfl, rfl⟩ | ⟨X1, x1, k1, i1, rfl, rfl, e1, v1, p1, q1⟩ <;> rcases one ch bh with ⟨rfl, rfl⟩ | ⟨X2, x2, k2, i2, rfl, rfl, e2, v2, p2, q2⟩ <;>
  rcases one cl bl with ⟨rfl,rfl⟩ | ⟨X3,x3,k3,i3,rfl,rfl,e3,v3,p3,q3⟩ <;>
  simp_all [Sem.run_bind,Result.andThen,bnd,intOf,pure,Sem.run,run_sliceBound' rfl]
theorem run_scal {d : Nat} {t : TypeId} {k : Kd} {x y : Value} {b : Bool} (hk : kdOf E.P t = some k) (h : scalEq k x y = some b) : (Op.equalIn (d + 1) t x y).run E.P w = .ok b w := by
 unfold kdOf at hk
 split at hk
 ·rename_i hu; cases hk; unfold scalEq at h; split at h <;> simp_all [run_equalIn_bool' w d t _ _ hu]
 ·rename_i k' hu; cases hk; unfold scalEq at h
  split at h <;> simp_all
  rename_i kk a kk' c
  obtain ⟨rfl,rfl⟩ := h
  exact run_equalIn_int w d t _ _ _ _ hu
 ·rename_i hu; cases hk; unfold scalEq at h
  split at h <;> simp_all [run_equalIn_string w d t _ _ hu,ByteArray.toList_eq]
 ·cases hk
theorem part_scal {t : TypeId} {k : Kd} (hk : kdOf E.P t = some k) {cs : Array Value} {i : Nat} {v : Value} (h : cs[i]? = some v) : (part t cs i).run E.P w = .ok v w := by
 have : isAggB E.P t = some false := by
  unfold kdOf at hk
  split at hk <;> first | (rename_i hu; simp [isAggB,hu]; done) | cases hk
 simp [part,Sem.run_bind,run_isAgg' this,Result.andThen,h]
theorem run_eqFields {xs ys : Array Value} {d : Nat} : ∀ (fs : List Field) (i : Nat) (ks : List Kd) (b : Bool), flatF E.P fs i ks = true → allEq ks (xs.toList.drop i) (ys.toList.drop i) = some b →
  (Op.eqFields (d + 1) xs ys fs).run E.P w = .ok b w
 | [], i, ks, b, hf, h => by
  cases ks with
  | cons => simp [flatF] at hf
  | nil =>
   cases hx : xs.toList.drop i <;> cases hy : ys.toList.drop i <;> simp [hx,hy,allEq] at h
   subst h
   rfl
 | f :: fs, i, ks, b, hf, h => by
  cases ks with
  | nil => simp [flatF] at hf
  | cons k ks =>
   simp only [flatF,Bool.and_eq_true,bne_iff_ne,ne_eq,beq_iff_eq] at hf
   obtain ⟨⟨⟨h1,h2⟩,h3⟩,h4⟩ := hf
   cases hx : xs.toList.drop i with
   | nil => simp [hx,allEq] at h
   | cons x xs' => cases hy : ys.toList.drop i with
    | nil => simp [hx,hy,allEq] at h
    | cons y ys' =>
     have ex : xs[i]? = some x := by
      have : (xs.toList.drop i)[0]? = some x := by rw [hx]; rfl
      simpa using this
     have ey : ys[i]? = some y := by
      have : (ys.toList.drop i)[0]? = some y := by rw [hy]; rfl
      simpa using this
     have dx : xs.toList.drop (i + 1) = xs' := by rw [← List.drop_drop,hx]; rfl
     have dy : ys.toList.drop (i + 1) = ys' := by rw [← List.drop_drop,hy]; rfl
     rw [hx,hy] at h
     simp only [allEq] at h
     split at h
     ·rename_i c e hc he
      cases h
      have hrest := run_eqFields (xs := xs) (ys := ys) (d := d) fs (i + 1) ks e h4 (by rw [dx,dy]; exact he)
      simp only [Op.eqFields]
      rw [if_pos h1,Sem.run_bind,h2,part_scal h3 ex]
      simp only [Result.andThen]
      rw [Sem.run_bind,part_scal h3 ey]
      simp only [Result.andThen]
      rw [Sem.run_bind,run_scal h3 hc]
      simp only [Result.andThen]
      cases c <;> simp [hrest]
     ·cases h
theorem run_places : ∀ (fs : List Field), allInfo E.P fs = true →
  (fs.mapM (fun f => do pure (f.offset,← sizeOf f.type) : Field → Sem (Nat × Nat))).run E.P w = .ok (fs.map fun f => (f.offset,E.P.cellsOf f.type)) w
 | [],_ => rfl
 | f :: fs, h => by
  simp only [allInfo,Bool.and_eq_true] at h
  obtain ⟨i,hi⟩ := Option.isSome_iff_exists.1 h.1
  have hs : (sizeOf f.type).run E.P w = .ok (E.P.cellsOf f.type) w := run_sizeOf' (by simp [sizeIs,hi,Program.cellsOf])
  rw [List.mapM_cons,Sem.run_bind,Sem.run_bind,hs]
  simp only [Result.andThen,Sem.run_pure]
  rw [Sem.run_bind,run_places fs h.2]
  simp [Result.andThen]
end
theorem foldl_splice (off : Nat) : ∀ (vs : List Value) (k : Nat) (cells : Array Value), off + k + vs.length ≤ cells.size →
  ((vs.zipIdx k).foldl (fun (cs : Array Value) (x : Value × Nat) => cs.setIfInBounds (off + x.2) x.1) cells).toList = splice cells.toList (off + k) vs
 | [],k,cells,_ => by simp [splice]
 | v :: vs, k, cells, h => by
  simp only [List.zipIdx_cons,List.foldl_cons,List.length_cons] at h ⊢
  rw [foldl_splice off vs (k + 1) _ (by simp; omega),Array.toList_setIfInBounds]
  unfold splice
  have hlt : off + k < cells.toList.length := by simp; omega
  have e1 : (cells.toList.set (off + k) v).take (off + (k + 1)) = cells.toList.take (off + k) ++ [v] := by
   rw [← Nat.add_assoc,List.take_succ_eq_append_getElem (by simpa using hlt)]
   simp [List.take_set_of_le]
  have e2 : (cells.toList.set (off + k) v).drop (off + (k + 1) + vs.length) = cells.toList.drop (off + k + (v :: vs).length) := by
   rw [List.drop_set_of_lt (by omega)]
   congr 1
   simp; omega
  rw [e1,e2]
  simp
theorem fill_one {place : Nat → Option (Nat × Nat)} {cells : Array Value} {i off size : Nat} {v : Value} {rest : List (Nat × Value)} (hp : place i = some (off, size)) (h1 : v.cells.toList.length = size)
  (h2 : off + size ≤ cells.size) : Instr.fill place cells ((i,v) :: rest) = Instr.fill place (splice cells.toList off v.cells.toList).toArray rest := by
 have hs : v.cells.size = size := by simpa using h1
 have hfold : v.cells.zipIdx.foldl (fun (cs : Array Value) (x : Value × Nat) => cs.setIfInBounds (off + x.2) x.1) cells = (splice cells.toList off v.cells.toList).toArray := by
  apply Array.toList_inj.1
  have := foldl_splice off v.cells.toList 0 cells (by simp; omega)
  rw [← Array.foldl_toList]
  simpa using this
 conv => lhs; unfold Instr.fill
 simp only [hp]
 rw [if_neg (by simp [hs]; omega),hfold]
section
variable {E : Env} {n : Nat} {w0 : World} {H0 : Hp} {fr : Fr} {H : Hp} {a : Act} {w : World} {β : Nat → Option Nat}
theorem splice_len {l : List Value} {k : Nat} {vs : List Value} (h : k + vs.length ≤ l.length) : (splice l k vs).length = l.length := by
 simp [splice]; omega
theorem fill_parts (h : RelB n w0 H0 fr H a w β) {fs : Array Field} : ∀ {ps : List (Nat × Operand)} {qs : List (Nat × Nat × Arg)} {cells : List Value}, chkParts E fs ps qs = true → fillC E fr cells.length qs →
  Instr.fill (fun i => ((fs.toList.map fun f => (f.offset,E.P.cellsOf f.type)).toArray)[i]?) cells.toArray (ps.map fun (i,x) => (i,a.eval x)) = some (fillT E fr cells qs).toArray
 | [],[],cells,_,_ => by simp [Instr.fill,fillT]
 | (i, X) :: ps, (off, size, x) :: qs, cells, hc, hk => by
  simp only [chkParts,Bool.and_eq_true] at hc
  obtain ⟨⟨h1,h2⟩,h3⟩ := hc
  obtain ⟨k1,k2,k3,k4⟩ := hk
  have ev := eval_vo h h2 k1
  split at h1
  ·rename_i f hf
   simp only [Bool.and_eq_true,beq_iff_eq] at h1
   obtain ⟨rfl,h1⟩ := h1
   have hsz : E.P.cellsOf f.type = size := by
    unfold sizeIs at h1
    split at h1
    ·rename_i q hq; simpa [Program.cellsOf,hq] using h1
    ·cases h1
   simp only [List.map_cons,ev]
   rw [fill_one (off := f.offset) (size := size) (by simp [hf,hsz]) k2 (by simpa using k3)]
   rw [List.toList_toArray,fill_parts h (cells := splice cells f.offset (vo E fr x).cells.toList) h3 (by rw [splice_len (by omega)]; exact k4)]
   rfl
  ·cases h1
 | [],_ :: _,_,hc,_ => by simp [chkParts] at hc
 | _ :: _,[],_,hc,_ => by simp [chkParts] at hc
theorem fill_partsA (h : RelB n w0 H0 fr H a w β) {sz : Nat} : ∀ {ps : List (Nat × Operand)} {qs : List (Nat × Nat × Arg)} {cells : List Value}, chkPartsA E sz ps qs = true → fillC E fr cells.length qs →
  Instr.fill (fun i => some (i * sz,sz)) cells.toArray (ps.map fun (i,x) => (i,a.eval x)) = some (fillT E fr cells qs).toArray
 | [],[],cells,_,_ => by simp [Instr.fill,fillT]
 | (i, X) :: ps, (off, size, x) :: qs, cells, hc, hk => by
  simp only [chkPartsA,Bool.and_eq_true,beq_iff_eq] at hc
  obtain ⟨⟨⟨rfl,rfl⟩,h2⟩,h3⟩ := hc
  obtain ⟨k1,k2,k3,k4⟩ := hk
  have ev := eval_vo h h2 k1
  simp only [List.map_cons,ev]
  rw [fill_one rfl k2 (by simpa using k3)]
  rw [List.toList_toArray,fill_partsA h (cells := splice cells (i * sz) (vo E fr x).cells.toList) h3 (by rw [splice_len (by omega)]; exact k4)]
  rfl
 | [],_ :: _,_,hc,_ => by simp [chkPartsA] at hc
 | _ :: _,[],_,hc,_ => by simp [chkPartsA] at hc
end
end Go.SL
/- Every simple operation runs to its value. -/
namespace Go.SL
open Go
section
variable {E : Env} {n : Nat} {w0 : World} {H0 : Hp} {fr : Fr} {H : Hp} {a : Act} {w : World} {β : Nat → Option Nat}
theorem evals_vo (h : RelB n w0 H0 fr H a w β) : ∀ {Xs : List Operand} {xs : List Arg}, chkArgs E Xs xs = true → allok fr xs → Xs.map a.eval = xs.map (vo E fr)
 | [],[],_,_ => rfl
 | X :: Xs, x :: xs, hc, hk => by
  simp only [chkArgs,Bool.and_eq_true] at hc
  simp only [List.map_cons,eval_vo h hc.1 hk.1,evals_vo h hc.2 hk.2]
 | [],_ :: _,hc,_ => by simp [chkArgs] at hc
 | _ :: _,[],hc,_ => by simp [chkArgs] at hc
theorem shift_val {p : PV} {u : Value} (off : Nat) (hu : PVval β p u) (hs : ptrOk p) : ∃ b o, u = .pointer (some ⟨b, o, none⟩) ∧ PVval β (shiftPV off p) (.pointer (some ⟨b, o + off, none⟩)) := by
 unfold ptrOk at hs
 split at hs
 ·obtain ⟨b,hb,rfl⟩ := hu; exact ⟨b,_,rfl,b,hb,rfl⟩
 ·rename_i ad
  simp only [PVval] at hu
  subst hu
  obtain ⟨b,o,s⟩ := ad
  simp at hs
  subst hs
  exact ⟨b,o,rfl,rfl⟩
 ·exact hs.elim
theorem sim_ok (h : RelB n w0 H0 fr H a w β) {o : Oper} {x : AOp} (hc : chkOp E o.op x = true) (hk : simC E fr H x) :
  ∃ v,(execOp a.eval o).run E.P w = .ok (.value v) w ∧ PVval β (simT E fr H x) v := by
 unfold chkOp at hc
 split at hc
 ·-- move
  rename_i X x ho
  exact ⟨_,by simp [execOp,ho,pure],eval_pvo h hc hk⟩
 ·rename_i X x ho
  exact ⟨_,by simp [execOp,ho,pure],eval_pvo h hc hk⟩
 ·-- pick
  rename_i C A B c p q ho
  simp only [Bool.and_eq_true] at hc
  obtain ⟨k1,k2⟩ := hk
  have e1 := eval_vo h hc.1.1 k1
  split at k2
  ·rename_i b hb
   rw [hb] at e1
   cases b with
   | true =>
    refine ⟨a.eval A,by simp [execOp,ho,e1,asBool,Sem.run_bind,Result.andThen,pure,Sem.run],?_⟩
    rw [eval_vo h hc.1.2 (k2.1 rfl)]
    simp only [simT,hb]
    split <;> simp_all [PVval]
   | false =>
    refine ⟨a.eval B,by simp [execOp,ho,e1,asBool,Sem.run_bind,Result.andThen,pure,Sem.run],?_⟩
    rw [eval_vo h hc.2 (k2.2 rfl)]
    simp only [simT,hb]
    split <;> simp_all [PVval]
  ·exact k2.elim
 ·-- load
  rename_i t X m x ho
  simp only [Bool.and_eq_true] at hc
  obtain ⟨k1,k2,k3⟩ := hk
  have hu := eval_pvo h hc.2 k1
  split at k3
  ·rename_i vs hvs
   obtain ⟨b,c,T,fz,he,hh,hp⟩ := cells_there h hu k2 hvs
   refine ⟨part1 m vs (offOfPV (pvo E fr x)),?_,by simp only [simT,hvs,PVval]⟩
   simp [execOp,ho,Instr.loadAt,he,Instr.sureAddr,Sem.run_bind,Result.andThen,run_loadVar' hc.1 hh hp k3,pure,Sem.run]
  ·exact k3.elim
 ·-- fieldAddr
  rename_i s X f off x ho
  simp only [Bool.and_eq_true] at hc
  obtain ⟨h1,h2⟩ := hc
  obtain ⟨k1,k2⟩ := hk
  obtain ⟨b,o',he,hv⟩ := shift_val off (eval_pvo h h2 k1) k2
  refine ⟨_,?_,hv⟩
  split at h1
  ·rename_i fs hfs
   split at h1
   ·rename_i fd hfd
    simp only [Bool.and_eq_true] at h1
    obtain ⟨e1,e2⟩ := h1
    split at e2
    ·rename_i i hi
     have e1' : fd.offset = off := by simpa using e1
     have hz : (i.size = 0) = False := by simpa using e2
     have hsz : (sizeOf fd.type).run E.P w = .ok i.size w := run_sizeOf' (by simp [sizeIs,hi])
     simp [execOp,ho,Instr.fieldAt,he,Instr.sureAddr,fieldPlace,Sem.run_bind,Result.andThen,run_underlying' hfs,hfd,hsz,hz,pure,Sem.run,add_none,e1']
    ·cases e2
   ·cases h1
  ·cases h1
 ·-- indexAddr on a slice
  rename_i t X I size x i ho
  simp only [Bool.and_eq_true] at hc
  obtain ⟨⟨h1,h2⟩,h3⟩ := hc
  obtain ⟨k1,k2,k3⟩ := hk
  have e1 := eval_vo h h2 k1
  have e2 := eval_vo h h3 k2
  split at h1
  ·rename_i e hsl
   split at k3
   ·rename_i ad len cap k j hx hi
    rw [hx] at e1; rw [hi] at e2
    obtain ⟨b,o',s⟩ := ad
    obtain ⟨hs,k4,k5⟩ := k3
    simp at hs
    subst hs
    refine ⟨.pointer (some ⟨b,o' + j.toNat * size,none⟩),?_,by simp only [simT,hx,hi,PVval]⟩
    simp [execOp,ho,Instr.indexAt,e1,e2,asIntOf,Sem.run_bind,Result.andThen,run_underlying' hsl,run_sizeOf' h1,k4,k5,pure,Sem.run,add_none]
   ·exact k3.elim
  ·cases h1
 ·-- indexAddr on an array
  rename_i t X I size len x i ho
  simp only [Bool.and_eq_true] at hc
  obtain ⟨⟨h1,h2⟩,h3⟩ := hc
  obtain ⟨k1,k2,hs,k3⟩ := hk
  have hu := eval_pvo h h2 k1
  have e2 := eval_vo h h3 k2
  split at h1
  ·rename_i l e har
   simp only [Bool.and_eq_true,beq_iff_eq] at h1
   obtain ⟨rfl,h1⟩ := h1
   split at k3
   ·rename_i k j hi
    obtain ⟨p0,p1⟩ := k3
    obtain ⟨b,o',he,hv⟩ := shift_val (j.toNat * size) hu hs
    rw [hi] at e2
    refine ⟨_,?_,by simpa only [simT,hi,intOf] using hv⟩
    simp [execOp,ho,Instr.indexAt,he,e2,asIntOf,Instr.sureAddr,Sem.run_bind,Result.andThen,run_underlying' har,run_sizeOf' h1,p0,p1,pure,Sem.run,add_none]
   ·exact k3.elim
  ·cases h1
 ·-- len
  rename_i args argTypes st x ho
  split at hc
  ·rename_i t X ht hx
   simp only [Bool.and_eq_true] at hc
   obtain ⟨h1,h2⟩ := hc
   obtain ⟨k1,k2⟩ := hk
   have e1 := eval_vo h h2 k1
   have ea : args = #[X] := by apply Array.toList_inj.1; simpa using hx
   have et : argTypes = #[t] := by apply Array.toList_inj.1; simpa using ht
   subst ea; subst et
   split at k2
   ·rename_i s hv
    subst k2
    rw [hv] at e1
    split at h1
    ·rename_i hu _
     refine ⟨.int .i64 s.size,?_,by simp only [simT,hv,PVval]⟩
     simp [execOp,ho,resolve,invoke,builtin,Builtin.len_,e1,Sem.run_bind,Result.andThen,run_underlying' hu,pure,Sem.run,goInt]
    ·rename_i he; cases he
    ·cases h1
   ·rename_i ad len cap hv
    subst k2
    rw [hv] at e1
    split at h1
    ·rename_i he; cases he
    ·rename_i el hu _
     refine ⟨.int .i64 len,?_,by simp only [simT,hv,PVval]⟩
     simp [execOp,ho,resolve,invoke,builtin,Builtin.len_,e1,Sem.run_bind,Result.andThen,run_underlying' hu,pure,Sem.run,goInt]
    ·cases h1
   ·exact k2.elim
  ·cases hc
 ·-- binOp
  rename_i op t X Y t' op' x y ho
  simp only [Bool.and_eq_true,beq_iff_eq] at hc
  obtain ⟨⟨rfl,h2⟩,h3⟩ := hc
  obtain ⟨k1,k2,k3⟩ := hk
  have e1 := eval_vo h h2 k1
  have e2 := eval_vo h h3 k2
  obtain ⟨v,hv⟩ := Option.isSome_iff_exists.1 k3
  refine ⟨v,?_,by simp [simT,hv,PVval]⟩
  simp [execOp,ho,e1,e2,Sem.run_bind,Result.andThen,run_binO hv,eqGuard_plain hv]
 ·-- == on bools
  rename_i op t X Y t' neg x y ho
  simp only [Bool.and_eq_true,beq_iff_eq] at hc
  obtain ⟨⟨⟨rfl,h1⟩,h2⟩,h3⟩ := hc
  obtain ⟨k1,k2,k3⟩ := hk
  have e1 := eval_vo h h2 k1
  have e2 := eval_vo h h3 k2
  split at h1
  ·rename_i hu
   split at k3
   ·rename_i p q hp hq
    rw [hp] at e1; rw [hq] at e2
    refine ⟨.bool ((p == q) ^^ neg),?_,by simp only [simT,hp,hq,PVval]⟩
    cases neg <;> simp [execOp,ho,e1,e2,eqGuard,binOp,Op.equal,Op.maxDepth,Sem.run_bind,Result.andThen,run_equalIn_bool' w 9999 t _ _ hu,pure,Sem.run]
   ·exact k3.elim
  ·cases h1
 ·-- == on structs
  rename_i op t X Y t' neg ks x y ho
  simp only [Bool.and_eq_true,beq_iff_eq] at hc
  obtain ⟨⟨⟨rfl,h1⟩,h2⟩,h3⟩ := hc
  obtain ⟨k1,k2,k3⟩ := hk
  have e1 := eval_vo h h2 k1
  have e2 := eval_vo h h3 k2
  unfold flatT at h1
  split at h1
  ·rename_i fs hu
   simp only [Bool.and_eq_true,Bool.not_eq_true'] at h1
   obtain ⟨⟨hs,hg⟩,hf⟩ := h1
   obtain ⟨b,hb⟩ := Option.isSome_iff_exists.1 k3
   have hb' := hb
   unfold aggEq at hb
   split at hb
   ·rename_i xs ys hp hq
    rw [hp] at e1; rw [hq] at e2
    have hfs : E.P.fieldsOf t = fs := by simp [Program.fieldsOf,hu]
    have heq : (Op.equalIn 10000 t (.agg xs) (.agg ys)).run E.P w = .ok b w := by
     rw [run_equalIn_struct w 9999 t xs ys (by rw [hfs]; exact hu) hs,hfs]
     exact run_eqFields (d := 9998) fs.toList 0 ks b hf (by simpa using hb)
    refine ⟨.bool (b ^^ neg),?_,by simp only [simT,hb',Option.getD_some,PVval]⟩
    cases neg
    ·simp only [execOp,ho,e1,e2,Sem.run_bind,run_eqGuard_agg w _ t _ _ _ _ hg,Result.andThen,run_eql_struct,heq,if_false,Bool.false_eq_true]; simp [pure]
    ·simp only [execOp,ho,e1,e2,Sem.run_bind,run_eqGuard_agg w _ t _ _ _ _ hg,Result.andThen,run_neq_struct,heq,if_true]; simp [pure]
   ·cases hb
  ·cases h1
 ·-- a slice against nil
  rename_i op t X Y t' neg x y ho
  simp only [Bool.and_eq_true,beq_iff_eq] at hc
  obtain ⟨⟨⟨rfl,h1⟩,h2⟩,h3⟩ := hc
  obtain ⟨k1,k2,k3⟩ := hk
  have e1 := eval_vo h h2 k1
  have e2 := eval_vo h h3 k2
  unfold isSliceT at h1
  split at h1
  ·rename_i el hu
   obtain ⟨b,hb⟩ := Option.isSome_iff_exists.1 k3
   have hb' := hb
   unfold nilEq at hb
   split at hb
   ·rename_i ad l c hp hq
    cases hb
    rw [hp] at e1; rw [hq] at e2
    refine ⟨.bool (ad.isNone ^^ neg),?_,by simp only [simT,hb',Option.getD_some,PVval]⟩
    cases neg <;> simp [execOp,ho,e1,e2,eqGuard,binOp,Sem.run_bind,Result.andThen,run_equal_slice_nil w t el ad l c hu,pure,Sem.run]
   ·cases hb
  ·cases h1
 ·-- build
  rename_i t parts zero ps ho
  simp only [Bool.and_eq_true] at hc
  obtain ⟨hz,h1⟩ := hc
  have hzero : ∃ v, (zeroValue t).run E.P w = .ok v w ∧ v.cells = zero.toArray := by
   unfold zeroIs at hz
   split at hz
   ·rename_i i hi
    split at hz
    ·rename_i v hv
     exact ⟨v,by simp [zeroValue,run_typeInfo' hi,hv],by apply Array.toList_inj.1; simpa using vbeqL_eq hz⟩
    ·cases hz
   ·cases hz
  obtain ⟨zv,hzr,hzc⟩ := hzero
  refine ⟨.agg (fillT E fr zero ps).toArray,?_,by simp only [simT,PVval]⟩
  split at h1
  ·rename_i fs hu
   simp only [Bool.and_eq_true] at h1
   have hf := fill_parts h (cells := zero) h1.2 hk
   have hpl := run_places (E := E) (w := w) fs.toList h1.1
   simp only [execOp,ho,Instr.build,Sem.run_bind,hzr,Result.andThen,run_underlying' hu,Array.mapM_eq_mapM_toList,map_eq_pure_bind,hpl,Sem.run_pure,hzc]
   simp only [Array.toList_map,hf]
   rfl
  ·rename_i l el hu
   split at h1
   ·simp only [Bool.and_eq_true,Array.isEmpty_iff] at h1
    obtain ⟨rfl,hi⟩ := h1
    obtain ⟨i,hi⟩ := Option.isSome_iff_exists.1 hi
    have hs : (sizeOf el).run E.P w = .ok i.size w := run_sizeOf' (by simp [sizeIs,hi])
    simp only [execOp,ho,Instr.build,Sem.run_bind,hzr,Result.andThen,run_underlying' hu,hs,hzc]
    simp [Instr.fill,fillT]
   ·rename_i o1 sz x1 r1
    simp only [Bool.and_eq_true] at h1
    have hf := fill_partsA h (cells := zero) h1.2 hk
    simp only [execOp,ho,Instr.build,Sem.run_bind,hzr,Result.andThen,run_underlying' hu,run_sizeOf' h1.1,hzc]
    simp only [Array.toList_map,hf]
    rfl
  ·cases h1
 ·-- not
  rename_i t X x ho
  obtain ⟨k1,k2⟩ := hk
  have e1 := eval_vo h hc k1
  split at k2
  ·rename_i b hb
   rw [hb] at e1
   exact ⟨.bool !b,by simp [execOp,ho,e1,Op.unary],by simp [simT,hb,PVval]⟩
  ·exact k2.elim
 ·-- neg
  rename_i t X x ho
  obtain ⟨k1,k2⟩ := hk
  have e1 := eval_vo h hc k1
  split at k2
  ·rename_i k b hb
   rw [hb] at e1
   exact ⟨.int k (k.wrap (0 - b)),by simp [execOp,ho,e1,Op.unary,Op.intArith],by simp [simT,hb,PVval]⟩
  ·exact k2.elim
 ·-- extract
  rename_i X i j x ho
  simp only [Bool.and_eq_true,beq_iff_eq] at hc
  obtain ⟨rfl,h2⟩ := hc
  obtain ⟨k1,k2⟩ := hk
  have e1 := eval_vo h h2 k1
  split at k2
  ·rename_i vs hv
   rw [hv] at e1
   have hlt : i < vs.size := by simpa using k2
   refine ⟨vs.toList.getD i undef,?_,by simp only [simT,hv,PVval]⟩
   simp [execOp,ho,e1,Instr.extract,hlt]
  ·exact k2.elim
 ·-- index of a string
  rename_i t X I x i ho
  simp only [Bool.and_eq_true] at hc
  obtain ⟨⟨h1,h2⟩,h3⟩ := hc
  obtain ⟨k1,k2,k3⟩ := hk
  have e1 := eval_vo h h2 k1
  have e2 := eval_vo h h3 k2
  split at h1
  ·rename_i hu
   split at k3
   ·rename_i s k j hx hi
    rw [hx] at e1; rw [hi] at e2
    have hlt : j.toNat < s.size := by omega
    refine ⟨.int .u8 (s.data.toList.getD j.toNat 0).toNat,?_,by simp [simT,hx,hi,PVval,strOf,intOf]⟩
    have hlt' : j.toNat < s.data.size := hlt
    have hg : s[j.toNat]? = some (s.data.toList.getD j.toNat 0) := by
     simp [hlt]
     rfl
    simp [execOp,ho,e1,e2,Instr.index,asIntOf,Sem.run_bind,Result.andThen,run_underlying' hu,k3.1,hg,pure,Sem.run]
   ·exact k3.elim
  ·cases h1
 ·-- convert to an int
  rename_i s t X k x ho
  simp only [Bool.and_eq_true] at hc
  obtain ⟨h1,h2⟩ := hc
  obtain ⟨k1,k2⟩ := hk
  have e1 := eval_vo h h2 k1
  split at h1
  ·rename_i d l hs ht
   have : l = k := by simpa using h1
   subst this
   split at k2
   ·rename_i k' j hj
    rw [hj] at e1
    refine ⟨.int l (l.wrap j),?_,by simp [simT,hj,PVval]⟩
    simp [execOp,ho,e1,convert,Sem.run_bind,Result.andThen,run_underlying' hs,run_underlying' ht,Conv.intToInt,pure,Sem.run]
   ·exact k2.elim
  ·cases h1
 ·-- convert to a string
  rename_i s t X x ho
  simp only [Bool.and_eq_true] at hc
  obtain ⟨h1,h2⟩ := hc
  obtain ⟨k1,k2⟩ := hk
  have e1 := eval_vo h h2 k1
  split at h1
  ·rename_i d hs ht
   split at k2
   ·rename_i j hj
    rw [hj] at e1
    refine ⟨.string j,?_,by simp [simT,hj,PVval]⟩
    simp [execOp,ho,e1,convert,Sem.run_bind,Result.andThen,run_underlying' hs,run_underlying' ht,pure,Sem.run]
   ·exact k2.elim
  ·cases h1
 ·-- slice of a slice
  rename_i t X lo hi mx size x l hh m ho
  simp only [Bool.and_eq_true,Bool.or_eq_true] at hc
  obtain ⟨⟨⟨⟨⟨h1,h2⟩,h3⟩,h4⟩,h5⟩,h6⟩ := hc
  obtain ⟨k1,k2⟩ := hk
  have e1 := eval_vo h h2 k1
  split at h1
  ·rename_i e hu
   split at k2
   ·rename_i ad len cap hx
    rw [hx] at e1
    obtain ⟨hs,bm,bh,bl⟩ := k2
    have hb := run_bnds h (isS := true) h3 h4 h5 h6 bm bh bl
    refine ⟨.slice (if bnd E fr cap m = bnd E fr 0 l then ad else ad.map (fun a => ⟨a.block,a.off + bnd E fr 0 l * size,none⟩)) (bnd E fr len hh - bnd E fr 0 l) (bnd E fr cap m - bnd E fr 0 l),?_,by simp only [simT,hx,PVval]⟩
    simp [execOp,ho,e1,Instr.sliceAt,Instr.slice,Sem.run_bind,Result.andThen,run_underlying' hu,hb,run_sizeOf' h1,pure,Sem.run]
    cases ad with
    | none => rfl
    | some ad =>
     obtain ⟨b,o',s⟩ := ad
     have := hs _ rfl
     simp at this
     subst this
     simp [add_none]
   ·exact k2.elim
  ·cases h1
 ·-- slice of a string
  rename_i t X lo hi x l hh ho
  simp only [Bool.and_eq_true] at hc
  obtain ⟨⟨⟨h1,h2⟩,h3⟩,h4⟩ := hc
  obtain ⟨k1,k2⟩ := hk
  have e1 := eval_vo h h2 k1
  split at h1
  ·rename_i hu
   split at k2
   ·rename_i s hx
    rw [hx] at e1
    have hb := run_bnds h (isS := false) (mx := none) (m := none) h3 h4 rfl (.inl rfl) (cap := s.size) (len := s.size) trivial k2.1 k2.2
    simp only [Option.map_none] at hb
    refine ⟨.string (s.extract (bnd E fr 0 l) (bnd E fr s.size hh)),?_,by simp only [simT,hx,PVval]⟩
    simp [execOp,ho,e1,Instr.sliceAt,Instr.slice,Sem.run_bind,Result.andThen,run_underlying' hu,hb,pure,Sem.run]
   ·exact k2.elim
  ·cases h1
 ·-- makeFunc
  rename_i g first cap f fs cs ho
  simp only [Bool.and_eq_true,beq_iff_eq] at hc
  obtain ⟨⟨rfl,h2⟩,h3⟩ := hc
  have e1 := evals_vo h h2 hk.1
  have e2 := evals_vo h h3 hk.2
  refine ⟨.func (.func (E.fn f)) (fs.map (vo E fr)).toArray (cs.map (vo E fr)).toArray,?_,by simp only [simT,PVval]⟩
  simp only [execOp,ho,Instr.makeFunc,pure,Sem.run,Sem.run_bind,Result.andThen,← e1,← e2]
  congr 3 <;> (apply Array.toList_inj.1; simp)
 ·-- nilCheck
  rename_i X x ho
  obtain ⟨k1,k2⟩ := hk
  have hu := eval_pvo h hc k1
  refine ⟨a.eval X,?_,hu⟩
  split at k2
  ·rename_i s o' hx
   rw [hx] at hu
   obtain ⟨b,_,e⟩ := hu
   simp [execOp,ho,e]
  ·rename_i ad hx
   rw [hx] at hu
   simp only [PVval] at hu
   simp [execOp,ho,hu]
  ·rename_i g f c hx
   rw [hx] at hu
   simp only [PVval] at hu
   simp [execOp,ho,hu]
  ·exact k2.elim
 ·-- max
  rename_i args ats x y ho
  split at hc
  ·rename_i X Y hx
   simp only [Bool.and_eq_true] at hc
   obtain ⟨k1,k2,k3⟩ := hk
   have e1 := eval_vo h hc.1 k1
   have e2 := eval_vo h hc.2 k2
   have ea : args = #[X,Y] := by apply Array.toList_inj.1; simpa using hx
   subst ea
   split at k3
   ·rename_i k p k' q hp hq
    subst k3
    rw [hp] at e1; rw [hq] at e2
    refine ⟨.int k (max p q),?_,by simp only [simT,hp,hq,PVval,if_true]⟩
    have hm : (if p < q then q else p) = max p q := by split <;> omega
    simp [execOp,ho,resolve,invoke,builtin,Builtin.max_,Builtin.max2,e1,e2,Sem.run_bind,Result.andThen,pure,Sem.run,hm]
   ·exact k3.elim
  ·cases hc
 ·-- min
  rename_i args ats x y ho
  split at hc
  ·rename_i X Y hx
   simp only [Bool.and_eq_true] at hc
   obtain ⟨k1,k2,k3⟩ := hk
   have e1 := eval_vo h hc.1 k1
   have e2 := eval_vo h hc.2 k2
   have ea : args = #[X,Y] := by apply Array.toList_inj.1; simpa using hx
   subst ea
   split at k3
   ·rename_i k p k' q hp hq
    subst k3
    rw [hp] at e1; rw [hq] at e2
    refine ⟨.int k (min p q),?_,by simp [simT,hp,hq,PVval]⟩
    have hm : (if q < p then q else p) = min p q := by split <;> omega
    simp [execOp,ho,resolve,invoke,builtin,Builtin.min_,Builtin.min2,e1,e2,Sem.run_bind,Result.andThen,pure,Sem.run,hm]
   ·exact k3.elim
  ·cases hc
 ·-- field
  rename_i s X f off m x ho
  simp only [Bool.and_eq_true] at hc
  obtain ⟨h1,h2⟩ := hc
  obtain ⟨k1,k2⟩ := hk
  have e1 := eval_vo h h2 k1
  split at h1
  ·rename_i fs hfs
   split at h1
   ·rename_i fd hfd
    simp only [Bool.and_eq_true,beq_iff_eq] at h1
    obtain ⟨rfl,h1⟩ := h1
    split at k2
    ·rename_i cs hx
     rw [hx] at e1
     refine ⟨part1 m cs.toList fd.offset,?_,by simp only [simT,hx,PVval]⟩
     cases m with
     | none =>
      simp [chkN] at h1
      have hlt : fd.offset < cs.size := by simp [szOf] at k2; omega
      simp [execOp,ho,e1,Instr.field,part,asAgg,Sem.run_bind,Result.andThen,run_underlying' hfs,hfd,run_isAgg' h1,hlt,part1,pure,Sem.run]
     | some k =>
      simp [chkN] at h1
      simp [execOp,ho,e1,Instr.field,part,asAgg,Sem.run_bind,Result.andThen,run_underlying' hfs,hfd,run_isAgg' h1.1,run_sizeOf' h1.2,part1,pure,Sem.run]
      apply Array.toList_inj.1
      simp
    ·exact k2.elim
   ·cases h1
  ·cases h1
 ·cases hc
end
end Go.SL
