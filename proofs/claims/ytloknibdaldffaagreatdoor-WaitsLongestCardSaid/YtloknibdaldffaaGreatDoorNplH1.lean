/- Slices: a literal, make, append. -/
import Derived.Test.YtloknibdaldffaaGreatDoorNplF
import Derived.Laws.AppendOwn
import Derived.IntWalk
namespace Go.SL
open Go
section
variable {E : Env} {n : Nat} {w0 : World} {H0 : Hp} {fr : Fr} {H : Hp} {a : Act} {w : World} {β : Nat → Option Nat}
theorem run_mksl (h : RelB n w0 H0 fr H a w β) {t e : TypeId} {len size : Nat} {parts : Array (Nat × Operand)} {zero : List Value} {zc : Array Value} {ps : List (Nat × Nat × Arg)} (hu : E.P.underlying t = some (.slice e))
  (hs : sizeIs E.P e size = true) (hl : len * size ≤ 2 ^ 24) (hp : chkPartsA E size parts.toList ps = true) (hz : litZero E.P e (len * size) = some zc)
  (hzz : ((Array.range (len * size)).map (zc[· % zc.size]!)).toList = zero) (hk : fillC E fr zero.length ps) :
  (Instr.buildSlice t len (parts.map fun (i, x) => (i, a.eval x))).run E.P w =
   .ok (.slice (some ⟨w.heap.size,0,none⟩) len len) { w with heap := w.heap.push (.cells (fillT E fr zero ps).toArray e) } := by
 have hf := fill_partsA h (cells := zero) hp hk
 have hl' : ¬ (len * size > 2 ^ 24) := by omega
 have ha : (Array.range (len * size)).map (zc[· % zc.size]!) = zero.toArray := by apply Array.toList_inj.1; simpa using hzz
 by_cases h0 : len * size = 0
 ·have hzc : zc = #[] := by simp only [litZero,h0,if_true,Option.some.injEq] at hz; exact hz.symm
  subst hzc
  simp only [Instr.buildSlice,Sem.run_bind,run_underlying' hu,Result.andThen,run_sizeOf' hs,if_neg hl',if_pos h0,Sem.run_pure,ha,Array.toList_map,hf]
  simp [newRow,newObj,Sem.run_bind,Sem.run,Result.andThen,pure]
 ·have : ∃ v, (zeroValue e).run E.P w = .ok v w ∧ v.cells = zc := by
   simp only [litZero,h0,if_false] at hz
   split at hz
   ·rename_i i hi
    cases hzv : i.zero with
    | none => rw [hzv] at hz; cases hz
    | some v => rw [hzv] at hz; cases hz; exact ⟨v,by simp [zeroValue,run_typeInfo' hi,hzv],rfl⟩
   ·cases hz
  obtain ⟨v,hv,rfl⟩ := this
  simp only [Instr.buildSlice,Sem.run_bind,run_underlying' hu,Result.andThen,run_sizeOf' hs,if_neg hl',if_neg h0,hv,Sem.run_pure,ha,Array.toList_map,hf]
  simp [newRow,newObj,Sem.run_bind,Sem.run,Result.andThen,pure]
theorem elemIs_parts {P : Program} {e : TypeId} {size bytes : Nat} {zero : List Value} (h : elemIs P e size bytes zero = true) :
  ∃ i v,P.info? e = some i ∧ i.size = size ∧ i.bytes = bytes ∧ i.zero = some v ∧ v.cells.toList = zero ∧ zero.length = size ∧ 0 < size := by
 unfold elemIs at h
 split at h
 ·rename_i i hi
  simp only [Bool.and_eq_true,beq_iff_eq,decide_eq_true_eq] at h
  obtain ⟨⟨⟨⟨h1,h2⟩,h3⟩,h4⟩,h5⟩ := h
  split at h5
  ·rename_i v hv; exact ⟨i,v,hi,h1,h2,hv,vbeqL_eq h5,h3,h4⟩
  ·cases h5
 ·cases h
theorem rep_length (z : List Value) : ∀ n, (rep z n).length = n * z.length
 | 0 => by simp [rep]
 | n + 1 => by simp [rep,rep_length z n,Nat.succ_mul]; omega
theorem rep_get (z : List Value) (hz : 0 < z.length) : ∀ (n i : Nat), i < n * z.length → (rep z n)[i]? = z[i % z.length]?
 | 0,i,h => by simp at h
 | n + 1, i, h => by
  simp only [rep]
  by_cases hi : i < z.length
  ·rw [List.getElem?_append_left hi,Nat.mod_eq_of_lt hi]
  ·rw [List.getElem?_append_right (by omega),rep_get z hz n (i - z.length) (by rw [Nat.succ_mul] at h; omega)]
   congr 1
   conv => rhs; rw [show i = (i - z.length) + z.length by omega]
   simp
theorem range_rep (z : List Value) (hz : 0 < z.length) (n : Nat) : ((Array.range (n * z.length)).map (z.toArray[· % z.toArray.size]!)).toList = rep z n := by
 apply List.ext_getElem?
 intro i
 by_cases hi : i < n * z.length
 ·rw [rep_get z hz n i hi]
  have hm : i % z.length < z.length := Nat.mod_lt _ hz
  simp [hi,hm]
 ·rw [List.getElem?_eq_none (by simpa using hi),List.getElem?_eq_none (by rw [rep_length]; omega)]
theorem rep_prefix (z : List Value) {p q : Nat} (h : p ≤ q) : rep z p <+: rep z q := by
 induction p generalizing q with
 | zero => simp [rep]
 | succ p ih =>
  obtain ⟨q,rfl⟩ : ∃ q',q = q' + 1 := ⟨q - 1,by omega⟩
  simp only [rep]
  exact (List.prefix_append_right_inj z).2 (ih (by omega))
theorem wrap_small {x : Int} (h0 : 0 ≤ x) (h1 : x ≤ 4611686018427387904) : IntKind.i64.wrap x = x := IntWalk.i64_in x (by omega)
theorem run_mk {t e : TypeId} {size bytes : Nat} {zero : List Value} {kl kc : IntKind} {p q : Int} (hu : E.P.underlying t = some (.slice e)) (he : elemIs E.P e size bytes zero = true)
  (h0 : 0 ≤ p) (h1 : p ≤ q) (h2 : bytes * q ≤ 140737488355328) (h3 : q ≤ 4611686018427387904) :
  (Instr.makeSlice t (.int kl p) (.int kc q)).run E.P w =
   .ok (.slice (some ⟨w.heap.size,0,none⟩) p.toNat q.toNat) { w with heap := w.heap.push (.cells (rep zero q.toNat).toArray e) } := by
 obtain ⟨i,v,hi,hs,hb,hv,hvz,hzl,hpos⟩ := elemIs_parts he
 have hsz : (sizeOf e).run E.P w = .ok size w := run_sizeOf' (by simp [sizeIs,hi,hs])
 have hwp := wrap_small h0 (by omega)
 have hwq : IntKind.i64.wrap q = q := wrap_small (by omega) h3
 have hcond : ((q < 0 || (bytes : Int) * q > 2 ^ 48) || p < 0 || p > q) = false := by
  simp
  omega
 have hroom : ¬ (q.toNat * bytes > roomBytes) := by
  simp only [roomBytes]
  have : (q.toNat : Int) = q := Int.toNat_of_nonneg (by omega)
  have h2' : ((bytes * q.toNat : Nat) : Int) ≤ 140737488355328 := by rw [Int.natCast_mul,this]; exact h2
  rw [Nat.mul_comm]
  omega
 have hz : v.cells = zero.toArray := by apply Array.toList_inj.1; simpa using hvz
 simp only [Instr.makeSlice,Sem.run_bind,run_underlying' hu,Result.andThen,asInt,asIntOf,Sem.run_pure,run_typeInfo' hi,hb,hwp,hwq]
 simp only [hcond,Bool.false_eq_true,if_false]
 by_cases hn0 : q.toNat * size = 0
 ·have hq0 : q.toNat = 0 := by
   rcases Nat.mul_eq_zero.1 hn0 with h | h
   ·exact h
   ·omega
  simp only [askRoom,if_neg hroom,Sem.run_pure,Result.andThen,hsz,Sem.run_bind,if_pos hn0]
  simp [newRow,newObj,Sem.run_bind,Sem.run,Result.andThen,pure,hq0,rep]
  congr 2
  apply Array.toList_inj.1
  simp
 ·have hzr : (zeroValue e).run E.P w = .ok v w := by simp [zeroValue,run_typeInfo' hi,hv]
  have harr : (Array.range (q.toNat * size)).map (v.cells[· % v.cells.size]!) = (rep zero q.toNat).toArray := by
   rw [hz]
   apply Array.toList_inj.1
   have := range_rep zero (by omega) q.toNat
   rw [hzl] at this
   simpa using this
  simp only [askRoom,if_neg hroom,Sem.run_pure,Result.andThen,hsz,Sem.run_bind,if_neg hn0,hzr,harr]
  simp [newRow,newObj,Sem.run_bind,Sem.run,Result.andThen,pure]
theorem run_src (hsat : Sat w.heap H) {size : Nat} {x : Value} (hk : srcOk H size x) :
  (Builtin.lenOf x).run E.P w = .ok (srcLen x) w ∧ (Builtin.firstCells size (srcLen x) x).run E.P w = .ok (srcCells H size x).toArray w ∧ (srcCells H size x).length = srcLen x * size := by
 unfold srcOk at hk
 split at hk
 ·rename_i ad m c
  rcases hk with rfl | ⟨hs,hk⟩
  ·have e : srcCells H size (.slice (some ad) 0 c) = [] := by
    simp only [srcCells]
    split <;> simp
   rw [e]
   refine ⟨rfl,?_,by simp [srcLen]⟩
   simp [Builtin.firstCells,srcLen,loadCells,loadCellsFrom]
  obtain ⟨b,o,sp⟩ := ad
  simp only at hs
  subst hs
  simp only at hk
  split at hk
  ·rename_i vs cap wr hH
   obtain ⟨cc,T,fz,hh,_,hp,_⟩ := hsat _ _ hH
   have := run_loadCellsFrom (E := E) hh hp o (m * size) 0 #[] (by omega)
   refine ⟨rfl,?_,?_⟩
   ·simp only [Builtin.firstCells,srcLen,srcCells,loadCells,hH,this]
    simp
   ·simp only [srcCells,hH,srcLen]
    simp; omega
  ·exact hk.elim
 ·rename_i m c
  subst hk
  exact ⟨rfl,rfl,by simp [srcCells,srcLen]⟩
 ·rename_i s
  subst hk
  refine ⟨?_,?_,?_⟩
  ·simp [Builtin.lenOf,srcLen]
  ·simp only [Builtin.firstCells,srcLen,srcCells]
   have : s.extract 0 s.data.toList.length = s := by
    apply ByteArray.ext
    rw [ByteArray.data_extract]
    simp
   rw [this]
   simp only [Sem.run_pure]
   congr 1
   apply Array.toList_inj.1
   simp
  ·simp [srcCells,srcLen]
 ·exact hk.elim
theorem cap_ge (need t : Nat) : need ≤ need + t % (2 ^ 63 - need) := Nat.le_add_right _ _
theorem run_app_grow (hsat : Sat w.heap H) {t0 t1 e ty : TypeId} {size bytes : Nat} {zero : List Value} {x : Value} (hu : E.P.underlying t0 = some (.slice e)) (hu1 : (∃ d, E.P.underlying t1 = some (.slice d)) ∨ E.P.underlying t1 = some .string)
  (he : elemIs E.P e size bytes zero = true) (hk : srcOk H size x) {base : Option Addr} {m c : Nat} {olds : List Value} (hold : (Builtin.firstCells size m (.slice base m c)).run E.P w.drew = .ok olds.toArray w.drew)
  (hb : (m + srcLen x) * bytes ≤ 140737488355328) (hl : m + srcLen x ≤ 4611686018427387904) (hg : c < m + srcLen x) :
  ∃ cap rest, m + srcLen x ≤ cap ∧ rest.length = (cap - (m + srcLen x)) * size ∧ (Builtin.append_ #[t0, t1] ty #[.slice base m c, x]).run E.P w =
   .ok (.slice (some ⟨w.heap.size,0,none⟩) (m + srcLen x) cap) (w.drew.alloc (.cells (olds ++ srcCells H size x ++ rest).toArray e)) := by
 obtain ⟨i,v,hi,hs,hby,hv,hvz,hzl,hpos⟩ := elemIs_parts he
 obtain ⟨hl1,hf,hlen⟩ := run_src (E := E) hsat hk
 have hf' : (Builtin.firstCells size (srcLen x) x).run E.P w.drew = .ok (srcCells H size x).toArray w.drew := (run_src (E := E) (w := w.drew) hsat hk).2.1
 have hzc : v.cells.size = size := by have := congrArg List.length hvz; simpa [hzl] using this
 have hfit := growslice_fits (need := m + srcLen x) (old := c) (bytes := bytes) hg hb
 refine ⟨m + srcLen x + w.tape w.drawn (.appendCap (m + srcLen x) c e) % (2 ^ 63 - (m + srcLen x)),(Builtin.zeroCells v.cells (m + srcLen x + w.tape w.drawn (.appendCap (m + srcLen x) c e) % (2 ^ 63 - (m + srcLen x)) - (m + srcLen x))).toList,cap_ge _ _,?_,?_⟩
 ·simp [size_zeroCells,hzc]
 ·have h0 : ¬ (m + srcLen x ≤ c) := by omega
  have h1 : ¬ (281474976710656 < Builtin.nextslicecap (m + srcLen x) c * bytes) := by omega
  have h2 : ¬ (9223372036854775807 < (m : Int) + (srcLen x : Int)) := by omega
  rcases hu1 with ⟨d,hd⟩ | hd
  ·simp [Builtin.append_,run_underlying hu,run_underlying hd,sizeOf,typeInfo,hi,hs,hby,hl1,h0,h1,h2,zeroValue,hv,choose,Sem.run,Question.forced,Question.cut,askRoom]
   rw [hold]
   simp only [Result.andThen,hf']
   simp [newRow,newObj,Sem.run_bind,Sem.run,Result.andThen,pure]
   generalize Builtin.zeroCells v.cells _ = z
   show w.drew.alloc _ = w.drew.alloc _
   congr 2
   apply Array.toList_inj.1
   simp
  ·simp [Builtin.append_,run_underlying hu,run_underlying hd,sizeOf,typeInfo,hi,hs,hby,hl1,h0,h1,h2,zeroValue,hv,choose,Sem.run,Question.forced,Question.cut,askRoom]
   rw [hold]
   simp only [Result.andThen,hf']
   simp [newRow,newObj,Sem.run_bind,Sem.run,Result.andThen,pure]
   generalize Builtin.zeroCells v.cells _ = z
   show w.drew.alloc _ = w.drew.alloc _
   congr 2
   apply Array.toList_inj.1
   simp
theorem run_app_room (hsat : Sat w.heap H) {t0 t1 e ty : TypeId} {size bytes : Nat} {zero : List Value} {x : Value} (hu : E.P.underlying t0 = some (.slice e)) (hu1 : (∃ d, E.P.underlying t1 = some (.slice d)) ∨ E.P.underlying t1 = some .string)
  (he : elemIs E.P e size bytes zero = true) (hk : srcOk H size x) {b m c : Nat} {cc : Array Value} {T : TypeId} {fz : Nat × Nat} (hh : w.heap[b]? = some (.cells cc T fz)) (hcc : cc.size = c * size)
  (hfz : ∀ i,i < cc.size → ¬ (fz.1 ≤ i ∧ i < fz.2)) (h1 : (srcCells H size x).all one1 = true) (hroom : m + srcLen x ≤ c) :
  (Builtin.append_ #[t0, t1] ty #[.slice (some ⟨b, 0, none⟩) m c, x]).run E.P w =
   .ok (.slice (some ⟨b,0,none⟩) (m + srcLen x) c) (w.putObj b (.cells (splice cc.toList (m * size) (srcCells H size x)).toArray T fz)) := by
 obtain ⟨i,v,hi,hs,hby,hv,hvz,hzl,hpos⟩ := elemIs_parts he
 obtain ⟨hl1,hf,hlen⟩ := run_src (E := E) hsat hk
 have hle : m * size + (srcCells H size x).length ≤ cc.size := by rw [hlen,hcc,← Nat.add_mul]; exact Nat.mul_le_mul_right _ hroom
 have hst := run_storeCells (P := E.P) (srcCells H size x) 0 (o := m * size) hh (by simpa using hle) (fun j _ hj => hfz j (by simp at hj; omega)) h1
 simp only [Nat.add_zero] at hst
 rcases hu1 with ⟨d, hd⟩ | hd <;>
  simp [Builtin.append_,run_underlying hu,run_underlying hd,sizeOf,typeInfo,hi,hs,hl1,hroom,hf,add_none,hst]
theorem run_app_none (hsat : Sat w.heap H) {t0 t1 e ty : TypeId} {size bytes : Nat} {zero : List Value} {x : Value} (hu : E.P.underlying t0 = some (.slice e)) (hu1 : (∃ d, E.P.underlying t1 = some (.slice d)) ∨ E.P.underlying t1 = some .string)
  (he : elemIs E.P e size bytes zero = true) (hk : srcOk H size x) (h0 : srcLen x = 0) : (Builtin.append_ #[t0,t1] ty #[.slice none 0 0,x]).run E.P w = .ok (.slice none 0 0) w := by
 obtain ⟨i,v,hi,hs,hby,hv,hvz,hzl,hpos⟩ := elemIs_parts he
 obtain ⟨hl1,hf,hlen⟩ := run_src (E := E) hsat hk
 rw [h0] at hf
 rcases hu1 with ⟨d,hd⟩ | hd <;> simp [Builtin.append_,run_underlying hu,run_underlying hd,sizeOf,typeInfo,hi,hs,hl1,h0,hf]
end
end Go.SL
/- Maps. -/
namespace Go.SL
open Go
section
variable {E : Env} {n : Nat} {w0 : World} {H0 : Hp} {fr : Fr} {H : Hp} {a : Act} {w : World} {β : Nat → Option Nat}
theorem run_zeroVal {t : TypeId} {z : Value} (h : zeroValIs E.P t z = true) : (zeroValue t).run E.P w = .ok z w := by
 unfold zeroValIs at h
 split at h
 ·rename_i i hi
  split at h
  ·rename_i x y hv
   have : x = y := by apply Array.toList_inj.1; exact vbeqL_eq h
   subst this
   simp [zeroValue,run_typeInfo' hi,hv]
  ·rename_i v z' hv hn
   rw [← vbeq_eq h]
   simp [zeroValue,run_typeInfo' hi,hv]
  ·cases h
 ·cases h
theorem checkKey_fields {em : Bool} {d : Nat} {cs : Array Value} : ∀ (fs : List Field) (i : Nat) (ks : List Kd), flatF E.P fs i ks = true → i + ks.length ≤ cs.toList.length →
  (forIn fs PUnit.unit (fun f (_ : PUnit) => (do
   if f.name ≠ "_" then Instr.checkKey em (d + 1) f.type (← part f.type cs f.offset)
   pure (ForInStep.yield PUnit.unit) : Sem (ForInStep PUnit)))).run E.P w = .ok PUnit.unit w
 | [],i,ks,_,_ => rfl
 | f :: fs, i, ks, hf, hl => by
  cases ks with
  | nil => simp [flatF] at hf
  | cons k ks =>
   simp only [flatF,Bool.and_eq_true,bne_iff_ne,ne_eq,beq_iff_eq] at hf
   obtain ⟨⟨⟨h1,h2⟩,h3⟩,h4⟩ := hf
   simp only [List.length_cons] at hl
   have hlt : i < cs.size := by simp at hl; omega
   have hp := part_scal (E := E) (w := w) h3 (cs := cs) (i := i) (v := cs[i]) (by simp [hlt])
   have hck : (Instr.checkKey em (d + 1) f.type cs[i]).run E.P w = .ok () w := by
    unfold kdOf at h3
    split at h3
    ·rename_i hu; simp [Instr.checkKey,run_underlying hu]
    ·rename_i hu; simp [Instr.checkKey,run_underlying hu]
    ·rename_i hu; simp [Instr.checkKey,run_underlying hu]
    ·cases h3
   have ih := checkKey_fields (em := em) (d := d) (cs := cs) fs (i + 1) ks h4 (by omega)
   rw [List.forIn_cons,Sem.run_bind]
   simp only [if_pos (show f.name ≠ "_" from h1), Sem.run_bind, h2, hp, Result.andThen, hck, Sem.run_pure]
   exact ih
theorem run_checkKeyK {t : TypeId} {ag : Bool} {ks : List Kd} {em : Bool} {k : Value} (d : Nat) (hk : keyOK E.P t ag ks = true) (hs : keyIs ag ks k) : (Instr.checkKey em (d + 2) t k).run E.P w = .ok () w := by
 unfold keyOK at hk
 split at hk
 ·rename_i ha
  subst ha
  unfold flatT at hk
  split at hk
  ·rename_i fs hu
   simp only [Bool.and_eq_true] at hk
   simp only [keyIs,if_true] at hs
   split at hs
   ·rename_i cs
    have := checkKey_fields (E := E) (w := w) (em := em) (d := d) (cs := cs) fs.toList 0 ks hk.2 (by omega)
    rw [Instr.checkKey]
    simp only [Sem.run_bind,run_underlying hu,Result.andThen]
    rw [← Array.forIn_toList]
    have e : (fun (f : Field) (_ : PUnit) => (do
      if f.name ≠ "_" then Instr.checkKey em (d + 1) f.type (← part f.type cs f.offset)
      pure (ForInStep.yield PUnit.unit) : Sem (ForInStep PUnit))) = (fun f _ => if f.name ≠ "_" then do
      let x ← part f.type cs f.offset
      Instr.checkKey em (d + 1) f.type x
      pure (ForInStep.yield PUnit.unit)
     else pure (ForInStep.yield PUnit.unit)) := by
     funext f _; rfl
    rw [e] at this
    rw [this]
    rfl
   ·exact hs.elim
  ·cases hk
 ·split at hk
  ·rename_i kd
   simp only [beq_iff_eq] at hk
   unfold kdOf at hk
   split at hk
   ·rename_i hu; simp [Instr.checkKey,run_underlying hu]
   ·rename_i hu; simp [Instr.checkKey,run_underlying hu]
   ·rename_i hu; simp [Instr.checkKey,run_underlying hu]
   ·cases hk
  ·cases hk
theorem run_checkKeyN {t : TypeId} {ag : Bool} {ks : List Kd} {em : Bool} {k : Value} {N : Nat} (d : Nat) (hN : N = d + 2) (hk : keyOK E.P t ag ks = true) (hs : keyIs ag ks k) : (Instr.checkKey em N t k).run E.P w = .ok () w := by
 subst hN
 exact run_checkKeyK d hk hs
theorem run_equalK {t : TypeId} {ag : Bool} {ks : List Kd} {x y : Value} {b : Bool} (d : Nat) (hk : keyOK E.P t ag ks = true) (h : keyEq ag ks x y = some b) : (Op.equalIn (d + 2) t x y).run E.P w = .ok b w := by
 unfold keyOK at hk
 split at hk
 ·rename_i ha
  subst ha
  unfold flatT at hk
  split at hk
  ·rename_i fs hu
   simp only [Bool.and_eq_true,Bool.not_eq_true'] at hk
   simp only [keyEq,if_true] at h
   unfold aggEq at h
   split at h
   ·rename_i xs ys
    have hfs : E.P.fieldsOf t = fs := by simp [Program.fieldsOf,hu]
    rw [run_equalIn_struct w (d + 1) t xs ys (by rw [hfs]; exact hu) hk.1.1,hfs]
    exact run_eqFields (d := d) fs.toList 0 ks b hk.2 (by simpa using h)
   ·cases h
  ·cases hk
 ·rename_i ha
  simp only [keyEq,ha,Bool.false_eq_true,if_false] at h
  split at hk
  ·rename_i kd
   simp only [beq_iff_eq] at hk
   exact run_scal (d := d + 1) hk h
  ·cases hk
theorem run_equalN {t : TypeId} {ag : Bool} {ks : List Kd} {x y : Value} {b : Bool} {N : Nat} (d : Nat) (hN : N = d + 2) (hk : keyOK E.P t ag ks = true) (h : keyEq ag ks x y = some b) : (Op.equalIn N t x y).run E.P w = .ok b w := by
 subst hN
 exact run_equalK d hk h
theorem run_findAsking {t : TypeId} {ag : Bool} {ks : List Kd} {k : Value} (hk : keyOK E.P t ag ks = true) : ∀ (es : List MapEntry) (i : Nat) (r : Option (Nat × Value)), mfind ag ks k es i = some r →
  (Instr.findAsking t k es i).run E.P w = .ok r w
 | [],i,r,h => by simp only [mfind,Option.some.injEq] at h; subst h; rfl
 | e :: es, i, r, h => by
  simp only [mfind] at h
  have he : ∀ b,keyEq ag ks k e.key = some b → (Op.equal t k e.key).run E.P w = .ok b w := fun b hb => by unfold Op.equal; exact run_equalN Op.maxDepth.pred.pred rfl hk hb
  split at h
  ·rename_i hb
   cases h
   simp [Instr.findAsking,Sem.run_bind,he _ hb,Result.andThen]
  ·rename_i hb
   simp only [Instr.findAsking,Sem.run_bind,he _ hb,Result.andThen,Bool.false_eq_true,if_false]
   exact run_findAsking hk es (i + 1) r h
  ·cases h
theorem findNow_or {t : TypeId} {ag : Bool} {ks : List Kd} {k : Value} {d : TypeDesc} (hd : E.P.underlying t = some d) (hk : keyOK E.P t ag ks = true) : ∀ (es : List MapEntry) (i : Nat) (r : Option (Nat × Value)), mfind ag ks k es i = some r →
  Instr.findNow d k es i = some r ∨ Instr.findNow d k es i = none
 | [],i,r,h => by simp only [mfind,Option.some.injEq] at h; subst h; exact .inl rfl
 | e :: es, i, r, h => by
  simp only [mfind] at h
  have hnow : ∀ b, keyEq ag ks k e.key = some b → Instr.sameNow d k e.key = some b ∨ Instr.sameNow d k e.key = none := by
   intro b hb
   cases hs : Instr.sameNow d k e.key with
   | none => exact .inr rfl
   | some c =>
    refine .inl ?_
    unfold keyOK at hk
    split at hk
    ·rename_i ha
     unfold flatT at hk
     split at hk
     ·rename_i fs hu
      rw [hd] at hu
      cases hu
      simp [Instr.sameNow] at hs
     ·cases hk
    ·rename_i ha
     simp only [keyEq,ha,Bool.false_eq_true,if_false] at hb
     split at hk
     ·rename_i kd
      simp only at hb
      unfold scalEq at hb
      split at hb
      ·simp only [Option.some.injEq] at hb
       unfold Instr.sameNow at hs
       split at hs <;> simp_all
      ·unfold Instr.sameNow at hs
       split at hs <;> simp_all
      ·unfold Instr.sameNow at hs
       split at hs <;> simp_all [beq_toListBytes,ByteArray.toList_eq]
      ·cases hb
     ·cases hk
  split at h
  ·rename_i hb
   cases h
   rcases hnow _ hb with h1 | h1
   ·exact .inl (by simp [Instr.findNow,h1])
   ·exact .inr (by simp [Instr.findNow,h1])
  ·rename_i hb
   rcases hnow _ hb with h1 | h1
   ·simp only [Instr.findNow,h1]
    exact findNow_or hd hk es (i + 1) r h
   ·exact .inr (by simp [Instr.findNow,h1])
  ·cases h
theorem keyOK_under {t : TypeId} {ag : Bool} {ks : List Kd} (hk : keyOK E.P t ag ks = true) : ∃ d, E.P.underlying t = some d := by
 cases hu : E.P.underlying t with
 | some d => exact ⟨d,rfl⟩
 | none =>
  exfalso
  unfold keyOK at hk
  split at hk
  ·simp [flatT,hu] at hk
  ·split at hk
   ·simp [kdOf,hu] at hk
   ·cases hk
theorem run_findKey {t : TypeId} {ag : Bool} {ks : List Kd} {k : Value} {es : List MapEntry} {r : Option (Nat × Value)} (hk : keyOK E.P t ag ks = true) (h : mfind ag ks k es 0 = some r) :
  (Instr.findKey t k es).run E.P w = .ok r w := by
 obtain ⟨d,hd⟩ := keyOK_under hk
 rcases findNow_or hd hk es 0 r h with h1 | h1
 ·simp only [Instr.findKey,Sem.run_bind,run_underlying hd,Result.andThen,h1]; rfl
 ·simp only [Instr.findKey,Sem.run_bind,run_underlying hd,Result.andThen,h1]
  exact run_findAsking hk es 0 r h
theorem scal_bits {k : Kd} {x y : Value} (d : Nat) (h : scalEq k x y = some true) : Instr.sameBits d y x = true := by
 unfold scalEq at h
 split at h
 ·simp at h; subst h; simp [Instr.sameBits]
 ·split at h
  ·rename_i hk; subst hk; simp at h; subst h; simp [Instr.sameBits]
  ·cases h
 ·rename_i p q
  simp at h
  have : p = q := by
   obtain ⟨⟨p⟩⟩ := p; obtain ⟨⟨q⟩⟩ := q
   simp at h; subst h; rfl
  subst this
  simp [Instr.sameBits,beq_toListBytes]
 ·cases h
theorem all_bits (d : Nat) : ∀ {ks : List Kd} {xs ys : List Value}, allEq ks xs ys = some true → xs.length = ys.length ∧ (ys.zip xs).all (fun (x, y) => Instr.sameBits d x y) = true
 | [],[],[],_ => by simp
 | k :: ks, x :: xs, y :: ys, h => by
  simp only [allEq] at h
  split at h
  ·rename_i p q hp hq
   simp only [Option.some.injEq,Bool.and_eq_true] at h
   obtain ⟨rfl,rfl⟩ := h
   have := all_bits d hq
   refine ⟨by simp [this.1],?_⟩
   simp only [List.zip_cons_cons,List.all_cons,Bool.and_eq_true]
   exact ⟨scal_bits d hp,this.2⟩
  ·cases h
 | [],_ :: _,_,h => by simp [allEq] at h
 | [],[],_ :: _,h => by simp [allEq] at h
 | _ :: _,[],_,h => by simp [allEq] at h
 | _ :: _,_ :: _,[],h => by simp [allEq] at h
theorem key_bits {ag : Bool} {ks : List Kd} {x y : Value} (d : Nat) (h : keyEq ag ks x y = some true) : Instr.sameBits (d + 1) y x = true := by
 unfold keyEq at h
 split at h
 ·unfold aggEq at h
  split at h
  ·rename_i xs ys
   have := all_bits d h
   have hl : ys.size = xs.size := by have := this.1; simp at this; omega
   rw [Instr.sameBits]
   simp only [hl,beq_self_eq_true,Bool.true_and]
   exact this.2
  ·cases h
 ·split at h
  ·exact scal_bits _ h
  ·cases h
theorem key_bitsN {ag : Bool} {ks : List Kd} {x y : Value} {N : Nat} (d : Nat) (hN : N = d + 1) (h : keyEq ag ks x y = some true) : Instr.sameBits N y x = true := by
 subst hN
 exact key_bits d h
theorem mfind_at {ag : Bool} {ks : List Kd} {k : Value} : ∀ {es : List MapEntry} {i j : Nat} {v : Value}, mfind ag ks k es i = some (some (j, v)) → ∃ e, i ≤ j ∧ es[j - i]? = some e ∧ keyEq ag ks k e.key = some true ∧ e.val = v
 | [],i,j,v,h => by simp [mfind] at h
 | e :: es, i, j, v, h => by
  simp only [mfind] at h
  split at h
  ·rename_i hb
   simp only [Option.some.injEq,Prod.mk.injEq] at h
   obtain ⟨rfl,rfl⟩ := h
   exact ⟨e,Nat.le_refl _,by simp,hb,rfl⟩
  ·obtain ⟨e',h1,h2,h3⟩ := mfind_at h
   refine ⟨e',by omega,?_,h3⟩
   rw [show j - i = (j - (i + 1)) + 1 by omega,List.getElem?_cons_succ]
   exact h2
  ·cases h
end
end Go.SL
