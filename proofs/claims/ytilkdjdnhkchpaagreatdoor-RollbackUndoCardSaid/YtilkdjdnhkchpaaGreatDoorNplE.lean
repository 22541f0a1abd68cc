/- Every simple operation runs to its value. -/
import Derived.Test.YtilkdjdnhkchpaaGreatDoorNplA
namespace Go.SL
open Go

def AOp.allocs : AOp → Bool
  | .box _ | .new _ => true
  | _ => false

section
variable {E : Env} {n : Nat} {w0 : World} {H0 : Hp} {fr : Fr} {H : Hp} {a : Act} {w : World} {β : Nat → Option Nat}

theorem evals_vo (h : RelB n w0 H0 fr H a w β) : ∀ {Xs : List Operand} {xs : List Arg}, chkArgs E Xs xs = true → allok fr xs → Xs.map a.eval = xs.map (vo E fr)
  | [], [], _, _ => rfl
  | X :: Xs, x :: xs, hc, hk => by
    simp only [chkArgs, Bool.and_eq_true] at hc
    simp only [List.map_cons, eval_vo h hc.1 hk.1, evals_vo h hc.2 hk.2]
  | [], _ :: _, hc, _ => by simp [chkArgs] at hc
  | _ :: _, [], hc, _ => by simp [chkArgs] at hc

theorem shift_val {p : PV} {u : Value} (off : Nat) (hu : PVval β p u) (hs : ptrOk p) : ∃ b o, u = .pointer (some ⟨b, o, none⟩) ∧ PVval β (shiftPV off p) (.pointer (some ⟨b, o + off, none⟩)) := by
  unfold ptrOk at hs
  split at hs
  · obtain ⟨b, hb, rfl⟩ := hu; exact ⟨b, _, rfl, b, hb, rfl⟩
  · rename_i ad
    simp only [PVval] at hu
    subst hu
    obtain ⟨b, o, s⟩ := ad
    simp at hs
    subst hs
    exact ⟨b, o, rfl, rfl⟩
  · exact hs.elim

theorem sim_ok (h : RelB n w0 H0 fr H a w β) {o : Oper} {x : AOp} (hc : chkOp E o.op x = true) (hk : simC E fr H x) :
    ∃ v, (execOp a.eval o).run E.P w = .ok (.value v) w ∧ PVval β (simT E fr H x) v := by
  unfold chkOp at hc
  split at hc
  · -- move
    rename_i X x ho
    exact ⟨_, by simp [execOp, ho, pure], eval_pvo h hc hk⟩
  · rename_i X x ho
    exact ⟨_, by simp [execOp, ho, pure], eval_pvo h hc hk⟩
  · -- pick
    rename_i C A B c p q ho
    simp only [Bool.and_eq_true] at hc
    obtain ⟨k1, k2⟩ := hk
    have e1 := eval_vo h hc.1.1 k1
    split at k2
    · rename_i b hb
      rw [hb] at e1
      cases b with
      | true =>
        refine ⟨a.eval A, by simp [execOp, ho, e1, asBool, Sem.run_bind, Result.andThen, pure, Sem.run], ?_⟩
        rw [eval_vo h hc.1.2 (k2.1 rfl)]
        simp only [simT, hb]
        split <;> simp_all [PVval]
      | false =>
        refine ⟨a.eval B, by simp [execOp, ho, e1, asBool, Sem.run_bind, Result.andThen, pure, Sem.run], ?_⟩
        rw [eval_vo h hc.2 (k2.2 rfl)]
        simp only [simT, hb]
        split <;> simp_all [PVval]
    · exact k2.elim
  · -- load
    rename_i t X m x ho
    simp only [Bool.and_eq_true] at hc
    obtain ⟨k1, k2, k3⟩ := hk
    have hu := eval_pvo h hc.2 k1
    split at k3
    · rename_i vs hvs
      obtain ⟨b, c, T, fz, he, hh, hp⟩ := cells_there h hu k2 hvs
      refine ⟨part1 m vs (offOfPV (pvo E fr x)), ?_, by simp only [simT, hvs, PVval]⟩
      simp [execOp, ho, Instr.loadAt, he, Instr.sureAddr, Sem.run_bind, Result.andThen, run_loadVar' hc.1 hh hp k3, pure, Sem.run]
    · exact k3.elim
  · -- fieldAddr
    rename_i s X f off x ho
    simp only [Bool.and_eq_true] at hc
    obtain ⟨h1, h2⟩ := hc
    obtain ⟨k1, k2⟩ := hk
    obtain ⟨b, o', he, hv⟩ := shift_val off (eval_pvo h h2 k1) k2
    refine ⟨_, ?_, hv⟩
    split at h1
    · rename_i fs hfs
      split at h1
      · rename_i fd hfd
        simp only [Bool.and_eq_true] at h1
        obtain ⟨e1, e2⟩ := h1
        split at e2
        · rename_i i hi
          have e1' : fd.offset = off := by simpa using e1
          have hz : (i.size = 0) = False := by simpa using e2
          have hsz : (sizeOf fd.type).run E.P w = .ok i.size w := run_sizeOf' (by simp [sizeIs, hi])
          simp [execOp, ho, Instr.fieldAt, he, Instr.sureAddr, fieldPlace, Sem.run_bind, Result.andThen, run_underlying' hfs, hfd, hsz, hz, pure, Sem.run, add_none, e1']
        · cases e2
      · cases h1
    · cases h1
  · -- indexAddr on a slice
    rename_i t X I size x i ho
    simp only [Bool.and_eq_true] at hc
    obtain ⟨⟨h1, h2⟩, h3⟩ := hc
    obtain ⟨k1, k2, k3⟩ := hk
    have e1 := eval_vo h h2 k1
    have e2 := eval_vo h h3 k2
    split at h1
    · rename_i e hsl
      split at k3
      · rename_i ad len cap k j hx hi
        rw [hx] at e1; rw [hi] at e2
        obtain ⟨b, o', s⟩ := ad
        obtain ⟨hs, k4, k5⟩ := k3
        simp at hs
        subst hs
        refine ⟨.pointer (some ⟨b, o' + j.toNat * size, none⟩), ?_, by simp only [simT, hx, hi, PVval]⟩
        simp [execOp, ho, Instr.indexAt, e1, e2, asIntOf, Sem.run_bind, Result.andThen, run_underlying' hsl, run_sizeOf' h1, k4, k5, pure, Sem.run, add_none]
      · exact k3.elim
    · cases h1
  · -- indexAddr on an array
    rename_i t X I size len x i ho
    simp only [Bool.and_eq_true] at hc
    obtain ⟨⟨h1, h2⟩, h3⟩ := hc
    obtain ⟨k1, k2, hs, k3⟩ := hk
    have hu := eval_pvo h h2 k1
    have e2 := eval_vo h h3 k2
    split at h1
    · rename_i l e har
      simp only [Bool.and_eq_true, beq_iff_eq] at h1
      obtain ⟨rfl, h1⟩ := h1
      split at k3
      · rename_i k j hi
        obtain ⟨p0, p1⟩ := k3
        obtain ⟨b, o', he, hv⟩ := shift_val (j.toNat * size) hu hs
        rw [hi] at e2
        refine ⟨_, ?_, by simpa only [simT, hi, intOf] using hv⟩
        simp [execOp, ho, Instr.indexAt, he, e2, asIntOf, Instr.sureAddr, Sem.run_bind, Result.andThen, run_underlying' har, run_sizeOf' h1, p0, p1, pure, Sem.run, add_none]
      · exact k3.elim
    · cases h1
  · -- len
    rename_i args argTypes st x ho
    split at hc
    · rename_i t X ht hx
      simp only [Bool.and_eq_true] at hc
      obtain ⟨h1, h2⟩ := hc
      obtain ⟨k1, k2⟩ := hk
      have e1 := eval_vo h h2 k1
      have ea : args = #[X] := by apply Array.toList_inj.1; simpa using hx
      have et : argTypes = #[t] := by apply Array.toList_inj.1; simpa using ht
      subst ea; subst et
      split at k2
      · rename_i s hv
        subst k2
        rw [hv] at e1
        split at h1
        · rename_i hu _
          refine ⟨.int .i64 s.size, ?_, by simp only [simT, hv, PVval]⟩
          simp [execOp, ho, resolve, invoke, builtin, Builtin.len_, e1, Sem.run_bind, Result.andThen, run_underlying' hu, pure, Sem.run, goInt]
        · rename_i he; cases he
        · cases h1
      · rename_i ad len cap hv
        subst k2
        rw [hv] at e1
        split at h1
        · rename_i he; cases he
        · rename_i el hu _
          refine ⟨.int .i64 len, ?_, by simp only [simT, hv, PVval]⟩
          simp [execOp, ho, resolve, invoke, builtin, Builtin.len_, e1, Sem.run_bind, Result.andThen, run_underlying' hu, pure, Sem.run, goInt]
        · cases h1
      · exact k2.elim
    · cases hc
  · -- binOp
    rename_i op t X Y t' op' x y ho
    simp only [Bool.and_eq_true, beq_iff_eq] at hc
    obtain ⟨⟨rfl, h2⟩, h3⟩ := hc
    obtain ⟨k1, k2, k3⟩ := hk
    have e1 := eval_vo h h2 k1
    have e2 := eval_vo h h3 k2
    obtain ⟨v, hv⟩ := Option.isSome_iff_exists.1 k3
    refine ⟨v, ?_, by simp [simT, hv, PVval]⟩
    simp [execOp, ho, e1, e2, Sem.run_bind, Result.andThen, run_binO hv, eqGuard_plain hv]
  · -- == on bools
    rename_i op t X Y t' neg x y ho
    simp only [Bool.and_eq_true, beq_iff_eq] at hc
    obtain ⟨⟨⟨rfl, h1⟩, h2⟩, h3⟩ := hc
    obtain ⟨k1, k2, k3⟩ := hk
    have e1 := eval_vo h h2 k1
    have e2 := eval_vo h h3 k2
    split at h1
    · rename_i hu
      split at k3
      · rename_i p q hp hq
        rw [hp] at e1; rw [hq] at e2
        refine ⟨.bool ((p == q) ^^ neg), ?_, by simp only [simT, hp, hq, PVval]⟩
        cases neg <;> simp [execOp, ho, e1, e2, eqGuard, binOp, Op.equal, Op.maxDepth, Sem.run_bind, Result.andThen, run_equalIn_bool' w 9999 t _ _ hu, pure, Sem.run]
      · exact k3.elim
    · cases h1
  · -- == on structs
    rename_i op t X Y t' neg ks x y ho
    simp only [Bool.and_eq_true, beq_iff_eq] at hc
    obtain ⟨⟨⟨rfl, h1⟩, h2⟩, h3⟩ := hc
    obtain ⟨k1, k2, k3⟩ := hk
    have e1 := eval_vo h h2 k1
    have e2 := eval_vo h h3 k2
    unfold flatT at h1
    split at h1
    · rename_i fs hu
      simp only [Bool.and_eq_true, Bool.not_eq_true'] at h1
      obtain ⟨⟨hs, hg⟩, hf⟩ := h1
      obtain ⟨b, hb⟩ := Option.isSome_iff_exists.1 k3
      have hb' := hb
      unfold aggEq at hb
      split at hb
      · rename_i xs ys hp hq
        rw [hp] at e1; rw [hq] at e2
        have hfs : E.P.fieldsOf t = fs := by simp [Program.fieldsOf, hu]
        have heq : (Op.equalIn 10000 t (.agg xs) (.agg ys)).run E.P w = .ok b w := by
          rw [run_equalIn_struct w 9999 t xs ys (by rw [hfs]; exact hu) hs, hfs]
          exact run_eqFields (d := 9998) fs.toList 0 ks b hf (by simpa using hb)
        refine ⟨.bool (b ^^ neg), ?_, by simp only [simT, hb', Option.getD_some, PVval]⟩
        cases neg
        · simp only [execOp, ho, e1, e2, Sem.run_bind, run_eqGuard_agg w _ t _ _ _ _ hg, Result.andThen, run_eql_struct, heq, if_false, Bool.false_eq_true]; simp [pure]
        · simp only [execOp, ho, e1, e2, Sem.run_bind, run_eqGuard_agg w _ t _ _ _ _ hg, Result.andThen, run_neq_struct, heq, if_true]; simp [pure]
      · cases hb
    · cases h1
  · -- a slice against nil
    rename_i op t X Y t' neg x y ho
    simp only [Bool.and_eq_true, beq_iff_eq] at hc
    obtain ⟨⟨⟨rfl, h1⟩, h2⟩, h3⟩ := hc
    obtain ⟨k1, k2, k3⟩ := hk
    have e1 := eval_vo h h2 k1
    have e2 := eval_vo h h3 k2
    unfold isSliceT at h1
    split at h1
    · rename_i el hu
      obtain ⟨b, hb⟩ := Option.isSome_iff_exists.1 k3
      have hb' := hb
      unfold nilEq at hb
      split at hb
      · rename_i ad l c hp hq
        cases hb
        rw [hp] at e1; rw [hq] at e2
        refine ⟨.bool (ad.isNone ^^ neg), ?_, by simp only [simT, hb', Option.getD_some, PVval]⟩
        cases neg <;> simp [execOp, ho, e1, e2, eqGuard, binOp, Sem.run_bind, Result.andThen, run_equal_slice_nil w t el ad l c hu, pure, Sem.run]
      · cases hb
    · cases h1
  · -- build
    rename_i t parts zero ps ho
    simp only [Bool.and_eq_true] at hc
    obtain ⟨hz, h1⟩ := hc
    have hzero : ∃ v, (zeroValue t).run E.P w = .ok v w ∧ v.cells = zero.toArray := by
      unfold zeroIs at hz
      split at hz
      · rename_i i hi
        split at hz
        · rename_i v hv
          exact ⟨v, by simp [zeroValue, run_typeInfo' hi, hv], by apply Array.toList_inj.1; simpa using vbeqL_eq hz⟩
        · cases hz
      · cases hz
    obtain ⟨zv, hzr, hzc⟩ := hzero
    refine ⟨.agg (fillT E fr zero ps).toArray, ?_, by simp only [simT, PVval]⟩
    split at h1
    · rename_i fs hu
      simp only [Bool.and_eq_true] at h1
      have hf := fill_parts h (cells := zero) h1.2 hk
      have hpl := run_places (E := E) (w := w) fs.toList h1.1
      simp only [execOp, ho, Instr.build, Sem.run_bind, hzr, Result.andThen, run_underlying' hu, Array.mapM_eq_mapM_toList, map_eq_pure_bind, hpl, Sem.run_pure, hzc]
      simp only [Array.toList_map, hf]
      rfl
    · rename_i l el hu
      split at h1
      · simp only [Bool.and_eq_true, Array.isEmpty_iff] at h1
        obtain ⟨rfl, hi⟩ := h1
        obtain ⟨i, hi⟩ := Option.isSome_iff_exists.1 hi
        have hs : (sizeOf el).run E.P w = .ok i.size w := run_sizeOf' (by simp [sizeIs, hi])
        simp only [execOp, ho, Instr.build, Sem.run_bind, hzr, Result.andThen, run_underlying' hu, hs, hzc]
        simp [Instr.fill, fillT]
      · rename_i o1 sz x1 r1
        simp only [Bool.and_eq_true] at h1
        have hf := fill_partsA h (cells := zero) h1.2 hk
        simp only [execOp, ho, Instr.build, Sem.run_bind, hzr, Result.andThen, run_underlying' hu, run_sizeOf' h1.1, hzc]
        simp only [Array.toList_map, hf]
        rfl
    · cases h1
  · -- not
    rename_i t X x ho
    obtain ⟨k1, k2⟩ := hk
    have e1 := eval_vo h hc k1
    split at k2
    · rename_i b hb
      rw [hb] at e1
      exact ⟨.bool !b, by simp [execOp, ho, e1, Op.unary], by simp [simT, hb, PVval]⟩
    · exact k2.elim
  · -- neg
    rename_i t X x ho
    obtain ⟨k1, k2⟩ := hk
    have e1 := eval_vo h hc k1
    split at k2
    · rename_i k b hb
      rw [hb] at e1
      exact ⟨.int k (k.wrap (0 - b)), by simp [execOp, ho, e1, Op.unary, Op.intArith], by simp [simT, hb, PVval]⟩
    · exact k2.elim
  · -- extract
    rename_i X i j x ho
    simp only [Bool.and_eq_true, beq_iff_eq] at hc
    obtain ⟨rfl, h2⟩ := hc
    obtain ⟨k1, k2⟩ := hk
    have e1 := eval_vo h h2 k1
    split at k2
    · rename_i vs hv
      rw [hv] at e1
      have hlt : i < vs.size := by simpa using k2
      refine ⟨vs.toList.getD i undef, ?_, by simp only [simT, hv, PVval]⟩
      simp [execOp, ho, e1, Instr.extract, hlt]
    · exact k2.elim
  · -- index of a string
    rename_i t X I x i ho
    simp only [Bool.and_eq_true] at hc
    obtain ⟨⟨h1, h2⟩, h3⟩ := hc
    obtain ⟨k1, k2, k3⟩ := hk
    have e1 := eval_vo h h2 k1
    have e2 := eval_vo h h3 k2
    split at h1
    · rename_i hu
      split at k3
      · rename_i s k j hx hi
        rw [hx] at e1; rw [hi] at e2
        have hlt : j.toNat < s.size := by omega
        refine ⟨.int .u8 (s.data.toList.getD j.toNat 0).toNat, ?_, by simp [simT, hx, hi, PVval, strOf, intOf]⟩
        have hlt' : j.toNat < s.data.size := hlt
        have hg : s[j.toNat]? = some (s.data.toList.getD j.toNat 0) := by
          simp [hlt]
          rfl
        simp [execOp, ho, e1, e2, Instr.index, asIntOf, Sem.run_bind, Result.andThen, run_underlying' hu, k3.1, hg, pure, Sem.run]
      · exact k3.elim
    · cases h1
  · -- convert to an int
    rename_i s t X k x ho
    simp only [Bool.and_eq_true] at hc
    obtain ⟨h1, h2⟩ := hc
    obtain ⟨k1, k2⟩ := hk
    have e1 := eval_vo h h2 k1
    split at h1
    · rename_i d l hs ht
      have : l = k := by simpa using h1
      subst this
      split at k2
      · rename_i k' j hj
        rw [hj] at e1
        refine ⟨.int l (l.wrap j), ?_, by simp [simT, hj, PVval]⟩
        simp [execOp, ho, e1, convert, Sem.run_bind, Result.andThen, run_underlying' hs, run_underlying' ht, Conv.intToInt, pure, Sem.run]
      · exact k2.elim
    · cases h1
  · -- convert to a string
    rename_i s t X x ho
    simp only [Bool.and_eq_true] at hc
    obtain ⟨h1, h2⟩ := hc
    obtain ⟨k1, k2⟩ := hk
    have e1 := eval_vo h h2 k1
    split at h1
    · rename_i d hs ht
      split at k2
      · rename_i j hj
        rw [hj] at e1
        refine ⟨.string j, ?_, by simp [simT, hj, PVval]⟩
        simp [execOp, ho, e1, convert, Sem.run_bind, Result.andThen, run_underlying' hs, run_underlying' ht, pure, Sem.run]
      · exact k2.elim
    · cases h1
  · -- slice of a slice
    rename_i t X lo hi mx size x l hh m ho
    simp only [Bool.and_eq_true, Bool.or_eq_true] at hc
    obtain ⟨⟨⟨⟨⟨h1, h2⟩, h3⟩, h4⟩, h5⟩, h6⟩ := hc
    obtain ⟨k1, k2⟩ := hk
    have e1 := eval_vo h h2 k1
    split at h1
    · rename_i e hu
      split at k2
      · rename_i ad len cap hx
        rw [hx] at e1
        obtain ⟨hs, bm, bh, bl⟩ := k2
        have hb := run_bnds h (isS := true) h3 h4 h5 h6 bm bh bl
        refine ⟨.slice (if bnd E fr cap m = bnd E fr 0 l then ad else ad.map (fun a => ⟨a.block, a.off + bnd E fr 0 l * size, none⟩)) (bnd E fr len hh - bnd E fr 0 l) (bnd E fr cap m - bnd E fr 0 l), ?_, by simp only [simT, hx, PVval]⟩
        simp [execOp, ho, e1, Instr.sliceAt, Instr.slice, Sem.run_bind, Result.andThen, run_underlying' hu, hb, run_sizeOf' h1, pure, Sem.run]
        cases ad with
        | none => rfl
        | some ad =>
          obtain ⟨b, o', s⟩ := ad
          have := hs _ rfl
          simp at this
          subst this
          simp [add_none]
      · exact k2.elim
    · cases h1
  · -- slice of a string
    rename_i t X lo hi x l hh ho
    simp only [Bool.and_eq_true] at hc
    obtain ⟨⟨⟨h1, h2⟩, h3⟩, h4⟩ := hc
    obtain ⟨k1, k2⟩ := hk
    have e1 := eval_vo h h2 k1
    split at h1
    · rename_i hu
      split at k2
      · rename_i s hx
        rw [hx] at e1
        have hb := run_bnds h (isS := false) (mx := none) (m := none) h3 h4 rfl (.inl rfl) (cap := s.size) (len := s.size) trivial k2.1 k2.2
        simp only [Option.map_none] at hb
        refine ⟨.string (s.extract (bnd E fr 0 l) (bnd E fr s.size hh)), ?_, by simp only [simT, hx, PVval]⟩
        simp [execOp, ho, e1, Instr.sliceAt, Instr.slice, Sem.run_bind, Result.andThen, run_underlying' hu, hb, pure, Sem.run]
      · exact k2.elim
    · cases h1
  · -- makeFunc
    rename_i g first cap f fs cs ho
    simp only [Bool.and_eq_true, beq_iff_eq] at hc
    obtain ⟨⟨rfl, h2⟩, h3⟩ := hc
    have e1 := evals_vo h h2 hk.1
    have e2 := evals_vo h h3 hk.2
    refine ⟨.func (.func (E.fn f)) (fs.map (vo E fr)).toArray (cs.map (vo E fr)).toArray, ?_, by simp only [simT, PVval]⟩
    simp only [execOp, ho, Instr.makeFunc, pure, Sem.run, Sem.run_bind, Result.andThen, ← e1, ← e2]
    congr 3 <;> (apply Array.toList_inj.1; simp)
  · -- nilCheck
    rename_i X x ho
    obtain ⟨k1, k2⟩ := hk
    have hu := eval_pvo h hc k1
    refine ⟨a.eval X, ?_, hu⟩
    split at k2
    · rename_i s o' hx
      rw [hx] at hu
      obtain ⟨b, _, e⟩ := hu
      simp [execOp, ho, e]
    · rename_i ad hx
      rw [hx] at hu
      simp only [PVval] at hu
      simp [execOp, ho, hu]
    · rename_i g f c hx
      rw [hx] at hu
      simp only [PVval] at hu
      simp [execOp, ho, hu]
    · exact k2.elim
  · -- max
    rename_i args ats x y ho
    split at hc
    · rename_i X Y hx
      simp only [Bool.and_eq_true] at hc
      obtain ⟨k1, k2, k3⟩ := hk
      have e1 := eval_vo h hc.1 k1
      have e2 := eval_vo h hc.2 k2
      have ea : args = #[X, Y] := by apply Array.toList_inj.1; simpa using hx
      subst ea
      split at k3
      · rename_i k p k' q hp hq
        subst k3
        rw [hp] at e1; rw [hq] at e2
        refine ⟨.int k (max p q), ?_, by simp only [simT, hp, hq, PVval, if_true]⟩
        have hm : (if p < q then q else p) = max p q := by split <;> omega
        simp [execOp, ho, resolve, invoke, builtin, Builtin.max_, Builtin.max2, e1, e2, Sem.run_bind, Result.andThen, pure, Sem.run, hm]
      · exact k3.elim
    · cases hc
  · -- min
    rename_i args ats x y ho
    split at hc
    · rename_i X Y hx
      simp only [Bool.and_eq_true] at hc
      obtain ⟨k1, k2, k3⟩ := hk
      have e1 := eval_vo h hc.1 k1
      have e2 := eval_vo h hc.2 k2
      have ea : args = #[X, Y] := by apply Array.toList_inj.1; simpa using hx
      subst ea
      split at k3
      · rename_i k p k' q hp hq
        subst k3
        rw [hp] at e1; rw [hq] at e2
        refine ⟨.int k (min p q), ?_, by simp [simT, hp, hq, PVval]⟩
        have hm : (if q < p then q else p) = min p q := by split <;> omega
        simp [execOp, ho, resolve, invoke, builtin, Builtin.min_, Builtin.min2, e1, e2, Sem.run_bind, Result.andThen, pure, Sem.run, hm]
      · exact k3.elim
    · cases hc
  · -- field
    rename_i s X f off m x ho
    simp only [Bool.and_eq_true] at hc
    obtain ⟨h1, h2⟩ := hc
    obtain ⟨k1, k2⟩ := hk
    have e1 := eval_vo h h2 k1
    split at h1
    · rename_i fs hfs
      split at h1
      · rename_i fd hfd
        simp only [Bool.and_eq_true, beq_iff_eq] at h1
        obtain ⟨rfl, h1⟩ := h1
        split at k2
        · rename_i cs hx
          rw [hx] at e1
          refine ⟨part1 m cs.toList fd.offset, ?_, by simp only [simT, hx, PVval]⟩
          cases m with
          | none =>
            simp [chkN] at h1
            have hlt : fd.offset < cs.size := by simp [szOf] at k2; omega
            simp [execOp, ho, e1, Instr.field, part, asAgg, Sem.run_bind, Result.andThen, run_underlying' hfs, hfd, run_isAgg' h1, hlt, part1, pure, Sem.run]
          | some k =>
            simp [chkN] at h1
            simp [execOp, ho, e1, Instr.field, part, asAgg, Sem.run_bind, Result.andThen, run_underlying' hfs, hfd, run_isAgg' h1.1, run_sizeOf' h1.2, part1, pure, Sem.run]
            apply Array.toList_inj.1
            simp
        · exact k2.elim
      · cases h1
    · cases h1
  · cases hc
end
end Go.SL

/- Operations that write, lay new rows, or call; one operation; a list of them. -/
namespace Go.SL
open Go

def one1 : Value → Bool
  | .agg _ | .tuple _ => false
  | _ => true

inductive BOp where
  | sim (x : AOp)
  | st (n : Nat) (x v : Arg)
  | newH (zero : List Value)
  | boxH (x : Arg)
  | callp (f : Nat) (args : List Arg)
  | call (f : Nat) (args : List Arg)
  | callv (x : Arg) (args : List Arg)
  | mksl (size len : Nat) (zero : List Value) (parts : List (Nat × Nat × Arg))
  | mk (size bytes : Nat) (zero : List Value) (l c : Arg)
  | app (size bytes : Nat) (zero : List Value) (s x : Arg)
  | mkmap (r : Option Arg)
  | look (ag : Bool) (ks : List Kd) (zero : Value) (ok : Bool) (m k : Arg)
  | upd (ag : Bool) (ks : List Kd) (m k v : Arg)
  | mlen (m : Arg)
  | ment (ag : Bool) (ks : List Kd) (zero : Value) (m k : Arg)
  | est (m s v : Arg)
  | rng (m : Arg)
  | nxt (it : Arg)
  | ent (it : Arg)

structure AOper where
  dst : Option Nat
  op : BOp
  guard : Option (Nat × Bool)

def gok (fr : Fr) : Option (Nat × Bool) → Prop
  | none => True
  | some (s, _) => match fr.get s with
    | some ⟨_, .val (.bool _)⟩ => True
    | _ => False
def gcond (fr : Fr) : Option (Nat × Bool) → Bool
  | none => true
  | some (s, want) => match fr.get s with
    | some ⟨c, .val (.bool b)⟩ => c && (b == want)
    | _ => false
def setD (fr : Fr) : Option Nat → SV → Fr
  | none, _ => fr
  | some d, v => fr.set d v
/-- new content of a private row -/
def Fr.upb (fr : Fr) (s : Nat) (vs : List Value) : Fr := fr.map fun e => if e.1 = s then (e.1, ⟨e.2.c, .box vs⟩) else e

/-- A call whose result is this value; what was known stays. -/
def FnP (E : Env) (f : Nat) (args : List Value) (H : Hp) (v : Value) : Prop := Fn E.P (E.fn f) args H fun u H' => u = v ∧ H.le H'
def enters (P : Program) (f : FuncId) : Bool :=
  match P.funcs[f]? with
  | some fn => fn.name != "runtime.NumGoroutine" && fn.body.isSome
  | none => false
/-- A call of a function value: a function's, or the yield of a loop. -/
def CallV (P : Program) (x : Value) (args : List Value) (w : World) (R : Ending → World → Prop) : Prop :=
  match x with
  | .func (.func g) first cap => enters P g = true ∧ Calls P g (first.toList ++ args ++ cap.toList).toArray w R
  | .func (.yield l) first _ => ∃ fn tmps assign body, (Instr.yield l (first.toList ++ args).toArray).run P w = .ok (.round l fn tmps assign body) w ∧ RoundIn Fence.wide 0 P l fn tmps assign body w R
  | _ => False
def FnV (E : Env) (x : Value) (args : List Value) (H : Hp) (Q : Value → Hp → Prop) : Prop :=
  ∀ w, Sat w.heap H → CallV E.P x args w fun e w' => ∃ v H', e = .returned v ∧ Sat w'.heap H' ∧ Kept H w w' H' ∧ Q v H'
theorem CallV.mono {P : Program} {x : Value} {args : List Value} {w : World} {R R' : Ending → World → Prop} (h : CallV P x args w R) (k : ∀ e w, R e w → R' e w) : CallV P x args w R' := by
  unfold CallV at *
  split <;> simp only at h
  · exact ⟨h.1, h.2.mono k⟩
  · obtain ⟨fn, tmps, assign, body, h1, h2⟩ := h; exact ⟨fn, tmps, assign, body, h1, h2.mono k⟩
theorem FnV.mono {E : Env} {x : Value} {args : List Value} {H : Hp} {Q Q' : Value → Hp → Prop} (h : FnV E x args H Q) (k : ∀ v H', Q v H' → Q' v H') : FnV E x args H Q' :=
  fun w hw => (h w hw).mono fun _ _ ⟨v, H', he, hs, hk, hq⟩ => ⟨v, H', he, hs, hk, k v H' hq⟩

def rep (z : List Value) : Nat → List Value
  | 0 => []
  | n + 1 => z ++ rep z n
/-- how many elements an append adds, and their cells -/
def srcLen : Value → Nat
  | .slice _ n _ => n
  | .string s => s.data.toList.length
  | _ => 0
def srcCells (H : Hp) (size : Nat) : Value → List Value
  | .slice (some a) n _ => match H a.block with
    | some (.row vs _ _) => (vs.drop a.off).take (n * size)
    | _ => []
  | .slice none _ _ => []
  | .string s => s.data.toList.map fun b => .int .u8 b.toNat
  | _ => []
def srcOk (H : Hp) (size : Nat) : Value → Prop
  | .slice (some a) n _ => n = 0 ∨ (a.spot = none ∧ (match H a.block with
    | some (.row vs _ _) => a.off + n * size ≤ vs.length
    | _ => False))
  | .slice none n _ => n = 0
  | .string _ => size = 1
  | _ => False

def big (E : Env) (op : BOp) (d : Option Nat) (fr : Fr) (H : Hp) (K : Fr → Hp → Prop) : Prop :=
  match op with
  | .st n x v => pok fr x ∧ vok fr v ∧ (vo E fr v).cells.toList.length = n ∧ (vo E fr v).cells.toList.all one1 = true ∧
      (match pvo E fr x with
       | .lp s o => (match fr.get s with
         | some ⟨true, .box vs⟩ => o + n ≤ vs.length ∧ K (setD (fr.upb s (splice vs o (vo E fr v).cells.toList)) d ⟨true, .val undef⟩) H
         | _ => False)
       | .val (.pointer (some a)) => a.spot = none ∧ (match H a.block with
         | some (.row vs cap true) => a.off + n ≤ vs.length ∧ K (setD fr d ⟨true, .val undef⟩) (H.put a.block (.row (splice vs a.off (vo E fr v).cells.toList) cap true))
         | _ => False)
       | _ => False)
  | .newH zero => ∀ b, H b = none → K (setD fr d ⟨true, .val (.pointer (some ⟨b, 0, none⟩))⟩) (H.put b (.row zero zero.length true))
  | .boxH x => vok fr x ∧ ∀ b, H b = none → K (setD fr d ⟨true, .val (.pointer (some ⟨b, 0, none⟩))⟩) (H.put b (.row (vo E fr x).cells.toList (vo E fr x).cells.toList.length true))
  | .call f args => allok fr args ∧ ∃ Q, Fn E.P (E.fn f) (args.map (vo E fr)) H Q ∧ ∀ v H', Q v H' → K (setD fr d ⟨true, .val v⟩) H'
  | .callv x args => vok fr x ∧ allok fr args ∧ ∃ Q, FnV E (vo E fr x) (args.map (vo E fr)) H Q ∧ ∀ v H', Q v H' → K (setD fr d ⟨true, .val v⟩) H'
  | .mksl _ len zero parts => fillC E fr zero.length parts ∧ ∀ b, H b = none → K (setD fr d ⟨true, .val (.slice (some ⟨b, 0, none⟩) len len)⟩) (H.put b (.row (fillT E fr zero parts) zero.length true))
  | .mk size bytes zero l c => vok fr l ∧ vok fr c ∧ (match vo E fr l, vo E fr c with
    | .int _ p, .int _ q => 0 ≤ p ∧ p ≤ q ∧ bytes * q ≤ 140737488355328 ∧ q ≤ 4611686018427387904 ∧
        ∀ b, H b = none → K (setD fr d ⟨true, .val (.slice (some ⟨b, 0, none⟩) p.toNat q.toNat)⟩) (H.put b (.row (rep zero p.toNat) (q.toNat * size) true))
    | _, _ => False)
  | .app size bytes _ s x => vok fr s ∧ vok fr x ∧ srcOk H size (vo E fr x) ∧ (srcCells H size (vo E fr x)).all one1 = true ∧ (match vo E fr s with
    | .slice none 0 0 => srcLen (vo E fr x) * bytes ≤ 140737488355328 ∧ srcLen (vo E fr x) ≤ 4611686018427387904 ∧
        (srcLen (vo E fr x) = 0 → K (setD fr d ⟨true, .val (.slice none 0 0)⟩) H) ∧
        (0 < srcLen (vo E fr x) → ∀ b cap, H b = none → K (setD fr d ⟨true, .val (.slice (some ⟨b, 0, none⟩) (srcLen (vo E fr x)) cap)⟩) (H.put b (.row (srcCells H size (vo E fr x)) (cap * size) true)))
    | .slice (some ⟨b0, 0, none⟩) n cap0 => (n + srcLen (vo E fr x)) * bytes ≤ 140737488355328 ∧ n + srcLen (vo E fr x) ≤ 4611686018427387904 ∧ (match H b0 with
        | some (.row vs capc true) => vs.length = n * size ∧ capc = cap0 * size ∧
            ∀ b cap, (H.del b0) b = none → K (setD fr d ⟨true, .val (.slice (some ⟨b, 0, none⟩) (n + srcLen (vo E fr x)) cap)⟩) ((H.del b0).put b (.row (vs ++ srcCells H size (vo E fr x)) (cap * size) true))
        | _ => False)
    | _ => False)
  | .mkmap r => (match r with
    | none => True
    | some x => vok fr x ∧ (match vo E fr x with
      | .int _ _ => True
      | _ => False)) ∧ ∀ b, H b = none → K (setD fr d ⟨true, .val (.map (some b))⟩) (H.put b (.obj (.map #[] 0)))
  | .look ag ks zero ok m k => vok fr m ∧ vok fr k ∧ keyIs ag ks (vo E fr k) ∧ (match vo E fr m with
    | .map none => K (setD fr d ⟨true, .val (if ok then .tuple #[zero, .bool false] else zero)⟩) H
    | .map (some r) => (match H r with
      | some (.obj (.map es _)) => (match mfind ag ks (vo E fr k) es.toList 0 with
        | some (some (_, v)) => K (setD fr d ⟨true, .val (if ok then .tuple #[v, .bool true] else v)⟩) H
        | some none => K (setD fr d ⟨true, .val (if ok then .tuple #[zero, .bool false] else zero)⟩) H
        | none => False)
      | _ => False)
    | _ => False)
  | .upd ag ks m k v => vok fr m ∧ vok fr k ∧ vok fr v ∧ keyIs ag ks (vo E fr k) ∧ (match vo E fr m with
    | .map (some r) => (match H r with
      | some (.obj (.map es clock)) => (match mfind ag ks (vo E fr k) es.toList 0 with
        | some (some (i, _)) => K (setD fr d ⟨true, .val undef⟩) (H.put r (.obj (.map (es.modify i fun e => { e with key := vo E fr k, val := vo E fr v }) clock)))
        | some none => K (setD fr d ⟨true, .val undef⟩) (H.put r (.obj (.map (es.push { key := vo E fr k, val := vo E fr v, born := clock }) (clock + 1))))
        | none => False)
      | _ => False)
    | _ => False)
  | .mlen m => vok fr m ∧ (match vo E fr m with
    | .map none => K (setD fr d ⟨true, .val (.int .i64 0)⟩) H
    | .map (some r) => (match H r with
      | some (.obj (.map es _)) => K (setD fr d ⟨true, .val (.int .i64 es.size)⟩) H
      | _ => False)
    | _ => False)
  | .ment ag ks zero m k => vok fr m ∧ vok fr k ∧ keyIs ag ks (vo E fr k) ∧ ∃ r es clock, vo E fr m = .map (some r) ∧ H r = some (.obj (.map es clock)) ∧
      ((∃ i v, mfind ag ks (vo E fr k) es.toList 0 = some (some (i, v)) ∧ K (setD fr d ⟨true, .val (.tuple #[v, .int .i64 (((es[i]?).map (·.born)).getD 0)])⟩) (H.put r (.obj (.map (es.modify i fun e => { e with key := vo E fr k }) clock)))) ∨
       (mfind ag ks (vo E fr k) es.toList 0 = some none ∧ K (setD fr d ⟨true, .val (.tuple #[zero, .int .i64 clock])⟩) (H.put r (.obj (.map (es.push { key := vo E fr k, val := zero, born := clock }) (clock + 1))))))
  | .est m s v => vok fr m ∧ vok fr s ∧ vok fr v ∧ ∃ r kd b es clock i, vo E fr m = .map (some r) ∧ vo E fr s = .int kd b ∧ H r = some (.obj (.map es clock)) ∧ es.findIdx? (fun e => (e.born : Int) == b) = some i ∧
      K (setD fr d ⟨true, .val undef⟩) (H.put r (.obj (.map (es.modify i fun e => { e with val := vo E fr v }) clock)))
  | .rng m => vok fr m ∧ ∃ r es clock, vo E fr m = .map (some r) ∧ H r = some (.obj (.map es clock)) ∧
      ∀ b, H b = none → K (setD fr d ⟨true, .val (.pointer (some ⟨b, 0, none⟩))⟩) (H.put b (.obj (.mapIter (some r) clock #[] clock)))
  | .nxt it => vok fr it ∧ ∃ b r since seen last es clock, vo E fr it = .pointer (some ⟨b, 0, none⟩) ∧ H b = some (.obj (.mapIter (some r) since seen last)) ∧ H r = some (.obj (.map es clock)) ∧
      since ≤ last ∧ (∀ e ∈ es, e.born < since) ∧ ((∀ e ∈ es, seen.contains e.born = true) → K (setD fr d ⟨true, .val (.tuple #[.bool false])⟩) H) ∧
      ∀ e ∈ es, seen.contains e.born = false → K (setD fr d ⟨true, .val (.tuple #[.bool true, e.key, e.val])⟩) (H.put b (.obj (.mapIter (some r) since (seen.push e.born) clock)))
  | .ent it => vok fr it ∧ ∃ b r since seen es clock stamp e, vo E fr it = .pointer (some ⟨b, 0, none⟩) ∧ H b = some (.obj (.mapIter (some r) since seen clock)) ∧ H r = some (.obj (.map es clock)) ∧
      seen.back? = some stamp ∧ es.find? (·.born == stamp) = some e ∧ K (setD fr d ⟨true, .val (.tuple #[e.key, e.val])⟩) H
  | _ => False

def ev1 (E : Env) (o : AOper) (fr : Fr) (H : Hp) (K : Fr → Hp → Prop) : Prop :=
  gok fr o.guard ∧
  match o.op with
  | .sim x => (gcond fr o.guard = true → simC E fr H x) ∧ K (setD fr o.dst ⟨gcond fr o.guard, simT E fr H x⟩) H
  | .callp f args => ∃ v, (gcond fr o.guard = true → allok fr args ∧ FnP E f (args.map (vo E fr)) H v) ∧ K (setD fr o.dst ⟨gcond fr o.guard, .val v⟩) H
  | op => (gcond fr o.guard = true → big E op o.dst fr H K) ∧ (gcond fr o.guard = false → K (setD fr o.dst ⟨false, .val undef⟩) H)

def evs (E : Env) : List AOper → Fr → Hp → (Fr → Hp → Prop) → Prop
  | [], fr, H, K => K fr H
  | o :: r, fr, H, K => ev1 E o fr H fun fr' H' => evs E r fr' H' K

theorem big_mono {E : Env} {op : BOp} {d : Option Nat} {fr : Fr} {H : Hp} {K K' : Fr → Hp → Prop} (hk : ∀ fr H, K fr H → K' fr H) (h : big E op d fr H K) : big E op d fr H K' := by
  cases op with
  | sim x => exact h
  | st n x v =>
    simp only [big] at h ⊢
    refine ⟨h.1, h.2.1, h.2.2.1, h.2.2.2.1, ?_⟩
    have h := h.2.2.2.2
    split <;> simp_all
    · split <;> simp_all
    · split <;> simp_all
  | newH z => exact fun b hb => hk _ _ (h b hb)
  | boxH x => exact ⟨h.1, fun b hb => hk _ _ (h.2 b hb)⟩
  | callp f args => exact h
  | call f args => obtain ⟨h1, Q, hQ, h2⟩ := h; exact ⟨h1, Q, hQ, fun v H' q => hk _ _ (h2 v H' q)⟩
  | callv x args => obtain ⟨h0, h1, Q, hQ, h2⟩ := h; exact ⟨h0, h1, Q, hQ, fun v H' q => hk _ _ (h2 v H' q)⟩
  | mksl size len zero parts => exact ⟨h.1, fun b hb => hk _ _ (h.2 b hb)⟩
  | mk size bytes zero l c =>
    simp only [big] at h ⊢
    refine ⟨h.1, h.2.1, ?_⟩
    have h := h.2.2
    split
    · rename_i hx hy
      simp only [hx, hy] at h
      exact ⟨h.1, h.2.1, h.2.2.1, h.2.2.2.1, fun b hb => hk _ _ (h.2.2.2.2 b hb)⟩
    · rename_i hn
      split at h
      · rename_i hx hy; exact hn _ _ _ _ hx hy
      · exact h
  | app size bytes zero s x =>
    simp only [big] at h ⊢
    refine ⟨h.1, h.2.1, h.2.2.1, h.2.2.2.1, ?_⟩
    have h := h.2.2.2.2
    split
    · rename_i hx
      simp only [hx] at h
      exact ⟨h.1, h.2.1, fun e => hk _ _ (h.2.2.1 e), fun e b cap hb => hk _ _ (h.2.2.2 e b cap hb)⟩
    · rename_i hx
      simp only [hx] at h
      refine ⟨h.1, h.2.1, ?_⟩
      have h := h.2.2
      split
      · rename_i hH
        simp only [hH] at h
        exact ⟨h.1, h.2.1, fun b cap hb => hk _ _ (h.2.2 b cap hb)⟩
      · rename_i hn
        split at h
        · rename_i hH; exact (hn _ _ hH).elim
        · exact h
    · rename_i hn1 hn2
      split at h
      · rename_i hx; exact (hn1 hx).elim
      · rename_i hx; exact (hn2 _ _ _ hx).elim
      · exact h
  | mkmap r => exact ⟨h.1, fun b hb => hk _ _ (h.2 b hb)⟩
  | look ag ks zero ok m k =>
    simp only [big] at h ⊢
    refine ⟨h.1, h.2.1, h.2.2.1, ?_⟩
    have h := h.2.2.2
    cases hm : vo E fr m <;> simp only [hm] at h ⊢
    rename_i r
    cases r with
    | none => exact hk _ _ h
    | some r =>
      simp only at h ⊢
      cases hH : H r with
      | none => simp only [hH] at h
      | some o =>
        cases o with
        | row => simp only [hH] at h
        | obj o =>
          cases o <;> simp only [hH] at h ⊢
          rename_i es clock
          cases hf : mfind ag ks (vo E fr k) es.toList 0 with
          | none => simp only [hf] at h
          | some q => cases q with
            | none => simp only [hf] at h ⊢; exact hk _ _ h
            | some p => simp only [hf] at h ⊢; exact hk _ _ h
  | upd ag ks m k v =>
    simp only [big] at h ⊢
    refine ⟨h.1, h.2.1, h.2.2.1, h.2.2.2.1, ?_⟩
    have h := h.2.2.2.2
    cases hm : vo E fr m <;> simp only [hm] at h ⊢
    rename_i r
    cases r with
    | none => exact h
    | some r =>
      simp only at h ⊢
      cases hH : H r with
      | none => simp only [hH] at h
      | some o =>
        cases o with
        | row => simp only [hH] at h
        | obj o =>
          cases o <;> simp only [hH] at h ⊢
          rename_i es clock
          cases hf : mfind ag ks (vo E fr k) es.toList 0 with
          | none => simp only [hf] at h
          | some q => cases q with
            | none => simp only [hf] at h ⊢; exact hk _ _ h
            | some p => simp only [hf] at h ⊢; exact hk _ _ h
  | mlen m =>
    simp only [big] at h ⊢
    refine ⟨h.1, ?_⟩
    have h := h.2
    cases hm : vo E fr m <;> simp only [hm] at h ⊢
    rename_i r
    cases r with
    | none => exact hk _ _ h
    | some r =>
      simp only at h ⊢
      cases hH : H r with
      | none => simp only [hH] at h
      | some o =>
        cases o with
        | row => simp only [hH] at h
        | obj o =>
          cases o <;> simp only [hH] at h ⊢
          exact hk _ _ h
  | ment ag ks zero m k =>
    simp only [big] at h ⊢
    obtain ⟨h1, h2, h3, r, es, clock, h4, h5, h6⟩ := h
    refine ⟨h1, h2, h3, r, es, clock, h4, h5, ?_⟩
    rcases h6 with ⟨i, v, h6, h7⟩ | ⟨h6, h7⟩
    · exact .inl ⟨i, v, h6, hk _ _ h7⟩
    · exact .inr ⟨h6, hk _ _ h7⟩
  | est m s v =>
    simp only [big] at h ⊢
    obtain ⟨h1, h2, h3, r, kd, b, es, clock, i, h4, h5, h6, h7, h8⟩ := h
    exact ⟨h1, h2, h3, r, kd, b, es, clock, i, h4, h5, h6, h7, hk _ _ h8⟩
  | rng m =>
    simp only [big] at h ⊢
    obtain ⟨h1, r, es, clock, h4, h5, h6⟩ := h
    exact ⟨h1, r, es, clock, h4, h5, fun b hb => hk _ _ (h6 b hb)⟩
  | nxt it =>
    simp only [big] at h ⊢
    obtain ⟨h1, b, r, since, seen, last, es, clock, h2, h3, h4, h5, h6, h7, h8⟩ := h
    exact ⟨h1, b, r, since, seen, last, es, clock, h2, h3, h4, h5, h6, fun e => hk _ _ (h7 e), fun e he hs => hk _ _ (h8 e he hs)⟩
  | ent it =>
    simp only [big] at h ⊢
    obtain ⟨h1, b, r, since, seen, es, clock, stamp, e, h2, h3, h4, h5, h6, h7⟩ := h
    exact ⟨h1, b, r, since, seen, es, clock, stamp, e, h2, h3, h4, h5, h6, hk _ _ h7⟩
theorem ev1_mono {E : Env} {o : AOper} {fr : Fr} {H : Hp} {K K' : Fr → Hp → Prop} (hk : ∀ fr H, K fr H → K' fr H) (h : ev1 E o fr H K) : ev1 E o fr H K' := by
  refine ⟨h.1, ?_⟩
  have h := h.2
  split <;> simp_all
  · obtain ⟨v, h1, h2⟩ := h; exact ⟨v, h1, hk _ _ h2⟩
  · exact fun hg => big_mono (by assumption) (h.1 hg)
theorem evs_mono {E : Env} : ∀ {l : List AOper} {fr : Fr} {H : Hp} {K K' : Fr → Hp → Prop}, (∀ fr H, K fr H → K' fr H) → evs E l fr H K → evs E l fr H K'
  | [], _, _, _, _, hk, h => hk _ _ h
  | _ :: _, _, _, _, _, hk, h => ev1_mono (fun _ _ h => evs_mono hk h) h
end Go.SL

/- The model's operations do what the abstract ones say. -/
namespace Go.SL
open Go

abbrev FW (ro : Option Nat) : Fence := { Fence.wide with round := ro }

theorem callsFW {ro : Option Nat} {P : Program} {f : FuncId} {args : Array Value} {w : World} {R : Ending → World → Prop} (h : Calls P f args w R) (k : Nat) : CallsIn (FW ro) k P f args w R :=
  (callsIn_wide (n := k)).2 h
theorem callsFW' {ro : Option Nat} {P : Program} {f : FuncId} {args : Array Value} {w : World} {R : Ending → World → Prop} {k : Nat} (h : CallsIn (FW ro) k P f args w R) : Calls P f args w R :=
  (callsIn_wide (n := k)).1 h

theorem run_callFunc {P : Program} {f : FuncId} {args : Array Value} {w : World} (h : enters P f = true) : (callFunc f args).run P w = .ok (.enter f args) w := by
  unfold enters at h
  split at h
  · rename_i fn hf
    simp only [Bool.and_eq_true, bne_iff_ne, ne_eq] at h
    obtain ⟨h1, h2⟩ := h
    have h3 : (fn.body = none) = False := by cases hb : fn.body <;> simp_all
    simp [callFunc, program, Sem.run_bind, Sem.run, Result.andThen, hf, h1, h3]
  · cases h

def chkDst (n : Nat) : Option Nat → Option Nat → Bool
  | none, none => true
  | some d, some e => d == e && decide (d < n)
  | _, _ => false
def chkGuard (ops : Array Oper) : Option (Nat × Bool) → Option (Nat × Bool) → Bool
  | none, none => true
  | some (j, b), some (s, b') => b == b' && (match ops[j]? with
      | some o => (match o.dst with | some d => d == s | none => false)
      | none => false)
  | _, _ => false
/-- the element's size, bytes and zero value -/
def elemIs (P : Program) (e : TypeId) (size bytes : Nat) (zero : List Value) : Bool :=
  match P.info? e with
  | some i => i.size == size && i.bytes == bytes && zero.length == size && decide (0 < size) && (match i.zero with
    | some v => vbeqL v.cells.toList zero
    | none => false)
  | none => false
def litZero (P : Program) (e : TypeId) (n : Nat) : Option (Array Value) :=
  if n = 0 then some #[] else match P.info? e with
  | some i => i.zero.map (·.cells)
  | none => none
def keyOK (P : Program) (t : TypeId) (ag : Bool) (ks : List Kd) : Bool :=
  if ag then flatT P t ks else match ks with
    | [k] => kdOf P t == some k
    | _ => false
def zeroValIs (P : Program) (t : TypeId) (z : Value) : Bool :=
  match P.info? t with
  | some i => (match i.zero, z with
    | some (.agg a), .agg b => vbeqL a.toList b.toList
    | some v, z => vbeq v z
    | none, _ => false)
  | none => false
def chkBig (E : Env) : Op → BOp → Bool
  | .box _ X, .sim (.box x) => chkArg E X x
  | .alloc t, .sim (.new z) => zeroIs E.P t z
  | o, .sim x => chkOp E o x
  | .store t X V, .st n x v => sizeIs E.P t n && chkArg E X x && chkArg E V v
  | .alloc t, .newH z => zeroIs E.P t z
  | .box _ X, .boxH x => chkArg E X x
  | .call { callee := .value (.func g), args, .. }, .callp f xs => g == E.fn f && enters E.P g && chkArgs E args.toList xs
  | .call { callee := .value (.func g), args, .. }, .call f xs => g == E.fn f && enters E.P g && chkArgs E args.toList xs
  | .buildSlice t len parts, .mksl size l zero ps => len == l && (match E.P.underlying t with
      | some (.slice e) => sizeIs E.P e size && decide (len * size ≤ 2 ^ 24) && chkPartsA E size parts.toList ps && (match litZero E.P e (len * size) with
        | some z => vbeqL ((Array.range (len * size)).map (z[· % z.size]!)).toList zero
        | none => false)
      | _ => false)
  | .makeSlice t L C, .mk size bytes zero l c => (match E.P.underlying t with
      | some (.slice e) => elemIs E.P e size bytes zero
      | _ => false) && chkArg E L l && chkArg E C c
  | .call { callee := .builtin .append, args, argTypes }, .app size bytes zero s x => (match argTypes.toList, args.toList with
      | [t0, t1], [S, X] => (match E.P.underlying t0 with
          | some (.slice e) => elemIs E.P e size bytes zero
          | _ => false) && (match E.P.underlying t1 with
          | some (.slice _) => true
          | some .string => true
          | _ => false) && chkArg E S s && chkArg E X x
      | _, _ => false)
  | .makeMap _ none, .mkmap none => true
  | .makeMap t (some R), .mkmap (some r) => (match E.P.underlying t with
      | some (.map _ _) => true
      | _ => false) && chkArg E R r
  | .lookup t M I ok, .look ag ks zero ok' m k => ok == ok' && (match E.P.underlying t with
      | some (.map kt et) => keyOK E.P kt ag ks && zeroValIs E.P et zero
      | _ => false) && chkArg E M m && chkArg E I k
  | .mapUpdate t M I V, .upd ag ks m k v => (match E.P.underlying t with
      | some (.map kt _) => keyOK E.P kt ag ks
      | _ => false) && chkArg E M m && chkArg E I k && chkArg E V v
  | .insert t M I V, .upd ag ks m k v => (match E.P.underlying t with
      | some (.map kt _) => keyOK E.P kt ag ks
      | _ => false) && chkArg E M m && chkArg E I k && chkArg E V v
  | .mapEntry t M I, .ment ag ks zero m k => (match E.P.underlying t with
      | some (.map kt et) => keyOK E.P kt ag ks && zeroValIs E.P et zero
      | _ => false) && chkArg E M m && chkArg E I k
  | .entryStore _ M S V, .est m s v => chkArg E M m && chkArg E S s && chkArg E V v
  | .range t M, .rng m => (match E.P.underlying t with
      | some (.map _ _) => true
      | _ => false) && chkArg E M m
  | .next I false, .nxt it => chkArg E I it
  | .entry I, .ent it => chkArg E I it
  | .call { callee := .builtin .len, args, argTypes }, .mlen m => (match argTypes.toList, args.toList with
      | [t], [M] => (match E.P.underlying t with
        | some (.map _ _) => true
        | _ => false) && chkArg E M m
      | _, _ => false)
  | .call { callee := .value X, args, .. }, .callv x xs => chkArg E X x && chkArgs E args.toList xs
  | _, _ => false
def chk1 (E : Env) (n : Nat) (ops : Array Oper) (o : Oper) (x : AOper) : Bool :=
  chkDst n o.dst x.dst && chkGuard ops o.guard x.guard && chkBig E o.op x.op

section
variable {E : Env} {n : Nat} {w0 : World} {H0 : Hp} {fr : Fr} {H : Hp} {a : Act} {w : World} {β : Nat → Option Nat} {ro : Option Nat}

theorem put_none (a : Act) (v : Value) : a.put none v = a := rfl

/-- A result lies in its slot. -/
theorem RelB.setD (h : RelB n w0 H0 fr H a w β) {d d' : Option Nat} (hd : chkDst n d d' = true) (v : Value) (p : PV) (hp : PVval β p v) :
    RelB n w0 H0 (setD fr d' ⟨true, p⟩) H (a.put d v) w β := by
  cases d with
  | none => cases d' with
    | none => exact h
    | some => simp [chkDst] at hd
  | some d => cases d' with
    | none => simp [chkDst] at hd
    | some e =>
      simp only [chkDst, Bool.and_eq_true, beq_iff_eq, decide_eq_true_eq] at hd
      obtain ⟨rfl, hlt⟩ := hd
      refine h.setp hlt v true p (fun _ => ?_) (fun e => by cases e)
      cases p with
      | val u => simp only [PVval] at hp; subst hp; simp [PVok, h.nt, hlt]
      | lp s o => obtain ⟨b, hb, rfl⟩ := hp; exact ⟨b, hb, by simp [h.nt, hlt]⟩
      | box => exact hp.elim
theorem RelB.skipD (h : RelB n w0 H0 fr H a w β) {d d' : Option Nat} (hd : chkDst n d d' = true) (p : PV) :
    RelB n w0 H0 (SL.setD fr d' ⟨false, p⟩) H (a.put d undef) w β := by
  cases d with
  | none => cases d' with
    | none => exact h
    | some => simp [chkDst] at hd
  | some d => cases d' with
    | none => simp [chkDst] at hd
    | some e =>
      simp only [chkDst, Bool.and_eq_true, beq_iff_eq, decide_eq_true_eq] at hd
      obtain ⟨rfl, hlt⟩ := hd
      exact h.skipped hlt p

/-- The guard's answer. -/
theorem guard_wanted (h : RelB n w0 H0 fr H a w β) {ops : Array Oper} {o : Oper} {g : Option (Nat × Bool)} (hc : chkGuard ops o.guard g = true) (hg : gok fr g) :
    Region.wanted o (yielded ops a.tmps) = gcond fr g := by
  unfold Region.wanted
  cases hog : o.guard with
  | none => cases g with
    | none => rfl
    | some => simp [hog, chkGuard] at hc
  | some jb => cases g with
    | none => simp [hog, chkGuard] at hc
    | some sb =>
      obtain ⟨j, b⟩ := jb
      obtain ⟨s, b'⟩ := sb
      simp only [hog, chkGuard, Bool.and_eq_true, beq_iff_eq] at hc
      obtain ⟨rfl, hc⟩ := hc
      split at hc
      · rename_i oj hoj
        split at hc
        · rename_i d hd
          have hds : d = s := by simpa using hc
          subst hds
          simp only [gok] at hg
          split at hg
          · rename_i c q he
            simp only [gcond, he]
            have hy : yielded ops a.tmps j = if c = true then some q else none := by
              simp only [yielded, hoj, hd, Option.bind_some]
              cases c with
              | true => have := h.slots _ _ he rfl; simp only [PVok] at this; simp [this]
              | false => have := h.skip _ _ he rfl; simp [this, undef]
            rw [hy]
            cases c <;> cases q <;> cases b <;> rfl
          · exact hg.elim
        · cases hc
      · cases hc

/-- An operation with a value. -/
theorem wpIn_val {F : Fence} (hF : ∀ f, F.fn f) {m : Nat} {P : Program} {o : Oper} {a : Act} {w w' : World} {K : Act → World → Prop} {Q : Exit → Act → World → Prop} {v : Value}
    (hd : ∀ c, o.op ≠ .defer c) (h : (execOp a.eval o).run P w = .ok (.value v) w') (k : K (a.put o.dst v) w') : o.wpIn F m P a w K Q := by
  refine ⟨fun f _ => hF f, ?_⟩
  rw [Oper.semAt_eq _ _ _ hd, h]
  exact k
theorem wpIn_skp {F : Fence} (hF : ∀ f, F.fn f) {m : Nat} {P : Program} {o : Oper} {a : Act} {w w' : World} {K : Act → World → Prop} {Q : Exit → Act → World → Prop}
    (hd : ∀ c, o.op ≠ .defer c) (h : (execOp a.eval o).run P w = .ok .skip w') (k : K (a.put o.dst undef) w') : o.wpIn F m P a w K Q := by
  refine ⟨fun f _ => hF f, ?_⟩
  rw [Oper.semAt_eq _ _ _ hd, h]
  exact k
theorem wpIn_ent {m : Nat} {P : Program} {o : Oper} {a : Act} {w : World} {K : Act → World → Prop} {Q : Exit → Act → World → Prop} {f : FuncId} {args : Array Value}
    (hd : ∀ c, o.op ≠ .defer c) (h : (execOp a.eval o).run P w = .ok (.enter f args) w)
    (k : Calls P f args w fun e w' => ∃ v, e = .returned v ∧ K (a.put o.dst v) w') : o.wpIn (FW ro) m P a w K Q := by
  refine ⟨fun f _ => trivial, ?_⟩
  rw [Oper.semAt_eq _ _ _ hd, h]
  refine ⟨fun hd => (by cases hd), ?_⟩
  refine callsFW (k.mono ?_) _
  rintro e w' ⟨v, rfl, hk⟩
  exact hk
end
end Go.SL

/- Stores, new rows. -/
namespace Go.SL
open Go

theorem splice_length {l : List Value} {k : Nat} {vs : List Value} (h : k + vs.length ≤ l.length) : (splice l k vs).length = l.length := by
  simp [splice]; omega
theorem splice_nil (l : List Value) (k : Nat) : splice l k [] = l := by simp [splice]
theorem splice_set {l : List Value} {k : Nat} {v : Value} {r : List Value} (h : k < l.length) : splice (l.set k v) (k + 1) r = splice l k (v :: r) := by
  unfold splice
  have e1 : (l.set k v).take (k + 1) = l.take k ++ [v] := by
    rw [List.take_succ_eq_append_getElem (by simpa using h)]
    simp [List.take_set_of_le]
  have e2 : (l.set k v).drop (k + 1 + r.length) = l.drop (k + (v :: r).length) := by
    rw [List.drop_set_of_lt (by omega)]
    congr 1
    simp; omega
  rw [e1, e2]
  simp
theorem splice_prefix {l m : List Value} {k : Nat} {vs : List Value} (hp : l <+: m) (h : k + vs.length ≤ l.length) : splice l k vs <+: splice m k vs := by
  obtain ⟨r, rfl⟩ := hp
  refine ⟨r, ?_⟩
  unfold splice
  rw [List.take_append_of_le_length (by omega), List.drop_append_of_le_length (by omega)]
  simp

section
variable {P : Program}
theorem setCell_put {w : World} {b o : Nat} {c : Array Value} {T : TypeId} {fz : Nat × Nat} (v : Value) (hh : w.heap[b]? = some (.cells c T fz)) :
    w.setCell ⟨b, o, none⟩ v = w.putObj b (.cells (c.setIfInBounds o v) T fz) := by
  unfold World.setCell World.putObj
  congr 1
  obtain ⟨hlt, he⟩ := Array.getElem?_eq_some_iff.1 hh
  apply Array.ext
  · simp
  · intro i h1 h2
    by_cases e : i = b
    · subst e
      rw [Array.getElem_modify_self, Array.getElem_setIfInBounds_self]
      · rw [he]; simp
    · rw [Array.getElem_modify_of_ne (Ne.symm e), Array.getElem_setIfInBounds_ne]
      exact Ne.symm e
theorem putObj_putObj (w : World) (b : Nat) (x y : Obj) : (w.putObj b x).putObj b y = w.putObj b y := by
  unfold World.putObj
  simp
theorem putObj_self {w : World} {b : Nat} {x : Obj} (h : w.heap[b]? = some x) : w.putObj b x = w := by
  unfold World.putObj
  have : w.heap.setIfInBounds b x = w.heap := by
    obtain ⟨hlt, he⟩ := Array.getElem?_eq_some_iff.1 h
    apply Array.ext
    · simp
    · intro i h1 h2
      by_cases e : i = b
      · subst e; rw [Array.getElem_setIfInBounds_self, he]
      · rw [Array.getElem_setIfInBounds_ne]; exact Ne.symm e
  rw [this]

theorem run_storeCells : ∀ (vs : List Value) (i : Nat) {w : World} {b o : Nat} {c : Array Value} {T : TypeId} {fz : Nat × Nat}, w.heap[b]? = some (.cells c T fz) →
    o + i + vs.length ≤ c.size → (∀ j, o + i ≤ j → j < o + i + vs.length → ¬ (fz.1 ≤ j ∧ j < fz.2)) → vs.all one1 = true →
    (storeCells ⟨b, o, none⟩ vs i).run P w = .ok () (w.putObj b (.cells (splice c.toList (o + i) vs).toArray T fz))
  | [], i, w, b, o, c, T, fz, hh, _, _, _ => by
    simp only [storeCells, splice_nil, Array.toArray_toList, putObj_self hh]
    rfl
  | v :: r, i, w, b, o, c, T, fz, hh, hl, hf, h1 => by
    simp only [List.all_cons, Bool.and_eq_true] at h1
    simp only [List.length_cons] at hl hf
    have hlt : o + i < c.size := by omega
    have hc : w.cell? ⟨b, o + i, none⟩ = some c[o + i] := by simp [World.cell?, hh, hlt]
    have hfz : w.frozen? ⟨b, o + i, none⟩ = false := by
      simp only [World.frozen?, hh]
      have := hf (o + i) (Nat.le_refl _) (by omega)
      rw [Bool.eq_false_iff]
      simpa using this
    have hst : (store ⟨b, o + i, none⟩ v).run P w = .ok () (w.putObj b (.cells (c.setIfInBounds (o + i) v) T fz)) := by
      unfold store
      cases v <;> first
        | (simp [one1] at h1; done)
        | simp [Sem.run, hc, hfz, setCell_put _ hh]
    simp only [storeCells, add_none]
    rw [Sem.run_bind, hst]
    simp only [Result.andThen]
    have hb : b < w.heap.size := (Array.getElem?_eq_some_iff.1 hh).1
    rw [run_storeCells r (i + 1) (World.putObj_heap_same hb) (by simp; omega) (fun j h1 h2 => hf j (by omega) (by omega)) h1.2]
    rw [putObj_putObj]
    congr 3
    rw [Array.toList_setIfInBounds]
    have := splice_set (l := c.toList) (k := o + i) (v := v) (r := r) (by simpa using hlt)
    rw [← this, Nat.add_assoc]

theorem kept_push {H : Hp} {w : World} (hs : Sat w.heap H) {o : Obj} {x : AObj} (hx : x.ok (some o)) :
    Sat ({ w with heap := w.heap.push o } : World).heap (H.put w.heap.size x) ∧ Kept H w { w with heap := w.heap.push o } (H.put w.heap.size x) ∧ H w.heap.size = none := by
  have hn : H w.heap.size = none := by
    cases hH : H w.heap.size with
    | none => rfl
    | some o => exact absurd (hs.lt hH) (Nat.lt_irrefl _)
  have hshape : Shp w { w with heap := w.heap.push o } := fun b hb => by
    show shp ((w.heap.push o)[b]?) = _
    rw [Array.getElem?_push, if_neg (by omega)]
  refine ⟨fun b y hb => ?_, ⟨rfl, rfl, rfl, by simp, fun b hb _ => ?_, fun b y hb => ?_, hshape⟩, hn⟩
  · show AObj.ok ((w.heap.push o)[b]?) y
    by_cases e : b = w.heap.size
    · subst e; rw [Hp.put_same] at hb; cases hb; simpa using hx
    · rw [Hp.put_ne _ _ e] at hb
      have := hs.lt hb
      rw [Array.getElem?_push, if_neg e]
      exact hs b y hb
  · show (w.heap.push o)[b]? = _
    rw [Array.getElem?_push, if_neg (by omega)]
  · by_cases e : b = w.heap.size
    · exact .inr (by omega)
    · rw [Hp.put_ne _ _ e] at hb; exact .inl (by rw [hb]; simp)

theorem kept_put {H : Hp} {w : World} (hs : Sat w.heap H) {b : Nat} {y x : AObj} (hb : H b = some y) {o : Obj} (hx : x.ok (some o)) (hsh : shp (some o) = shp (w.heap[b]?)) :
    Sat (w.putObj b o).heap (H.put b x) ∧ Kept H w (w.putObj b o) (H.put b x) := by
  have hlt := hs.lt hb
  have hshape : Shp w (w.putObj b o) := fun c hc => by
    by_cases e : c = b
    · subst e; rw [World.putObj_heap_same hlt, hsh]
    · rw [World.putObj_heap_other e]
  refine ⟨fun c z hc => ?_, ⟨rfl, rfl, rfl, by simp, fun c hc h0 => ?_, fun c z hc => ?_, hshape⟩⟩
  · by_cases e : c = b
    · subst e; rw [Hp.put_same] at hc; cases hc; rw [World.putObj_heap_same hlt]; exact hx
    · rw [Hp.put_ne _ _ e] at hc; rw [World.putObj_heap_other e]; exact hs c z hc
  · refine World.putObj_heap_other ?_
    rintro rfl; rw [hb] at h0; cases h0
  · by_cases e : c = b
    · subst e; exact .inl (by rw [hb]; simp)
    · rw [Hp.put_ne _ _ e] at hc; exact .inl (by rw [hc]; simp)
end
end Go.SL
