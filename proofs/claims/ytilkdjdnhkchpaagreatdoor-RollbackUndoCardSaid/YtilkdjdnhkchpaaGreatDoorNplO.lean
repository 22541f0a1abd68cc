/- What an environment must be: its functions have the codes; rules for loops. -/
import Derived.Test.YtilkdjdnhkchpaaGreatDoorNplN
import Derived.Test.YtilkdjdnhkchpaaGreatDoorNplM
import Derived.Laws.BitsLemmas
namespace Go.SL
open Go
structure Codes (E : Env) : Prop where
  c7 : chkFunc E (E.fn 7) c_law40_RollbackUndo = true
  c0 : chkFunc E (E.fn 0) c_law40_head = true
  c1 : chkFunc E (E.fn 1) c_ref16_Few = true
  c2 : chkFunc E (E.fn 2) c_ref35_FewStage = true
  c3 : chkFunc E (E.fn 3) c_rollback_Undo = true
  c4 : chkFunc E (E.fn 4) c_steps_World = true
  c5 : chkFunc E (E.fn 5) c_ref35_SameWorld = true
  c6 : chkFunc E (E.fn 6) c_ref35_SameStage = true
  c9 : chkFunc E (E.fn 9) c_ref02_SameZone = true
  c10 : chkFunc E (E.fn 10) c_rollback_Back = true
  c11 : chkFunc E (E.fn 11) c_ref06_Few = true
  c12 : chkFunc E (E.fn 12) c_rollback_Undo_1 = true
  c36 : chkFunc E (E.fn 36) c_slices_ContainsFunc_Placed = true
  c35 : chkFunc E (E.fn 35) c_rollback_Undo_1_1 = true
  c13 : chkFunc E (E.fn 13) c_rollback_copyZone = true
  c14 : chkFunc E (E.fn 14) c_world_Valid = true
  c15 : chkFunc E (E.fn 15) c_steps_stageOK = true
  c16 : chkFunc E (E.fn 16) c_steps_mentioned = true
  c17 : chkFunc E (E.fn 17) c_steps_isStop = true
  c19 : chkFunc E (E.fn 19) c_steps_tooMany_api_Placed = true
  c18 : chkFunc E (E.fn 18) c_steps_World_1 = true
  c20 : chkFunc E (E.fn 20) c_steps_cloned = true
  c21 : chkFunc E (E.fn 21) c_slices_Clone_Host = true
  c22 : chkFunc E (E.fn 22) c_slices_Clone_Datum = true
  c23 : chkFunc E (E.fn 23) c_slices_Clone_int = true
  c24 : chkFunc E (E.fn 24) c_ref35_hosts = true
  c25 : chkFunc E (E.fn 25) c_ref35_same = true
  c27 : chkFunc E (E.fn 27) c_ref02_SameList = true
  c28 : chkFunc E (E.fn 28) c_steps_Valid = true
  c29 : chkFunc E (E.fn 29) c_rollback_Back_1 = true
  c45 : chkFunc E (E.fn 45) c_name_Valid = true
  c30 : chkFunc E (E.fn 30) c_slices_ContainsFunc_Question = true
  c37 : chkFunc E (E.fn 37) c_slices_IndexFunc_Placed = true
  c38 : chkFunc E (E.fn 38) c_slices_Clone_Signed = true
  c39 : chkFunc E (E.fn 39) c_slices_Clone_Sig = true
  c40 : chkFunc E (E.fn 40) c_world_validHosts = true
  c41 : chkFunc E (E.fn 41) c_world_validCopies = true
  c42 : chkFunc E (E.fn 42) c_world_validRoot = true
  c43 : chkFunc E (E.fn 43) c_zone_Valid = true
  c44 : chkFunc E (E.fn 44) c_strings_HasPrefix = true
  c46 : chkFunc E (E.fn 46) c_ref02_Same = true
  c47 : chkFunc E (E.fn 47) c_ref02_SameSigned = true
  c49 : chkFunc E (E.fn 49) c_steps_stepsOK = true
  c50 : chkFunc E (E.fn 50) c_name_text_valid = true
  c51 : chkFunc E (E.fn 51) c_slices_IndexFunc_Question = true
  c72 : chkFunc E (E.fn 72) c_steps_Apply = true
  c52 : chkFunc E (E.fn 52) c_world_wildcard = true
  c53 : chkFunc E (E.fn 53) c_world_validAddr = true
  c54 : chkFunc E (E.fn 54) c_record_Valid = true
  c56 : chkFunc E (E.fn 56) c_slices_ContainsFunc_int = true
  c55 : chkFunc E (E.fn 55) c_world_validRoot_1 = true
  c57 : chkFunc E (E.fn 57) c_zone_body_ordered = true
  c58 : chkFunc E (E.fn 58) c_zone_body_apexHolds = true
  c59 : chkFunc E (E.fn 59) c_zone_lay = true
  c60 : chkFunc E (E.fn 60) c_zone_layout_aliasesHold = true
  c61 : chkFunc E (E.fn 61) c_zone_layout_cutsHold = true
  c62 : chkFunc E (E.fn 62) c_zone_layout_sigsHold = true
  c63 : chkFunc E (E.fn 63) c_zone_layout_formHolds = true
  c64 : chkFunc E (E.fn 64) c_internal_stringslite_HasPrefix = true
  c87 : chkFunc E (E.fn 87) c_slices_SortFunc_Span = true
  c89 : chkFunc E (E.fn 89) c_cmp_Compare_int = true
  c65 : chkFunc E (E.fn 65) c_name_text_backwards = true
  c66 : chkFunc E (E.fn 66) c_name_isLabel = true
  c79 : chkFunc E (E.fn 79) c_slices_IndexFunc_int = true
  c73 : chkFunc E (E.fn 73) c_name_Labels = true
  c74 : chkFunc E (E.fn 74) c_record_within_int = true
  c76 : chkFunc E (E.fn 76) c_record_isWildcard = true
  c77 : chkFunc E (E.fn 77) c_record_validDatum = true
  c78 : chkFunc E (E.fn 78) c_record_compareData = true
  c80 : chkFunc E (E.fn 80) c_name_Under = true
  c81 : chkFunc E (E.fn 81) c_zone_comparePlaces = true
  c82 : chkFunc E (E.fn 82) c_zone_body_find = true
  c83 : chkFunc E (E.fn 83) c_zone_fitsApex = true
  c84 : chkFunc E (E.fn 84) c_zone_inForm = true
  c88 : chkFunc E (E.fn 88) c_cmp_isNaN_int = true
  c90 : chkFunc E (E.fn 90) c_strings_LastIndexByte = true
  c91 : chkFunc E (E.fn 91) c_record_isFree = true
  c93 : chkFunc E (E.fn 93) c_cmp_Or_int = true
  c92 : chkFunc E (E.fn 92) c_cmp_Compare_string = true
  c94 : chkFunc E (E.fn 94) c_strings_HasSuffix = true
  c95 : chkFunc E (E.fn 95) c_name_Compare = true
  c97 : chkFunc E (E.fn 97) c_slices_BinarySearchFunc_Signed = true
  c96 : chkFunc E (E.fn 96) c_zone_body_find_1 = true
  c99 : chkFunc E (E.fn 99) c_record_within_byte = true
  c100 : chkFunc E (E.fn 100) c_cmp_isNaN_string = true
  c101 : chkFunc E (E.fn 101) c_internal_stringslite_HasSuffix = true
  c102 : chkFunc E (E.fn 102) c_name_text_puller = true
  c103 : chkFunc E (E.fn 103) c_strings_Compare = true
  c104 : chkFunc E (E.fn 104) c_name_text_puller_1 = true
  e12 : enters E.P (E.fn 12) = true
  e18 : enters E.P (E.fn 18) = true
  e26 : enters E.P (E.fn 26) = true
  e29 : enters E.P (E.fn 29) = true
  e35 : enters E.P (E.fn 35) = true
  e55 : enters E.P (E.fn 55) = true
  e69 : enters E.P (E.fn 69) = true
  e96 : enters E.P (E.fn 96) = true
  e104 : enters E.P (E.fn 104) = true
  e65 : enters E.P (E.fn 65) = true
  lastIx : ∀ (H : Hp) (l : Bs), l.length ≤ 60 → FnP E 98 [S l, .int .u8 46] H (.int .i64 (ixI (lastIx 46 l)))
  cmpStr : ∀ (H : Hp) (a b : Bs), FnP E 105 [S a, S b] H (.int .i64 (cmpBs a b))

section
variable {E : Env} {fr : Fr} {H : Hp} {Q : X → Fr → Hp → Prop} {K : List Item}
/-- the end of a round -/
def LG (live : List Nat) (n k : Nat) (F : Nat → Fr) (P : Nat → Prop) (H0 : Hp) (fr : Fr) (H : Hp) : Prop := k < n ∧ fr.keep live = F (k + 1) ∧ H = H0 ∧ P (k + 1)
theorem LG_eq {live : List Nat} {n k : Nat} {F : Nat → Fr} {P : Nat → Prop} {H0 : Hp} : LG live n k F P H0 fr H = (k < n ∧ fr.keep live = F (k + 1) ∧ H = H0 ∧ P (k + 1)) := rfl
def LP (live : List Nat) (n k : Nat) (I : Nat → Fr → Hp → Prop) (fr : Fr) (H : Hp) : Prop := k < n ∧ I (k + 1) (fr.keep live) H
theorem LP_eq {live : List Nat} {n k : Nat} {I : Nat → Fr → Hp → Prop} : LP live n k I fr H = (k < n ∧ I (k + 1) (fr.keep live) H) := rfl
def LM (live : List Nat) (m : Nat) (I : Nat → Fr → Hp → Prop) (fr : Fr) (H : Hp) : Prop := ∃ m', m' < m ∧ I m' (fr.keep live) H
theorem LM_eq {live : List Nat} {m : Nat} {I : Nat → Fr → Hp → Prop} : LM live m I fr H = (∃ m', m' < m ∧ I m' (fr.keep live) H) := rfl
theorem vks_loopM {live : List Nat} {c : ACode} (I : Nat → Fr → Hp → Prop) (m0 : Nat) (h0 : I m0 (fr.keep live) H)
    (h : ∀ m fr' H', I m fr' H' → vks E (.code c :: .goal (LM live m I) :: K) fr' H' Q) :
    vks E (.code (.loop live c) :: K) fr H Q := vks_loop I m0 h0 h
/-- what is to be shown at the return -/
def RetQ (E : Env) (res : List ARes) (Q : Value → Hp → Prop) (e : X) (fr : Fr) (H : Hp) : Prop := match e with
  | .exit _ => False
  | _ => resOk E fr H res ∧ Q (resVal E fr H res) H
theorem RetQ_ret {res : List ARes} {R : Value → Hp → Prop} : RetQ E res R .ret fr H = (resOk E fr H res ∧ R (resVal E fr H res) H) := rfl
theorem RetQ_nrm {res : List ARes} {R : Value → Hp → Prop} : RetQ E res R .nrm fr H = (resOk E fr H res ∧ R (resVal E fr H res) H) := rfl
theorem Fn.of_vks {f : FuncId} {af : AFunc} {args : List Value} {R : Value → Hp → Prop} (hc : chkFunc E f af = true) (hl : args.length ≤ af.nt)
    (h : vks E [.code af.body] (argsFr 0 args) H (RetQ E af.res R)) : Fn E.P f args H R :=
  Fn.of_vc hc hl (vc_mono (fun e _ _ h => by cases e <;> exact h) (vc_of_vks h))
theorem vks_loopP {live : List Nat} {c : ACode} (n k0 : Nat) (I : Nat → Fr → Hp → Prop) (hk : k0 ≤ n) (h0 : I k0 (fr.keep live) H)
    (h : ∀ k fr' H', k ≤ n → I k fr' H' → vks E (.code c :: .goal (LP live n k I) :: K) fr' H' Q) :
    vks E (.code (.loop live c) :: K) fr H Q := by
  refine vks_loop (fun m fr' H' => ∃ k, k ≤ n ∧ m = n - k ∧ I k fr' H') (n - k0) ⟨k0, hk, rfl, h0⟩ ?_
  rintro m fr' H' ⟨k, hk, rfl, hi⟩
  have := h k fr' H' hk hi
  simp only [vks] at this ⊢
  refine vc_mono (fun e fr H h => ?_) this
  cases e with
  | nrm =>
    have h : k < n ∧ I (k + 1) (fr.keep live) H := h
    exact ⟨n - (k + 1), by omega, k + 1, by omega, rfl, h.2⟩
  | exit id => simpa [unw] using h
  | ret => simpa [unw] using h
/-- a loop that counts; memory stays -/
theorem vks_loopN {live : List Nat} {c : ACode} (n k0 : Nat) (F : Nat → Fr) (P : Nat → Prop) (hk : k0 ≤ n) (h0 : fr.keep live = F k0) (hP : P k0)
    (h : ∀ k, k ≤ n → P k → vks E (.code c :: .goal (LG live n k F P H) :: K) (F k) H Q) :
    vks E (.code (.loop live c) :: K) fr H Q := by
  refine vks_loopP n k0 (fun k fr' H' => fr' = F k ∧ H' = H ∧ P k) hk ⟨h0, rfl, hP⟩ ?_
  rintro k fr' H' hk ⟨rfl, rfl, hp⟩
  exact h k hk hp
theorem le_refl_eq : H.le H = True := eq_true (Hp.le.refl H)
theorem FnP.intro {f : Nat} {args : List Value} {v : Value} (h : Fn E.P (E.fn f) args H fun u H' => u = v ∧ H.le H') : FnP E f args H v := h
theorem wrapN {n : Nat} (h : n ≤ 1099511627777) : IntKind.i64.wrap ((n : Nat) : Int) = (n : Int) := by rw [IntKind.wrap_i64]; omega
theorem wrapS {n : Nat} (h : n ≤ 1099511627776) : IntKind.i64.wrap ((n : Int) + 1) = ((n + 1 : Nat) : Int) := by rw [IntKind.wrap_i64]; omega
theorem wrapI {n : Int} (h : -9223372036854775808 ≤ n ∧ n ≤ 9223372036854775807) : IntKind.i64.wrap n = n := by rw [IntKind.wrap_i64]; omega
theorem bI_eq (l : Bs) (i : Nat) : (((l.getD i 0).toNat : Nat) : Int) = bI l i := rfl
theorem Fn.same {f : Nat} {args : List Value} {v : Value} (h : FnP E f args H v) : Fn E.P (E.fn f) args H fun u H' => u = v ∧ H' = H := fun w hw =>
  (h w hw).mono fun _ _ ⟨u, H', he, hs, hk, hu, hl⟩ => ⟨u, H, he, hs.le hl, ⟨hk.os, hk.tape, hk.output, hk.size, hk.same, fun b o hb => .inl (by rw [hb]; simp), hk.shape⟩, hu, rfl⟩
theorem bad_eq (a b : Bool) : (!a || b) = !(a && !b) := by cases a <;> cases b <;> rfl
theorem toNat_ofNat' (n : Nat) : ((n : Int)).toNat = n := Int.toNat_natCast n
end
end Go.SL

/- Rules for what is laid, stored, ranged over. -/
namespace Go.SL
open Go
section
variable {E : Env} {fr : Fr} {H : Hp} {Q : X → Fr → Hp → Prop} {k : List Item} {d : Option Nat} {r : List AOper} {live : List Nat}

theorem put_get (H : Hp) (b : Nat) (o : AObj) (c : Nat) : (H.put b o) c = if c = b then some o else H c := rfl
theorem vks_newH {zero : List Value} : vks E (.ops (⟨d, .newH zero, none⟩ :: r) live :: k) fr H Q =
    (∀ b, H b = none → vks E (.ops r live :: k) (setD fr d ⟨true, .val (.pointer (some ⟨b, 0, none⟩))⟩) (H.put b (.row zero zero.length true)) Q) := by
  simp [vks, evs, ev1, gok, gcond, big]
theorem vks_boxH {x : Arg} : vks E (.ops (⟨d, .boxH x, none⟩ :: r) live :: k) fr H Q =
    (vok fr x ∧ ∀ b, H b = none → vks E (.ops r live :: k) (setD fr d ⟨true, .val (.pointer (some ⟨b, 0, none⟩))⟩) (H.put b (.row (vo E fr x).cells.toList (vo E fr x).cells.toList.length true)) Q) := by
  simp [vks, evs, ev1, gok, gcond, big]
theorem vks_st {n : Nat} {x v : Arg} : vks E (.ops (⟨d, .st n x v, none⟩ :: r) live :: k) fr H Q =
    (pok fr x ∧ vok fr v ∧ (vo E fr v).cells.toList.length = n ∧ (vo E fr v).cells.toList.all one1 = true ∧
      (match pvo E fr x with
       | .lp s o => (match fr.get s with
         | some ⟨true, .box vs⟩ => o + n ≤ vs.length ∧ vks E (.ops r live :: k) (setD (fr.upb s (splice vs o (vo E fr v).cells.toList)) d ⟨true, .val undef⟩) H Q
         | _ => False)
       | .val (.pointer (some a)) => a.spot = none ∧ (match H a.block with
         | some (.row vs cap true) => a.off + n ≤ vs.length ∧ vks E (.ops r live :: k) (setD fr d ⟨true, .val undef⟩) (H.put a.block (.row (splice vs a.off (vo E fr v).cells.toList) cap true)) Q
         | _ => False)
       | _ => False)) := by
  simp [vks, evs, ev1, gok, gcond, big]
  all_goals (intros; exact Iff.rfl)
theorem vks_mksl {size len : Nat} {zero : List Value} {parts : List (Nat × Nat × Arg)} : vks E (.ops (⟨d, .mksl size len zero parts, none⟩ :: r) live :: k) fr H Q =
    (fillC E fr zero.length parts ∧ ∀ b, H b = none → vks E (.ops r live :: k) (setD fr d ⟨true, .val (.slice (some ⟨b, 0, none⟩) len len)⟩) (H.put b (.row (fillT E fr zero parts) zero.length true)) Q) := by
  simp [vks, evs, ev1, gok, gcond, big]
theorem vks_mkmap0 : vks E (.ops (⟨d, .mkmap none, none⟩ :: r) live :: k) fr H Q =
    (∀ b, H b = none → vks E (.ops r live :: k) (setD fr d ⟨true, .val (.map (some b))⟩) (H.put b (.obj (.map #[] 0))) Q) := by
  simp [vks, evs, ev1, gok, gcond, big]
theorem vks_mkmap1 {x : Arg} : vks E (.ops (⟨d, .mkmap (some x), none⟩ :: r) live :: k) fr H Q =
    ((vok fr x ∧ (match vo E fr x with
      | .int _ _ => True
      | _ => False)) ∧ ∀ b, H b = none → vks E (.ops r live :: k) (setD fr d ⟨true, .val (.map (some b))⟩) (H.put b (.obj (.map #[] 0))) Q) := by
  simp [vks, evs, ev1, gok, gcond, big]
  all_goals (intros; exact Iff.rfl)
theorem vks_mk {size bytes : Nat} {zero : List Value} {l c : Arg} : vks E (.ops (⟨d, .mk size bytes zero l c, none⟩ :: r) live :: k) fr H Q =
    (vok fr l ∧ vok fr c ∧ (match vo E fr l, vo E fr c with
    | .int _ p, .int _ q => 0 ≤ p ∧ p ≤ q ∧ bytes * q ≤ 140737488355328 ∧ q ≤ 4611686018427387904 ∧
        ∀ b, H b = none → vks E (.ops r live :: k) (setD fr d ⟨true, .val (.slice (some ⟨b, 0, none⟩) p.toNat q.toNat)⟩) (H.put b (.row (rep zero p.toNat) (q.toNat * size) true)) Q
    | _, _ => False)) := by
  simp [vks, evs, ev1, gok, gcond, big]
  all_goals (intros; exact Iff.rfl)
theorem vks_mlen {m : Arg} : vks E (.ops (⟨d, .mlen m, none⟩ :: r) live :: k) fr H Q =
    (vok fr m ∧ (match vo E fr m with
    | .map none => vks E (.ops r live :: k) (setD fr d ⟨true, .val (.int .i64 0)⟩) H Q
    | .map (some b) => (match H b with
      | some (.obj (.map es _)) => vks E (.ops r live :: k) (setD fr d ⟨true, .val (.int .i64 es.size)⟩) H Q
      | _ => False)
    | _ => False)) := by
  simp [vks, evs, ev1, gok, gcond, big]
  all_goals (intros; exact Iff.rfl)

/-- a range over a function -/
theorem vks_rangeF {f : Arg} {ps : List Nat} {ops : List AOper} {lv : List Nat} {body : ACode} (G : Hp) (S : List (List Value) → Prop) (Inv : List (List Value) → Hp → Prop)
    (h1 : vok fr f) (h2 : isFn (vo E fr f)) (hI : Iter E (vo E fr f) G S) (hl : ∀ xs, S xs → ∀ x ∈ xs, x.length = ps.length) (h0 : Inv [] H) (hG : ∀ pre H, Inv pre H → G.le H)
    (hb : ∀ pre x H', (∃ suf, S (pre ++ x :: suf)) → Inv pre H' →
      vks E [.ops ops lv, .code body, .goal (fun _ H'' => Inv (pre ++ [x]) H'')] (bindps fr.vals ps x) H' (fun e _ H'' => unw E k e fr H'' Q))
    (hend : ∀ xs H', S xs → Inv xs H' → vks E k fr H' Q) :
    vks E (.code (.rangeF f ps (.reg ops lv) body) :: k) fr H Q := by
  simp only [vks, vc]
  refine ⟨h1, h2, G, S, hI, hl, Inv, h0, hG, fun pre x H' hs hi => ?_, hend⟩
  have := hb pre x H' hs hi
  simp only [vks, unw] at this
  refine evs_mono (fun fr' H'' h => ⟨trivial, ?_⟩) this
  refine vc_mono (fun e fr3 H3 h => ?_) h
  cases e <;> exact h

/-- calls in a region that draws -/
theorem vks_dcallp {i f : Nat} {args : List Arg} {ls : List Nat} {p q : List DOp} {g : Option (Nat × Bool)} (v : Value) (h0 : gok fr g)
    (h1 : gcond fr g = true → allok fr args ∧ FnP E f (args.map (vo E fr)) H v) (hs : stabs E (setD fr d ⟨gcond fr g, .val v⟩) H ls p)
    (h : vks E (.opd (⟨i, ⟨d, .callp f args, g⟩, ls⟩ :: p) q live :: k) (setD fr d ⟨gcond fr g, .val v⟩) H Q) :
    vks E (.opd p (⟨i, ⟨d, .callp f args, g⟩, ls⟩ :: q) live :: k) fr H Q := by
  simp only [vks_opd, ev1]
  exact ⟨h0, v, h1, hs, h⟩
theorem vks_dcallv {i : Nat} {x : Arg} {args : List Arg} {ls : List Nat} {p q : List DOp} {R : Value → Hp → Prop} (h0 : vok fr x) (h0' : allok fr args) (h1 : FnV E (vo E fr x) (args.map (vo E fr)) H R)
    (h : ∀ v H', R v H' → stabs E (setD fr d ⟨true, .val v⟩) H' ls p ∧ vks E (.opd (⟨i, ⟨d, .callv x args, none⟩, ls⟩ :: p) q live :: k) (setD fr d ⟨true, .val v⟩) H' Q) :
    vks E (.opd p (⟨i, ⟨d, .callv x args, none⟩, ls⟩ :: q) live :: k) fr H Q := by
  simp only [vks_opd, ev1, gok, gcond, big]
  exact ⟨trivial, fun _ => ⟨h0, h0', R, h1, h⟩, fun e => by cases e⟩
theorem vks_dcall {i f : Nat} {args : List Arg} {ls : List Nat} {p q : List DOp} {R : Value → Hp → Prop} (h0 : allok fr args) (h1 : Fn E.P (E.fn f) (args.map (vo E fr)) H R)
    (h : ∀ v H', R v H' → stabs E (setD fr d ⟨true, .val v⟩) H' ls p ∧ vks E (.opd (⟨i, ⟨d, .call f args, none⟩, ls⟩ :: p) q live :: k) (setD fr d ⟨true, .val v⟩) H' Q) :
    vks E (.opd p (⟨i, ⟨d, .call f args, none⟩, ls⟩ :: q) live :: k) fr H Q := by
  simp only [vks_opd, ev1, gok, gcond, big]
  exact ⟨trivial, fun _ => ⟨h0, R, h1, h⟩, fun e => by cases e⟩
theorem vks_dbig {i : Nat} {op : BOp} {ls : List Nat} {p q : List DOp} {g : Option (Nat × Bool)} (hop : ∀ x, op ≠ .sim x) (hop' : ∀ f a, op ≠ .callp f a) (h0 : gok fr g)
    (h1 : gcond fr g = true → big E op d fr H (fun fr' H' => stabs E fr' H' ls p ∧ vks E (.opd (⟨i, ⟨d, op, g⟩, ls⟩ :: p) q live :: k) fr' H' Q))
    (h2 : gcond fr g = false → stabs E (setD fr d ⟨false, .val undef⟩) H ls p ∧ vks E (.opd (⟨i, ⟨d, op, g⟩, ls⟩ :: p) q live :: k) (setD fr d ⟨false, .val undef⟩) H Q) :
    vks E (.opd p (⟨i, ⟨d, op, g⟩, ls⟩ :: q) live :: k) fr H Q := by
  simp only [vks_opd, ev1]
  cases op <;> first | exact absurd rfl (hop _) | exact absurd rfl (hop' _ _) | exact ⟨h0, h1, h2⟩
theorem vks_dmksl {i size len : Nat} {zero : List Value} {parts : List (Nat × Nat × Arg)} {ls : List Nat} {p q : List DOp} : vks E (.opd p (⟨i, ⟨d, .mksl size len zero parts, none⟩, ls⟩ :: q) live :: k) fr H Q =
    (fillC E fr zero.length parts ∧ ∀ b, H b = none → stabs E (setD fr d ⟨true, .val (.slice (some ⟨b, 0, none⟩) len len)⟩) (H.put b (.row (fillT E fr zero parts) zero.length true)) ls p ∧ vks E (.opd (⟨i, ⟨d, .mksl size len zero parts, none⟩, ls⟩ :: p) q live :: k) (setD fr d ⟨true, .val (.slice (some ⟨b, 0, none⟩) len len)⟩) (H.put b (.row (fillT E fr zero parts) zero.length true)) Q) := by
  simp [vks_opd, ev1, gok, gcond, big]
theorem FnV_of_Fn {f : Nat} {first cap : Array Value} {args : List Value} {R : Value → Hp → Prop} (he : enters E.P (E.fn f) = true) (h : Fn E.P (E.fn f) (first.toList ++ args ++ cap.toList) H R) :
    FnV E (.func (.func (E.fn f)) first cap) args H R := fun w hw => ⟨he, h w hw⟩

theorem at_pre {l : List Bs} {pre suf : List (List Value)} {x : List Value} (h : pre ++ x :: suf = l.map (fun x => [S x])) :
    pre.length < l.length ∧ x = [S (l.getD pre.length [])] ∧ l.drop pre.length = l.getD pre.length [] :: l.drop (pre.length + 1) := by
  have hlen := congrArg List.length h
  simp only [List.length_append, List.length_cons, List.length_map] at hlen
  have hlt : pre.length < l.length := by omega
  have hx : (pre ++ x :: suf)[pre.length]? = some x := by simp
  rw [h] at hx
  simp only [List.getElem?_map, List.getElem?_eq_getElem hlt, Option.map_some, Option.some.injEq] at hx
  refine ⟨hlt, ?_, ?_⟩
  · rw [← hx, List.getD_eq_getElem?_getD, List.getElem?_eq_getElem hlt]; rfl
  · rw [List.drop_eq_getElem_cons hlt, List.getD_eq_getElem?_getD, List.getElem?_eq_getElem hlt]; rfl
theorem ex_row (a : List Value) (b : Nat) (c : Bool) : (∃ vs cap wr, AObj.row a b c = AObj.row vs cap wr) = True := eq_true ⟨_, _, _, rfl⟩
theorem one1_str (s : ByteArray) : one1 (.string s) = true := rfl
theorem one1_int (k : IntKind) (n : Int) : one1 (.int k n) = true := rfl
theorem one1_bool (b : Bool) : one1 (.bool b) = true := rfl
theorem one1_slice (a : Option Addr) (n c : Nat) : one1 (.slice a n c) = true := rfl
theorem one1_ptr (a : Option Addr) : one1 (.pointer a) = true := rfl
theorem one1_func (f : Go.Fn) (a b : Array Value) : one1 (.func f a b) = true := rfl
theorem one1_map (a : Option Nat) : one1 (.map a) = true := rfl
theorem SlAt.one {sz n : Nat} {v : Value} {row : Nat → List Value} (h : SlAt H sz v n row) : one1 v = true := by
  obtain ⟨a, cap, rfl, _⟩ := h; rfl
theorem simT_pick_f {c a b : Arg} {y : Bool} (hc : vo E fr c = .bool false) (hb : vo E fr b = .bool y) : simT E fr H (.pick c a b) = .val (.bool y) := by
  simp only [simT, hc, hb]
  cases vo E fr a <;> rfl
theorem simT_pick_t {c a b : Arg} {y : Bool} (hc : vo E fr c = .bool true) (ha : vo E fr a = .bool y) : simT E fr H (.pick c a b) = .val (.bool y) := by
  simp only [simT, hc, ha]
  cases vo E fr b <;> rfl
theorem ne_of_none {H : Hp} {b c : Nat} {o : AObj} (hb : H b = some o) (hc : H c = none) : b ≠ c := by rintro rfl; rw [hb] at hc; cases hc
end
end Go.SL

/- Rules: maps with guards, drawn stores. -/
namespace Go.SL
open Go
section
variable {E : Env} {fr : Fr} {H : Hp} {Q : X → Fr → Hp → Prop} {k : List Item} {d : Option Nat} {r : List AOper} {live : List Nat} {κ ν : Type} [DecidableEq κ]

theorem keyS (a b : Bs) : keyEq false [.s] (S a) (S b) = some (decide (a = b)) := by simp [keyEq, scalEq, Bool.beq_eq_decide_eq]
theorem keyI (a b : Int) : keyEq false [.i] (.int .i64 a) (.int .i64 b) = some (decide (a = b)) := by simp [keyEq, scalEq, Bool.beq_eq_decide_eq]
theorem keyP (a b : Pair) : keyEq true [.i, .s] (.agg #[.int .i64 a.1, S a.2]) (.agg #[.int .i64 b.1, S b.2]) = some (decide (a = b)) := by
  simp only [keyEq, aggEq, if_true, allEq, scalEq]
  simp [Prod.ext_iff, Bool.beq_eq_decide_eq]
theorem vks_skipB {op : BOp} {g : Option (Nat × Bool)} (hop : ∀ x, op ≠ .sim x) (hop' : ∀ f a, op ≠ .callp f a) (h0 : gok fr g) (hg : gcond fr g = false)
    (h : vks E (.ops r live :: k) (setD fr d ⟨false, .val undef⟩) H Q) : vks E (.ops (⟨d, op, g⟩ :: r) live :: k) fr H Q := by
  simp only [vks, evs, ev1] at h ⊢
  refine ⟨h0, ?_⟩
  cases op <;> first | exact absurd rfl (hop _) | exact absurd rfl (hop' _ _) | exact ⟨fun h => (by rw [hg] at h; cases h), fun _ => h⟩
theorem vks_useB {op : BOp} {g : Option (Nat × Bool)} (hop : ∀ x, op ≠ .sim x) (hop' : ∀ f a, op ≠ .callp f a) (h0 : gok fr g) (hg : gcond fr g = true)
    (h : vks E (.ops (⟨d, op, none⟩ :: r) live :: k) fr H Q) : vks E (.ops (⟨d, op, g⟩ :: r) live :: k) fr H Q := by
  simp only [vks, evs, ev1] at h ⊢
  refine ⟨h0, ?_⟩
  have h := h.2
  cases op <;> first | exact absurd rfl (hop _) | exact absurd rfl (hop' _ _) | exact ⟨fun _ => h.1 rfl, fun h => (by rw [hg] at h; cases h)⟩
theorem vks_dst {i n : Nat} {x v : Arg} {ls : List Nat} {p q : List DOp} : vks E (.opd p (⟨i, ⟨d, .st n x v, none⟩, ls⟩ :: q) live :: k) fr H Q =
    (pok fr x ∧ vok fr v ∧ (vo E fr v).cells.toList.length = n ∧ (vo E fr v).cells.toList.all one1 = true ∧
      (match pvo E fr x with
       | .lp s o => (match fr.get s with
         | some ⟨true, .box vs⟩ => o + n ≤ vs.length ∧ stabs E (setD (fr.upb s (splice vs o (vo E fr v).cells.toList)) d ⟨true, .val undef⟩) H ls p ∧ vks E (.opd (⟨i, ⟨d, .st n x v, none⟩, ls⟩ :: p) q live :: k) (setD (fr.upb s (splice vs o (vo E fr v).cells.toList)) d ⟨true, .val undef⟩) H Q
         | _ => False)
       | .val (.pointer (some a)) => a.spot = none ∧ (match H a.block with
         | some (.row vs cap true) => a.off + n ≤ vs.length ∧ stabs E (setD fr d ⟨true, .val undef⟩) (H.put a.block (.row (splice vs a.off (vo E fr v).cells.toList) cap true)) ls p ∧ vks E (.opd (⟨i, ⟨d, .st n x v, none⟩, ls⟩ :: p) q live :: k) (setD fr d ⟨true, .val undef⟩) (H.put a.block (.row (splice vs a.off (vo E fr v).cells.toList) cap true)) Q
         | _ => False)
       | _ => False)) := by
  simp [vks_opd, ev1, gok, gcond, big]
  all_goals (intros; exact Iff.rfl)
theorem vks_dmk {i size bytes : Nat} {zero : List Value} {l c : Arg} {ls : List Nat} {p q : List DOp} : vks E (.opd p (⟨i, ⟨d, .mk size bytes zero l c, none⟩, ls⟩ :: q) live :: k) fr H Q =
    (vok fr l ∧ vok fr c ∧ (match vo E fr l, vo E fr c with
    | .int _ p', .int _ q' => 0 ≤ p' ∧ p' ≤ q' ∧ bytes * q' ≤ 140737488355328 ∧ q' ≤ 4611686018427387904 ∧
        ∀ b, H b = none → stabs E (setD fr d ⟨true, .val (.slice (some ⟨b, 0, none⟩) p'.toNat q'.toNat)⟩) (H.put b (.row (rep zero p'.toNat) (q'.toNat * size) true)) ls p ∧
          vks E (.opd (⟨i, ⟨d, .mk size bytes zero l c, none⟩, ls⟩ :: p) q live :: k) (setD fr d ⟨true, .val (.slice (some ⟨b, 0, none⟩) p'.toNat q'.toNat)⟩) (H.put b (.row (rep zero p'.toNat) (q'.toNat * size) true)) Q
    | _, _ => False)) := by
  simp [vks_opd, ev1, gok, gcond, big]
  all_goals (intros; exact Iff.rfl)
end
theorem map_nil {ν : Type} {κ : Type} {H : Hp} {b : Nat} (enc : κ → Value) (encv : ν → Value) : MapAt (H.put b (.obj (.map #[] 0))) b (([] : List (κ × ν)).map fun e => (enc e.1, encv e.2)) := ⟨#[], 0, Hp.put_same .., rfl⟩
theorem rep_getElem? (z : Value) (n i : Nat) : (rep [z] n)[i]? = if i < n then some z else none := by
  induction n generalizing i with
  | zero => simp [rep]
  | succ n ih =>
    simp only [rep, List.singleton_append]
    cases i with
    | zero => simp
    | succ i => simp [ih]
theorem rep1_length (z : Value) (n : Nat) : (rep [z] n).length = n := by
  induction n with
  | zero => rfl
  | succ n ih => simp [rep, ih]
end Go.SL

/- The lemmas by which a walk steps, as one set. -/
namespace Go.SL
open Go
attribute [go_sem] vks_nil vks_seq vks_reg vks_block vks_skip vks_sim0 vks_sim vks_opsnil vks_blk vks_exit vks_ret vks_goal
attribute [go_sem] unw_nil unw_code unw_ops unw_opd unw_goal unw_blk_exit unw_blk_ret vks_cond_eq vks_newH vks_boxH vks_st vks_mksl
attribute [go_sem] vks_mkmap0 vks_mk Value.cells one1_str one1_int one1_bool one1_slice one1_ptr one1_func one1_map splice List.all_cons
attribute [go_sem] List.all_nil bindps Fr.vals List.take_zero List.take_succ_cons List.drop_succ_cons List.nil_append List.append_nil List.cons_append List.drop_nil List.getD_cons_zero List.getD_cons_succ
attribute [go_sem] Nat.le_refl List.toList_toArray LG_eq LP_eq LM_eq RetQ_ret RetQ_nrm ex_row vks_regd vks_regl vks_dsim vks_opdnil
attribute [go_sem] Fr.start dsts stabs Stable List.contains_cons List.contains_nil put_put Bool.true_or Bool.or_true Bool.false_or Bool.or_false le_refl_eq
attribute [go_sem] strOf_S bI_eq toNat_ofNat' Value.bool.injEq Value.int.injEq gok gcond simC simT setD vok vo
attribute [go_sem] pok pvo cellsOfPV offOfPV rowThere part1 szOf ptrOk shiftPV allok fillT fillC
attribute [go_sem] bnd bndC Fr.set Fr.get Fr.keep PV.isLp List.filter_cons List.filter_nil argsFr Fr.upb resOk resVal
attribute [go_sem] ARes.ok ARes.val S_size S_data S_extract intOf List.map_cons List.map_nil Bool.not_true Bool.not_false Bool.and_true Bool.true_and
attribute [go_sem] Bool.and_false Bool.false_and Bool.and_self beq_self_eq_true true_and and_true forall_const true_implies implies_true Option.getD_some Option.getD_none cond_true
attribute [go_sem] cond_false Option.isSome_some beq_true' beq_false' cond_or cond_and Nat.succ_ne_self Nat.one_ne_zero imp_self Bool.not_eq_true' Bool.not_eq_false' Nat.sub_zero
attribute [go_sem] List.drop_zero false_implies Bool.false_eq_true Bool.true_eq_false if_true if_false Nat.zero_add Nat.add_zero Nat.zero_mul Nat.mul_zero List.length_cons List.length_nil
attribute [go_sem] Option.some.injEq List.cons.injEq Prod.mk.injEq SV.mk.injEq PV.val.injEq PV.box.injEq List.size_toArray
end Go.SL
