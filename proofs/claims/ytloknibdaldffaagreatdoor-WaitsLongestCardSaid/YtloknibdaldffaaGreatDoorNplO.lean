/- What an environment must be: its functions have the codes; rules for loops. -/
import Derived.Test.YtloknibdaldffaaGreatDoorNplL
import Derived.Test.YtloknibdaldffaaGreatDoorNplM
import Derived.Laws.BitsLemmas
namespace Go.SL
open Go
structure Codes (E : Env) : Prop where
 c11 : chkFunc E (E.fn 11) cf11 = true
 c14 : chkFunc E (E.fn 14) cf14 = true
 c15 : chkFunc E (E.fn 15) cf15 = true
 c17 : chkFunc E (E.fn 17) cf17 = true
 c22 : chkFunc E (E.fn 22) cf22 = true
 c28 : chkFunc E (E.fn 28) cf28 = true
 c45 : chkFunc E (E.fn 45) cf45 = true
 c39 : chkFunc E (E.fn 39) cf39 = true
 c40 : chkFunc E (E.fn 40) cf40 = true
 c41 : chkFunc E (E.fn 41) cf41 = true
 c42 : chkFunc E (E.fn 42) cf42 = true
 c43 : chkFunc E (E.fn 43) cf43 = true
 c44 : chkFunc E (E.fn 44) cf44 = true
 c49 : chkFunc E (E.fn 49) cf49 = true
 c50 : chkFunc E (E.fn 50) cf50 = true
 c52 : chkFunc E (E.fn 52) cf52 = true
 c53 : chkFunc E (E.fn 53) cf53 = true
 c54 : chkFunc E (E.fn 54) cf54 = true
 c56 : chkFunc E (E.fn 56) cf56 = true
 c55 : chkFunc E (E.fn 55) cf55 = true
 c57 : chkFunc E (E.fn 57) cf57 = true
 c58 : chkFunc E (E.fn 58) cf58 = true
 c59 : chkFunc E (E.fn 59) cf59 = true
 c60 : chkFunc E (E.fn 60) cf60 = true
 c61 : chkFunc E (E.fn 61) cf61 = true
 c62 : chkFunc E (E.fn 62) cf62 = true
 c63 : chkFunc E (E.fn 63) cf63 = true
 c64 : chkFunc E (E.fn 64) cf64 = true
 c87 : chkFunc E (E.fn 87) cf87 = true
 c89 : chkFunc E (E.fn 89) cf89 = true
 c65 : chkFunc E (E.fn 65) cf65 = true
 c66 : chkFunc E (E.fn 66) cf66 = true
 c79 : chkFunc E (E.fn 79) cf79 = true
 c73 : chkFunc E (E.fn 73) cf73 = true
 c74 : chkFunc E (E.fn 74) cf74 = true
 c76 : chkFunc E (E.fn 76) cf76 = true
 c77 : chkFunc E (E.fn 77) cf77 = true
 c78 : chkFunc E (E.fn 78) cf78 = true
 c80 : chkFunc E (E.fn 80) cf80 = true
 c81 : chkFunc E (E.fn 81) cf81 = true
 c82 : chkFunc E (E.fn 82) cf82 = true
 c83 : chkFunc E (E.fn 83) cf83 = true
 c84 : chkFunc E (E.fn 84) cf84 = true
 c88 : chkFunc E (E.fn 88) cf88 = true
 c90 : chkFunc E (E.fn 90) cf90 = true
 c91 : chkFunc E (E.fn 91) cf91 = true
 c93 : chkFunc E (E.fn 93) cf93 = true
 c92 : chkFunc E (E.fn 92) cf92 = true
 c94 : chkFunc E (E.fn 94) cf94 = true
 c95 : chkFunc E (E.fn 95) cf95 = true
 c97 : chkFunc E (E.fn 97) cf97 = true
 c96 : chkFunc E (E.fn 96) cf96 = true
 c99 : chkFunc E (E.fn 99) cf99 = true
 c100 : chkFunc E (E.fn 100) cf100 = true
 c101 : chkFunc E (E.fn 101) cf101 = true
 c102 : chkFunc E (E.fn 102) cf102 = true
 c103 : chkFunc E (E.fn 103) cf103 = true
 c104 : chkFunc E (E.fn 104) cf104 = true
 e55 : enters E.P (E.fn 55) = true
 e96 : enters E.P (E.fn 96) = true
 e104 : enters E.P (E.fn 104) = true
 e65 : enters E.P (E.fn 65) = true
 lastIx : ∀ (H : Hp) (l : Bs),l.length ≤ 60 → FnP E 98 [S l,.int .u8 46] H (.int .i64 (ixI (lastIx 46 l)))
 cmpStr : ∀ (H : Hp) (a b : Bs),FnP E 105 [S a,S b] H (.int .i64 (cmpBs a b))
section
variable {E : Env} {fr : Fr} {H : Hp} {Q : X → Fr → Hp → Prop} {K : List Item}
def LG (live : List Nat) (n k : Nat) (F : Nat → Fr) (P : Nat → Prop) (H0 : Hp) (fr : Fr) (H : Hp) : Prop := k < n ∧ fr.keep live = F (k + 1) ∧ H = H0 ∧ P (k + 1)
theorem LG_eq {live : List Nat} {n k : Nat} {F : Nat → Fr} {P : Nat → Prop} {H0 : Hp} : LG live n k F P H0 fr H = (k < n ∧ fr.keep live = F (k + 1) ∧ H = H0 ∧ P (k + 1)) := rfl
def LP (live : List Nat) (n k : Nat) (I : Nat → Fr → Hp → Prop) (fr : Fr) (H : Hp) : Prop := k < n ∧ I (k + 1) (fr.keep live) H
theorem LP_eq {live : List Nat} {n k : Nat} {I : Nat → Fr → Hp → Prop} : LP live n k I fr H = (k < n ∧ I (k + 1) (fr.keep live) H) := rfl
def LM (live : List Nat) (m : Nat) (I : Nat → Fr → Hp → Prop) (fr : Fr) (H : Hp) : Prop := ∃ m',m' < m ∧ I m' (fr.keep live) H
theorem LM_eq {live : List Nat} {m : Nat} {I : Nat → Fr → Hp → Prop} : LM live m I fr H = (∃ m',m' < m ∧ I m' (fr.keep live) H) := rfl
theorem vks_loopM {live : List Nat} {c : ACode} (I : Nat → Fr → Hp → Prop) (m0 : Nat) (h0 : I m0 (fr.keep live) H)
  (h : ∀ m fr' H',I m fr' H' → vks E (.code c :: .goal (LM live m I) :: K) fr' H' Q) :
  vks E (.code (.loop live c) :: K) fr H Q := vks_loop I m0 h0 h
def RetQ (E : Env) (res : List ARes) (Q : Value → Hp → Prop) (e : X) (fr : Fr) (H : Hp) : Prop := match e with
 | .exit _ => False
 | _ => resOk E fr H res ∧ Q (resVal E fr H res) H
theorem RetQ_ret {res : List ARes} {R : Value → Hp → Prop} : RetQ E res R .ret fr H = (resOk E fr H res ∧ R (resVal E fr H res) H) := rfl
theorem RetQ_nrm {res : List ARes} {R : Value → Hp → Prop} : RetQ E res R .nrm fr H = (resOk E fr H res ∧ R (resVal E fr H res) H) := rfl
theorem Fn.of_vks {f : FuncId} {af : AFunc} {args : List Value} {R : Value → Hp → Prop} (hc : chkFunc E f af = true) (hl : args.length ≤ af.nt)
  (h : vks E [.code af.body] (argsFr 0 args) H (RetQ E af.res R)) : Fn E.P f args H R :=
 Fn.of_vc hc hl (vc_mono (fun e _ _ h => by cases e <;> exact h) (vc_of_vks h))
theorem vks_loopP {live : List Nat} {c : ACode} (n k0 : Nat) (I : Nat → Fr → Hp → Prop) (hk : k0 ≤ n) (h0 : I k0 (fr.keep live) H)
  (h : ∀ k fr' H',k ≤ n → I k fr' H' → vks E (.code c :: .goal (LP live n k I) :: K) fr' H' Q) :
  vks E (.code (.loop live c) :: K) fr H Q := by
 refine vks_loop (fun m fr' H' => ∃ k,k ≤ n ∧ m = n - k ∧ I k fr' H') (n - k0) ⟨k0,hk,rfl,h0⟩ ?_
 rintro m fr' H' ⟨k,hk,rfl,hi⟩
 have := h k fr' H' hk hi
 simp only [vks] at this ⊢
 refine vc_mono (fun e fr H h => ?_) this
 cases e with
 | nrm =>
  have h : k < n ∧ I (k + 1) (fr.keep live) H := h
  exact ⟨n - (k + 1),by omega,k + 1,by omega,rfl,h.2⟩
 | exit id => simpa [unw] using h
 | ret => simpa [unw] using h
theorem vks_loopN {live : List Nat} {c : ACode} (n k0 : Nat) (F : Nat → Fr) (P : Nat → Prop) (hk : k0 ≤ n) (h0 : fr.keep live = F k0) (hP : P k0)
  (h : ∀ k,k ≤ n → P k → vks E (.code c :: .goal (LG live n k F P H) :: K) (F k) H Q) :
  vks E (.code (.loop live c) :: K) fr H Q := by
 refine vks_loopP n k0 (fun k fr' H' => fr' = F k ∧ H' = H ∧ P k) hk ⟨h0,rfl,hP⟩ ?_
 rintro k fr' H' hk ⟨rfl,rfl,hp⟩
 exact h k hk hp
theorem le_refl_eq : H.le H = True := eq_true (Hp.le.refl H)
theorem FnP.intro {f : Nat} {args : List Value} {v : Value} (h : Fn E.P (E.fn f) args H fun u H' => u = v ∧ H.le H') : FnP E f args H v := h
theorem wrapN {n : Nat} (h : n ≤ 1099511627777) : IntKind.i64.wrap ((n : Nat) : Int) = (n : Int) := by rw [IntKind.wrap_i64]; omega
theorem wrapS {n : Nat} (h : n ≤ 1099511627776) : IntKind.i64.wrap ((n : Int) + 1) = ((n + 1 : Nat) : Int) := by rw [IntKind.wrap_i64]; omega
theorem wrapI {n : Int} (h : -9223372036854775808 ≤ n ∧ n ≤ 9223372036854775807) : IntKind.i64.wrap n = n := by rw [IntKind.wrap_i64]; omega
theorem bI_eq (l : Bs) (i : Nat) : (((l.getD i 0).toNat : Nat) : Int) = bI l i := rfl
theorem Fn.same {f : Nat} {args : List Value} {v : Value} (h : FnP E f args H v) : Fn E.P (E.fn f) args H fun u H' => u = v ∧ H' = H := fun w hw =>
 (h w hw).mono fun _ _ ⟨u,H',he,hs,hk,hu,hl⟩ => ⟨u,H,he,hs.le hl,⟨hk.os,hk.tape,hk.output,hk.size,hk.same,fun b o hb => .inl (by rw [hb]; simp),fun b hb ht => ⟨(hk.shape b hb ht).1,ht⟩⟩,hu,rfl⟩
theorem bad_eq (a b : Bool) : (!a || b) = !(a && !b) := by cases a <;> cases b <;> rfl
theorem toNat_ofNat' (n : Nat) : ((n : Int)).toNat = n := Int.toNat_natCast n
end
end Go.SL
/- Rules for what is laid, stored, ranged over. -/
namespace Go.SL
open Go
section
variable {E : Env} {fr : Fr} {H : Hp} {Q : X → Fr → Hp → Prop} {k : List Item} {d : Option Nat} {r : List AOper} {live : List Nat}
theorem put_get (H : Hp) (b : Nat) (o : AObj) (c : Nat) : (H.put b o) c = if c = b then some o else H c := rfl
theorem vks_newH {zero : List Value} : vks E (.ops (⟨d, .newH zero, none⟩ :: r) live :: k) fr H Q =
  (∀ b,H b = none → vks E (.ops r live :: k) (setD fr d ⟨true,.val (.pointer (some ⟨b,0,none⟩))⟩) (H.put b (.row zero zero.length true)) Q) := by
 simp [vks,evs,ev1,gok,gcond,big]
theorem vks_boxH {x : Arg} : vks E (.ops (⟨d, .boxH x, none⟩ :: r) live :: k) fr H Q =
  (vok fr x ∧ ∀ b,H b = none → vks E (.ops r live :: k) (setD fr d ⟨true,.val (.pointer (some ⟨b,0,none⟩))⟩) (H.put b (.row (vo E fr x).cells.toList (vo E fr x).cells.toList.length true)) Q) := by
 simp [vks,evs,ev1,gok,gcond,big]
theorem vks_st {n : Nat} {x v : Arg} : vks E (.ops (⟨d, .st n x v, none⟩ :: r) live :: k) fr H Q =
  (pok fr x ∧ vok fr v ∧ (vo E fr v).cells.toList.length = n ∧ (vo E fr v).cells.toList.all one1 = true ∧
   (match pvo E fr x with
    | .lp s o => (match fr.get s with
     | some ⟨true,.box vs⟩ => o + n ≤ vs.length ∧ vks E (.ops r live :: k) (setD (fr.upb s (splice vs o (vo E fr v).cells.toList)) d ⟨true,.val undef⟩) H Q
     | _ => False)
    | .val (.pointer (some a)) => a.spot = none ∧ (match H a.block with
     | some (.row vs cap true) => a.off + n ≤ vs.length ∧ vks E (.ops r live :: k) (setD fr d ⟨true,.val undef⟩) (H.put a.block (.row (splice vs a.off (vo E fr v).cells.toList) cap true)) Q
     | _ => False)
    | _ => False)) := by
 simp [vks,evs,ev1,gok,gcond,big]
 all_goals (intros; exact Iff.rfl)
theorem vks_mksl {size len : Nat} {zero : List Value} {parts : List (Nat × Nat × Arg)} : vks E (.ops (⟨d, .mksl size len zero parts, none⟩ :: r) live :: k) fr H Q =
  (fillC E fr zero.length parts ∧ ∀ b,H b = none → vks E (.ops r live :: k) (setD fr d ⟨true,.val (.slice (some ⟨b,0,none⟩) len len)⟩) (H.put b (.row (fillT E fr zero parts) zero.length true)) Q) := by
 simp [vks,evs,ev1,gok,gcond,big]
theorem vks_mkmap0 : vks E (.ops (⟨d, .mkmap none, none⟩ :: r) live :: k) fr H Q =
  (∀ b,H b = none → vks E (.ops r live :: k) (setD fr d ⟨true,.val (.map (some b))⟩) (H.put b (.obj (.map #[] 0))) Q) := by
 simp [vks,evs,ev1,gok,gcond,big]
theorem vks_mk {size bytes : Nat} {zero : List Value} {l c : Arg} : vks E (.ops (⟨d, .mk size bytes zero l c, none⟩ :: r) live :: k) fr H Q =
  (vok fr l ∧ vok fr c ∧ (match vo E fr l,vo E fr c with
  | .int _ p, .int _ q => 0 ≤ p ∧ p ≤ q ∧ bytes * q ≤ 140737488355328 ∧ q ≤ 4611686018427387904 ∧
    ∀ b,H b = none → vks E (.ops r live :: k) (setD fr d ⟨true,.val (.slice (some ⟨b,0,none⟩) p.toNat q.toNat)⟩) (H.put b (.row (rep zero p.toNat) (q.toNat * size) true)) Q
  | _,_ => False)) := by
 simp [vks,evs,ev1,gok,gcond,big]
 all_goals (intros; exact Iff.rfl)
theorem vks_mlen {m : Arg} : vks E (.ops (⟨d, .mlen m, none⟩ :: r) live :: k) fr H Q =
  (vok fr m ∧ (match vo E fr m with
  | .map none => vks E (.ops r live :: k) (setD fr d ⟨true,.val (.int .i64 0)⟩) H Q
  | .map (some b) => (match H b with
   | some (.obj (.map es _)) => vks E (.ops r live :: k) (setD fr d ⟨true,.val (.int .i64 es.size)⟩) H Q
   | _ => False)
  | _ => False)) := by
 simp [vks,evs,ev1,gok,gcond,big]
 all_goals (intros; exact Iff.rfl)
theorem vks_rangeF {f : Arg} {ps : List Nat} {ops : List AOper} {lv : List Nat} {body : ACode} (G : Hp) (S : List (List Value) → Prop) (Inv : List (List Value) → Hp → Prop)
  (h1 : vok fr f) (h2 : isFn (vo E fr f)) (hI : Iter E (vo E fr f) G S) (hl : ∀ xs,S xs → ∀ x ∈ xs,x.length = ps.length) (h0 : Inv [] H) (hG : ∀ pre H,Inv pre H → G.le H)
  (hb : ∀ pre x H', (∃ suf, S (pre ++ x :: suf)) → Inv pre H' →
   vks E [.ops ops lv,.code body,.goal (fun _ H'' => Inv (pre ++ [x]) H'')] (bindps fr.vals ps x) H' (fun e _ H'' => unw E k e fr H'' Q))
  (hend : ∀ xs H',S xs → Inv xs H' → vks E k fr H' Q) :
  vks E (.code (.rangeF f ps (.reg ops lv) body) :: k) fr H Q := by
 simp only [vks,vc]
 refine ⟨h1,h2,G,S,hI,hl,Inv,h0,hG,fun pre x H' hs hi => ?_,hend⟩
 have := hb pre x H' hs hi
 simp only [vks,unw] at this
 refine evs_mono (fun fr' H'' h => ⟨trivial,?_⟩) this
 refine vc_mono (fun e fr3 H3 h => ?_) h
 cases e <;> exact h
theorem vks_dcallp {i f : Nat} {args : List Arg} {ls : List Nat} {p q : List DOp} {g : Option (Nat × Bool)} (v : Value) (h0 : gok fr g)
  (h1 : gcond fr g = true → allok fr args ∧ FnP E f (args.map (vo E fr)) H v) (hs : stabs E (setD fr d ⟨gcond fr g,.val v⟩) H ls p)
  (h : vks E (.opd (⟨i,⟨d,.callp f args,g⟩,ls⟩ :: p) q live :: k) (setD fr d ⟨gcond fr g,.val v⟩) H Q) :
  vks E (.opd p (⟨i,⟨d,.callp f args,g⟩,ls⟩ :: q) live :: k) fr H Q := by
 simp only [vks_opd,ev1]
 exact ⟨h0,v,h1,hs,h⟩
theorem vks_dcallv {i : Nat} {x : Arg} {args : List Arg} {ls : List Nat} {p q : List DOp} {R : Value → Hp → Prop} (h0 : vok fr x) (h0' : allok fr args) (h1 : FnV E (vo E fr x) (args.map (vo E fr)) H R)
  (h : ∀ v H',R v H' → stabs E (setD fr d ⟨true,.val v⟩) H' ls p ∧ vks E (.opd (⟨i,⟨d,.callv x args,none⟩,ls⟩ :: p) q live :: k) (setD fr d ⟨true,.val v⟩) H' Q) :
  vks E (.opd p (⟨i,⟨d,.callv x args,none⟩,ls⟩ :: q) live :: k) fr H Q := by
 simp only [vks_opd,ev1,gok,gcond,big]
 exact ⟨trivial,fun _ => ⟨h0,h0',R,h1,h⟩,fun e => by cases e⟩
theorem vks_dcall {i f : Nat} {args : List Arg} {ls : List Nat} {p q : List DOp} {R : Value → Hp → Prop} (h0 : allok fr args) (h1 : Fn E.P (E.fn f) (args.map (vo E fr)) H R)
  (h : ∀ v H',R v H' → stabs E (setD fr d ⟨true,.val v⟩) H' ls p ∧ vks E (.opd (⟨i,⟨d,.call f args,none⟩,ls⟩ :: p) q live :: k) (setD fr d ⟨true,.val v⟩) H' Q) :
  vks E (.opd p (⟨i,⟨d,.call f args,none⟩,ls⟩ :: q) live :: k) fr H Q := by
 simp only [vks_opd,ev1,gok,gcond,big]
 exact ⟨trivial,fun _ => ⟨h0,R,h1,h⟩,fun e => by cases e⟩
theorem vks_dbig {i : Nat} {op : BOp} {ls : List Nat} {p q : List DOp} {g : Option (Nat × Bool)} (hop : ∀ x, op ≠ .sim x) (hop' : ∀ f a, op ≠ .callp f a) (h0 : gok fr g)
  (h1 : gcond fr g = true → big E op d fr H (fun fr' H' => stabs E fr' H' ls p ∧ vks E (.opd (⟨i,⟨d,op,g⟩,ls⟩ :: p) q live :: k) fr' H' Q))
  (h2 : gcond fr g = false → stabs E (setD fr d ⟨false,.val undef⟩) H ls p ∧ vks E (.opd (⟨i,⟨d,op,g⟩,ls⟩ :: p) q live :: k) (setD fr d ⟨false,.val undef⟩) H Q) :
  vks E (.opd p (⟨i,⟨d,op,g⟩,ls⟩ :: q) live :: k) fr H Q := by
 simp only [vks_opd,ev1]
 cases op <;> first | exact absurd rfl (hop _) | exact absurd rfl (hop' _ _) | exact ⟨h0,h1,h2⟩
theorem vks_dmksl {i size len : Nat} {zero : List Value} {parts : List (Nat × Nat × Arg)} {ls : List Nat} {p q : List DOp} : vks E (.opd p (⟨i, ⟨d, .mksl size len zero parts, none⟩, ls⟩ :: q) live :: k) fr H Q =
  (fillC E fr zero.length parts ∧ ∀ b,H b = none → stabs E (setD fr d ⟨true,.val (.slice (some ⟨b,0,none⟩) len len)⟩) (H.put b (.row (fillT E fr zero parts) zero.length true)) ls p ∧ vks E (.opd (⟨i,⟨d,.mksl size len zero parts,none⟩,ls⟩ :: p) q live :: k) (setD fr d ⟨true,.val (.slice (some ⟨b,0,none⟩) len len)⟩) (H.put b (.row (fillT E fr zero parts) zero.length true)) Q) := by
 simp [vks_opd,ev1,gok,gcond,big]
theorem FnV_of_Fn {f : Nat} {first cap : Array Value} {args : List Value} {R : Value → Hp → Prop} (he : enters E.P (E.fn f) = true) (h : Fn E.P (E.fn f) (first.toList ++ args ++ cap.toList) H R) :
  FnV E (.func (.func (E.fn f)) first cap) args H R := fun w hw => ⟨he,h w hw⟩
theorem at_pre {l : List Bs} {pre suf : List (List Value)} {x : List Value} (h : pre ++ x :: suf = l.map (fun x => [S x])) :
  pre.length < l.length ∧ x = [S (l.getD pre.length [])] ∧ l.drop pre.length = l.getD pre.length [] :: l.drop (pre.length + 1) := by
 have hlen := congrArg List.length h
 simp only [List.length_append,List.length_cons,List.length_map] at hlen
 have hlt : pre.length < l.length := by omega
 have hx : (pre ++ x :: suf)[pre.length]? = some x := by simp
 rw [h] at hx
 simp only [List.getElem?_map,List.getElem?_eq_getElem hlt,Option.map_some,Option.some.injEq] at hx
 refine ⟨hlt,?_,?_⟩
 ·rw [← hx,List.getD_eq_getElem?_getD,List.getElem?_eq_getElem hlt]; rfl
 ·rw [List.drop_eq_getElem_cons hlt,List.getD_eq_getElem?_getD,List.getElem?_eq_getElem hlt]; rfl
theorem ex_row (a : List Value) (b : Nat) (c : Bool) : (∃ vs cap wr,AObj.row a b c = AObj.row vs cap wr) = True := eq_true ⟨_,_,_,rfl⟩
theorem one1_str (s : ByteArray) : one1 (.string s) = true := rfl
theorem one1_int (k : IntKind) (n : Int) : one1 (.int k n) = true := rfl
theorem one1_bool (b : Bool) : one1 (.bool b) = true := rfl
theorem one1_slice (a : Option Addr) (n c : Nat) : one1 (.slice a n c) = true := rfl
theorem one1_ptr (a : Option Addr) : one1 (.pointer a) = true := rfl
theorem one1_func (f : Go.Fn) (a b : Array Value) : one1 (.func f a b) = true := rfl
theorem one1_map (a : Option Nat) : one1 (.map a) = true := rfl
theorem SlAt.one {sz n : Nat} {v : Value} {row : Nat → List Value} (h : SlAt H sz v n row) : one1 v = true := by
 obtain ⟨a,cap,rfl,_⟩ := h; rfl
theorem simT_pick_f {c a b : Arg} {y : Bool} (hc : vo E fr c = .bool false) (hb : vo E fr b = .bool y) : simT E fr H (.pick c a b) = .val (.bool y) := by
 simp only [simT,hc,hb]
 cases vo E fr a <;> rfl
theorem simT_pick_t {c a b : Arg} {y : Bool} (hc : vo E fr c = .bool true) (ha : vo E fr a = .bool y) : simT E fr H (.pick c a b) = .val (.bool y) := by
 simp only [simT,hc,ha]
 cases vo E fr b <;> rfl
theorem ne_of_none {H : Hp} {b c : Nat} {o : AObj} (hb : H b = some o) (hc : H c = none) : b ≠ c := by rintro rfl; rw [hb] at hc; cases hc
end
end Go.SL
/- Rules: maps with guards, drawn stores. -/
namespace Go.SL
open Go
section
variable {E : Env} {fr : Fr} {H : Hp} {Q : X → Fr → Hp → Prop} {k : List Item} {d : Option Nat} {r : List AOper} {live : List Nat} {κ ν : Type} [DecidableEq κ]
theorem keyS (a b : Bs) : keyEq false [.s] (S a) (S b) = some (decide (a = b)) := by simp [keyEq,scalEq,Bool.beq_eq_decide_eq]
theorem keyI (a b : Int) : keyEq false [.i] (.int .i64 a) (.int .i64 b) = some (decide (a = b)) := by simp [keyEq,scalEq,Bool.beq_eq_decide_eq]
theorem keyP (a b : Pair) : keyEq true [.i, .s] (.agg #[.int .i64 a.1, S a.2]) (.agg #[.int .i64 b.1, S b.2]) = some (decide (a = b)) := by
 simp only [keyEq,aggEq,if_true,allEq,scalEq]
 simp [Prod.ext_iff,Bool.beq_eq_decide_eq]
theorem vks_skipB {op : BOp} {g : Option (Nat × Bool)} (hop : ∀ x, op ≠ .sim x) (hop' : ∀ f a, op ≠ .callp f a) (h0 : gok fr g) (hg : gcond fr g = false)
  (h : vks E (.ops r live :: k) (setD fr d ⟨false,.val undef⟩) H Q) : vks E (.ops (⟨d,op,g⟩ :: r) live :: k) fr H Q := by
 simp only [vks,evs,ev1] at h ⊢
 refine ⟨h0,?_⟩
 cases op <;> first | exact absurd rfl (hop _) | exact absurd rfl (hop' _ _) | exact ⟨fun h => (by rw [hg] at h; cases h),fun _ => h⟩
theorem vks_useB {op : BOp} {g : Option (Nat × Bool)} (hop : ∀ x, op ≠ .sim x) (hop' : ∀ f a, op ≠ .callp f a) (h0 : gok fr g) (hg : gcond fr g = true)
  (h : vks E (.ops (⟨d,op,none⟩ :: r) live :: k) fr H Q) : vks E (.ops (⟨d,op,g⟩ :: r) live :: k) fr H Q := by
 simp only [vks,evs,ev1] at h ⊢
 refine ⟨h0,?_⟩
 have h := h.2
 cases op <;> first | exact absurd rfl (hop _) | exact absurd rfl (hop' _ _) | exact ⟨fun _ => h.1 rfl,fun h => (by rw [hg] at h; cases h)⟩
theorem vks_dst {i n : Nat} {x v : Arg} {ls : List Nat} {p q : List DOp} : vks E (.opd p (⟨i, ⟨d, .st n x v, none⟩, ls⟩ :: q) live :: k) fr H Q =
  (pok fr x ∧ vok fr v ∧ (vo E fr v).cells.toList.length = n ∧ (vo E fr v).cells.toList.all one1 = true ∧
   (match pvo E fr x with
    | .lp s o => (match fr.get s with
     | some ⟨true,.box vs⟩ => o + n ≤ vs.length ∧ stabs E (setD (fr.upb s (splice vs o (vo E fr v).cells.toList)) d ⟨true,.val undef⟩) H ls p ∧ vks E (.opd (⟨i,⟨d,.st n x v,none⟩,ls⟩ :: p) q live :: k) (setD (fr.upb s (splice vs o (vo E fr v).cells.toList)) d ⟨true,.val undef⟩) H Q
     | _ => False)
    | .val (.pointer (some a)) => a.spot = none ∧ (match H a.block with
     | some (.row vs cap true) => a.off + n ≤ vs.length ∧ stabs E (setD fr d ⟨true,.val undef⟩) (H.put a.block (.row (splice vs a.off (vo E fr v).cells.toList) cap true)) ls p ∧ vks E (.opd (⟨i,⟨d,.st n x v,none⟩,ls⟩ :: p) q live :: k) (setD fr d ⟨true,.val undef⟩) (H.put a.block (.row (splice vs a.off (vo E fr v).cells.toList) cap true)) Q
     | _ => False)
    | _ => False)) := by
 simp [vks_opd,ev1,gok,gcond,big]
 all_goals (intros; exact Iff.rfl)
theorem vks_dmk {i size bytes : Nat} {zero : List Value} {l c : Arg} {ls : List Nat} {p q : List DOp} : vks E (.opd p (⟨i, ⟨d, .mk size bytes zero l c, none⟩, ls⟩ :: q) live :: k) fr H Q =
  (vok fr l ∧ vok fr c ∧ (match vo E fr l,vo E fr c with
  | .int _ p', .int _ q' => 0 ≤ p' ∧ p' ≤ q' ∧ bytes * q' ≤ 140737488355328 ∧ q' ≤ 4611686018427387904 ∧
    ∀ b, H b = none → stabs E (setD fr d ⟨true, .val (.slice (some ⟨b, 0, none⟩) p'.toNat q'.toNat)⟩) (H.put b (.row (rep zero p'.toNat) (q'.toNat * size) true)) ls p ∧
     vks E (.opd (⟨i,⟨d,.mk size bytes zero l c,none⟩,ls⟩ :: p) q live :: k) (setD fr d ⟨true,.val (.slice (some ⟨b,0,none⟩) p'.toNat q'.toNat)⟩) (H.put b (.row (rep zero p'.toNat) (q'.toNat * size) true)) Q
  | _,_ => False)) := by
 simp [vks_opd,ev1,gok,gcond,big]
 all_goals (intros; exact Iff.rfl)
end
theorem map_nil {ν : Type} {κ : Type} {H : Hp} {b : Nat} (enc : κ → Value) (encv : ν → Value) : MapAt (H.put b (.obj (.map #[] 0))) b (([] : List (κ × ν)).map fun e => (enc e.1,encv e.2)) := ⟨#[],0,Hp.put_same ..,rfl⟩
theorem rep_getElem? (z : Value) (n i : Nat) : (rep [z] n)[i]? = if i < n then some z else none := by
 induction n generalizing i with
 | zero => simp [rep]
 | succ n ih =>
  simp only [rep,List.singleton_append]
  cases i with
  | zero => simp
  | succ i => simp [ih]
end Go.SL
/- Reads that are skipped: their values do not matter. -/
namespace Go.SL
open Go
def ldV (E : Env) (fr : Fr) (H : Hp) (n : Option Nat) (x : Arg) : Value := match simT E fr H (.ld n x) with
 | .val v => v
 | _ => undef
def idxV (E : Env) (fr : Fr) (H : Hp) (n : Nat) (x i : Arg) : Value := match simT E fr H (.idx n x i) with
 | .val v => v
 | _ => undef
theorem simT_ld_val {E : Env} {fr : Fr} {H : Hp} {n : Option Nat} {x : Arg} : simT E fr H (.ld n x) = .val (ldV E fr H n x) := by
 simp only [ldV,simT]
 cases cellsOfPV fr H (pvo E fr x) <;> rfl
theorem simT_idx_val {E : Env} {fr : Fr} {H : Hp} {n : Nat} {x i : Arg} : simT E fr H (.idx n x i) = .val (idxV E fr H n x i) := by
 simp only [idxV,simT]
 split <;> rfl
end Go.SL
/- Rules: the length of a map; memories with several new blocks; first index. -/
namespace Go.SL
open Go
theorem vks_mlenM {E : Env} {fr : Fr} {H : Hp} {Q : X → Fr → Hp → Prop} {k : List Item} {d : Option Nat} {r : List AOper} {live : List Nat} {m : Arg} {b : Nat} {l : List (Value × Value)} (h1 : vok fr m) (hm : vo E fr m = .map (some b)) (hM : MapAt H b l)
  (h : vks E (.ops r live :: k) (setD fr d ⟨true,.val (.int .i64 l.length)⟩) H Q) : vks E (.ops (⟨d,.mlen m,none⟩ :: r) live :: k) fr H Q := by
 obtain ⟨es,cl,hH,rfl⟩ := hM
 rw [vks_mlen]
 refine ⟨h1,?_⟩
 rw [hm]
 simp only [hH]
 simpa using h
theorem put_swap (H : Hp) {b c : Nat} (o o' p : AObj) (h : b ≠ c) : ((H.put b o).put c p).put b o' = (H.put b o').put c p := by
 funext x
 simp only [Hp.put]
 by_cases h1 : x = b
 ·subst h1; simp [h]
 ·simp [h1]
def firstN (P : Nat → Bool) : Nat → Int
 | 0 => -1
 | n + 1 => if firstN P n ≥ 0 then firstN P n else if P n then n else -1
theorem firstN_iff (P : Nat → Bool) (n : Nat) : firstN P n ≥ 0 ↔ anyN P n = true := by
 induction n with
 | zero => simp [firstN,anyN]
 | succ n ih =>
  have e : anyN P (n + 1) = (anyN P n || P n) := rfl
  have e2 : firstN P (n + 1) = if firstN P n ≥ 0 then firstN P n else if P n then (n : Int) else -1 := rfl
  rw [e,e2,Bool.or_eq_true,← ih]
  by_cases h : firstN P n ≥ 0
  ·rw [if_pos h]; exact ⟨.inl,fun _ => h⟩
  ·rw [if_neg h]
   by_cases hp : P n = true
   ·rw [if_pos hp]; exact ⟨fun _ => .inr hp,fun _ => by omega⟩
   ·rw [if_neg hp]; exact ⟨fun h => absurd h (by omega),fun h' => h'.elim (fun x => absurd x h) (fun x => absurd x hp)⟩
theorem firstN_any (P : Nat → Bool) (n : Nat) : decide (firstN P n ≥ 0) = anyN P n := by
 rw [Bool.eq_iff_iff,decide_eq_true_eq]; exact firstN_iff P n
theorem firstN_stop {P : Nat → Bool} {k n : Nat} (h : firstN P k = -1) (hp : P k = true) (hk : k < n) : firstN P n = k := by
 induction n with
 | zero => omega
 | succ n ih =>
  simp only [firstN]
  by_cases e : k = n
  ·subst e; simp [h,hp]
  ·rw [ih (by omega),if_pos (by omega)]
theorem firstN_next {P : Nat → Bool} {k : Nat} (h : firstN P k = -1) (hp : P k = false) : firstN P (k + 1) = -1 := by simp [firstN,h,hp]
theorem anyN_not {P : Nat → Bool} {n : Nat} : (!anyN (fun i => !P i) n) = allN P n := by
 induction n with
 | zero => rfl
 | succ n ih => simp only [anyN,allN,← ih,Bool.not_or,Bool.not_not]
end Go.SL
/- Appending, cloning. -/
namespace Go.SL
open Go
section
variable {E : Env} {fr : Fr} {H : Hp} {Q : X → Fr → Hp → Prop} {k : List Item} {d : Option Nat} {r : List AOper} {live : List Nat}
theorem vks_appS {size bytes n cap0 b0 capc : Nat} {zero : List Value} {s x : Arg} {vs : List Value} (h1 : vok fr s) (h2 : vok fr x) (h3 : srcOk H size (vo E fr x)) (h4 : (srcCells H size (vo E fr x)).all one1 = true)
  (hs : vo E fr s = .slice (some ⟨b0,0,none⟩) n cap0) (h5 : (n + srcLen (vo E fr x)) * bytes ≤ 140737488355328) (h6 : n + srcLen (vo E fr x) ≤ 4611686018427387904) (hb : H b0 = some (.row vs capc true)) (h7 : vs.length = n * size) (h8 : capc = cap0 * size)
  (h : ∀ b cap,(H.del b0) b = none → vks E (.ops r live :: k) (setD fr d ⟨true,.val (.slice (some ⟨b,0,none⟩) (n + srcLen (vo E fr x)) cap)⟩) ((H.del b0).put b (.row (vs ++ srcCells H size (vo E fr x)) (cap * size) true)) Q) :
  vks E (.ops (⟨d,.app size bytes zero s x,none⟩ :: r) live :: k) fr H Q := by
 simp only [vks,evs,ev1,gok,gcond,big] at h ⊢
 refine ⟨trivial,fun _ => ⟨h1,h2,h3,h4,?_⟩,fun e => by cases e⟩
 simp only [hs,hb]
 exact ⟨h5,h6,h7,h8,h⟩
theorem vks_app0 {size bytes : Nat} {zero : List Value} {s x : Arg} (h1 : vok fr s) (h2 : vok fr x) (h3 : srcOk H size (vo E fr x)) (h4 : (srcCells H size (vo E fr x)).all one1 = true)
  (hs : vo E fr s = .slice none 0 0) (h5 : srcLen (vo E fr x) * bytes ≤ 140737488355328) (h6 : srcLen (vo E fr x) ≤ 4611686018427387904)
  (h7 : srcLen (vo E fr x) = 0 → vks E (.ops r live :: k) (setD fr d ⟨true,.val (.slice none 0 0)⟩) H Q)
  (h : 0 < srcLen (vo E fr x) → ∀ b cap,H b = none → vks E (.ops r live :: k) (setD fr d ⟨true,.val (.slice (some ⟨b,0,none⟩) (srcLen (vo E fr x)) cap)⟩) (H.put b (.row (srcCells H size (vo E fr x)) (cap * size) true)) Q) :
  vks E (.ops (⟨d,.app size bytes zero s x,none⟩ :: r) live :: k) fr H Q := by
 simp only [vks,evs,ev1,gok,gcond,big] at h h7 ⊢
 refine ⟨trivial,fun _ => ⟨h1,h2,h3,h4,?_⟩,fun e => by cases e⟩
 simp only [hs]
 exact ⟨h5,h6,h7,h⟩
end
theorem del_put {H : Hp} {b : Nat} (h : H b = none) (o : AObj) : (H.put b o).del b = H := by
 funext c
 simp only [Hp.del,Hp.put]
 by_cases e : c = b
 ·subst e; simp [h]
 ·simp [e]
def flat (n : Nat) (row : Nat → List Value) : List Value := ((List.range n).map row).flatten
theorem flat_succ (n : Nat) (row : Nat → List Value) : flat (n + 1) row = flat n row ++ row n := by simp [flat,List.range_succ]
theorem flat_len {n sz : Nat} {row : Nat → List Value} (h : ∀ i, i < n → (row i).length = sz) : (flat n row).length = n * sz := by
 induction n with
 | zero => simp [flat]
 | succ n ih =>
  rw [flat_succ,List.length_append,ih (fun i hi => h i (by omega)),h n (by omega),Nat.succ_mul]
theorem flat_at {n sz : Nat} {row : Nat → List Value} (h : ∀ i, i < n → (row i).length = sz) : ∀ i, i < n → ((flat n row).drop (i * sz)).take sz = row i := by
 induction n with
 | zero => intro i hi; omega
 | succ n ih =>
  intro i hi
  rw [flat_succ]
  have hl := flat_len (n := n) (fun i hi => h i (by omega))
  by_cases e : i = n
  ·subst e
   rw [List.drop_append_of_le_length (by omega),List.drop_of_length_le (by omega),List.nil_append,List.take_of_length_le (by rw [h i (by omega)]; omega)]
  ·have hlt : i < n := by omega
   have h1 : i * sz + sz ≤ n * sz := by
    have := Nat.mul_le_mul_right sz (show i + 1 ≤ n by omega)
    rw [Nat.succ_mul] at this; exact this
   rw [List.drop_append_of_le_length (by omega),List.take_append_of_le_length (by rw [List.length_drop]; omega)]
   exact ih (fun i hi => h i (by omega)) i hlt
theorem flat_all {n : Nat} {row : Nat → List Value} (h : ∀ i, i < n → (row i).all one1 = true) : (flat n row).all one1 = true := by
 induction n with
 | zero => simp [flat]
 | succ n ih => rw [flat_succ,List.all_append,ih (fun i hi => h i (by omega)),h n (by omega)]; rfl
theorem chunk_eq {n sz : Nat} {row : Nat → List Value} {cs : List Value} (hl : cs.length = n * sz) (h : ∀ i, i < n → (cs.drop (i * sz)).take sz = row i) : cs = flat n row := by
 induction n generalizing cs with
 | zero => simp at hl; simp [hl,flat]
 | succ n ih =>
  rw [Nat.succ_mul] at hl
  rw [flat_succ,← ih (cs := cs.take (n * sz)) (by rw [List.length_take]; omega),← h n (by omega)]
  ·rw [List.take_of_length_le (l := cs.drop (n * sz)) (by rw [List.length_drop]; omega),List.take_append_drop]
  ·intro i hi
   have h1 : i * sz + sz ≤ n * sz := by
    have := Nat.mul_le_mul_right sz (show i + 1 ≤ n by omega)
    rw [Nat.succ_mul] at this; exact this
   rw [List.drop_take,List.take_take,Nat.min_eq_left (by omega)]
   exact h i (by omega)
theorem SlAt.src {H : Hp} {sz n : Nat} {v : Value} {row : Nat → List Value} (h : SlAt H sz v n row) : srcOk H sz v ∧ srcLen v = n ∧ srcCells H sz v = flat n row := by
 obtain ⟨a,cap,rfl,hs,hr⟩ := h
 cases a with
 | none =>
  have hn : n = 0 := by
   cases n with
   | zero => rfl
   | succ n => obtain ⟨b,o,vs,c,wr,ha,_⟩ := hr (by omega); cases ha
  subst hn
  exact ⟨rfl,rfl,rfl⟩
 | some p =>
  cases n with
  | zero =>
   refine ⟨.inl rfl,rfl,?_⟩
   simp only [srcCells]
   split <;> simp [flat]
  | succ m =>
  obtain ⟨b,o,vs,c',wr',ha,h2,hi⟩ := hr (by omega)
  cases ha
  have hlen : o + (m + 1) * sz ≤ vs.length ∧ ∀ i, i < m + 1 → (vs.drop (o + i * sz)).take sz = row i := by
   have := (hi m (by omega)).1
   refine ⟨by rw [Nat.succ_mul]; omega,fun i h => (hi i h).2⟩
  refine ⟨.inr ⟨rfl,by rw [h2]; exact hlen.1⟩,rfl,?_⟩
  simp only [srcCells,h2]
  apply chunk_eq (sz := sz)
  ·rw [List.length_take,List.length_drop]; omega
  ·intro i hi
   have h1 : i * sz + sz ≤ (m + 1) * sz := by
    have := Nat.mul_le_mul_right sz (show i + 1 ≤ m + 1 by omega)
    rw [Nat.succ_mul] at this; exact this
   rw [List.drop_take,List.take_take,Nat.min_eq_left (by omega),List.drop_drop]
   exact hlen.2 i hi
def Cloned (H : Hp) (sz n : Nat) (row : Nat → List Value) (u : Value) (H' : Hp) : Prop :=
 (u = .slice none 0 0 ∧ n = 0 ∧ H' = H) ∨ ∃ b cap,H b = none ∧ u = .slice (some ⟨b,0,none⟩) n cap ∧ H' = H.put b (.row (flat n row) (cap * sz) true)
theorem Cloned.le {H H' : Hp} {sz n : Nat} {row : Nat → List Value} {u : Value} (h : Cloned H sz n row u H') : H.le H' := by
 rcases h with ⟨_,_,rfl⟩ | ⟨b,cap,hb,_,rfl⟩
 ·exact Hp.le.refl _
 ·exact le_put hb _
theorem SlAt.ofRow {H : Hp} {sz n cap c : Nat} {row : Nat → List Value} {b : Nat} {wr : Bool} (h : ∀ i, i < n → (row i).length = sz) (hb : H b = some (.row (flat n row) c wr)) : SlAt H sz (.slice (some ⟨b, 0, none⟩) n cap) n row := by
 refine ⟨_,_,rfl,(fun h => by cases h),fun _ => ⟨b,0,_,_,_,rfl,hb,fun i hi => ⟨?_,?_⟩⟩⟩
 ·have h1 : i * sz + sz ≤ n * sz := by
   have := Nat.mul_le_mul_right sz (show i + 1 ≤ n by omega)
   rw [Nat.succ_mul] at this; exact this
  rw [flat_len h]; omega
 ·rw [Nat.zero_add]; exact flat_at h i hi
theorem Cloned.at {H H' : Hp} {sz n : Nat} {row : Nat → List Value} {u : Value} (hl : ∀ i, i < n → (row i).length = sz) (h : Cloned H sz n row u H') : SlAt H' sz u n row := by
 rcases h with ⟨rfl,rfl,rfl⟩ | ⟨b,cap,hb,rfl,rfl⟩
 ·exact SlAt.nil
 ·exact SlAt.ofRow hl (Hp.put_same ..)
end Go.SL
