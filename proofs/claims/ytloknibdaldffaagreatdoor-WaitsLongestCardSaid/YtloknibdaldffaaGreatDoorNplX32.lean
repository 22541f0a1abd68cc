/- Contracts: all that was published, and when a cache may use it. -/
import Derived.Test.YtloknibdaldffaaGreatDoorNplX31
import Derived.Test.YtloknibdaldffaaGreatDoorNplX24
import Derived.Lib.ItoaLen
namespace Go.SL
open Go
variable {E : Env} {H : Hp}
theorem flat_add (n m : Nat) (row : Nat → List Value) : flat (n + m) row = flat n row ++ flat m (fun i => row (n + i)) := by
 induction m with
 | zero => simp [flat]
 | succ m ih => rw [← Nat.add_assoc,flat_succ,ih,flat_succ,List.append_assoc]
section
variable {fr : Fr} {Q : X → Fr → Hp → Prop} {k : List Item} {d : Option Nat} {r : List AOper} {live : List Nat}
theorem vks_appR {sz bytes n m : Nat} {zero : List Value} {s x : Arg} {v vx : Value} {row rowx row' : Nat → List Value} {ob : Option Nat} (h1 : vok fr s) (h2 : vok fr x) (hs : vo E fr s = v) (hx : vo E fr x = vx)
  (hX : SlAt H sz vx m rowx) (hX1 : ∀ i,i < m → (rowx i).all one1 = true) (hB : OwnR H sz v n row ob) (hl : ∀ i,i < n → (row i).length = sz) (hr : ∀ i,i < n → row' i = row i) (hrx : ∀ i,i < m → row' (n + i) = rowx i)
  (hn1 : (n + m) * bytes ≤ 140737488355328) (hn2 : n + m ≤ 4611686018427387904)
  (h : ∀ v' H' ob',OwnR H' sz v' (n + m) row' ob' → (∀ c o,H c = some o → some c ≠ ob → H' c = some o) → (∀ b',ob' = some b' → H b' = none ∨ some b' = ob) → vks E (.ops r live :: k) (setD fr d ⟨true,.val v'⟩) H' Q) :
  vks E (.ops (⟨d,.app sz bytes zero s x,none⟩ :: r) live :: k) fr H Q := by
 obtain ⟨e1,e3,e2⟩ := hX.src
 have e4 : (srcCells H sz (vo E fr x)).all one1 = true := by rw [hx,e2]; exact flat_all hX1
 have hfp : flat (n + m) row' = flat n row ++ flat m rowx := by rw [flat_add,flat_congr hr,flat_congr hrx]
 rw [← hx] at e1 e2 e3
 cases ob with
 | none =>
  obtain ⟨rfl,rfl⟩ := hB
  rw [Nat.zero_add] at hn1 hn2
  refine vks_app0 h1 h2 e1 e4 hs (by rw [e3]; exact hn1) (by rw [e3]; exact hn2) (fun h0 => ?_) fun _ b cap hbn => ?_
  ·rw [e3] at h0
   subst h0
   exact h _ _ none ⟨rfl,rfl⟩ (fun c o hc _ => hc) (fun b' hb' => by cases hb')
  ·rw [e2,e3]
   refine h _ _ (some b) ⟨cap,by rw [Nat.zero_add],?_⟩ (fun c o hc _ => le_put hbn _ _ _ hc) (fun b' hb' => by cases hb'; exact .inl hbn)
   rw [Hp.put_same,hfp]; rfl
 | some b0 =>
  obtain ⟨cap,rfl,hH⟩ := hB
  have hfl := flat_len hl
  refine vks_appS h1 h2 e1 e4 hs (by rw [e3]; exact hn1) (by rw [e3]; exact hn2) hH hfl rfl fun b cap' hbn => ?_
  rw [e2,e3]
  refine h _ _ (some b) ⟨cap',rfl,?_⟩ (fun c o hc hne => ?_) (fun b' hb' => ?_)
  ·rw [Hp.put_same,hfp]
  ·have hcb : c ≠ b0 := by rintro rfl; exact hne rfl
   refine le_put hbn _ _ _ ?_
   rw [Hp.del_ne _ hcb]; exact hc
  ·cases hb'
   by_cases e : b = b0
   ·exact .inr (by rw [e])
   ·rw [Hp.del_ne _ e] at hbn; exact .inl hbn
end
def zoneG (cs : List CopyD) (z : Bs) : Groups := (pubG cs z).map fun e => (z,e.2)
def allN' (cs : List CopyD) (zs : List Bs) : Nat → Groups
 | 0 => []
 | k + 1 => allN' cs zs k ++ zoneG cs (zs.getD k [])
def allG (h : HistD) : Groups := allN' h.copies (zonesL h) (zonesL h).length
def heldA (A : Groups) (dv gv fv sv : Nat → Value) (i : Nat) : List Value := rHeld (A.getD i default).1 (A.getD i default).2.1 (dv i) (gv i) (fv i) (sv i)
structure ElOk (d : Int) (e : Bs × (SignedD × List SpanD)) : Prop where
 num : e.2.2.length ≤ 12
 ok : SpOk e.2.2
 till : ∀ sp ∈ e.2.2,sp.till ≤ 10000000
 grow : GrowOk d e.2.1
theorem zoneG_len (cs : List CopyD) (z : Bs) : (zoneG cs z).length = (pubG cs z).length := by simp [zoneG]
theorem zoneG_get {cs : List CopyD} {z : Bs} {i : Nat} (hi : i < (pubG cs z).length) : (zoneG cs z).getD i default = (z, ((pubG cs z).getD i default).2) := by
 unfold zoneG
 simp [hi]
theorem app_get_lt {A B : Groups} {i : Nat} (hi : i < A.length) : (A ++ B).getD i default = A.getD i default := by simp [List.getElem?_append_left hi]
theorem app_get_ge {A B : Groups} {i : Nat} : (A ++ B).getD (A.length + i) default = B.getD i default := by simp [List.getElem?_append_right]
def joinF (n : Nat) (f g : Nat → Value) : Nat → Value := fun i => if i < n then f i else g (i - n)
theorem joinF_lt {n : Nat} {f g : Nat → Value} {i : Nat} (hi : i < n) : joinF n f g i = f i := by unfold joinF; rw [if_pos hi]
theorem joinF_ge {n : Nat} {f g : Nat → Value} {i : Nat} : joinF n f g (n + i) = g i := by unfold joinF; rw [if_neg (by omega),Nat.add_sub_cancel_left]
theorem held_splice7 {A : Groups} {dv gv fv sv : Nat → Value} {n i : Nat} (hi : i < n) (x : Value) : (flat n (heldA A dv gv fv sv)).take (i * 8 + 7) ++ [x] ++ (flat n (heldA A dv gv fv sv)).drop (i * 8 + 7 + 1) = flat n (heldA A dv gv fv (upd1 sv i x)) := by
 rw [flat_splice (sz := 8) (fun _ _ => rfl) hi (by omega)]
 apply flat_congr
 intro j _
 by_cases e : j = i
 ·subst e; simp [heldA,rHeld,upd1]
 ·simp [heldA,rHeld,upd1,e]
theorem unite1_pos {out : List SpanD} {s : SpanD} (ho : ∀ p ∈ out, p.from_ < p.till) (hs : s.from_ < s.till) : ∀ p ∈ unite1 out s, p.from_ < p.till := by
 intro p hp
 unfold unite1 at hp
 split at hp
 ·rename_i q hq
  have hqm : q ∈ out := List.mem_of_getLast? hq
  have hq2 := ho q hqm
  split at hp
  ·rcases List.mem_append.1 hp with h | h
   ·exact ho p (List.dropLast_subset _ h)
   ·simp only [List.mem_singleton] at h
    subst h
    show q.from_ < max q.till s.till
    omega
  ·rcases List.mem_append.1 hp with h | h
   ·exact ho p h
   ·simp only [List.mem_singleton] at h
    subst h; exact hs
 ·simp only [List.mem_singleton] at hp
  subst hp; exact hs
theorem unitedN_pos {l : List SpanD} (hl : ∀ p ∈ l, p.from_ < p.till) : ∀ k, k ≤ l.length → ∀ p ∈ unitedN l k, p.from_ < p.till
 | 0,_,p,h => by cases h
 | k + 1,hk,p,h => unite1_pos (unitedN_pos hl k (by omega)) (hl _ (getD_mem (by omega))) p h
theorem normalL_pos {l : List SpanD} {p : SpanD} (h : p ∈ normalL l) : p.from_ < p.till :=
 unitedN_pos (fun _q hq => (siftL_mem.1 (sortL_mem.1 hq)).2) _ (Nat.le_refl _) p h
theorem normalL_len (l : List SpanD) : (normalL l).length ≤ l.length := by
 have h1 := unitedN_len (sortL (siftL l)) (sortL (siftL l)).length
 have h2 := sift_len l
 have h3 : (sortL (siftL l)).length = (siftL l).length := sortN_len _ _ _
 unfold normalL unitedL
 omega
structure ZonesOk (h : HistD) : Prop where
 name : ∀ z ∈ zonesL h,nameValid z = true
 idx : ∀ z ∈ zonesL h,pubIdx h.copies z ≠ []
 el : ∀ z ∈ zonesL h,∀ e ∈ pubG h.copies z,ElOk h.drift e
 num : (zonesL h).length ≤ 12
 size : ∀ z ∈ zonesL h,(pubG h.copies z).length ≤ 1200
theorem allN'_len {h : HistD} (hz : ZonesOk h) : ∀ k, k ≤ (zonesL h).length → (allN' h.copies (zonesL h) k).length ≤ k * 1200
 | 0,_ => by simp [allN']
 | k + 1, hk => by
  have h1 := allN'_len hz k (by omega)
  have h2 := hz.size _ (getD_memS (show k < (zonesL h).length by omega))
  simp only [allN',List.length_append,zoneG_len,Nat.succ_mul]; omega
theorem allN'_el {h : HistD} (hz : ZonesOk h) : ∀ k, k ≤ (zonesL h).length → ∀ e ∈ allN' h.copies (zonesL h) k, ElOk h.drift e
 | 0,_,e,he => by simp [allN'] at he
 | k + 1, hk, e, he => by
  simp only [allN'] at he
  rcases List.mem_append.1 he with he | he
  ·exact allN'_el hz k (by omega) e he
  ·unfold zoneG at he
   obtain ⟨e',he',rfl⟩ := List.mem_map.1 he
   have := hz.el _ (getD_memS (show k < (zonesL h).length by omega)) e' he'
   exact ⟨this.num,this.ok,this.till,this.grow⟩
set_option maxRecDepth 4000 in
set_option maxHeartbeats 8000000 in
theorem fn139 (hE : Codes E) (h2 : Codes2 E) (h3 : Codes3 E) (L : Lib3 E) (hB : Base E H) (hB2 : Base2 E H) {v : Value} {h : HistD} (hh : HistAt H v h) (hn : h.copies.length ≤ 12)
  (hsz : histValid h = true → PubSz h.copies) (hzo : histValid h = true → ZonesOk h) :
  Fn E.P (E.fn 139) [v] H (fun u H' => H.le H' ∧ (histValid h = false → u = .tuple #[.slice none 0 0, .int .i64 1]) ∧
   (histValid h = true → ∃ vo dv gv fv sv, u = .tuple #[vo, .int .i64 0] ∧ SlAt H' 8 vo (allG h).length (heldA (allG h) dv gv fv sv) ∧
    ∀ i, i < (allG h).length → DataAt H' (dv i) ((allG h).getD i default).2.1.data ∧ SigsAt H' (gv i) ((allG h).getD i default).2.1.sigs ∧ SpansAt H' (fv i) (normalL ((allG h).getD i default).2.2) ∧
     SpansAt H' (sv i) (usedL h.drift ((allG h).getD i default).2.1 (normalL ((allG h).getD i default).2.2)))) := by
 have fz := fn124 hE h2 h3 hB hh hn
 have hh' := hh
 obtain ⟨vh,vz,vd,vi,rfl,g1,g2,g3,g5⟩ := hh
 have o1 := SlAt.one g1
 have o2 := g2.one
 have o3 := SlAt.one g3
 have o5 := SlAt.one g5
 refine Fn.of_vks h3.c139 (by simp [cf139]) ?_
 simp only [cf139,cf139_0,cf139_1,cf139_2,cf139_3,cf139_4,cf139_5,cf139_6,cf139_7,cf139_8,cf139_9,cf139_10,cf139_11,cf139_12,cf139_13,cf139_14,cf139_15,cf139_16,cf139_17,cf139_18,cf139_19,cf139_20]
 simp only [go_sem,Nat.reduceEqDiff,Nat.reduceBEq,Nat.reduceAdd,reduceCtorEq]
 refine vks_call (by simp only [go_sem,Nat.reduceEqDiff]) fz ?_
 rintro u H1 ⟨hle1,hbad,hgood⟩
 cases hv : histValid h
 ·rw [hbad hv]
  simp only [go_sem,Nat.reduceLT,Nat.reduceEqDiff,Nat.reduceBEq,Nat.reduceAdd,binO,bne,Int.reduceBEq]
  exact hle1
 obtain ⟨vzl,hu,hzl⟩ := hgood hv
 subst hu
 have hzo' := hzo hv
 clear hbad hgood
 obtain ⟨za,zc,hzv⟩ := hzl.sl
 subst hzv
 simp only [go_sem,Nat.reduceLT,Nat.reduceEqDiff,Nat.reduceBEq,Nat.reduceAdd,binO,bne]
 obtain ⟨zs,hzs⟩ : ∃ zs,zs = zonesL h := ⟨_,rfl⟩
 have hAlen := fun k hk => allN'_len hzo' k hk
 have hAel := fun k hk => allN'_el hzo' k hk
 have hznum := hzo'.num
 have hall : allG h = allN' h.copies (zonesL h) (zonesL h).length := rfl
 rw [← hzs] at hzl hAlen hAel hznum hall
 rw [hall,← hzs]
 have hzmem : ∀ k,k < zs.length → zs.getD k [] ∈ zonesL h := fun k hk => by rw [← hzs]; exact getD_memS hk
 refine vks_loopP zs.length 0 (fun k fr' H' => ∃ K u ob dv gv fv, fr' = [(1, ⟨true, .box [vh, vz, S h.aname, .int .i64 h.atype, .int .i64 h.alife, vd, vi, .int .i64 h.drift, .int .i64 h.end_]⟩), (6, ⟨true, .val u⟩), (21, ⟨true, .val (.slice za zs.length zc)⟩), (22, ⟨true, .val (.int .i64 zs.length)⟩), (23, ⟨true, .val (.int .i64 k)⟩)] ∧
  H1.le K ∧ K.le H' ∧ (∀ b, ob = some b → K b = none) ∧ OwnR H' 8 u (allN' h.copies zs k).length (heldA (allN' h.copies zs k) dv gv fv (fun _ => .slice none 0 0)) ob ∧
   ∀ i,i < (allN' h.copies zs k).length → DataAt K (dv i) ((allN' h.copies zs k).getD i default).2.1.data ∧ SigsAt K (gv i) ((allN' h.copies zs k).getD i default).2.1.sigs ∧ SpansAt K (fv i) (normalL ((allN' h.copies zs k).getD i default).2.2)) (Nat.zero_le _)
  ⟨H1,_,none,fun _ => undef,fun _ => undef,fun _ => undef,rfl,Hp.le.refl _,Hp.le.refl _,(fun b hb => by cases hb),⟨rfl,rfl⟩,(fun i hi => by cases hi)⟩ ?_
 rintro k fr' H' hk ⟨K,u,ob,dv,gv,fv,rfl,hK1,hKH,hobn,hown,hdat⟩
 obtain ⟨ua,uc,hua⟩ := hown.sl
 by_cases hlt : k < zs.length
 ·have hdk : decide ((k : Int) < (zs.length : Int)) = true := by simpa using hlt
  obtain ⟨b,o,c,cap,vs,wr,hsl,hb,hrow,hvl⟩ := (hzl.mono (hK1.trans hKH)).str hlt
  cases hsl
  have hg := getD_of_take (j := 0) hrow (by omega)
  rw [Nat.mul_one,Nat.add_zero,List.getD_cons_zero] at hg
  rw [Nat.mul_one] at hvl
  have hzk := hzmem k hlt
  have hnext : allN' h.copies zs (k + 1) = allN' h.copies zs k ++ zoneG h.copies (zs.getD k []) := rfl
  have hl1 := hAlen (k + 1) (by omega)
  have hks : IntKind.i64.wrap ((k : Int) + 1) = ((k + 1 : Nat) : Int) := wrapS (by omega)
  obtain ⟨zn,hzn⟩ : ∃ z,z = zs.getD k [] := ⟨_,rfl⟩
  rw [← hzn] at hg hzk hnext
  have hgl := zoneG_len h.copies zn
  rw [hnext,List.length_append,hgl] at hl1
  obtain ⟨A,hA⟩ : ∃ A,A = allN' h.copies zs k := ⟨_,rfl⟩
  rw [← hA] at hown hdat hnext hl1
  have hnm := hzo'.name zn hzk
  have hcall := (fn130 hE h2 h3 L (hB.mono (hle1.trans hK1)) (hB2.mono (hle1.trans hK1)) (hh'.mono (hle1.trans hK1)) zn hn hsz (fun _ e he => ⟨(hzo'.el zn hzk e he).num,(hzo'.el zn hzk e he).ok⟩)).frame hKH
  simp only [hdk,hb,hg,Nat.mul_one,go_sem,Nat.reduceEqDiff,Nat.reduceBEq,Nat.reduceAdd,binO]
  refine ⟨⟨by omega,by omega⟩,by omega,?_⟩
  refine vks_call (by simp only [go_sem,Nat.reduceEqDiff]) hcall ?_
  rintro w H2 ⟨K2,⟨k2,_,_,hpub⟩,k2le,kfr⟩
  obtain ⟨vo,dv',gv',fv',hw,hsl2,hel⟩ := hpub (by rw [hv,hnm]; rfl) (hzo'.idx zn hzk)
  subst hw
  obtain ⟨oa,oc,hvo⟩ := hsl2.sl
  have hkob : ∀ b, ob = some b → K2 b = none ∧ H2 b = H' b := fun b hb => by
   cases hq : H' b with
   | none => subst hb; exact absurd hq hown.some_at
   | some o => exact ⟨(kfr b o hq (hobn b hb)).1,(kfr b o hq (hobn b hb)).2⟩
  have hown2 := hown.keep fun b hb => (hkob b hb).2
  simp only [hvo,hua,go_sem,Nat.reduceLT,Nat.reduceEqDiff,Nat.reduceBEq,Nat.reduceAdd,binO,bne]
  rw [hvo] at hsl2
  rw [hua] at hown2
  refine vks_appR (n := A.length) (m := (pubG h.copies zn).length) (row := heldA A dv gv fv (fun _ => .slice none 0 0)) (rowx := heldRow zn (pubG h.copies zn) dv' gv' fv') (row' := heldA (A ++ zoneG h.copies zn) (joinF A.length dv dv') (joinF A.length gv gv') (joinF A.length fv fv') (fun _ => .slice none 0 0)) ?_ ?_ ?_ ?_ (hsl2.mono k2le) ?_ hown2 (fun _ _ => rfl) ?_ ?_ (by omega) (by omega) ?_
  ·simp only [go_sem,Nat.reduceEqDiff]
  ·simp only [go_sem,Nat.reduceEqDiff]
  ·simp only [go_sem,Nat.reduceEqDiff]
  ·simp only [go_sem,Nat.reduceEqDiff]
  ·intro i hi
   have q1 := SlAt.one (hel i hi).1
   have q2 := SlAt.one (hel i hi).2.1
   have q3 := SlAt.one (hel i hi).2.2
   simp only [heldRow,rHeld,q1,q2,q3,go_sem]
  ·intro i hi
   unfold heldA
   rw [app_get_lt hi,joinF_lt hi,joinF_lt hi,joinF_lt hi]
  ·intro i hi
   unfold heldA heldRow
   rw [app_get_ge,joinF_ge,joinF_ge,joinF_ge,zoneG_get hi]
  intro v' H3 ob' hO3 hkeep hnew
  obtain ⟨va,vc,hv'⟩ := hO3.sl
  subst hv'
  have e20 : decide (((A.length + (pubG h.copies zn).length : Nat) : Int) > 20000) = false := by rw [decide_eq_false_iff_not]; omega
  simp only [e20,go_sem,Nat.reduceEqDiff,Nat.reduceBEq,binO]
  refine ⟨hlt,K2,_,ob',joinF A.length dv dv',joinF A.length gv gv',joinF A.length fv fv',⟨rfl,hks⟩,hK1.trans k2,fun c o hc => hkeep c o (k2le c o hc) (fun e => by rw [(hkob c e.symm).1] at hc; cases hc),fun b hb => ?_,?_,?_⟩
  ·rcases hnew b hb with hx | hx
   ·cases hq : K2 b with
    | none => rfl
    | some o => rw [k2le b o hq] at hx; cases hx
   ·exact (hkob b hx.symm).1
  ·rw [hnext,List.length_append,hgl]; exact hO3
  ·rw [hnext,List.length_append,hgl]
   intro i hi
   by_cases hi1 : i < A.length
   ·rw [app_get_lt hi1,joinF_lt hi1,joinF_lt hi1,joinF_lt hi1]
    have hdi := hdat i hi1
    exact ⟨DataAt.mono hdi.1 k2,SigsAt.mono hdi.2.1 k2,SlAt.mono hdi.2.2 k2⟩
   ·obtain ⟨j,rfl⟩ : ∃ j,i = A.length + j := ⟨i - A.length,by omega⟩
    have hj : j < (pubG h.copies zn).length := by omega
    rw [app_get_ge,joinF_ge,joinF_ge,joinF_ge,zoneG_get hj]
    exact hel j hj
 ·have hdk : decide ((k : Int) < (zs.length : Int)) = false := by simpa using hlt
  have : k = zs.length := by omega
  subst this
  have hl1 := hAlen zs.length (Nat.le_refl _)
  have hel1 := hAel zs.length (Nat.le_refl _)
  obtain ⟨A,hA⟩ : ∃ A,A = allN' h.copies zs zs.length := ⟨_,rfl⟩
  rw [← hA] at hown hdat hl1 hel1 hua
  rw [← hA]
  subst hua
  simp only [hdk,go_sem,Nat.reduceEqDiff,Nat.reduceBEq,binO]
  refine vks_loopP A.length 0 (fun k fr' HX => fr' = [(1, ⟨true, .box [vh, vz, S h.aname, .int .i64 h.atype, .int .i64 h.alife, vd, vi, .int .i64 h.drift, .int .i64 h.end_]⟩), (6, ⟨true, .val (.slice ua A.length uc)⟩), (43, ⟨true, .val (.slice ua A.length uc)⟩), (44, ⟨true, .val (.int .i64 A.length)⟩), (45, ⟨true, .val (.int .i64 k)⟩)] ∧
   ∃ K4 sv, K.le K4 ∧ K4.le HX ∧ (∀ b, ob = some b → K4 b = none) ∧ OwnR HX 8 (.slice ua A.length uc) A.length (heldA A dv gv fv (fun i => if i < k then sv i else .slice none 0 0)) ob ∧
    ∀ i,i < k → SpansAt K4 (sv i) (usedL h.drift (A.getD i default).2.1 (normalL (A.getD i default).2.2))) (Nat.zero_le _)
   ⟨rfl,K,fun _ => .slice none 0 0,Hp.le.refl _,hKH,hobn,hown.row_congr (fun i _ => by unfold heldA; simp),(fun i hi => by cases hi)⟩ ?_
  rintro k fr' HX hk2 ⟨rfl,K4,sv,k4,k4le,k4ob,hownX,hspX⟩
  by_cases hlt2 : k < A.length
  ·have hdk2 : decide ((k : Int) < (A.length : Int)) = true := by simpa using hlt2
   obtain ⟨b0, cap, hob, hve, hHb0⟩ : ∃ b0 cap, ob = some b0 ∧ Value.slice ua A.length uc = .slice (some ⟨b0, 0, none⟩) A.length cap ∧ HX b0 = some (.row (flat A.length (heldA A dv gv fv (fun i => if i < k then sv i else .slice none 0 0))) (cap * 8) true) := by
    cases hobb : ob with
    | none => rw [hobb] at hownX; have := hownX.2; omega
    | some b0 =>
     rw [hobb] at hownX
     obtain ⟨cap,h1,h2⟩ := hownX
     exact ⟨b0,cap,rfl,h1,h2⟩
   have hat := flat_at (n := A.length) (sz := 8) (row := heldA A dv gv fv (fun i => if i < k then sv i else .slice none 0 0)) (fun _ _ => rfl) k hlt2
   have hfl8 := flat_len (n := A.length) (sz := 8) (row := heldA A dv gv fv (fun i => if i < k then sv i else .slice none 0 0)) (fun _ _ => rfl)
   have hspl := fun x => held_splice7 (A := A) (dv := dv) (gv := gv) (fv := fv) (sv := fun i => if i < k then sv i else .slice none 0 0) hlt2 x
   have hself : (if k < k then sv k else Value.slice none 0 0) = .slice none 0 0 := if_neg (Nat.lt_irrefl k)
   obtain ⟨FL,hFL⟩ : ∃ y,y = flat A.length (heldA A dv gv fv (fun i => if i < k then sv i else .slice none 0 0)) := ⟨_,rfl⟩
   rw [← hFL] at hHb0 hat hfl8 hspl
   have hdi := hdat k hlt2
   have hee := hel1 _ (getD_mem hlt2)
   have hks : IntKind.i64.wrap ((k : Int) + 1) = ((k + 1 : Nat) : Int) := wrapS (by omega)
   simp only [heldA,rHeld,hself] at hat
   have q1 := SlAt.one hdi.1
   have q2 := SlAt.one hdi.2.1
   have q3 := SlAt.one hdi.2.2
   have hb8 : k * 8 + 8 ≤ FL.length := by omega
   have hb7 : k * 8 + 7 + 1 ≤ FL.length := by omega
   have hnl : (normalL (A.getD k default).2.2).length ≤ 12 := Nat.le_trans (normalL_len _) hee.num
   have hnb : ∀ sp ∈ normalL (A.getD k default).2.2, 0 ≤ sp.from_ ∧ sp.from_ ≤ sp.till ∧ sp.till ≤ 10000000 := by
    intro sp hsp
    obtain ⟨⟨s1,hs1,_,e1⟩,s2,hs2,_,e2⟩ := normalL_sub hsp
    have p1 := normalL_pos hsp
    have p2 := hee.till s1 hs1
    have p3 := (hee.ok s2 hs2).1
    omega
   have hcall := (fn138 hE h2 h3 (H := K4) (zn := (A.getD k default).1) (dv := dv k) (sv := .slice none 0 0) hee.grow (SigsAt.mono hdi.2.1 k4) (SlAt.mono hdi.2.2 k4) hnl hnb q1 rfl).frame k4le
   rw [hve]
   simp only [hdk2,hHb0,hat,q1,q2,q3,hb8,toNat_ofNat',go_sem,Nat.reduceLeDiff,Nat.reduceEqDiff,Nat.reduceBEq,Nat.reduceAdd,binO]
   refine ⟨⟨by omega,by omega⟩,?_⟩
   refine vks_call (by simp only [go_sem,Nat.reduceEqDiff]) hcall ?_
   rintro w H2 ⟨K5,⟨ob2,q4,q5,q6⟩,k5le,kfr⟩
   obtain ⟨wa,wc,hw⟩ := q4.sl
   subst hw
   have yb := kfr b0 _ hHb0 (k4ob b0 hob)
   have y0 := yb.2
   have hspl' := hspl (.slice wa (usedL h.drift (A.getD k default).2.1 (normalL (A.getD k default).2.2)).length wc)
   simp only [y0,hspl',hb7,toNat_ofNat',go_sem,Nat.reduceEqDiff,Nat.reduceBEq,binO]
   have hrow : ∀ i, heldA A dv gv fv (upd1 (fun i => if i < k then sv i else .slice none 0 0) k (.slice wa (usedL h.drift (A.getD k default).2.1 (normalL (A.getD k default).2.2)).length wc)) i = heldA A dv gv fv (fun i => if i < k + 1 then upd1 sv k (.slice wa (usedL h.drift (A.getD k default).2.1 (normalL (A.getD k default).2.2)).length wc) i else .slice none 0 0) i := by
    intro i
    unfold heldA upd1
    by_cases e : i = k
    ·subst e; simp
    ·by_cases e2 : i < k
     ·simp [e,e2,show i < k + 1 by omega]
     ·simp [e,e2,show ¬ i < k + 1 by omega]
   refine ⟨⟨by omega,by omega⟩,hlt2,hks,K5,upd1 sv k (.slice wa (usedL h.drift (A.getD k default).2.1 (normalL (A.getD k default).2.2)).length wc),k4.trans q5,le_put_of_le k5le yb.1 _,?_,?_,?_⟩
   ·intro b hb
    rw [hob] at hb; cases hb
    exact yb.1
   ·rw [hob]
    refine ⟨cap,rfl,?_⟩
    rw [Hp.put_same]
    congr 2
    exact flat_congr fun i _ => hrow i
   ·intro i hi
    by_cases e : i = k
    ·subst e
     simp only [upd1,if_true]
     exact q4.at
    ·simp only [upd1,if_neg e]
     exact SlAt.mono (hspX i (by omega)) q5
  ·have hdk2 : decide ((k : Int) < (A.length : Int)) = false := by simpa using hlt2
   have : k = A.length := by omega
   subst this
   simp only [hdk2,go_sem,Nat.reduceEqDiff,Nat.reduceBEq,Nat.reduceAdd,binO]
   refine ⟨hle1.trans (hK1.trans (k4.trans k4le)),_,dv,gv,fv,sv,rfl,?_,?_⟩
   ·refine SlAt.row_congr (OwnR.at hownX (fun _ _ => rfl)) fun i hi => ?_
    unfold heldA
    simp only [if_pos hi]
   ·intro i hi
    have hdi := hdat i hi
    exact ⟨DataAt.mono hdi.1 (k4.trans k4le),SigsAt.mono hdi.2.1 (k4.trans k4le),SlAt.mono hdi.2.2 (k4.trans k4le),SlAt.mono (hspX i hi) k4le⟩
end Go.SL
/- Plain laws: the sets of a valid zone differ; what a zone of a valid history publishes. -/
namespace Go.SL
open Go
theorem bl_irrefl : ∀ x : Bs, Op.bytesLess x x = false
 | [] => rfl
 | a :: x => by simp [Op.bytesLess,bl_irrefl x]
theorem bl_trans : ∀ {x y z : Bs}, Op.bytesLess x y = true → Op.bytesLess y z = true → Op.bytesLess x z = true
 | _,[],_,h1,_ => by simp [Op.bytesLess] at h1
 | [],_ :: _,[],_,h2 => by simp [Op.bytesLess] at h2
 | [],_ :: _,_ :: _,_,_ => rfl
 | _ :: _,_ :: _,[],_,h2 => by simp [Op.bytesLess] at h2
 | a :: x, b :: y, c :: z, h1, h2 => by
  simp only [Op.bytesLess,Bool.or_eq_true,Bool.and_eq_true,decide_eq_true_eq,beq_iff_eq] at h1 h2 ⊢
  rcases h1 with h1 | ⟨rfl,h1⟩
  ·rcases h2 with h2 | ⟨rfl,h2⟩
   ·exact .inl (UInt8.lt_trans h1 h2)
   ·exact .inl h1
  ·rcases h2 with h2 | ⟨rfl,h2⟩
   ·exact .inl h2
   ·exact .inr ⟨rfl,bl_trans h1 h2⟩
theorem cmpBs_zero {x y : Bs} : cmpBs x y = 0 ↔ x = y := by
 unfold cmpBs
 constructor
 ·intro h
  split at h
  ·cases h
  ·split at h
   ·assumption
   ·cases h
 ·rintro rfl
  rw [bl_irrefl,if_neg (by simp),if_pos rfl]
theorem cmpBs_lt {x y : Bs} : cmpBs x y < 0 ↔ Op.bytesLess x y = true := by
 unfold cmpBs
 constructor
 ·intro h
  split at h
  ·assumption
  ·split at h <;> omega
 ·intro h
  rw [if_pos h]; omega
theorem cmpL_cons (x : Bs) (r : List Bs) (y : Bs) (r' : List Bs) : cmpL (x :: r) (y :: r') = if cmpBs x y ≠ 0 then cmpBs x y else cmpL r r' := rfl
theorem cmpL_trans : ∀ {x y z : List Bs}, cmpL x y < 0 → cmpL y z < 0 → cmpL x z < 0
 | [],_,_,_,_ => by simp [cmpL]
 | _ :: _,[],_,h1,_ => by simp [cmpL] at h1
 | _ :: _,_ :: _,[],_,h2 => by simp [cmpL] at h2
 | a :: x, b :: y, c :: z, h1, h2 => by
  rw [cmpL_cons] at h1 h2 ⊢
  by_cases e1 : cmpBs a b = 0
  ·have := cmpBs_zero.1 e1
   subst this
   rw [if_neg (by simpa using e1)] at h1
   by_cases e2 : cmpBs a c = 0
   ·rw [if_neg (by simpa using e2)] at h2 ⊢
    exact cmpL_trans h1 h2
   ·rw [if_pos e2] at h2 ⊢
    exact h2
  ·rw [if_pos e1] at h1
   have l1 := cmpBs_lt.1 h1
   by_cases e2 : cmpBs b c = 0
   ·have := cmpBs_zero.1 e2
    subst this
    rw [if_pos e1]; exact h1
   ·rw [if_pos e2] at h2
    have l3 := cmpBs_lt.2 (bl_trans l1 (cmpBs_lt.1 h2))
    rw [if_pos (by omega)]; exact l3
theorem cmpL_asymm : ∀ {x y : List Bs}, cmpL x y < 0 → cmpL y x < 0 → x = y
 | [],[],_,_ => rfl
 | [],_ :: _,_,h2 => by simp [cmpL] at h2
 | _ :: _,[],h1,_ => by simp [cmpL] at h1
 | a :: x, b :: y, h1, h2 => by
  rw [cmpL_cons] at h1 h2
  by_cases e1 : cmpBs a b = 0
  ·have := cmpBs_zero.1 e1
   subst this
   rw [if_neg (by simpa using e1)] at h1 h2
   rw [cmpL_asymm h1 h2]
  ·exfalso
   rw [if_pos e1] at h1
   have e2 : cmpBs b a ≠ 0 := fun h => e1 (cmpBs_zero.2 (cmpBs_zero.1 h).symm)
   rw [if_pos e2] at h2
   have := bl_trans (cmpBs_lt.1 h1) (cmpBs_lt.1 h2)
   rw [bl_irrefl] at this; cases this
theorem lastIx_split {l : Bs} {i : Nat} (h : lastIx 46 l = some i) : l = l.take i ++ 46 :: l.drop (i + 1) := by
 have hl := lastIx_lt h
 have hg : l.getD i 0 = 46 := by
  unfold lastIx at h
  have : ∀ k, lastIxN 46 l k = some i → l.getD i 0 = 46 := by
   intro k
   induction k with
   | zero => intro h; cases h
   | succ k ih =>
    intro h
    simp only [lastIxN] at h
    split at h
    ·cases h; assumption
    ·exact ih h
  exact this _ h
 have e : l[i] = 46 := by rw [List.getD_eq_getElem?_getD,List.getElem?_eq_getElem hl] at hg; exact hg
 rw [← e,← List.drop_eq_getElem_cons hl,List.take_append_drop]
theorem labF_ne (n : Nat) (l : Bs) (h : 0 < n) : labF n l ≠ [] := by
 cases n with
 | zero => omega
 | succ n => simp only [labF]; split <;> simp
theorem labF_inj : ∀ (n m : Nat) (l l' : Bs), l.length < n → l'.length < m → labF n l = labF m l' → l = l'
 | 0,_,_,_,h,_,_ => by omega
 | _,0,_,_,_,h,_ => by omega
 | n + 1, m + 1, l, l', hn, hm, h => by
  simp only [labF] at h
  cases e1 : lastIx 46 l with
  | none =>
   rw [e1] at h
   cases e2 : lastIx 46 l' with
   | none => rw [e2] at h; simpa using h
   | some j =>
    rw [e2] at h
    exfalso
    have hj := lastIx_lt e2
    have := labF_ne m (l'.take j) (by omega)
    simp only [List.cons.injEq] at h
    exact this h.2.symm
  | some i =>
   rw [e1] at h
   have hi := lastIx_lt e1
   cases e2 : lastIx 46 l' with
   | none =>
    rw [e2] at h
    exfalso
    have := labF_ne n (l.take i) (by omega)
    simp only [List.cons.injEq] at h
    exact this h.2
   | some j =>
    rw [e2] at h
    have hj := lastIx_lt e2
    simp only [List.cons.injEq] at h
    have ih := labF_inj n m (l.take i) (l'.take j) (by rw [List.length_take]; omega) (by rw [List.length_take]; omega) h.2
    rw [lastIx_split e1,lastIx_split e2,ih,h.1]
theorem labs_inj {a b : Bs} (h : labs a = labs b) : a = b := by
 unfold labs at h
 split at h
 ·rename_i e1
  split at h
  ·rename_i e2; rw [e1,e2]
  ·exact absurd h.symm (labF_ne _ _ (by omega))
 ·split at h
  ·exact absurd h (labF_ne _ _ (by omega))
  ·exact labF_inj _ _ _ _ (by omega) (by omega) h
def Before (s t : SignedD) : Prop := (s.name = t.name ∧ s.type < t.type) ∨ (s.name ≠ t.name ∧ cmpL (labs s.name) (labs t.name) < 0)
theorem Before.trans {a b c : SignedD} (h1 : Before a b) (h2 : Before b c) : Before a c := by
 rcases h1 with ⟨e1,t1⟩ | ⟨n1,l1⟩
 ·rcases h2 with ⟨e2,t2⟩ | ⟨n2,l2⟩
  ·exact .inl ⟨e1.trans e2,by omega⟩
  ·exact .inr (by rw [e1]; exact ⟨n2,l2⟩)
 ·rcases h2 with ⟨e2,t2⟩ | ⟨n2,l2⟩
  ·exact .inr (by rw [← e2]; exact ⟨n1,l1⟩)
  ·refine .inr ⟨fun e => n1 ?_,cmpL_trans l1 l2⟩
   rw [← e] at l2
   exact labs_inj (cmpL_asymm l1 l2)
theorem zone_ordered {apex : Bs} {ss : List SignedD} (h : zoneValid apex ss = true) : ∀ j i, i < j → j < ss.length → Before (ss.getD i default) (ss.getD j default) := by
 unfold zoneValid at h
 simp only [Bool.and_eq_true] at h
 obtain ⟨⟨⟨⟨⟨h1,_⟩,_⟩,_⟩,_⟩,_⟩ := h
 unfold orderedB at h1
 simp only [Bool.and_eq_true] at h1
 have hadj : ∀ j, j + 1 < ss.length → Before (ss.getD j default) (ss.getD (j + 1) default) := by
  intro j hj
  have hj1 := allN_iff.1 h1.2 (j + 1) hj
  have hj0 := allN_iff.1 h1.2 j (by omega)
  simp only [Bool.and_eq_true,sAt,Nat.add_sub_cancel] at hj1 hj0
  have hn1 := (recValid_parts hj1.1.1).1
  have hn0 := (recValid_parts hj0.1.1).1
  have hc := hj1.2
  simp only [Bool.or_eq_true,Bool.not_eq_true',decide_eq_false_iff_not,beq_iff_eq] at hc
  have hc' : ¬ cmpPl (ss.getD j default).name (ss.getD j default).type (ss.getD (j + 1) default).name (ss.getD (j + 1) default).type ≥ 0 := by
   rcases hc with hc | hc
   ·omega
   ·exact hc
  unfold cmpPl at hc'
  split at hc'
  ·rename_i e
   refine .inl ⟨e,?_⟩
   unfold cmpInt at hc'
   split at hc'
   ·assumption
   ·split at hc' <;> omega
  ·rename_i e
   refine .inr ⟨e,?_⟩
   unfold nameCmp at hc'
   rw [hn0,hn1,Bool.and_self,if_pos rfl,if_neg e] at hc'
   omega
 intro j
 induction j with
 | zero => intro i hi; omega
 | succ j ih =>
  intro i hi hj
  by_cases e : i = j
  ·subst e; exact hadj i hj
  ·exact (ih i (by omega) (by omega)).trans (hadj j hj)
def TextsDiffer (ss : List SignedD) : Prop := ∀ j i,i < j → j < ss.length → textOf (ss.getD i default) ≠ textOf (ss.getD j default)
theorem zone_texts {apex : Bs} {ss : List SignedD} (h : zoneValid apex ss = true) : TextsDiffer ss := by
 intro j i hij hj e
 have hb := zone_ordered h j i hij hj
 have g1 := (zone_good h _ (getD_mem (show i < ss.length by omega))).plain
 have g2 := (zone_good h _ (getD_mem hj)).plain
 have hs := textOf_inj g1 g2 e
 rw [hs] at hb
 rcases hb with ⟨_,h⟩ | ⟨h,_⟩
 ·omega
 ·exact h rfl
theorem pubSets_sp1 {sp : SpanD} {G : Groups} {ss : List SignedD} {N : Nat} (hd : TextsDiffer ss) (h : SpB G N) : ∀ k, k ≤ ss.length →
  ∀ e ∈ pubSets sp G ss k,e.2.2.length ≤ N + 1 ∧ ((∀ i,i < k → e.1 ≠ textOf (ss.getD i default)) → e.2.2.length ≤ N)
 | 0,_,e,he => ⟨Nat.le_succ_of_le (h e he),fun _ => h e he⟩
 | k + 1, hk, e, he => by
  simp only [pubSets] at he
  unfold pubStep at he
  rcases mem_mput he with rfl | he
  ·refine ⟨?_,fun hn => absurd rfl (hn k (by omega))⟩
   cases hg : mget (textOf (ss.getD k default)) (pubSets sp G ss k) with
   | none => simp
   | some e0 =>
    have := (pubSets_sp1 hd h k (by omega) _ (mget_mem hg)).2 (fun i hi => (hd k i hi (by omega)).symm)
    simp only [List.length_append,List.length_cons,List.length_nil] at this ⊢
    omega
  ·have ih := pubSets_sp1 hd h k (by omega) e he
   exact ⟨ih.1,fun hn => ih.2 fun i hi => hn i (by omega)⟩
theorem pubL_sp1 {fs : List CopyD} (hd : ∀ c ∈ fs, TextsDiffer c.sets) : ∀ m, m ≤ fs.length → SpB (pubL fs m) m
 | 0,_ => fun e he => by simp [pubL] at he
 | m + 1,hm => fun e he => (pubSets_sp1 (hd _ (getD_mem (by omega))) (pubL_sp1 hd m (by omega)) _ (Nat.le_refl _) e he).1
theorem mem_pubFs {cs : List CopyD} {z : Bs} {c : CopyD} : c ∈ pubFs cs z → c ∈ cs ∧ c.apex = z := by
 intro h
 unfold pubFs pubIdx fidx at h
 obtain ⟨i,hi,rfl⟩ := List.mem_map.1 h
 have h1 := List.mem_filter.1 hi
 exact ⟨getD_mem (List.mem_range.1 h1.1),by simpa using h1.2⟩
theorem apexesC_mem (cs : List CopyD) (x : Bs) : ∀ k, x ∈ (apexesC cs k).map (·.1) ↔ ∃ i, i < k ∧ (cs.getD i default).apex = x
 | 0 => by simp [apexesC,keysN]
 | k + 1 => by
  have ih := apexesC_mem cs x k
  have hk : ∀ l : List (Bs × Bool), x ∈ (mput (cs.getD k default).apex true l).map (·.1) ↔ x = (cs.getD k default).apex ∨ x ∈ l.map (·.1) := by
   intro l
   induction l with
   | nil => simp [mput]
   | cons e r ih =>
    obtain ⟨k',u⟩ := e
    simp only [mput]
    split
    ·rename_i he; subst he; simp
    ·simp only [List.map_cons,List.mem_cons,ih]
     constructor
     ·rintro (h | h | h)
      ·exact .inr (.inl h)
      ·exact .inl h
      ·exact .inr (.inr h)
     ·rintro (h | h | h)
      ·exact .inr (.inl h)
      ·exact .inl h
      ·exact .inr (.inr h)
  show x ∈ (mput (cs.getD k default).apex true (apexesC cs k)).map (·.1) ↔ _
  rw [hk,ih]
  constructor
  ·rintro (h | ⟨i,hi,h⟩)
   ·exact ⟨k,by omega,h.symm⟩
   ·exact ⟨i,by omega,h⟩
  ·rintro ⟨i,hi,h⟩
   by_cases e : i = k
   ·subst e; exact .inl h.symm
   ·exact .inr ⟨i,by omega,h⟩
theorem mem_zonesL {h : HistD} {z : Bs} : z ∈ zonesL h ↔ ∃ i, i < h.copies.length ∧ (h.copies.getD i default).apex = z := by
 unfold zonesL
 rw [(sortN_perm (lt := ltName) (apxL h).length (apxL h) (Nat.le_refl _)).mem_iff]
 exact apexesC_mem h.copies z h.copies.length
theorem zone_apexName {apex : Bs} {ss : List SignedD} (h : zoneValid apex ss = true) : nameValid apex = true := by
 unfold zoneValid at h
 simp only [Bool.and_eq_true] at h
 obtain ⟨⟨⟨⟨⟨h1,_⟩,_⟩,_⟩,_⟩,_⟩ := h
 unfold orderedB at h1
 simp only [Bool.and_eq_true] at h1
 have := h1.1
 simp only [Bool.not_eq_true',Bool.or_eq_false_iff,Bool.not_eq_false'] at this
 exact this.1.1
structure SmallC (cs : List CopyD) : Prop where
 num : cs.length ≤ 12
 sets : ∀ c ∈ cs,c.sets.length ≤ 100
theorem zonesOk_of {h : HistD} (hv : histValid h = true) (hs : SmallC h.copies) : ZonesOk h := by
 have hk := histValid_iff.1 hv
 have hfl : ∀ z, (pubFs h.copies z).length ≤ 12 := fun z => by
  rw [pubFs_len]
  have h1 : (pubIdx h.copies z).length ≤ (List.range h.copies.length).length := List.length_filter_le _ _
  rw [List.length_range] at h1
  have := hs.num
  omega
 refine ⟨fun z hz => ?_,fun z hz => ?_,fun z hz e he => ?_,?_,fun z hz => ?_⟩
 ·obtain ⟨i,hi,rfl⟩ := mem_zonesL.1 hz
  exact zone_apexName (hk.copy _ (getD_mem hi)).2.2.2.2.2
 ·obtain ⟨i,hi,rfl⟩ := mem_zonesL.1 hz
  intro hnil
  have : i ∈ pubIdx h.copies (h.copies.getD i default).apex := by
   unfold pubIdx fidx
   exact List.mem_filter.2 ⟨List.mem_range.2 hi,by simp⟩
  rw [hnil] at this; cases this
 ·have hinv := pubL_inv (pubFs h.copies z) _ (Nat.le_refl _)
  have hsp := pubL_sp1 (fs := pubFs h.copies z) (fun c hc => zone_texts (hk.copy c (mem_pubFs hc).1).2.2.2.2.2) _ (Nat.le_refl _) e he
  have hspan : ∀ sp ∈ e.2.2, 0 ≤ sp.from_ ∧ sp.from_ ≤ sp.till ∧ sp.till ≤ 10000000 := by
   intro sp hsp
   obtain ⟨c,hc,rfl,_⟩ := hinv.spans e he sp hsp
   have h1 := hk.copy c (mem_pubFs hc).1
   have h2 := hk.end2
   unfold spanOf
   exact ⟨h1.2.2.1,by simp only; omega,by simp only; omega⟩
  refine ⟨Nat.le_trans hsp (hfl z),fun sp hm => ?_,fun sp hm => (hspan sp hm).2.2,?_⟩
  ·have := hspan sp hm; exact ⟨this.1,this.2.1,by omega⟩
  ·obtain ⟨c,hc,hm⟩ := hinv.set e he
   exact (zone_good (hk.copy c (mem_pubFs hc).1).2.2.2.2.2 _ hm).grow hk.drift1 hk.drift2
 ·have : (zonesL h).length = (apxL h).length := sortN_len _ _ _
  have h2 := apexesC_len h.copies h.copies.length
  have h3 : (apxL h).length = (apexesC h.copies h.copies.length).length := by unfold apxL; simp
  have := hs.num
  omega
 ·have := pubL_len (B := 100) (fs := pubFs h.copies z) (fun i hi => hs.sets _ (mem_pubFs (getD_mem hi)).1) _ (Nat.le_refl _)
  have h2 := hfl z
  unfold pubG
  omega
end Go.SL
/- Plain laws: ranges of a valid zone's numbers; what the copies of one zone publish. -/
namespace Go.SL
open Go
theorem rule_bounds : ∀ k : Nat, 0 ≤ (rules.getD k default).leastN ∧ (rules.getD k default).mostN ≤ 1000000 ∧ 0 ≤ (rules.getD k default).leastM ∧ (rules.getD k default).mostM ≤ 1000000 := by
 intro k
 rcases Nat.lt_or_ge k 9 with h | h
 ·have : k = 0 ∨ k = 1 ∨ k = 2 ∨ k = 3 ∨ k = 4 ∨ k = 5 ∨ k = 6 ∨ k = 7 ∨ k = 8 := by omega
  rcases this with rfl | rfl | rfl | rfl | rfl | rfl | rfl | rfl | rfl <;> decide
 ·have : rules.getD k default = default := by rw [List.getD_eq_getElem?_getD,List.getElem?_eq_none (show rules.length ≤ k from h)]; rfl
  rw [this]; decide
theorem nameValid_le60 {l : Bs} (h : nameValid l = true) : l.length ≤ 60 := by
 unfold nameValid at h
 simp only [Bool.or_eq_true,Bool.and_eq_true,decide_eq_true_eq,beq_iff_eq] at h
 rcases h with rfl | h
 ·simp
 ·exact h.1
theorem textOk_len {k : Int} {s : Bs} (h : textOk k s = true) : s.length ≤ 60 := by
 unfold textOk at h
 split at h
 ·simp only [Bool.and_eq_true] at h; exact nameValid_le60 h.1
 ·split at h
  ·exact nameValid_le60 h
  ·split at h
   ·unfold isFreeB withinI at h
    simp only [Bool.and_eq_true,Bool.not_eq_true',Bool.or_eq_false_iff,Bool.not_eq_false',decide_eq_true_eq] at h
    have := h.1.1.1.2
    omega
   ·have : s = [] := by simpa using h
    subst this; simp
theorem validDatum_rng {k : Nat} {d : DatumD} (h : validDatum (rules.getD k default) d = true) : 0 ≤ d.n ∧ d.n ≤ 1000000 ∧ 0 ≤ d.m ∧ d.m ≤ 1000000 ∧ d.text.length ≤ 60 := by
 unfold validDatum withinI at h
 simp only [Bool.and_eq_true,Bool.not_eq_true',Bool.or_eq_false_iff,Bool.not_eq_false',decide_eq_true_eq] at h
 have hb := rule_bounds k
 have ht := textOk_len h.2
 obtain ⟨⟨⟨⟨h1,h2⟩,h3,h4⟩,_⟩,_⟩ := h
 refine ⟨by omega,by omega,by omega,by omega,ht⟩
theorem itoa_len {n : Int} (h0 : -1000000000 ≤ n) (h1 : n ≤ 1000000000) : (Lib.itoa n).length ≤ 21 := Lib.itoa_length_le n (by omega) (by omega)
theorem itoa_u64 {n : Int} (h0 : 0 ≤ n) (h1 : n ≤ 18446744073709551615) : (Lib.itoa n).length ≤ 21 := by
 obtain ⟨u,rfl⟩ : ∃ u : Nat,n = u := ⟨n.toNat,by omega⟩
 rw [Lib.itoa_nonneg,Lib.decDigits_length]
 have := Lib.nDigits_le20 u (by omega)
 omega
theorem flatMap_len {α : Type} (f : α → Bs) {B : Nat} : ∀ (l : List α), (∀ x ∈ l, (f x).length ≤ B) → (l.flatMap f).length ≤ l.length * B
 | [],_ => by simp
 | x :: r, h => by
  have h1 := h x List.mem_cons_self
  have h2 := flatMap_len f r fun y hy => h y (List.mem_cons_of_mem _ hy)
  simp only [List.flatMap_cons,List.length_append,List.length_cons,Nat.succ_mul]
  omega
theorem putT_len {w : Bs} {ns : List Int} (h : ∀ n ∈ ns, (Lib.itoa n).length ≤ 21) : (putT w ns).length ≤ w.length + ns.length * 22 + 1 := by
 have := flatMap_len (fun n => (47 : UInt8) :: Lib.itoa n) (B := 22) ns fun n hn => by have := h n hn; simp; omega
 unfold putT
 simp only [List.length_append,List.length_cons,List.length_nil]
 omega
def SumsOk (ss : List SignedD) : Prop := ∀ s ∈ ss,∀ g ∈ s.sigs,0 ≤ g.sum ∧ g.sum ≤ 18446744073709551615
theorem zone_rng {apex : Bs} {ss : List SignedD} (h : zoneValid apex ss = true) (hs : SumsOk ss) : ∀ s ∈ ss, RngS s := by
 intro s hsm
 have hap := zone_apexName h
 unfold zoneValid at h
 simp only [Bool.and_eq_true] at h
 obtain ⟨⟨⟨⟨⟨h1,_⟩,_⟩,_⟩,_⟩,h6⟩ := h
 obtain ⟨i,hi,e⟩ := mem_getD hsm
 unfold orderedB at h1
 simp only [Bool.and_eq_true] at h1
 have hi1 := allN_iff.1 h1.2 i hi
 simp only [Bool.and_eq_true,sAt,e] at hi1
 have hr := hi1.1.1
 unfold recValid withinI at hr
 simp only [Bool.and_eq_true,decide_eq_true_eq] at hr
 obtain ⟨⟨⟨⟨⟨⟨r1,r2⟩,r3⟩,r4⟩,_⟩,_⟩,r5⟩ := hr
 have hdat : ∀ d ∈ s.data, 0 ≤ d.n ∧ d.n ≤ 1000000 ∧ 0 ≤ d.m ∧ d.m ≤ 1000000 ∧ d.text.length ≤ 60 := by
  intro d hd
  obtain ⟨j,hj,ej⟩ := mem_getD hd
  have := allN_iff.1 r5 j hj
  simp only [Bool.and_eq_true,ej] at this
  exact validDatum_rng this.1
 unfold formB at h6
 have hi6 := allN_iff.1 h6 i hi
 simp only [sAt,e,inFormB,Bool.and_eq_true,decide_eq_true_eq] at hi6
 have hsig : ∀ g ∈ s.sigs, g.zone.length ≤ 60 ∧ 1 ≤ g.key ∧ g.key ≤ 1000000 ∧ 1 ≤ g.alg ∧ g.alg ≤ 3 ∧ 0 ≤ g.from_ ∧ g.from_ ≤ g.till ∧ g.till ≤ 20000000 := by
  intro g hg
  obtain ⟨j,hj,ej⟩ := mem_getD hg
  have := allN_iff.1 hi6.2 j hj
  simp only [sigOk,ej,Bool.and_eq_true,Bool.not_eq_true',Bool.or_eq_false_iff,decide_eq_false_iff_not,bne_eq_false_iff_eq] at this
  obtain ⟨⟨⟨⟨⟨⟨hz,k1⟩,k2⟩,k3⟩,k4⟩,⟨⟨h1,h2⟩,h3⟩⟩,_⟩ := this
  refine ⟨?_,by omega,by omega,by omega,by omega,by omega,by omega,by omega⟩
  rw [hz]; exact nameValid_le60 hap
 have hnl := nameValid_le60 r1
 refine ⟨⟨by omega,by omega⟩,⟨by omega,by omega⟩,fun d hd => ?_,fun g hg => ?_,by omega,by omega,?_⟩
 ·have := hdat d hd
  exact ⟨⟨by omega,by omega⟩,by omega,by omega⟩
 ·have h2 := hsig g hg
  have h3 := hs s hsm g hg
  exact ⟨⟨by omega,by omega⟩,⟨by omega,by omega⟩,⟨by omega,by omega⟩,⟨by omega,by omega⟩,h3.1,h3.2⟩
 ·have t1 := putT_len (w := s.name) (ns := [s.type, s.life, s.data.length]) (by
   intro n hn
   simp only [List.mem_cons,List.not_mem_nil,or_false] at hn
   rcases hn with rfl | rfl | rfl
   ·exact itoa_len (by omega) (by omega)
   ·exact itoa_len (by omega) (by omega)
   ·exact itoa_len (by omega) (by omega))
  have t2 := flatMap_len textD (B := 200) s.data fun d hd => by
   have h2 := hdat d hd
   have := putT_len (w := d.text) (ns := [d.n, d.m]) (by
    intro n hn
    simp only [List.mem_cons,List.not_mem_nil,or_false] at hn
    rcases hn with rfl | rfl
    ·exact itoa_len (by omega) (by omega)
    ·exact itoa_len (by omega) (by omega))
   unfold textD
   simp only [List.length_cons,List.length_nil] at this
   omega
  have t3 := flatMap_len textG (B := 300) s.sigs fun g hg => by
   have h2 := hsig g hg
   have h3 := hs s hsm g hg
   have u1 := putT_len (w := g.zone) (ns := [g.key, g.alg, g.from_, g.till]) (by
    intro n hn
    simp only [List.mem_cons,List.not_mem_nil,or_false] at hn
    rcases hn with rfl | rfl | rfl | rfl
    ·exact itoa_len (by omega) (by omega)
    ·exact itoa_len (by omega) (by omega)
    ·exact itoa_len (by omega) (by omega)
    ·exact itoa_len (by omega) (by omega))
   have u2 := putT_len (w := Lib.itoa g.sum) (ns := []) (by intro n hn; cases hn)
   have u3 := itoa_u64 h3.1 h3.2
   unfold textG
   simp only [List.length_cons,List.length_nil,List.length_append] at u1 u2 ⊢
   omega
  unfold textOf
  simp only [List.length_cons,List.length_nil,List.length_append] at t1 ⊢
  omega
theorem pubSz_of {h : HistD} (hv : histValid h = true) (hs : SmallC h.copies) (hq : ∀ c ∈ h.copies, SumsOk c.sets) : PubSz h.copies := by
 have hk := histValid_iff.1 hv
 exact ⟨hs.num,fun i hi => Nat.le_trans (hs.sets _ (getD_mem hi)) (by omega),fun i hi => zone_rng (hk.copy _ (getD_mem hi)).2.2.2.2.2 (hq _ (getD_mem hi))⟩
theorem mem_allN' {cs : List CopyD} {zs : List Bs} {e : Bs × (SignedD × List SpanD)} : ∀ k, e ∈ allN' cs zs k ↔ ∃ i, i < k ∧ e ∈ zoneG cs (zs.getD i [])
 | 0 => by simp [allN']
 | k + 1 => by
  simp only [allN',List.mem_append,mem_allN' k]
  constructor
  ·rintro (⟨i,hi,h⟩ | h)
   ·exact ⟨i,by omega,h⟩
   ·exact ⟨k,by omega,h⟩
  ·rintro ⟨i,hi,h⟩
   by_cases e : i = k
   ·subst e; exact .inr h
   ·exact .inl ⟨i,by omega,h⟩
theorem pubFs_all {cs : List CopyD} {z : Bs} (h : ∀ c ∈ cs, c.apex = z) : pubFs cs z = cs := by
 have hi : pubIdx cs z = List.range cs.length := by
  unfold pubIdx fidx
  refine List.filter_eq_self.2 fun i hi => ?_
  have := h _ (getD_mem (List.mem_range.1 hi))
  simpa using this
 unfold pubFs
 rw [hi]
 apply List.ext_getElem?
 intro i
 by_cases hl : i < cs.length
 ·simp [hl]
 ·simp [hl]
theorem short_all {h : HistD} {z : Bs} (hc : ∀ c ∈ h.copies, c.apex = z) :
  (∀ e ∈ allG h,∃ e0 ∈ pubL h.copies h.copies.length,e.2 = e0.2) ∧ ∀ e0 ∈ pubL h.copies h.copies.length,∃ e ∈ allG h,e.2 = e0.2 := by
 have hG : pubG h.copies z = pubL h.copies h.copies.length := by unfold pubG; rw [pubFs_all hc]
 refine ⟨fun e he => ?_,fun e0 he0 => ?_⟩
 ·obtain ⟨i,hi,he⟩ := (mem_allN' _).1 he
  have hzi := getD_memS hi
  obtain ⟨j,hj,hje⟩ := mem_zonesL.1 hzi
  have : (zonesL h).getD i [] = z := by rw [← hje]; exact hc _ (getD_mem hj)
  rw [this] at he
  unfold zoneG at he
  obtain ⟨e0,he0,rfl⟩ := List.mem_map.1 he
  rw [hG] at he0
  exact ⟨e0,he0,rfl⟩
 ·have hne : h.copies ≠ [] := by
   intro e; rw [e] at he0; cases he0
  have hpos : 0 < h.copies.length := List.length_pos_iff.2 hne
  have hz : z ∈ zonesL h := mem_zonesL.2 ⟨0,hpos,hc _ (getD_mem hpos)⟩
  obtain ⟨i,hi,hie⟩ := List.getElem_of_mem hz
  have hg : (zonesL h).getD i [] = z := by rw [List.getD_eq_getElem?_getD,List.getElem?_eq_getElem hi]; exact hie
  refine ⟨(z,e0.2),(mem_allN' _).2 ⟨i,hi,?_⟩,rfl⟩
  rw [hg]
  unfold zoneG
  rw [hG]
  exact List.mem_map.2 ⟨e0,he0,rfl⟩
end Go.SL
