/- Contracts: the reference's cuts. -/
import Derived.Test.YtloknibdaldffaaGreatDoorNplX18
namespace Go.SL
open Go
variable {E : Env} {H : Hp}
theorem rS_left (L : List Bs) (x : Bs) (i : Nat) (hi : i < L.length) : rS (L ++ [x]) i = rS L i := by
 simp [rS,List.getElem?_append_left hi]
theorem rS_right (L : List Bs) (x : Bs) : rS (L ++ [x]) L.length = [S x] := by simp [rS]
theorem own_le {H' H3 : Hp} {bs : Nat} {p : AObj} {ob : Option Nat} (hle : H.le H') (hbs : H' bs = none) (hob : ∀ b, ob = some b → H b = none) (hkeep : ∀ c o, (H'.put bs p) c = some o → some c ≠ ob → H3 c = some o) : H.le H3 :=
 fun c o hc => hkeep c o (le_put hbs _ _ _ (hle _ _ hc)) (fun e => by rw [hob c e.symm] at hc; cases hc)
theorem own_new {H' : Hp} {bs b' : Nat} {p : AObj} {ob : Option Nat} (hle : H.le H') (hbs : H' bs = none) (hob : ∀ b, ob = some b → H b = none) (h : (H'.put bs p) b' = none ∨ some b' = ob) : ∀ b, some b' = some b → H b = none := by
 intro b2 e
 cases e
 rcases h with h | h
 ·cases hq : H b' with
  | none => rfl
  | some o => rw [le_put hbs _ _ _ (hle _ _ hq)] at h; cases h
 ·exact hob b' h.symm
def StrsO (H : Hp) (v : Value) (l : List Bs) (ob : Option Nat) : Prop := OwnR H 1 v l.length (rS l) ob
theorem StrsO.at {v : Value} {l : List Bs} {ob : Option Nat} (h : StrsO H v l ob) : SlAt H 1 v l.length (rS l) := OwnR.at h fun _ _ => rfl
theorem StrsO.sl {v : Value} {l : List Bs} {ob : Option Nat} (h : StrsO H v l ob) : ∃ a c,v = .slice a l.length c := OwnR.sl h
def rcutsN (apex : Bs) (ss : List SignedD) : Nat → List Bs
 | 0 => []
 | k + 1 => if (sD ss k).type == 2 && !((sD ss k).name == apex) then rcutsN apex ss k ++ [(sD ss k).name] else rcutsN apex ss k
theorem rcutsN_len (apex : Bs) (ss : List SignedD) : ∀ k, (rcutsN apex ss k).length ≤ k
 | 0 => Nat.le_refl _
 | k + 1 => by
  have ih := rcutsN_len apex ss k
  simp only [rcutsN]
  split
  ·simp; omega
  ·omega
def rCuts (apex : Bs) (ss : List SignedD) : List Bs := rcutsN apex ss ss.length
set_option maxHeartbeats 1000000 in
theorem fn214 (h4 : Codes4 E) (apex : Bs) {v : Value} {ss : List SignedD} (hss : SetsAt H v ss) (hn : ss.length ≤ 1000000000) :
  Fn E.P (E.fn 214) [.agg #[S apex,v]] H (fun u H' => ∃ ob,StrsO H' u (rCuts apex ss) ob ∧ H.le H' ∧ ∀ b,ob = some b → H b = none) := by
 obtain ⟨d,g,⟨a,cap,rfl,hsp,hr⟩,hdeep⟩ := hss
 refine Fn.of_vks h4.c214 (by simp [cf214]) ?_
 simp only [cf214,cf214_0,cf214_1,cf214_2,cf214_3,cf214_5,cf214_6,cf214_7,cf214_4,cf214_8]
 simp only [go_sem,Nat.reduceEqDiff,Nat.reduceBEq,reduceCtorEq]
 refine vks_loopP ss.length 0 (fun k fr' H' => ∃ u ob, fr' = [(1, ⟨true, .box [S apex, .slice a ss.length cap]⟩), (3, ⟨true, .val u⟩), (4, ⟨true, .val (.int .i64 k)⟩)] ∧
  StrsO H' u (rcutsN apex ss k) ob ∧ H.le H' ∧ ∀ b,ob = some b → H b = none) (Nat.zero_le _) ⟨_,none,rfl,⟨rfl,rfl⟩,Hp.le.refl _,fun b h => by cases h⟩ ?_
 rintro k fr' H' hk ⟨u,ob,rfl,hO,hle,hob⟩
 by_cases hlt : k < ss.length
 ·have hdl : decide ((k : Int) < (ss.length : Int)) = true := by simpa using hlt
  obtain ⟨b,o,vs,c,wr,ha,hb,hi⟩ := hr (by omega)
  subst ha
  have hb1 := hle _ _ hb
  have hi1 := (hi k hlt).1
  have hi2 := take_of_take (hi k hlt).2 0 4 (by omega)
  have hd1 := SlAt.one (hdeep k hlt).1
  have hsucc : rcutsN apex ss (k + 1) = if (sD ss k).type == 2 && !((sD ss k).name == apex) then rcutsN apex ss k ++ [(sD ss k).name] else rcutsN apex ss k := rfl
  have hlen := rcutsN_len apex ss k
  obtain ⟨s,hs⟩ : ∃ s,s = sD ss k := ⟨_,rfl⟩
  obtain ⟨L,hL⟩ : ∃ L,L = rcutsN apex ss k := ⟨_,rfl⟩
  have hs' : ss.getD k default = s := hs.symm
  rw [← hs,← hL] at hsucc
  rw [← hL] at hO hlen
  obtain ⟨au,cu,hu⟩ := hO.sl
  simp only [rSigned,hs',List.drop_zero,List.take_succ_cons,List.take_zero,Nat.add_zero] at hi2
  simp only [hdl,hb1,hi2,hd1,go_sem,Nat.reduceLeDiff,Nat.reduceEqDiff,Nat.reduceBEq,Nat.reduceAdd,binO]
  refine ⟨⟨by omega,by omega⟩,by omega,fun h => ⟨h,h⟩,fun hc => ?_,fun hc => ?_⟩
  ·rw [hc,if_pos rfl] at hsucc
   intro bs hbs
   refine vks_pushR (n := L.length) (row := rS L) (row' := rS (L ++ [s.name])) (cells := [S s.name]) ?_ ?_ ?_ ?_ (Hp.put_same ..) rfl rfl (OwnR.put hO hbs) (fun _ _ => rfl) (rS_left L _) (rS_right L _) (by omega) (by omega) ?_
   ·simp only [go_sem,Nat.reduceEqDiff]
   ·simp only [go_sem,Nat.reduceEqDiff]
   ·simp only [go_sem,Nat.reduceEqDiff]
   ·simp only [go_sem,Nat.reduceEqDiff]
   intro v' H3 b' hO3 hkeep hb'
   simp only [go_sem,Nat.reduceEqDiff,Nat.reduceBEq,binO]
   refine ⟨hlt,v',some b',⟨rfl,wrapS (by omega)⟩,?_,own_le hle hbs hob hkeep,own_new hle hbs hob hb'⟩
   rw [hsucc]
   show OwnR _ _ _ (L ++ [s.name]).length _ _
   rw [List.length_append]; exact hO3
  ·rw [hc] at hsucc
   exact ⟨hlt,u,ob,⟨rfl,wrapS (by omega)⟩,by rw [hsucc]; exact hO,hle,hob⟩
 ·have hdl : decide ((k : Int) < (ss.length : Int)) = false := by simpa using hlt
  have : k = ss.length := by omega
  subst this
  simp only [hdl,go_sem,Nat.reduceEqDiff,Nat.reduceBEq,Nat.reduceAdd,binO]
  exact ⟨ob,hO,hle,hob⟩
def highN (C : List Bs) : Nat → List Bs
 | 0 => []
 | k + 1 => if (highN C k).length == 0 || !rIn (C.getD k []) ((highN C k).getD ((highN C k).length - 1) []) then highN C k ++ [C.getD k []] else highN C k
theorem highN_len (C : List Bs) : ∀ k, (highN C k).length ≤ k
 | 0 => Nat.le_refl _
 | k + 1 => by
  have ih := highN_len C k
  simp only [highN]
  split
  ·simp; omega
  ·omega
theorem highN_mem (C : List Bs) : ∀ k, k ≤ C.length → ∀ x ∈ highN C k, x ∈ C
 | 0,_,x,h => by simp [highN] at h
 | k + 1, hk, x, h => by
  have ih := highN_mem C k (by omega)
  have hm : C.getD k [] ∈ C := by rw [List.getD_eq_getElem?_getD,List.getElem?_eq_getElem (by omega)]; exact List.getElem_mem _
  simp only [highN] at h
  split at h
  ·rcases List.mem_append.1 h with h | h
   ·exact ih x h
   ·simp at h; subst h; exact hm
  ·exact ih x h
def rHigh (apex : Bs) (ss : List SignedD) : List Bs := highN (rCuts apex ss) (rCuts apex ss).length
theorem rcutsN_small {apex : Bs} {ss : List SignedD} (hz : SzS ss) : ∀ k, k ≤ ss.length → ∀ x ∈ rcutsN apex ss k, x.length ≤ 1000000
 | 0,_,x,h => by simp [rcutsN] at h
 | k + 1, hk, x, h => by
  have ih := rcutsN_small (apex := apex) hz k (by omega)
  simp only [rcutsN] at h
  split at h
  ·rcases List.mem_append.1 h with h | h
   ·exact ih x h
   ·simp only [List.mem_singleton] at h; subst h; exact hz.at (by omega)
  ·exact ih x h
theorem getD_memS {l : List Bs} {k : Nat} (h : k < l.length) : l.getD k [] ∈ l := by
 rw [List.getD_eq_getElem?_getD,List.getElem?_eq_getElem h]; exact List.getElem_mem _
set_option maxHeartbeats 1000000 in
theorem fn213 (h4 : Codes4 E) (apex : Bs) {v : Value} {ss : List SignedD} (hss : SetsAt H v ss) (hn : ss.length ≤ 1000000000) (hz : SzS ss) :
  Fn E.P (E.fn 213) [.agg #[S apex,v]] H (fun u H' => ∃ ob,StrsO H' u (rHigh apex ss) ob ∧ H.le H' ∧ ∀ b,ob = some b → H b = none) := by
 have hcut := fn214 h4 apex hss hn
 obtain ⟨d,g,⟨a,cap,rfl,hsp,hr⟩,hdeep⟩ := hss
 refine Fn.of_vks h4.c213 (by simp [cf213]) ?_
 simp only [cf213,cf213_0,cf213_1,cf213_2,cf213_3,cf213_4,cf213_6,cf213_7,cf213_5,cf213_8]
 simp only [go_sem,Nat.reduceBEq,Nat.reduceAdd,reduceCtorEq]
 refine vks_call ?_ hcut ?_
 ·simp only [go_sem,Nat.reduceEqDiff]
 rintro w H1 ⟨ob1,hO1,hle1,hob1⟩
 have hC := hO1.at
 obtain ⟨a1,c1,rfl⟩ := hO1.sl
 unfold rHigh
 have hCs := rcutsN_small (apex := apex) hz ss.length (Nat.le_refl _)
 have hCl := rcutsN_len apex ss ss.length
 obtain ⟨C,hCC⟩ : ∃ C,C = rCuts apex ss := ⟨_,rfl⟩
 change ∀ x ∈ rCuts apex ss,_ at hCs
 change (rCuts apex ss).length ≤ _ at hCl
 rw [← hCC] at hC hCs hCl ⊢
 simp only [go_sem,Nat.reduceEqDiff,Nat.reduceBEq]
 refine vks_loopP C.length 0 (fun k fr' H' => ∃ u ob, fr' = [(3, ⟨true, .val (.slice a1 C.length c1)⟩), (4, ⟨true, .val u⟩), (5, ⟨true, .val (.int .i64 k)⟩)] ∧
  StrsO H' u (highN C k) ob ∧ H1.le H' ∧ ∀ b,ob = some b → H1 b = none) (Nat.zero_le _) ⟨_,none,rfl,⟨rfl,rfl⟩,Hp.le.refl _,fun b h => by cases h⟩ ?_
 rintro k fr' H' hk ⟨u,ob,rfl,hO,hle,hob⟩
 by_cases hlt : k < C.length
 ·have hdl : decide ((k : Int) < (C.length : Int)) = true := by simpa using hlt
  have hsucc : highN C (k + 1) = if (highN C k).length == 0 || !rIn (C.getD k []) ((highN C k).getD ((highN C k).length - 1) []) then highN C k ++ [C.getD k []] else highN C k := rfl
  have hlen := highN_len C k
  have hmem := highN_mem C k hk
  obtain ⟨L,hL⟩ : ∃ L,L = highN C k := ⟨_,rfl⟩
  rw [← hL] at hsucc hO hlen hmem
  have hat := hO.at
  obtain ⟨au,cu,rfl⟩ := hO.sl
  obtain ⟨b,o,c,cap2,vs,wr,hsl,hb,hv,hvl⟩ := (hC.mono hle).str hlt
  cases hsl
  have hg := getD_of_take (j := 0) hv (by omega)
  rw [Nat.mul_one,Nat.add_zero,List.getD_cons_zero] at hg
  rw [Nat.mul_one] at hvl
  have hxs := hCs _ (getD_memS hlt)
  obtain ⟨x,hx⟩ : ∃ x,x = C.getD k [] := ⟨_,rfl⟩
  rw [← hx] at hsucc hg hxs
  by_cases h0 : L.length = 0
  ·have e0 : ((L.length : Int) == 0) = true := by rw [beq_iff_eq]; omega
   have e0' : (L.length == 0) = true := by simpa using h0
   rw [e0',Bool.true_or,if_pos rfl] at hsucc
   simp only [hdl,e0,↓simT_idx_val,↓simT_ld_val,go_sem,Nat.reduceEqDiff,Nat.reduceBEq,binO]
   refine vks_dcallp (.bool false) (by simp only [go_sem,Nat.reduceEqDiff]) (fun hg => by simp only [go_sem,Nat.reduceEqDiff] at hg) ?_ ?_
   ·simp only [e0,↓simT_idx_val,↓simT_ld_val,go_sem,Nat.reduceEqDiff,Nat.reduceBEq,binO]
   simp only [hb,hg,Nat.mul_one,↓simT_pick_t,go_sem,Nat.reduceEqDiff,Nat.reduceBEq,binO]
   refine ⟨⟨by omega,by omega⟩,by omega,?_⟩
   intro bs hbs
   refine vks_pushR (n := L.length) (row := rS L) (row' := rS (L ++ [x])) (cells := [S x]) ?_ ?_ ?_ ?_ (Hp.put_same ..) rfl rfl (OwnR.put hO hbs) (fun _ _ => rfl) (rS_left L _) (rS_right L _) (by omega) (by omega) ?_
   ·simp only [go_sem,Nat.reduceEqDiff]
   ·simp only [go_sem,Nat.reduceEqDiff]
   ·simp only [go_sem,Nat.reduceEqDiff]
   ·simp only [go_sem,Nat.reduceEqDiff]
   intro v' H3 b' hO3 hkeep hb'
   simp only [go_sem,Nat.reduceEqDiff,Nat.reduceBEq,binO]
   refine ⟨hlt,v',some b',⟨rfl,wrapS (by omega)⟩,?_,own_le hle hbs hob hkeep,own_new hle hbs hob hb'⟩
   rw [hsucc]
   show OwnR _ _ _ (L ++ [x]).length _ _
   rw [List.length_append]; exact hO3
  ·have e0 : ((L.length : Int) == 0) = false := by rw [beq_eq_false_iff_ne]; omega
   have e0' : (L.length == 0) = false := by simpa using h0
   have e1 : IntKind.i64.wrap ((L.length : Int) - 1) = ((L.length - 1 : Nat) : Int) := by rw [wrapI] <;> omega
   obtain ⟨b2,o2,c2,cap3,vs2,wr2,hsl2,hb2,hv2,hvl2⟩ := hat.str (k := L.length - 1) (by omega)
   cases hsl2
   have hg2 := getD_of_take (j := 0) hv2 (by omega)
   rw [Nat.mul_one,Nat.add_zero,List.getD_cons_zero] at hg2
   rw [Nat.mul_one] at hvl2
   have hys := hCs _ (hmem _ (getD_memS (l := L) (k := L.length - 1) (by omega)))
   obtain ⟨y,hy⟩ : ∃ y,y = L.getD (L.length - 1) [] := ⟨_,rfl⟩
   rw [← hy] at hsucc hg2 hys
   rw [e0',Bool.false_or] at hsucc
   simp only [hdl,e0,e1,toNat_ofNat',hb,hg,hb2,hg2,Nat.mul_one,go_sem,Nat.reduceEqDiff,Nat.reduceBEq,binO]
   refine ⟨⟨by omega,by omega⟩,by omega,⟨by omega,by omega⟩,by omega,?_⟩
   refine vks_dcallp _ (by simp only [go_sem,Nat.reduceEqDiff]) (fun _ => ⟨by simp only [go_sem,Nat.reduceEqDiff],fn206 h4 x y hxs hys⟩) ?_ ?_
   ·simp only [e0,e1,toNat_ofNat',hb,hg,hb2,hg2,Nat.mul_one,go_sem,Nat.reduceEqDiff,Nat.reduceBEq,binO]
   cases hq : rIn x y
   ·rw [hq,Bool.not_false,if_pos rfl] at hsucc
    simp only [toNat_ofNat',hb,hg,Nat.mul_one,go_sem,Nat.reduceEqDiff,Nat.reduceBEq,binO]
    refine ⟨⟨by omega,by omega⟩,by omega,?_⟩
    intro bs hbs
    refine vks_pushR (n := L.length) (row := rS L) (row' := rS (L ++ [x])) (cells := [S x]) ?_ ?_ ?_ ?_ (Hp.put_same ..) rfl rfl (OwnR.put hO hbs) (fun _ _ => rfl) (rS_left L _) (rS_right L _) (by omega) (by omega) ?_
    ·simp only [go_sem,Nat.reduceEqDiff]
    ·simp only [go_sem,Nat.reduceEqDiff]
    ·simp only [go_sem,Nat.reduceEqDiff]
    ·simp only [go_sem,Nat.reduceEqDiff]
    intro v' H3 b' hO3 hkeep hb'
    simp only [go_sem,Nat.reduceEqDiff,Nat.reduceBEq,binO]
    refine ⟨hlt,v',some b',⟨rfl,wrapS (by omega)⟩,?_,own_le hle hbs hob hkeep,own_new hle hbs hob hb'⟩
    rw [hsucc]
    show OwnR _ _ _ (L ++ [x]).length _ _
    rw [List.length_append]; exact hO3
   ·rw [hq] at hsucc
    simp only [toNat_ofNat',hb,hg,Nat.mul_one,go_sem,Nat.reduceEqDiff,Nat.reduceBEq,binO]
    exact ⟨hlt,_,ob,⟨rfl,wrapS (by omega)⟩,by rw [hsucc]; exact hO,hle,hob⟩
 ·have hdl : decide ((k : Int) < (C.length : Int)) = false := by simpa using hlt
  have : k = C.length := by omega
  subst this
  simp only [hdl,go_sem,Nat.reduceEqDiff,Nat.reduceBEq,binO]
  refine ⟨ob,hO,hle1.trans hle,fun b hb => ?_⟩
  have := hob b hb
  cases hq : H b with
  | none => rfl
  | some o => rw [hle1 _ _ hq] at this; cases this
end Go.SL
/- Contracts: the reference: behind which cut a set is; own sets. -/
namespace Go.SL
open Go
variable {E : Env} {H : Hp}
section
variable {fr : Fr} {Q : X → Fr → Hp → Prop} {k : List Item}
theorem vks_cutB {id : Nat} {c : ACode} (R : Fr → Hp → Prop) (ha : vks E (.code c :: .blk id :: .goal R :: k) fr H Q) (hb : ∀ fr' H', R fr' H' → vks E k fr' H' Q) :
  vks E (.code c :: .blk id :: k) fr H Q := by
 simp only [vks] at ha ⊢
 refine vc_mono (fun e fr H h => ?_) ha
 cases e with
 | nrm => exact hb _ _ h
 | exit i =>
  simp only [unw] at h ⊢
  split
  ·rename_i he
   rw [if_pos he] at h
   simp only [vks] at h
   exact hb _ _ h
  ·rename_i he
   rw [if_neg he] at h
   exact h
 | ret => simpa [unw] using h
end
theorem rep_flat (z : Value) (n : Nat) : rep [z] n = flat n (fun _ => [z]) := by
 apply List.ext_getElem?
 intro i
 rw [rep_getElem?]
 have h : flat n (fun _ => [z]) = List.replicate n z := by
  induction n with
  | zero => rfl
  | succ n ih => rw [flat_succ,ih,List.replicate_succ']
 rw [h,List.getElem?_replicate]
def skipC (C : List Bs) (nm : Bs) : Nat → Nat → Nat
 | 0,k => k
 | r + 1,k => if rOrder (C.getD k []) nm ≤ 0 then skipC C nm r (k + 1) else k
theorem skipC_le (C : List Bs) (nm : Bs) : ∀ r k, k ≤ skipC C nm r k ∧ skipC C nm r k ≤ k + r
 | 0,k => ⟨Nat.le_refl _,Nat.le_refl _⟩
 | r + 1, k => by
  have ih := skipC_le C nm r (k + 1)
  simp only [skipC]
  split <;> omega
def passN (C : List Bs) (ss : List SignedD) : Nat → Nat
 | 0 => 0
 | i + 1 => skipC C (sD ss i).name (C.length - passN C ss i) (passN C ss i)
theorem passN_le (C : List Bs) (ss : List SignedD) : ∀ i, passN C ss i ≤ C.length
 | 0 => Nat.zero_le _
 | i + 1 => by
  have h1 := passN_le C ss i
  have h2 := skipC_le C (sD ss i).name (C.length - passN C ss i) (passN C ss i)
  simp only [passN]; omega
def behAt (C : List Bs) (ss : List SignedD) (i : Nat) : Bs := if !(passN C ss (i + 1) == 0) && rIn (sD ss i).name (C.getD (passN C ss (i + 1) - 1) []) then C.getD (passN C ss (i + 1) - 1) [] else []
def rBehind (apex : Bs) (ss : List SignedD) : List Bs := (List.range ss.length).map (behAt (rHigh apex ss) ss)
def rbehRow (f : Nat → Bs) (k i : Nat) : List Value := [S (if i < k then f i else [])]
theorem rbehRow_step (f : Nat → Bs) {n k : Nat} (hk : k < n) : (flat n (rbehRow f k)).take k ++ [S (f k)] ++ (flat n (rbehRow f k)).drop (k + 1) = flat n (rbehRow f (k + 1)) := by
 have h := flat_splice (n := n) (sz := 1) (row := rbehRow f k) (fun _ _ => rfl) (i := k) (j := 0) hk (by omega) (S (f k))
 rw [Nat.mul_one,Nat.add_zero] at h
 rw [h]
 apply flat_congr
 intro i _
 by_cases e : i = k
 ·subst e; simp [rbehRow]
 ·rw [if_neg e]
  unfold rbehRow
  by_cases h1 : i < k
  ·rw [if_pos h1,if_pos (by omega)]
  ·rw [if_neg h1,if_neg (by omega)]
theorem rbehRow_same (f : Nat → Bs) {n k : Nat} (h : f k = []) : flat n (rbehRow f k) = flat n (rbehRow f (k + 1)) := by
 apply flat_congr
 intro i _
 unfold rbehRow
 by_cases h1 : i < k
 ·rw [if_pos h1,if_pos (by omega)]
 ·by_cases h2 : i = k
  ·subst h2; rw [if_neg h1,if_pos (by omega),h]
  ·rw [if_neg h1,if_neg (by omega)]
theorem highN_small {apex : Bs} {ss : List SignedD} (hz : SzS ss) : ∀ x ∈ rHigh apex ss,x.length ≤ 1000000 := fun x h => rcutsN_small hz ss.length (Nat.le_refl _) x (highN_mem _ _ (Nat.le_refl _) x h)
theorem rHigh_len (apex : Bs) (ss : List SignedD) : (rHigh apex ss).length ≤ ss.length := Nat.le_trans (highN_len _ _) (rcutsN_len apex ss ss.length)
set_option maxHeartbeats 2000000 in
theorem fn210 (h4 : Codes4 E) (apex : Bs) {v : Value} {ss : List SignedD} (hss : SetsAt H v ss) (hn : ss.length ≤ 1000000000) (hz : SzS ss) :
  Fn E.P (E.fn 210) [.agg #[S apex,v]] H (fun u H' => SlAt H' 1 u (rBehind apex ss).length (rS (rBehind apex ss)) ∧ H.le H') := by
 have hcut := fn213 h4 apex hss hn hz
 obtain ⟨d,g,⟨a,cap,rfl,hsp,hr⟩,hdeep⟩ := hss
 refine Fn.of_vks h4.c210 (by simp [cf210]) ?_
 simp only [cf210,cf210_0,cf210_1,cf210_2,cf210_3,cf210_4,cf210_5,cf210_7,cf210_8,cf210_9,cf210_10,cf210_11,cf210_6,cf210_12]
 simp only [go_sem,Nat.reduceBEq,Nat.reduceAdd,reduceCtorEq]
 refine vks_call ?_ hcut ?_
 ·simp only [go_sem,Nat.reduceEqDiff]
 rintro w H1 ⟨ob1,hO1,hle1,hob1⟩
 have hC := hO1.at
 obtain ⟨a1,c1,rfl⟩ := hO1.sl
 have hCs := highN_small (apex := apex) hz
 have hCl := rHigh_len apex ss
 unfold rBehind
 obtain ⟨C,hCC⟩ : ∃ C,C = rHigh apex ss := ⟨_,rfl⟩
 rw [← hCC] at hC hCs hCl ⊢
 have emk1 : (16 : Int) * (ss.length : Int) ≤ 140737488355328 := by omega
 have emk2 : (ss.length : Int) ≤ 4611686018427387904 := by omega
 have emk3 : (0 : Int) ≤ (ss.length : Int) := by omega
 simp only [emk2,emk3,toNat_ofNat',go_sem,Nat.reduceEqDiff,Nat.reduceBEq,Nat.reduceAdd]
 refine ⟨by omega,by omega,?_⟩
 intro b4 hb4
 have hb4' : H b4 = none := by
  cases hq : H b4 with
  | none => rfl
  | some o => rw [hle1 _ _ hq] at hb4; cases hb4
 obtain ⟨f,hf⟩ : ∃ f,f = behAt C ss := ⟨_,rfl⟩
 refine vks_loopP ss.length 0 (fun k fr' H' => fr' = [(1, ⟨true, .box [S apex, .slice a ss.length cap]⟩), (3, ⟨true, .val (.slice a1 C.length c1)⟩), (4, ⟨true, .val (.slice (some ⟨b4, 0, none⟩) ss.length ss.length)⟩), (5, ⟨true, .val (.int .i64 (passN C ss k))⟩), (6, ⟨true, .val (.int .i64 k)⟩)] ∧
  H' = H1.put b4 (.row (flat ss.length (rbehRow f k)) ss.length true)) (Nat.zero_le _) ⟨rfl,?_⟩ ?_
 ·rw [rep_flat,Nat.mul_one]
  rfl
 rintro k fr' H' hk ⟨rfl,hH'⟩
 have hle : H1.le H' := by rw [hH']; exact le_put hb4 _
 by_cases hlt : k < ss.length
 ·have hdl : decide ((k : Int) < (ss.length : Int)) = true := by simpa using hlt
  obtain ⟨b,o,vs,c,wr,ha,hb,hi⟩ := hr (by omega)
  subst ha
  have hb1 := hle _ _ (hle1 _ _ hb)
  have hi1 := (hi k hlt).1
  have hi2 := getD_of_take (hi k hlt).2 (j := 0) (by omega)
  simp only [rSigned,List.getD_cons_zero,Nat.add_zero] at hi2
  have hsz := hz.at hlt
  have hpl := passN_le C ss k
  have hps : passN C ss (k + 1) = skipC C (sD ss k).name (C.length - passN C ss k) (passN C ss k) := rfl
  have hpl1 := passN_le C ss (k + 1)
  have hbe : behAt C ss k = if !(passN C ss (k + 1) == 0) && rIn (sD ss k).name (C.getD (passN C ss (k + 1) - 1) []) then C.getD (passN C ss (k + 1) - 1) [] else [] := rfl
  obtain ⟨nm,hnm⟩ : ∃ nm,nm = (sD ss k).name := ⟨_,rfl⟩
  have hnm' : (ss.getD k default).name = nm := hnm.symm
  rw [← hnm] at hsz hps hbe
  rw [hnm'] at hi2
  obtain ⟨p0,hp0⟩ : ∃ p,p = passN C ss k := ⟨_,rfl⟩
  obtain ⟨p1,hp1⟩ : ∃ p,p = passN C ss (k + 1) := ⟨_,rfl⟩
  rw [← hp0] at hpl hps
  rw [← hp1] at hps hpl1 hbe
  rw [← hp0]
  simp only [hdl,hb1,hi2,go_sem,Nat.reduceEqDiff,Nat.reduceBEq,Nat.reduceAdd,binO]
  refine ⟨⟨by omega,by omega⟩,by omega,?_⟩
  refine vks_cutB (fun fr'' H'' => fr'' = [(1,⟨true,.box [S apex,.slice (some ⟨b,o,none⟩) ss.length cap]⟩),(3,⟨true,.val (.slice a1 C.length c1)⟩),(4,⟨true,.val (.slice (some ⟨b4,0,none⟩) ss.length ss.length)⟩),(5,⟨true,.val (.int .i64 p1)⟩),(6,⟨true,.val (.int .i64 k)⟩),(7,⟨true,.val (S nm)⟩),(40,⟨true,.val (.bool false)⟩)] ∧ H'' = H') ?_ ?_
  ·refine vks_loopN C.length p0 (fun j => [(1,⟨true,.box [S apex,.slice (some ⟨b,o,none⟩) ss.length cap]⟩),(3,⟨true,.val (.slice a1 C.length c1)⟩),(4,⟨true,.val (.slice (some ⟨b4,0,none⟩) ss.length ss.length)⟩),(5,⟨true,.val (.int .i64 j)⟩),(6,⟨true,.val (.int .i64 k)⟩),(7,⟨true,.val (S nm)⟩)]) (fun j => p1 = skipC C nm (C.length - j) j) hpl rfl hps ?_
   intro j hj hPj
   by_cases hlj : j < C.length
   ·have hdj : decide ((j : Int) < (C.length : Int)) = true := by simpa using hlj
    obtain ⟨b2,o2,c2,cap2,vs2,wr2,hsl,hb2,hv,hvl⟩ := (hC.mono hle).str hlj
    cases hsl
    have hg := getD_of_take (j := 0) hv (by omega)
    rw [Nat.mul_one,Nat.add_zero,List.getD_cons_zero] at hg
    rw [Nat.mul_one] at hvl
    have hxs := hCs _ (getD_memS hlj)
    obtain ⟨r,hr'⟩ : ∃ r,C.length - j = r + 1 := ⟨C.length - j - 1,by omega⟩
    have hr2 : C.length - (j + 1) = r := by omega
    have hgo : skipC C nm (r + 1) j = if rOrder (C.getD j []) nm ≤ 0 then skipC C nm r (j + 1) else j := rfl
    rw [hr',hgo] at hPj
    obtain ⟨x,hx⟩ : ∃ x,x = C.getD j [] := ⟨_,rfl⟩
    rw [← hx] at hg hxs hPj
    simp only [hdj,hb2,hg,Nat.mul_one,go_sem,Nat.reduceEqDiff,Nat.reduceBEq,binO]
    refine ⟨⟨by omega,by omega⟩,by omega,?_⟩
    refine vks_callp _ (by simp only [go_sem,Nat.reduceEqDiff]) (fun _ => ⟨by simp only [go_sem,Nat.reduceEqDiff],fn196 h4 x nm hxs hsz⟩) ?_
    by_cases hq : rOrder x nm ≤ 0
    ·have hqd : decide (rOrder x nm ≤ 0) = true := by rw [decide_eq_true_eq]; exact hq
     rw [if_pos hq] at hPj
     simp only [hqd,go_sem,Nat.reduceEqDiff,Nat.reduceBEq,reduceCtorEq,binO]
     exact ⟨hlj,wrapS (by omega),by rw [hr2]; exact hPj⟩
    ·have hqd : decide (rOrder x nm ≤ 0) = false := by rw [decide_eq_false_iff_not]; exact hq
     rw [if_neg hq] at hPj
     simp only [hqd,hPj,go_sem,Nat.reduceEqDiff,Nat.reduceBEq,reduceCtorEq,binO]
   ·have hdj : decide ((j : Int) < (C.length : Int)) = false := by simpa using hlj
    have : j = C.length := by omega
    subst this
    rw [Nat.sub_self] at hPj
    simp only [skipC] at hPj
    simp only [hdj,↓simT_idx_val,↓simT_ld_val,go_sem,Nat.reduceEqDiff,Nat.reduceBEq,binO]
    refine vks_callp (.int .i64 0) (by simp only [go_sem,Nat.reduceEqDiff]) (fun hg => by simp only [go_sem,Nat.reduceEqDiff] at hg) ?_
    simp only [hPj,↓simT_pick_f,go_sem,Nat.reduceEqDiff,Nat.reduceBEq,reduceCtorEq,Int.reduceLE,binO,decT]
  ·rintro fr'' H'' ⟨rfl,rfl⟩
   by_cases h0 : p1 = 0
   ·have e0 : decide ((p1 : Int) > 0) = false := by rw [decide_eq_false_iff_not]; omega
    have e0' : (p1 == 0) = true := by simpa using h0
    rw [e0',Bool.not_true,Bool.false_and,if_neg (by simp)] at hbe
    simp only [e0,↓simT_idx_val,↓simT_ld_val,go_sem,Nat.reduceEqDiff,Nat.reduceBEq,binO]
    refine vks_callp (.bool false) (by simp only [go_sem,Nat.reduceEqDiff]) (fun hg => by simp only [go_sem,Nat.reduceEqDiff] at hg) ?_
    simp only [↓simT_pick_f,go_sem,Nat.reduceEqDiff,Nat.reduceBEq,binO]
    refine ⟨hlt,⟨hp1 ▸ rfl,wrapS (by omega)⟩,?_⟩
    rw [hH',rbehRow_same f (by rw [hf]; exact hbe)]
   ·have e0 : decide ((p1 : Int) > 0) = true := by rw [decide_eq_true_eq]; omega
    have e0' : (p1 == 0) = false := by simpa using h0
    have e1 : IntKind.i64.wrap ((p1 : Int) - 1) = ((p1 - 1 : Nat) : Int) := by rw [wrapI] <;> omega
    obtain ⟨b2,o2,c2,cap2,vs2,wr2,hsl,hb2,hv,hvl⟩ := (hC.mono hle).str (k := p1 - 1) (by omega)
    cases hsl
    have hg := getD_of_take (j := 0) hv (by omega)
    rw [Nat.mul_one,Nat.add_zero,List.getD_cons_zero] at hg
    rw [Nat.mul_one] at hvl
    have hxs := hCs _ (getD_memS (l := C) (k := p1 - 1) (by omega))
    obtain ⟨x,hx⟩ : ∃ x,x = C.getD (p1 - 1) [] := ⟨_,rfl⟩
    rw [e0',Bool.not_false,Bool.true_and] at hbe
    rw [← hx] at hg hxs hbe
    simp only [e0,e1,toNat_ofNat',hb2,hg,Nat.mul_one,go_sem,Nat.reduceEqDiff,Nat.reduceBEq,binO]
    refine ⟨⟨by omega,by omega⟩,by omega,?_⟩
    refine vks_callp _ (by simp only [go_sem,Nat.reduceEqDiff]) (fun _ => ⟨by simp only [go_sem,Nat.reduceEqDiff],fn206 h4 nm x hsz hxs⟩) ?_
    cases hq : rIn nm x
    ·rw [hq,if_neg (by simp)] at hbe
     simp only [go_sem,Nat.reduceEqDiff,Nat.reduceBEq,binO]
     refine ⟨hlt,⟨hp1 ▸ rfl,wrapS (by omega)⟩,?_⟩
     rw [hH',rbehRow_same f (by rw [hf]; exact hbe)]
    ·rw [hq,if_pos rfl] at hbe
     have hfk : f k = x := by rw [hf]; exact hbe
     have hH4 : H'' b4 = some (.row (flat ss.length (rbehRow f k)) ss.length true) := by rw [hH',Hp.put_same]
     have hstep := rbehRow_step f hlt
     rw [hfk] at hstep
     have hfl := flat_len (n := ss.length) (sz := 1) (row := rbehRow f k) (fun _ _ => rfl)
     have hst2 : k + 1 ≤ (flat ss.length (rbehRow f k)).length := by rw [hfl]; omega
     simp only [e1,toNat_ofNat',hb2,hg,hH4,hstep,hst2,Nat.mul_one,go_sem,Nat.reduceEqDiff,Nat.reduceBEq,binO]
     refine ⟨⟨by omega,by omega⟩,by omega,⟨by omega,by omega⟩,hlt,⟨hp1 ▸ rfl,wrapS (by omega)⟩,?_⟩
     rw [hH',put_put]
 ·have hdl : decide ((k : Int) < (ss.length : Int)) = false := by simpa using hlt
  have : k = ss.length := by omega
  subst this
  simp only [hdl,go_sem,Nat.reduceEqDiff,Nat.reduceBEq,Nat.reduceAdd,binO]
  refine ⟨?_,hle1.trans hle⟩
  rw [← hf]
  have hlen : ((List.range ss.length).map f).length = ss.length := by simp
  rw [hlen]
  refine SlAt.ofRow (c := ss.length) (wr := true) (fun _ _ => rfl) ?_
  rw [hH',Hp.put_same]
  congr 2
  apply flat_congr
  intro i hi
  unfold rbehRow rS
  rw [if_pos hi]
  simp [hi]
theorem rBehind_len (apex : Bs) (ss : List SignedD) : (rBehind apex ss).length = ss.length := by simp [rBehind]
def ownAt (B : List Bs) (ss : List SignedD) (i : Nat) : Bool := B.getD i [] == [] || ((sD ss i).type != 2 && (sD ss i).type != 1)
def rOwn (apex : Bs) (ss : List SignedD) : List Bool := (List.range ss.length).map (ownAt (rBehind apex ss) ss)
def ownRow (f : Nat → Bool) (k i : Nat) : List Value := [.bool (if i < k then f i else false)]
theorem ownRow_step (f : Nat → Bool) {n k : Nat} (hk : k < n) : (flat n (ownRow f k)).take k ++ [.bool (f k)] ++ (flat n (ownRow f k)).drop (k + 1) = flat n (ownRow f (k + 1)) := by
 have h := flat_splice (n := n) (sz := 1) (row := ownRow f k) (fun _ _ => rfl) (i := k) (j := 0) hk (by omega) (.bool (f k))
 rw [Nat.mul_one,Nat.add_zero] at h
 rw [h]
 apply flat_congr
 intro i _
 by_cases e : i = k
 ·subst e; simp [ownRow]
 ·rw [if_neg e]
  unfold ownRow
  by_cases h1 : i < k
  ·rw [if_pos h1,if_pos (by omega)]
  ·rw [if_neg h1,if_neg (by omega)]
def rB (l : List Bool) (i : Nat) : List Value := [.bool (l.getD i false)]
set_option maxHeartbeats 2000000 in
theorem fn211 (h4 : Codes4 E) (apex : Bs) {v : Value} {ss : List SignedD} (hss : SetsAt H v ss) (hn : ss.length ≤ 1000000000) (hz : SzS ss) :
  Fn E.P (E.fn 211) [.agg #[S apex,v]] H (fun u H' => SlAt H' 1 u (rOwn apex ss).length (rB (rOwn apex ss)) ∧ H.le H') := by
 have hbeh := fn210 h4 apex hss hn hz
 obtain ⟨d,g,⟨a,cap,rfl,hsp,hr⟩,hdeep⟩ := hss
 refine Fn.of_vks h4.c211 (by simp [cf211]) ?_
 simp only [cf211,cf211_0,cf211_1,cf211_2,cf211_3,cf211_4,cf211_6,cf211_7,cf211_5,cf211_8]
 simp only [go_sem,Nat.reduceBEq,Nat.reduceAdd,reduceCtorEq]
 refine vks_call ?_ hbeh ?_
 ·simp only [go_sem,Nat.reduceEqDiff]
 rintro w H1 ⟨hC,hle1⟩
 have hBl := rBehind_len apex ss
 unfold rOwn
 obtain ⟨C,hCC⟩ : ∃ C,C = rBehind apex ss := ⟨_,rfl⟩
 rw [← hCC] at hC hBl ⊢
 obtain ⟨a1,c1,rfl⟩ := hC.sl
 have emk1 : (1 : Int) * (ss.length : Int) ≤ 140737488355328 := by omega
 have emk2 : (ss.length : Int) ≤ 4611686018427387904 := by omega
 have emk3 : (0 : Int) ≤ (ss.length : Int) := by omega
 simp only [emk2,emk3,toNat_ofNat',go_sem,Nat.reduceEqDiff,Nat.reduceBEq,Nat.reduceAdd]
 refine ⟨by omega,by omega,?_⟩
 intro b4 hb4
 obtain ⟨f,hf⟩ : ∃ f,f = ownAt C ss := ⟨_,rfl⟩
 refine vks_loopP ss.length 0 (fun k fr' H' => fr' = [(1, ⟨true, .box [S apex, .slice a ss.length cap]⟩), (3, ⟨true, .val (.slice a1 C.length c1)⟩), (4, ⟨true, .val (.slice (some ⟨b4, 0, none⟩) ss.length ss.length)⟩), (5, ⟨true, .val (.int .i64 k)⟩)] ∧
  H' = H1.put b4 (.row (flat ss.length (ownRow f k)) ss.length true)) (Nat.zero_le _) ⟨rfl,?_⟩ ?_
 ·rw [rep_flat,Nat.mul_one]
  rfl
 rintro k fr' H' hk ⟨rfl,hH'⟩
 have hle : H1.le H' := by rw [hH']; exact le_put hb4 _
 by_cases hlt : k < ss.length
 ·have hdl : decide ((k : Int) < (ss.length : Int)) = true := by simpa using hlt
  obtain ⟨b,o,vs,c,wr,ha,hb,hi⟩ := hr (by omega)
  subst ha
  have hb1 := hle _ _ (hle1 _ _ hb)
  have hi1 := (hi k hlt).1
  have hi2 := getD_of_take (hi k hlt).2 (j := 1) (by omega)
  simp only [rSigned,List.getD_cons_zero,List.getD_cons_succ] at hi2
  have hat : ownAt C ss k = (C.getD k [] == [] || ((sD ss k).type != 2 && (sD ss k).type != 1)) := rfl
  obtain ⟨t,ht⟩ : ∃ t,t = (sD ss k).type := ⟨_,rfl⟩
  have ht' : (ss.getD k default).type = t := ht.symm
  rw [← ht] at hat
  rw [ht'] at hi2
  obtain ⟨b2,o2,c2,cap2,vs2,wr2,hsl,hb2,hv,hvl⟩ := (hC.mono hle).str (k := k) (by omega)
  cases hsl
  have hg := getD_of_take (j := 0) hv (by omega)
  rw [Nat.mul_one,Nat.add_zero,List.getD_cons_zero] at hg
  rw [Nat.mul_one] at hvl
  obtain ⟨x,hx⟩ : ∃ x,x = C.getD k [] := ⟨_,rfl⟩
  rw [← hx] at hg hat
  have hfk : f k = (x == [] || (t != 2 && t != 1)) := by rw [hf]; exact hat
  have hH4 : H' b4 = some (.row (flat ss.length (ownRow f k)) ss.length true) := by rw [hH',Hp.put_same]
  have hstep := ownRow_step f hlt
  rw [hfk] at hstep
  have hfl := flat_len (n := ss.length) (sz := 1) (row := ownRow f k) (fun _ _ => rfl)
  have hst2 : k + 1 ≤ (flat ss.length (ownRow f k)).length := by rw [hfl]; omega
  simp only [hdl,hb1,hi2,hb2,hg,hH4,hstep,hst2,Nat.mul_one,toNat_ofNat',go_sem,Nat.reduceEqDiff,Nat.reduceBEq,Nat.reduceAdd,binO]
  refine ⟨⟨by omega,by omega⟩,by omega,⟨by omega,by omega⟩,by omega,fun h => ⟨h,fun h2 => by rw [h,h2]; rfl⟩,⟨by omega,by omega⟩,hlt,wrapS (by omega),?_⟩
  rw [hH',put_put]
 ·have hdl : decide ((k : Int) < (ss.length : Int)) = false := by simpa using hlt
  have : k = ss.length := by omega
  subst this
  simp only [hdl,go_sem,Nat.reduceEqDiff,Nat.reduceBEq,Nat.reduceAdd,reduceCtorEq,binO]
  refine ⟨?_,hle1.trans hle⟩
  rw [← hf]
  have hlen : ((List.range ss.length).map f).length = ss.length := by simp
  rw [hlen]
  refine SlAt.ofRow (c := ss.length) (wr := true) (fun _ _ => rfl) ?_
  rw [hH',Hp.put_same]
  congr 2
  apply flat_congr
  intro i hi
  unfold ownRow rB
  rw [if_pos hi]
  simp [hi]
theorem rOwn_len (apex : Bs) (ss : List SignedD) : (rOwn apex ss).length = ss.length := by simp [rOwn]
end Go.SL
