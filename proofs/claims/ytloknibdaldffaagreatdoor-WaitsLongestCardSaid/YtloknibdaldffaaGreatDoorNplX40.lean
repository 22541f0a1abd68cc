/- The law WaitsLongest, out of the contracts. -/
import Derived.Test.YtloknibdaldffaaGreatDoorNplX25
import Derived.Test.YtloknibdaldffaaGreatDoorNplX9
import Derived.Test.YtloknibdaldffaaGreatDoorNplX32
import Derived.Test.YtloknibdaldffaaGreatDoorNplX35
import Derived.Test.YtloknibdaldffaaGreatDoorNplT14
namespace Go.SL
open Go
variable {E : Env} {H : Hp}
theorem rCopy_len (cs : List CopyD) (z : Nat → Value) (i : Nat) : (rCopy cs z i).length = 5 := rfl
theorem rCopy_lt (L : List CopyD) (c : CopyD) (z : Nat → Value) (x : Value) (i : Nat) (hi : i < L.length) : rCopy (L ++ [c]) (upd1 z L.length x) i = rCopy L z i := by
 simp [rCopy,List.getElem?_append_left hi,upd1,show i ≠ L.length by omega]
theorem rCopy_end (L : List CopyD) (c : CopyD) (z : Nat → Value) (x : Value) : rCopy (L ++ [c]) (upd1 z L.length x) L.length = [.int .i64 c.host, .int .i64 c.from_, .int .i64 c.till, S c.apex, x] := by
 simp [rCopy,upd1]
theorem usedL_len (d : Int) (s : SignedD) (l : List SpanD) : (usedL d s l).length ≤ l.length := by
 have := normalL_len (l.map (growS d s))
 rw [List.length_map] at this
 exact this
theorem longE_cases (h : HistD) (zone : Bs) (t : Int) : (longE h zone t = 0 ∧ longBad h zone t = false ∧ longN h zone t = longC h.copies zone t h.drift h.copies.length - t) ∨ (longE h zone t ≠ 0 ∧ longN h zone t = 0) := by
 unfold longE longN
 cases hb : longBad h zone t
 ·cases ha : anyN (apexIs h.copies zone) h.copies.length
  ·exact .inr ⟨by simp,by simp⟩
  ·exact .inl ⟨by simp,rfl,by simp⟩
 ·exact .inr ⟨by simp,by simp⟩
def usedAt (A : Groups) (d x : Int) (i : Nat) : Bool := hasB (usedL d (A.getD i default).2.1 (normalL (A.getD i default).2.2)) x
set_option maxRecDepth 8000 in
set_option maxHeartbeats 8000000 in
theorem fn188 (hE : Codes E) (h2 : Codes2 E) (h3 : Codes3 E) (h4 : Codes4 E) (L : Lib3 E) (hB : Base E H) (hB2 : Base2 E H) (h183 : FnP E 183 [] H (.bool true)) {v : Value} {h : HistD} (hh : HistAt H v h)
  (hsums : ∀ c ∈ h.copies,SumsOk c.sets) (zone : Bs) (t : Int) : FnP E 188 [v,S zone,.int .i64 t] H (.bool true) := by
 have f1 := fn184 hE h4 hh
 have f2 := fun hx => fn185 h4 hh hx
 have f3 := fun hx hy => fn186 hE h2 h4 hB hh hx hy zone t
 obtain ⟨vh,vz,vd,vi,rfl,g1,g2,g3,g5⟩ := hh
 have o1 := SlAt.one g1
 have o2 := g2.one
 have o3 := SlAt.one g3
 have o5 := SlAt.one g5
 obtain ⟨z,⟨a,cap,rfl,hs,hr⟩,hdeep⟩ := g2
 refine Fn.of_vks h4.c188 (by simp [cf188]) ?_
 simp only [cf188,cf188_0,cf188_1,cf188_2,cf188_3,cf188_4,cf188_5,cf188_6,cf188_7,cf188_8,cf188_9,cf188_10,cf188_11,cf188_12,cf188_16,cf188_17,cf188_18,cf188_19,cf188_20,cf188_21,cf188_22,cf188_23,cf188_24,cf188_25,cf188_26,cf188_27,cf188_28]
 simp only [go_sem,Nat.reduceEqDiff,Nat.reduceBEq,Nat.reduceAdd,reduceCtorEq]
 refine vks_call (by simp only [go_sem]) (Fn.same h183) ?_
 rintro u H1 ⟨rfl,rfl⟩
 simp only [go_sem,Nat.reduceEqDiff,Nat.reduceBEq,Nat.reduceAdd]
 refine vks_callp _ (by simp only [go_sem]) (fun _ => ⟨by simp only [go_sem,Nat.reduceEqDiff],f1⟩) ?_
 cases hfew : few38 h
 ·simp only [go_sem,Nat.reduceEqDiff,Nat.reduceBEq,Nat.reduceAdd]
  refine vks_callp (.bool false) (by simp only [go_sem,Nat.reduceEqDiff]) (fun hg => by simp only [go_sem,Nat.reduceEqDiff] at hg) ?_
  simp only [↓simT_pick_t,go_sem,Nat.reduceEqDiff,Nat.reduceBEq,Nat.reduceAdd,binO]
 have hF := few38_of hfew
 simp only [go_sem,Nat.reduceEqDiff,Nat.reduceBEq,Nat.reduceAdd]
 refine vks_callp _ (by simp only [go_sem,Nat.reduceEqDiff]) (fun _ => ⟨by simp only [go_sem,Nat.reduceEqDiff],f2 (by have := hF.hints; omega)⟩) ?_
 cases hrh : rHist h
 ·simp only [↓simT_pick_t,go_sem,Nat.reduceEqDiff,Nat.reduceBEq,Nat.reduceAdd,binO]
 by_cases hzl : (zone.length : Int) > 200
 ·have e1 : decide ((zone.length : Int) > 200) = true := by rw [decide_eq_true_eq]; exact hzl
  simp only [e1,go_sem,Nat.reduceEqDiff,Nat.reduceBEq,Nat.reduceAdd,binO]
 have e1 : decide ((zone.length : Int) > 200) = false := by rw [decide_eq_false_iff_not]; exact hzl
 simp only [e1,go_sem,Nat.reduceEqDiff,Nat.reduceBEq,Nat.reduceAdd,binO]
 have hset30 : ∀ i,i < h.copies.length → (h.copies.getD i default).sets.length ≤ 30 := hF.sets
 refine vks_call (by simp only [go_sem,Nat.reduceEqDiff]) (Fn.same (f3 (by have := hF.copies; omega) (fun i hi => Nat.le_trans (hset30 i hi) (by omega)))) ?_
 rintro u H1 ⟨rfl,rfl⟩
 rcases longE_cases h zone t with ⟨hE0,hbad,hN⟩ | ⟨hE0,hN⟩
 rotate_left
 ·have e2 : (longE h zone t == 0) = false := by simpa using hE0
  simp only [hN,bne,e2,go_sem,Nat.reduceLT,Nat.reduceLeDiff,Nat.reduceEqDiff,Nat.reduceBEq,Nat.reduceAdd,binO]
 simp only [hE0,bne,o1,o3,o5,go_sem,Nat.reduceLT,Nat.reduceLeDiff,Nat.reduceEqDiff,Nat.reduceBEq,Nat.reduceAdd,binO]
 have hq := hbad
 unfold longBad at hq
 simp only [Bool.or_eq_false_iff,decide_eq_false_iff_not,Bool.not_eq_false'] at hq
 obtain ⟨⟨⟨hval,_⟩,ht0⟩,ht1⟩ := hq
 have hok := histValid_iff.1 hval
 have hlk := HistOk.long hval
 have hub := longC_ub hlk (zone := zone) (t := t) (by omega) (by have := hok.end2; omega) h.copies.length (Nat.le_refl _)
 have hlb := (longC_ge h.copies zone t h.drift h.copies.length).1
 have hcn := hF.copies
 obtain ⟨n,hn⟩ : ∃ n,n = longN h zone t := ⟨_,rfl⟩
 rw [← hn] at hN ⊢
 obtain ⟨HB,hHB⟩ : ∃ y,y = H1 := ⟨_,rfl⟩
 refine vks_loopP h.copies.length 0 (fun k fr' H' => ∃ u ob zz, fr' = [(1, ⟨true, .val (S zone)⟩), (2, ⟨true, .val (.int .i64 t)⟩), (7, ⟨true, .val (.bool true)⟩), (8, ⟨true, .val (.int .i64 n)⟩), (10, ⟨true, .box [vh, u, S h.aname, .int .i64 h.atype, .int .i64 h.alife, vd, vi, .int .i64 h.drift, .int .i64 h.end_]⟩), (50, ⟨true, .val (.slice a h.copies.length cap)⟩), (51, ⟨true, .val (.int .i64 h.copies.length)⟩), (52, ⟨true, .val (.int .i64 k)⟩)] ∧
  HB.le H' ∧ OwnR H' 5 u (shortN h.copies zone t k).length (rCopy (shortN h.copies zone t k) zz) ob ∧ (∀ b,ob = some b → HB b = none) ∧ ∀ i,i < (shortN h.copies zone t k).length → SetsAt HB (zz i) ((shortN h.copies zone t k).getD i default).sets) (Nat.zero_le _)
  ⟨_,none,fun _ => undef,rfl,by rw [hHB]; exact Hp.le.refl _,⟨rfl,rfl⟩,(fun b hb => by cases hb),(fun i hi => by cases hi)⟩ ?_
 rintro k fr' H' hk ⟨u,ob,zz,rfl,hle,hown,hobn,hzz⟩
 obtain ⟨ua,uc,hua⟩ := hown.sl
 have hle1 : H1.le H' := by rw [← hHB]; exact hle
 by_cases hlt : k < h.copies.length
 ·have hdl : decide ((k : Int) < (h.copies.length : Int)) = true := by simpa using hlt
  obtain ⟨b,o,vs,c,wr,ha,hb,hi⟩ := hr (by omega)
  subst ha
  have hb1 := hle1 _ _ hb
  have hi1 := (hi k hlt).1
  have hi2 := (hi k hlt).2
  have hzk := hdeep k hlt
  have hz1 : one1 (z k) = true := by obtain ⟨d,g,h,_⟩ := hzk; exact SlAt.one h
  have hsh : shortN h.copies zone t (k + 1) = if (h.copies.getD k default).apex = zone ∧ (h.copies.getD k default).from_ < min (h.copies.getD k default).till t then shortN h.copies zone t k ++ [cutC (h.copies.getD k default) t] else shortN h.copies zone t k := rfl
  have hshl := shortN_len h.copies zone t k
  have hks : IntKind.i64.wrap ((k : Int) + 1) = ((k + 1 : Nat) : Int) := wrapS (by omega)
  obtain ⟨x,hx⟩ : ∃ x,h.copies.getD k default = x := ⟨_,rfl⟩
  rw [hx] at hzk hsh
  simp only [rCopy,hx] at hi2
  obtain ⟨LL,hLL⟩ : ∃ LL,LL = shortN h.copies zone t k := ⟨_,rfl⟩
  rw [← hLL] at hsh hshl hown hzz hua
  subst hua
  cases hz : (x.apex == zone)
  ·have hne : ¬ x.apex = zone := by simpa using hz
   rw [if_neg (fun h => hne h.1)] at hsh
   simp only [hdl,hb1,hi2,hz1,hz,go_sem,Nat.reduceLeDiff,Nat.reduceEqDiff,Nat.reduceBEq,Nat.reduceAdd,binO]
   refine ⟨⟨by omega,by omega⟩,hi1,hlt,_,ob,zz,⟨rfl,hks⟩,hle,?_,hobn,?_⟩
   ·rw [hsh]; exact hown
   ·rw [hsh]; exact hzz
  ·have heq : x.apex = zone := by simpa using hz
   simp only [hdl,hb1,hi2,hz1,hz,go_sem,Nat.reduceLeDiff,Nat.reduceEqDiff,Nat.reduceBEq,Nat.reduceAdd,binO]
   refine ⟨⟨by omega,by omega⟩,hi1,?_⟩
   obtain ⟨m,hm⟩ : ∃ m,m = min x.till t := ⟨_,rfl⟩
   rw [← hm] at hsh
   simp only [cf188_13,cf188_14,← hm,go_sem,Nat.reduceLeDiff,Nat.reduceEqDiff,Nat.reduceBEq,Nat.reduceAdd,binO]
   by_cases hf : x.from_ < m
   ·have hfd : decide (x.from_ < m) = true := by rw [decide_eq_true_eq]; exact hf
    rw [if_pos ⟨heq,hf⟩] at hsh
    simp only [cf188_15,hfd,go_sem,Nat.reduceLeDiff,Nat.reduceEqDiff,Nat.reduceBEq,Nat.reduceAdd]
    intro bs hbs
    have hcut : [Value.int .i64 x.host,.int .i64 x.from_,.int .i64 m,S x.apex,z k] = [Value.int .i64 (cutC x t).host,.int .i64 (cutC x t).from_,.int .i64 (cutC x t).till,S (cutC x t).apex,z k] := by rw [hm]; rfl
    refine vks_pushR (n := LL.length) (row := rCopy LL zz) (row' := rCopy (LL ++ [cutC x t]) (upd1 zz LL.length (z k))) (cells := [Value.int .i64 x.host,.int .i64 x.from_,.int .i64 m,S x.apex,z k]) ?_ ?_ ?_ ?_ (Hp.put_same ..) rfl ?_ (hown.put hbs) (fun _ _ => rfl) (fun i hi => rCopy_lt LL _ zz _ i hi) ((rCopy_end LL _ zz _).trans hcut.symm) (by omega) (by omega) ?_
    ·simp only [go_sem,Nat.reduceEqDiff]
    ·simp only [go_sem,Nat.reduceEqDiff]
    ·simp only [go_sem,Nat.reduceEqDiff]
    ·simp only [go_sem,Nat.reduceEqDiff]
    ·simp only [hz1,go_sem]
    intro v' H3 b' hO3 hkeep hb'
    obtain ⟨va,vc,hv'⟩ := hO3.sl
    subst hv'
    simp only [go_sem,Nat.reduceLeDiff,Nat.reduceEqDiff,Nat.reduceBEq,Nat.reduceAdd,binO]
    refine ⟨hlt,_,some b',upd1 zz LL.length (z k),⟨rfl,hks⟩,own_le hle hbs hobn hkeep,?_,own_new hle hbs hobn hb',?_⟩
    ·rw [hsh,List.length_append]; exact hO3
    ·rw [hsh,List.length_append]
     intro i hi
     by_cases e : i = LL.length
     ·subst e
      have : (LL ++ [cutC x t]).getD LL.length default = cutC x t := by simp
      rw [this]
      simp only [upd1,if_true]
      rw [hHB]; exact hzk
     ·have hi' : i < LL.length := by simp at hi; omega
      have : (LL ++ [cutC x t]).getD i default = LL.getD i default := by simp [List.getElem?_append_left hi']
      rw [this]
      simp only [upd1,if_neg e]
      exact hzz i hi'
   ·have hfd : decide (x.from_ < m) = false := by rw [decide_eq_false_iff_not]; exact hf
    rw [if_neg (fun h => hf h.2)] at hsh
    simp only [hfd,go_sem]
    refine ⟨hlt,_,ob,zz,⟨rfl,hks⟩,hle,?_,hobn,?_⟩
    ·rw [hsh]; exact hown
    ·rw [hsh]; exact hzz
 ·have hdl : decide ((k : Int) < (h.copies.length : Int)) = false := by simpa using hlt
  have : k = h.copies.length := by omega
  subst this
  have hcat : CopiesAt H' u (shortN h.copies zone t h.copies.length) := ⟨zz,OwnR.at hown (fun _ _ => rfl),fun i hi => (hzz i hi).mono hle⟩
  have hhs : HistAt H' (.agg #[vh,u,S h.aname,.int .i64 h.atype,.int .i64 h.alife,vd,vi,.int .i64 h.drift,.int .i64 h.end_]) (shortH h zone t) := ⟨vh,u,vd,vi,rfl,HostsAt.mono g1 hle1,hcat,DataAt.mono g3 hle1,IntsAt.mono g5 hle1⟩
  have hsv := short_valid zone t (by omega) hval
  have hsl := shortN_len h.copies zone t h.copies.length
  have hmem : ∀ c ∈ (shortH h zone t).copies, ∃ c0 ∈ h.copies, c.sets = c0.sets ∧ c.apex = zone := by
   intro c hc
   obtain ⟨i,hi,ha,_,rfl⟩ := (mem_shortN h.copies zone t c h.copies.length).1 hc
   exact ⟨_,getD_mem hi,rfl,ha⟩
  have hsm : SmallC (shortH h zone t).copies := ⟨by show (shortN h.copies zone t h.copies.length).length ≤ 12; omega, fun c hc => by
   obtain ⟨c0,hc0,he,_⟩ := hmem c hc
   obtain ⟨i,hi,hie⟩ := mem_getD hc0
   have := hset30 i hi
   rw [he,← hie]; omega⟩
  have hzo := zonesOk_of hsv hsm
  have hps := pubSz_of hsv hsm (fun c hc => by obtain ⟨c0,hc0,he,_⟩ := hmem c hc; rw [he]; exact hsums c0 hc0)
  have hall := fn139 hE h2 h3 L (hB.mono hle1) (hB2.mono hle1) hhs hsm.num (fun _ => hps) (fun _ => hzo)
  have hel := allN'_el hzo (zonesL (shortH h zone t)).length (Nat.le_refl _)
  have hsa := short_all (h := shortH h zone t) (z := zone) (fun c hc => (hmem c hc).choose_spec.2.2)
  have hlaw := longest_law h.copies zone t h.drift (fun c hc => ⟨(hok.copy c hc).2.2.2.1,fun s hs => (zone_good (hok.copy c hc).2.2.2.2.2 s hs).plain⟩)
  have hg1 := one1_slice ua (shortN h.copies zone t h.copies.length).length uc
  subst hua
  simp only [hdl,go_sem,Nat.reduceEqDiff,Nat.reduceBEq,Nat.reduceAdd,binO]
  refine vks_call (by simp only [go_sem,Nat.reduceEqDiff]) hall ?_
  rintro w H2 ⟨hle2,_,hpost⟩
  obtain ⟨vo,dv,gv,fv,sv,hw,hsl2,hdat⟩ := hpost hsv
  subst hw
  obtain ⟨A,hA⟩ : ∃ A,A = allG (shortH h zone t) := ⟨_,rfl⟩
  have hel' : ∀ e ∈ A,ElOk (shortH h zone t).drift e := by rw [hA]; exact hel
  rw [← hA] at hsl2 hdat hsa
  obtain ⟨oa,oc,hvo⟩ := hsl2.sl
  subst hvo
  have hn0 : decide (n < 0) = false := by rw [decide_eq_false_iff_not]; omega
  simp only [hn0,bne,go_sem,Nat.reduceLT,Nat.reduceEqDiff,Nat.reduceBEq,Nat.reduceAdd,binO]
  obtain ⟨C,hC⟩ : ∃ C,C = longC h.copies zone t h.drift h.copies.length := ⟨_,rfl⟩
  rw [← hC] at hub hlb hN hlaw
  have hend := hok.end2
  have w1 : IntKind.i64.wrap (t + n) = C := by rw [wrapI] <;> omega
  have w2 : IntKind.i64.wrap (C - 1) = C - 1 := by rw [wrapI] <;> omega
  have hT : ∀ i, i < A.length → usedAt A h.drift C i = false := by
   intro i hi
   obtain ⟨e0,he0,hee⟩ := hsa.1 _ (getD_mem hi)
   have := hlaw.1 e0 he0
   unfold usedAt
   rw [hee]; exact this
  have hBf : n ≠ 0 → anyN (usedAt A h.drift (C - 1)) A.length = true := by
   intro hn
   obtain ⟨e0,he0,hx⟩ := hlaw.2 (by omega)
   obtain ⟨e,he,hee⟩ := hsa.2 e0 he0
   obtain ⟨i,hi,hie⟩ := mem_getD he
   refine anyN_true hi ?_
   unfold usedAt
   rw [hie,hee]; exact hx
  obtain ⟨P,hP⟩ : ∃ P,P = usedAt A h.drift (C - 1) := ⟨_,rfl⟩
  rw [← hP] at hBf
  obtain ⟨ab,acp,hsv2,_,hrow⟩ := hsl2
  refine vks_loopN A.length 0 (fun k => [(2,⟨true,.val (.int .i64 t)⟩),(7,⟨true,.val (.bool true)⟩),(8,⟨true,.val (.int .i64 n)⟩),(15,⟨true,.val (.bool (anyN P k))⟩),(89,⟨true,.val (.slice oa A.length oc)⟩),(90,⟨true,.val (.int .i64 A.length)⟩),(91,⟨true,.val (.int .i64 k)⟩)]) (fun _ => True) (Nat.zero_le _) rfl trivial ?_
  intro k hk2 _
  by_cases hlt2 : k < A.length
  ·have hdk : decide ((k : Int) < (A.length : Int)) = true := by simpa using hlt2
   obtain ⟨b,o,vs,c,wr,ha,hb,hi⟩ := hrow (by omega)
   have hi1 := (hi k hlt2).1
   have hi2 := (hi k hlt2).2
   have hdk4 := hdat k hlt2
   have hek := (hel' _ (getD_mem hlt2)).num
   have p1 := SlAt.one hdk4.1
   have p2 := SlAt.one hdk4.2.1
   have p3 := SlAt.one hdk4.2.2.1
   have p4 := SlAt.one hdk4.2.2.2
   have hlen : (usedL h.drift (A.getD k default).2.1 (normalL (A.getD k default).2.2)).length ≤ 1000000000 := by
    have q1 := usedL_len h.drift (A.getD k default).2.1 (normalL (A.getD k default).2.2)
    have q2 := normalL_len (A.getD k default).2.2
    omega
   have hT1 := hT k hlt2
   have hPk : P k = hasB (usedL h.drift (A.getD k default).2.1 (normalL (A.getD k default).2.2)) (C - 1) := by rw [hP]; rfl
   unfold usedAt at hT1
   have hany : anyN P (k + 1) = (anyN P k || P k) := rfl
   have hks : IntKind.i64.wrap ((k : Int) + 1) = ((k + 1 : Nat) : Int) := wrapS (by
    have := allN'_len hzo (zonesL (shortH h zone t)).length (Nat.le_refl _)
    have h3 := hzo.num
    have h4 : A.length = (allN' (shortH h zone t).copies (zonesL (shortH h zone t)) (zonesL (shortH h zone t)).length).length := by rw [hA]; rfl
    omega)
   simp only [heldA,rHeld] at hi2
   cases hsv2
   subst ha
   simp only [hdk,hb,hi2,p1,p2,p3,p4,go_sem,Nat.reduceEqDiff,Nat.reduceBEq,Nat.reduceAdd,binO]
   refine ⟨⟨by omega,by omega⟩,hi1,?_⟩
   simp only [w1]
   have hd4 : SpansAt H2 (sv k) (usedL h.drift (A.getD k default).2.1 (normalL (A.getD k default).2.2)) := hdk4.2.2.2
   have hc1 : FnP E 187 [sv k,.int .i64 C] H2 (.bool false) := by rw [← hT1]; exact fn187 h4 C hd4 hlen
   have hc2 : FnP E 187 [sv k,.int .i64 (C - 1)] H2 (.bool (P k)) := by rw [hPk]; exact fn187 h4 (C - 1) hd4 hlen
   refine vks_callp (.bool false) (by simp only [go_sem]) (fun _ => ⟨by simp only [go_sem,Nat.reduceEqDiff],hc1⟩) ?_
   cases hq : anyN P k
   ·simp only [w1,w2,go_sem,Nat.reduceEqDiff,Nat.reduceBEq,Nat.reduceAdd,binO]
    refine vks_callp (.bool (P k)) (by simp only [go_sem,Nat.reduceEqDiff]) (fun _ => ⟨by simp only [go_sem,Nat.reduceEqDiff],hc2⟩) ?_
    simp only [go_sem,Nat.reduceEqDiff,Nat.reduceBEq,binO]
    refine ⟨hlt2,?_,hks⟩
    rw [hany,hq,Bool.false_or]
   ·simp only [w1,w2,go_sem,Nat.reduceEqDiff,Nat.reduceBEq,Nat.reduceAdd,binO]
    refine vks_callp (.bool false) (by simp only [go_sem,Nat.reduceEqDiff]) (fun hg => by simp only [go_sem,Nat.reduceEqDiff] at hg) ?_
    simp only [↓simT_pick_t,go_sem,Nat.reduceEqDiff,Nat.reduceBEq,binO]
    refine ⟨hlt2,?_,hks⟩
    rw [hany,hq,Bool.true_or]
  ·have hdk : decide ((k : Int) < (A.length : Int)) = false := by simpa using hlt2
   have : k = A.length := by omega
   subst this
   by_cases hn0' : n = 0
   ·have e0 : (n == 0) = true := by simpa using hn0'
    simp only [hdk,e0,↓simT_pick_t,go_sem,Nat.reduceEqDiff,Nat.reduceBEq,Nat.reduceAdd,binO]
    exact hle1.trans hle2
   ·have e0 : (n == 0) = false := by simpa using hn0'
    have hb' := hBf hn0'
    simp only [hdk,e0,hb',go_sem,Nat.reduceEqDiff,Nat.reduceBEq,Nat.reduceAdd,binO]
    exact hle1.trans hle2
end Go.SL
/- Contract: the example of the law. -/
namespace Go.SL
open Go
variable {E : Env} {H : Hp}
def exSets : List SignedD := [⟨[120],2,0,[⟨[97],0,0⟩],[]⟩,⟨[120],4,0,[⟨[],1,0⟩],[]⟩,⟨[119,46,120],1,10,[⟨[],7,0⟩],[]⟩]
def exH : HistD := ⟨[⟨[97],1,0⟩],[⟨0,0,20,[120],exSets⟩],[46],6,0,[⟨[],1,1⟩],[1],2,50⟩
set_option maxRecDepth 8000 in
set_option maxHeartbeats 4000000 in
theorem fn189 (h4 : Codes4 E) : Fn E.P (E.fn 189) [] H (fun u H' => HistAt H' u exH ∧ H.le H') := by
 refine Fn.of_vks h4.c189 (by simp [cf189]) ?_
 simp only [cf189,cf189_0,cf189_1,cf189_2,cf189_3,cf189_4]
 simp only [go_sem,Nat.reduceLeDiff,Nat.reduceEqDiff,Nat.reduceBEq,Nat.reduceAdd,reduceCtorEq]
 intro c1 k1 c2 k2 c3 k3 c4 k4 c5 k5 c6 k6 c7 k7 c8 k8
 obtain ⟨G1,e1⟩ : ∃ y,y = Hp.put H c1 (.row [.string ⟨#[]⟩,.int .i64 7,.int .i64 0] 3 true) := ⟨_,rfl⟩
 rw [← e1] at k2 k3 k4 k5 k6 k7 k8 ⊢
 have l1 : Hp.le H G1 := by rw [e1]; exact le_put k1 _
 have f1 : G1 c1 = some (.row [.string ⟨#[]⟩,.int .i64 7,.int .i64 0] 3 true) := by rw [e1,Hp.put_same]
 obtain ⟨G2,e2⟩ : ∃ y,y = Hp.put G1 c2 (.row [.string ⟨#[97]⟩,.int .i64 0,.int .i64 0] 3 true) := ⟨_,rfl⟩
 rw [← e2] at k3 k4 k5 k6 k7 k8 ⊢
 have l2 : Hp.le G1 G2 := by rw [e2]; exact le_put k2 _
 have f2 : G2 c2 = some (.row [.string ⟨#[97]⟩,.int .i64 0,.int .i64 0] 3 true) := by rw [e2,Hp.put_same]
 obtain ⟨G3,e3⟩ : ∃ y,y = Hp.put G2 c3 (.row [.string ⟨#[]⟩,.int .i64 1,.int .i64 0] 3 true) := ⟨_,rfl⟩
 rw [← e3] at k4 k5 k6 k7 k8 ⊢
 have l3 : Hp.le G2 G3 := by rw [e3]; exact le_put k3 _
 have f3 : G3 c3 = some (.row [.string ⟨#[]⟩,.int .i64 1,.int .i64 0] 3 true) := by rw [e3,Hp.put_same]
 obtain ⟨G4,e4⟩ : ∃ y,y = Hp.put G3 c4 (.row [.string ⟨#[120]⟩,.int .i64 2,.int .i64 0,.slice (some ⟨c2,0,none⟩) 1 1,.slice none 0 0,.string ⟨#[120]⟩,.int .i64 4,.int .i64 0,.slice (some ⟨c3,0,none⟩) 1 1,.slice none 0 0,.string ⟨#[119,46,120]⟩,.int .i64 1,.int .i64 10,.slice (some ⟨c1,0,none⟩) 1 1,.slice none 0 0] 15 true) := ⟨_,rfl⟩
 rw [← e4] at k5 k6 k7 k8 ⊢
 have l4 : Hp.le G3 G4 := by rw [e4]; exact le_put k4 _
 have f4 : G4 c4 = some (.row [.string ⟨#[120]⟩,.int .i64 2,.int .i64 0,.slice (some ⟨c2,0,none⟩) 1 1,.slice none 0 0,.string ⟨#[120]⟩,.int .i64 4,.int .i64 0,.slice (some ⟨c3,0,none⟩) 1 1,.slice none 0 0,.string ⟨#[119,46,120]⟩,.int .i64 1,.int .i64 10,.slice (some ⟨c1,0,none⟩) 1 1,.slice none 0 0] 15 true) := by rw [e4,Hp.put_same]
 obtain ⟨G5,e5⟩ : ∃ y,y = Hp.put G4 c5 (.row [.string ⟨#[]⟩,.int .i64 1,.int .i64 1] 3 true) := ⟨_,rfl⟩
 rw [← e5] at k6 k7 k8 ⊢
 have l5 : Hp.le G4 G5 := by rw [e5]; exact le_put k5 _
 have f5 : G5 c5 = some (.row [.string ⟨#[]⟩,.int .i64 1,.int .i64 1] 3 true) := by rw [e5,Hp.put_same]
 obtain ⟨G6,e6⟩ : ∃ y,y = Hp.put G5 c6 (.row [.string ⟨#[97]⟩,.int .i64 1,.int .i64 0] 3 true) := ⟨_,rfl⟩
 rw [← e6] at k7 k8 ⊢
 have l6 : Hp.le G5 G6 := by rw [e6]; exact le_put k6 _
 have f6 : G6 c6 = some (.row [.string ⟨#[97]⟩,.int .i64 1,.int .i64 0] 3 true) := by rw [e6,Hp.put_same]
 obtain ⟨G7,e7⟩ : ∃ y,y = Hp.put G6 c7 (.row [.int .i64 0,.int .i64 0,.int .i64 20,.string ⟨#[120]⟩,.slice (some ⟨c4,0,none⟩) 3 3] 5 true) := ⟨_,rfl⟩
 rw [← e7] at k8 ⊢
 have l7 : Hp.le G6 G7 := by rw [e7]; exact le_put k7 _
 have f7 : G7 c7 = some (.row [.int .i64 0,.int .i64 0,.int .i64 20,.string ⟨#[120]⟩,.slice (some ⟨c4,0,none⟩) 3 3] 5 true) := by rw [e7,Hp.put_same]
 obtain ⟨G8,e8⟩ : ∃ y,y = Hp.put G7 c8 (.row [.int .i64 1] 1 true) := ⟨_,rfl⟩
 rw [← e8]
 have l8 : Hp.le G7 G8 := by rw [e8]; exact le_put k8 _
 have f8 : G8 c8 = some (.row [.int .i64 1] 1 true) := by rw [e8,Hp.put_same]
 have q1 := l8 _ _ (l7 _ _ (l6 _ _ (l5 _ _ (l4 _ _ (l3 _ _ (l2 _ _ (f1)))))))
 have q2 := l8 _ _ (l7 _ _ (l6 _ _ (l5 _ _ (l4 _ _ (l3 _ _ (f2))))))
 have q3 := l8 _ _ (l7 _ _ (l6 _ _ (l5 _ _ (l4 _ _ (f3)))))
 have q4 := l8 _ _ (l7 _ _ (l6 _ _ (l5 _ _ (f4))))
 have q5 := l8 _ _ (l7 _ _ (l6 _ _ (f5)))
 have q6 := l8 _ _ (l7 _ _ (f6))
 have q7 := l8 _ _ (f7)
 have one3 : ∀ {b c : Nat} {x y z : Value}, G8 b = some (.row [x, y, z] c true) → ∀ (row : Nat → List Value), row 0 = [x, y, z] → SlAt G8 3 (.slice (some ⟨b, 0, none⟩) 1 1) 1 row := fun hb row hr => SlAt.lit hb fun i hi => by
  obtain rfl : i = 0 := by omega
  exact ⟨Nat.le_refl _,hr.symm⟩
 have hsets : SetsAt G8 (.slice (some ⟨c4, 0, none⟩) 3 3) exSets := by
  refine ⟨fun i => if i = 0 then .slice (some ⟨c2,0,none⟩) 1 1 else if i = 1 then .slice (some ⟨c3,0,none⟩) 1 1 else .slice (some ⟨c1,0,none⟩) 1 1,fun _ => .slice none 0 0,SlAt.lit q4 fun i hi => ?_,fun i hi => ?_⟩
  ·have : i = 0 ∨ i = 1 ∨ i = 2 := by change i < 3 at hi; omega
   rcases this with rfl | rfl | rfl
   ·exact ⟨Nat.le_of_ble_eq_true rfl,rfl⟩
   ·exact ⟨Nat.le_of_ble_eq_true rfl,rfl⟩
   ·exact ⟨Nat.le_of_ble_eq_true rfl,rfl⟩
  ·have : i = 0 ∨ i = 1 ∨ i = 2 := by change i < 3 at hi; omega
   rcases this with rfl | rfl | rfl
   ·exact ⟨one3 q2 _ rfl,SlAt.nil⟩
   ·exact ⟨one3 q3 _ rfl,SlAt.nil⟩
   ·exact ⟨one3 q1 _ rfl,SlAt.nil⟩
 refine ⟨⟨_,_,_,_,rfl,one3 q6 _ rfl,⟨fun _ => .slice (some ⟨c4,0,none⟩) 3 3,SlAt.lit q7 fun i hi => ?_,fun i hi => ?_⟩,one3 q5 _ rfl,SlAt.lit f8 fun i hi => ?_⟩,?_⟩
 ·obtain rfl : i = 0 := by change i < 1 at hi; omega
  exact ⟨Nat.le_of_ble_eq_true rfl,rfl⟩
 ·obtain rfl : i = 0 := by change i < 1 at hi; omega
  exact hsets
 ·obtain rfl : i = 0 := by change i < 1 at hi; omega
  exact ⟨Nat.le_of_ble_eq_true rfl,rfl⟩
 ·exact ((((((l1.trans l2).trans l3).trans l4).trans l5).trans l6).trans l7).trans l8
end Go.SL
/- Contracts: Earliest refused; the law's head. -/
namespace Go.SL
open Go
variable {E : Env} {H : Hp}
set_option maxRecDepth 8000 in
set_option maxHeartbeats 4000000 in
theorem fn177e (hE : Codes E) (h2 : Codes2 E) (h3 : Codes3 E) (hB : Base E H) {v : Value} {h : HistD} (hh : HistAt H v h) (hn : h.copies.length ≤ 12) (from_ limit : Int) (hl : h.end_ ≤ limit) :
  FnP E 177 [v,.agg #[.slice none 0 0],.slice none 0 0,.int .i64 from_,.int .i64 limit] H (.tuple #[.int .i64 0,.bool false,.int .i64 1]) := by
 have hh0 := hh
 obtain ⟨vh,vc,vd,vi,rfl,g1,g2,g3,g5⟩ := hh
 have o1 := SlAt.one g1
 have o2 := g2.one
 have o3 := SlAt.one g3
 have o5 := SlAt.one g5
 refine Fn.of_vks h3.c177 (by simp [cf177]) ?_
 simp only [cf177,cf177_0]
 simp only [go_sem,Nat.reduceEqDiff,Nat.reduceBEq,Nat.reduceAdd,reduceCtorEq]
 intro b5 k5 b6 k6 b7 k7 b10 k10 b11 k11 b12 k12
 obtain ⟨H1,e1⟩ : ∃ y,y = H.put b5 (.row [vh,vc,S h.aname,.int .i64 h.atype,.int .i64 h.alife,vd,vi,.int .i64 h.drift,.int .i64 h.end_] 9 true) := ⟨_,rfl⟩
 rw [← e1] at k6 k7 k10 k11 k12 ⊢
 obtain ⟨H2,e2⟩ : ∃ y,y = H1.put b6 (.row [.slice none 0 0] 1 true) := ⟨_,rfl⟩
 rw [← e2] at k7 k10 k11 k12 ⊢
 obtain ⟨H3,e3⟩ : ∃ y,y = H2.put b7 (.row [.slice none 0 0] 1 true) := ⟨_,rfl⟩
 rw [← e3] at k10 k11 k12 ⊢
 obtain ⟨H4,e4⟩ : ∃ y,y = H3.put b10 (.row [.int .i64 0] 1 true) := ⟨_,rfl⟩
 rw [← e4] at k11 k12 ⊢
 obtain ⟨H5,e5⟩ : ∃ y,y = H4.put b11 (.row [.bool false] 1 true) := ⟨_,rfl⟩
 rw [← e5] at k12 ⊢
 obtain ⟨H6,e6⟩ : ∃ y,y = H5.put b12 (.row [.int .i64 0] 1 true) := ⟨_,rfl⟩
 rw [← e6]
 have l1 : H.le H1 := by rw [e1]; exact le_put k5 _
 have l2 : H1.le H2 := by rw [e2]; exact le_put k6 _
 have l3 : H2.le H3 := by rw [e3]; exact le_put k7 _
 have l4 : H3.le H4 := by rw [e4]; exact le_put k10 _
 have l5 : H4.le H5 := by rw [e5]; exact le_put k11 _
 have l6 : H5.le H6 := by rw [e6]; exact le_put k12 _
 have f5 : H6 b5 = _ := l6 _ _ (l5 _ _ (l4 _ _ (l3 _ _ (l2 _ _ (by rw [e1]; exact Hp.put_same ..)))))
 have f6 : H6 b6 = _ := l6 _ _ (l5 _ _ (l4 _ _ (l3 _ _ (by rw [e2]; exact Hp.put_same ..))))
 have f10 : H6 b10 = _ := l6 _ _ (l5 _ _ (by rw [e4]; exact Hp.put_same ..))
 have f11 : H6 b11 = _ := l6 _ _ (by rw [e5]; exact Hp.put_same ..)
 have f12 : H6 b12 = some (.row [.int .i64 0] 1 true) := by rw [e6]; exact Hp.put_same ..
 simp only [cf177_1,f6,go_sem,Nat.reduceLeDiff,Nat.reduceEqDiff,Nat.reduceBEq,Nat.reduceAdd]
 intro bs ks
 obtain ⟨H7,e7⟩ : ∃ y,y = H6.put bs (.row [.int .i64 from_,.slice none 0 0] 2 true) := ⟨_,rfl⟩
 rw [← e7]
 have l7 : H6.le H7 := by rw [e7]; exact le_put ks _
 have f7 : H7 bs = some (.row [.int .i64 from_,.slice none 0 0] 2 true) := by rw [e7,Hp.put_same]
 have hle : H.le H7 := (((((l1.trans l2).trans l3).trans l4).trans l5).trans l6).trans l7
 have hst : StepsAt H7 (.slice (some ⟨bs, 0, none⟩) 1 1) [⟨from_, []⟩] := by
  refine ⟨fun _ => .slice none 0 0,SlAt.lit f7 fun i hi => ?_,fun i hi => ?_⟩
  ·obtain rfl : i = 0 := by change i < 1 at hi; omega
   exact ⟨Nat.le_of_ble_eq_true rfl,rfl⟩
  ·obtain rfl : i = 0 := by change i < 1 at hi; omega
   exact PutsAt.nil0
 have hcall := fn28 hE (hB.mono hle) (hh0.mono hle) hst (fn48g hE h2 (hB.mono hle) (hh0.mono hle) hn)
 have g5 := l7 _ _ f5
 have g10 := l7 _ _ f10
 have g11 := l7 _ _ f11
 have g12 := l7 _ _ f12
 have hd : decide (limit ≥ h.end_) = true := by rw [decide_eq_true_eq]; exact hl
 have nn : ∀ {P : Hp} {a c : Nat} {o : AObj},P a = some o → P c = none → a ≠ c := fun h1 h2 => by rintro rfl; rw [h1] at h2; cases h2
 have m4 : H4 b10 = some (.row [.int .i64 0] 1 true) := by rw [e4]; exact Hp.put_same ..
 have m5 : H5 b11 = some (.row [.bool false] 1 true) := by rw [e5]; exact Hp.put_same ..
 have n1 : b10 ≠ b11 := nn m4 k11
 have n2 : b10 ≠ b12 := nn (l5 _ _ m4) k12
 have n3 : b11 ≠ b12 := nn m5 k12
 have kk10 : H b10 = none := by
  cases hq : H b10 with
  | none => rfl
  | some o => rw [((l1.trans l2).trans l3) _ _ hq] at k10; cases k10
 have kk11 : H b11 = none := by
  cases hq : H b11 with
  | none => rfl
  | some o => rw [(((l1.trans l2).trans l3).trans l4) _ _ hq] at k11; cases k11
 have kk12 : H b12 = none := by
  cases hq : H b12 with
  | none => rfl
  | some o => rw [((((l1.trans l2).trans l3).trans l4).trans l5) _ _ hq] at k12; cases k12
 simp only [cf177_2,g5,go_sem,Nat.reduceEqDiff,Nat.reduceBEq,Nat.reduceAdd]
 refine vks_callp _ (by simp only [go_sem]) (fun _ => ⟨by simp only [go_sem,Nat.reduceEqDiff],hcall⟩) ?_
 obtain ⟨q,hq⟩ : ∃ q,q = (histValid h && stepsOKB h.end_ h.hosts.length [⟨from_,[]⟩]) := ⟨_,rfl⟩
 rw [← hq]
 have fin : H.le (((H7.put b10 (.row [.int .i64 0] 1 true)).put b11 (.row [.bool false] 1 true)).put b12 (.row [.int .i64 1] 1 true)) := le_put_of_le (le_put_of_le (le_put_of_le hle kk10 _) kk11 _) kk12 _
 cases q
 ·simp only [cf177_3,g5,g10,g11,g12,put_get,n1,n2,n3,Ne.symm n1,Ne.symm n2,Ne.symm n3,↓simT_pick_t,go_sem,Nat.reduceEqDiff,Nat.reduceBEq,Nat.reduceAdd,binO]
  exact fin
 ·cases hlf : decide (limit < from_)
  ·simp only [cf177_3,hlf,hd,g5,g10,g11,g12,put_get,n1,n2,n3,Ne.symm n1,Ne.symm n2,Ne.symm n3,go_sem,Nat.reduceEqDiff,Nat.reduceBEq,Nat.reduceAdd,binO]
   exact fin
  ·simp only [cf177_3,hlf,hd,g5,g10,g11,g12,put_get,n1,n2,n3,Ne.symm n1,Ne.symm n2,Ne.symm n3,↓simT_pick_t,go_sem,Nat.reduceEqDiff,Nat.reduceBEq,Nat.reduceAdd,binO]
   exact fin
end Go.SL
/- Contract: the law's head. -/
namespace Go.SL
open Go
variable {E : Env} {H : Hp}
theorem ex_valid : histValid exH = true := by decide
theorem ex_long20 : longN exH [120] 20 = 13 ∧ longE exH [120] 20 = 0 := by decide
theorem ex_long33 : longN exH [120] 33 = 0 ∧ longE exH [120] 33 = 0 := by decide
theorem ex_longY : longE exH [121] 20 = 4 := by decide
theorem ex_moments : moments exH = [(0,true),(20,true),(24,true),(33,true)] := by decide +kernel
def zeroH : HistD := ⟨[],[],[],0,0,[],[],0,0⟩
theorem zero_valid : histValid zeroH = false := by decide
theorem ex_small : SmallC exH.copies := ⟨by decide, fun c hc => by
 have : c = ⟨0,0,20,[120],exSets⟩ := by simpa [exH] using hc
 subst this
 decide⟩
theorem ex_sums : ∀ c ∈ exH.copies, SumsOk c.sets := by
 intro c hc
 have : c = ⟨0,0,20,[120],exSets⟩ := by simpa [exH] using hc
 subst this
 intro s hs g hg
 have : s.sigs = [] := by
  simp only [exSets,List.mem_cons,List.not_mem_nil,or_false] at hs
  rcases hs with rfl | rfl | rfl <;> rfl
 rw [this] at hg; cases hg
theorem sorted_of_perm {ns l : List Int} (hp : ns.Perm l) (hl : l.Pairwise (fun a b => a ≤ b)) : sortN ltInt ns.length ns = l := by
 have h1 : (sortN ltInt ns.length ns).Perm l := (sortN_perm (lt := ltInt) ns.length ns (Nat.le_refl _)).trans hp
 have h2 := sortN_ord (key := fun a : Int => a) ns.length ns (Nat.le_refl _)
 have hlen : (sortN ltInt ns.length ns).length = ns.length := sortN_len _ _ _
 have h3 : (sortN ltInt ns.length ns).Pairwise (fun a b => a ≤ b) := by
  rw [List.pairwise_iff_getElem]
  intro i j hi hj hij
  have hadj : ∀ i,i + 1 < ns.length → (sortN ltInt ns.length ns).getD i default ≤ (sortN ltInt ns.length ns).getD (i + 1) default := h2
  have : ∀ d, i + d < ns.length → (sortN ltInt ns.length ns).getD i default ≤ (sortN ltInt ns.length ns).getD (i + d) default := by
   intro d
   induction d with
   | zero => intro _; exact Int.le_refl _
   | succ d ih =>
    intro hd
    exact Int.le_trans (ih (by omega)) (hadj (i + d) (by omega))
  have h4 := this (j - i) (by omega)
  rw [show i + (j - i) = j by omega] at h4
  rw [List.getD_eq_getElem?_getD,List.getElem?_eq_getElem hi,List.getD_eq_getElem?_getD,List.getElem?_eq_getElem hj] at h4
  exact h4
 exact List.Perm.eq_of_pairwise (fun a b _ _ h1 h2 => Int.le_antisymm h1 h2) h3 hl h1
set_option maxRecDepth 8000 in
set_option maxHeartbeats 4000000 in
theorem fn183 (hE : Codes E) (h2 : Codes2 E) (h3 : Codes3 E) (h4 : Codes4 E) (L : Lib3 E) (L4 : Lib4 E) (hB : Base E H) (hB2 : Base2 E H) : FnP E 183 [] H (.bool true) := by
 have hz := zonesOk_of ex_valid ex_small
 have hp := pubSz_of ex_valid ex_small ex_sums
 have m1 : (moments exH).length ≤ 12 ∧ 0 < (moments exH).length := by rw [ex_moments]; exact ⟨by decide,by decide⟩
 refine Fn.of_vks h4.c183 (by simp [cf183]) ?_
 simp only [cf183,cf183_0,cf183_1,cf183_2,cf183_3,cf183_4,cf183_5,cf183_6]
 simp only [go_sem]
 refine vks_call (by simp only [go_sem]) (fn189 h4) ?_
 rintro v1 H1 ⟨hh1,l1⟩
 simp only [go_sem]
 refine vks_call (by simp only [go_sem]) (fn158 hE h2 h3 L L4 (hB.mono l1) (hB2.mono l1) hh1 (by decide) (fun _ => hp) (fun _ => hz) (fun _ => m1)) ?_
 rintro u H2 ⟨l2,_,hg⟩
 obtain ⟨w,ns,hu,hperm,hints⟩ := hg ex_valid
 subst hu
 rw [ex_moments] at hperm
 rw [sorted_of_perm hperm (by decide)] at hints
 clear hg
 have le2 := l1.trans l2
 simp only [go_sem,Nat.reduceLT,Nat.reduceEqDiff,Nat.reduceBEq,Nat.reduceAdd]
 refine vks_call (by simp only [go_sem]) (fn189 h4) ?_
 rintro v2 H3 ⟨hh3,l3⟩
 have le3 := le2.trans l3
 simp only [go_sem,Nat.reduceBEq]
 refine vks_call (by simp only [go_sem,Nat.reduceEqDiff]) (Fn.same (fn186 hE h2 h4 (hB.mono le3) hh3 (by decide) (fun i hi => Nat.le_trans (ex_small.sets _ (getD_mem hi)) (by omega)) [120] 20)) ?_
 rintro u H4 ⟨rfl,rfl⟩
 rw [ex_long20.1,ex_long20.2]
 simp only [go_sem,Nat.reduceLT,Nat.reduceEqDiff,Nat.reduceBEq,Nat.reduceAdd]
 refine vks_call (by simp only [go_sem]) (fn189 h4) ?_
 rintro v3 H5 ⟨hh5,l5⟩
 have le5 := le3.trans l5
 simp only [go_sem,Nat.reduceBEq]
 refine vks_call (by simp only [go_sem,Nat.reduceEqDiff]) (Fn.same (fn186 hE h2 h4 (hB.mono le5) hh5 (by decide) (fun i hi => Nat.le_trans (ex_small.sets _ (getD_mem hi)) (by omega)) [120] 33)) ?_
 rintro u H6 ⟨rfl,rfl⟩
 rw [ex_long33.1,ex_long33.2]
 simp only [go_sem,Nat.reduceLT,Nat.reduceEqDiff,Nat.reduceBEq,Nat.reduceAdd]
 refine vks_call (by simp only [go_sem]) (fn189 h4) ?_
 rintro v4 H7 ⟨hh7,l7⟩
 have le7 := le5.trans l7
 simp only [go_sem,Nat.reduceBEq]
 refine vks_call (by simp only [go_sem,Nat.reduceEqDiff]) (Fn.same (fn186 hE h2 h4 (hB.mono le7) hh7 (by decide) (fun i hi => Nat.le_trans (ex_small.sets _ (getD_mem hi)) (by omega)) [121] 20)) ?_
 rintro u H8 ⟨rfl,rfl⟩
 rw [ex_longY]
 simp only [go_sem,Nat.reduceLT,Nat.reduceEqDiff,Nat.reduceBEq,Nat.reduceAdd]
 refine vks_call (by simp only [go_sem]) (fn189 h4) ?_
 rintro v5 H9 ⟨hh9,l9⟩
 have le9 := le7.trans l9
 simp only [go_sem,Nat.reduceBEq]
 refine vks_call (by simp only [go_sem,Nat.reduceEqDiff]) (Fn.same (fn177e hE h2 h3 (hB.mono le9) hh9 (by decide) 5 50 (by decide))) ?_
 rintro u H10 ⟨rfl,rfl⟩
 simp only [go_sem,Nat.reduceLT,Nat.reduceEqDiff,Nat.reduceBEq,Nat.reduceAdd]
 have hh0 : HistAt H10 (.agg #[.slice none 0 0, .slice none 0 0, .string ⟨#[]⟩, .int .i64 0, .int .i64 0, .slice none 0 0, .slice none 0 0, .int .i64 0, .int .i64 0]) zeroH :=
  ⟨_,_,_,_,rfl,SlAt.nil,⟨fun _ => undef,SlAt.nil,fun i hi => by cases hi⟩,SlAt.nil,SlAt.nil⟩
 refine vks_call (by simp only [go_sem,Nat.reduceEqDiff]) (fn158 hE h2 h3 L L4 (hB.mono le9) (hB2.mono le9) hh0 (by decide) (fun h => by rw [zero_valid] at h; cases h) (fun h => by rw [zero_valid] at h; cases h) (fun h => by rw [zero_valid] at h; cases h)) ?_
 rintro u H11 ⟨l11,hbad,_⟩
 rw [hbad zero_valid]
 have le11 := le9.trans l11
 have hi11 := SlAt.mono hints (l3.trans (l5.trans (l7.trans (l9.trans l11))))
 obtain ⟨aw,cw,rfl⟩ := SlAt.sl hi11
 simp only [go_sem,Nat.reduceLT,Nat.reduceEqDiff,Nat.reduceBEq,Nat.reduceAdd]
 simp only [cf183_7,go_sem,Nat.reduceEqDiff,Nat.reduceBEq,binO]
 refine vks_useB (by intro x h; cases h) (by intro f a h; cases h) ?_ ?_ ?_
 ·simp only [go_sem,Nat.reduceEqDiff]
 ·simp only [go_sem,Nat.reduceEqDiff]
 simp only [go_sem,Nat.reduceLeDiff,Nat.reduceBEq,Nat.reduceAdd]
 intro b hb
 have leb : H11.le (H11.put b (.row [.int .i64 0,.int .i64 20,.int .i64 24,.int .i64 33] 4 true)) := le_put hb _
 have hb4 : IntsAt (H11.put b (.row [.int .i64 0, .int .i64 20, .int .i64 24, .int .i64 33] 4 true)) (.slice (some ⟨b, 0, none⟩) 4 4) [0, 20, 24, 33] := by
  refine ⟨_,4,rfl,(fun h => by cases h),fun _ => ⟨b,0,_,4,true,rfl,Hp.put_same _ _ _,fun i hi => ?_⟩⟩
  have h4 : i = 0 ∨ i = 1 ∨ i = 2 ∨ i = 3 := by simp only [List.length_cons,List.length_nil] at hi; omega
  rcases h4 with rfl | rfl | rfl | rfl <;> exact ⟨by decide,rfl⟩
 have hnum := fn190 h4 (SlAt.mono hi11 leb) hb4 (by decide) (by decide)
 have hnt : rNumbers (List.map (fun x : Int × Bool => x.fst) [(0,true),(20,true),(24,true),(33,true)]) [0,20,24,33] = true := by decide
 rw [hnt] at hnum
 have leF := le11.trans leb
 generalize H11.put b (.row [.int .i64 0,.int .i64 20,.int .i64 24,.int .i64 33] 4 true) = H12 at *
 refine vks_callp _ (by simp only [go_sem,Nat.reduceEqDiff]) (fun hg => ⟨by simp only [go_sem,Nat.reduceEqDiff] at hg ⊢,hnum⟩) ?_
 simp only [go_sem,Nat.reduceEqDiff,Nat.reduceBEq,reduceCtorEq]
 exact leF
end Go.SL
