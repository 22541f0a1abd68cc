/- Contracts: what Apply and Back do with a history of one copy. -/
import Derived.Test.YtilkdjdnhkchpaaGreatDoorNplO
import Derived.Test.YtilkdjdnhkchpaaGreatDoorNplT29
import Derived.Test.YtilkdjdnhkchpaaGreatDoorNplT33
namespace Go.SL
open Go
variable {E : Env} {H : Hp}

def W9 (v : Value) : Prop := ∃ cs : List Value, v = .agg cs.toArray ∧ cs.length = 9 ∧ cs.all one1 = true
theorem le_put_same {G K : Hp} {b : Nat} {o : AObj} (h : G.le K) (hb : K b = some o) : G.le (K.put b o) := fun c p hc => by
  by_cases e : c = b
  · subst e
    have := h c p hc
    rw [hb] at this
    rw [Hp.put_same]; exact this
  · rw [Hp.put_ne _ _ e]; exact h c p hc
set_option maxHeartbeats 400000 in
set_option maxRecDepth 100000 in
theorem fn72 (hE : Codes E) (h2 : Codes2 E) {v vl : Value} {h : HistD} {c : CopyD} (hh : HistAt H v h) (hc : h.copies = [c]) (hl : StepsAt H vl []) (h28 : FnP E 28 [v, vl] H (.bool true)) (hsm : SmallS c.sets)
    (hsz : h.hosts.length ≤ 1099511627 ∧ h.adata.length ≤ 1099511627 ∧ h.hints.length ≤ 1099511627) :
    Fn E.P (E.fn 72) [v, vl] H (fun u H' => ∃ vw, u = .tuple #[vw, .int .i64 0] ∧ H.le H' ∧ W9 vw) := by
  obtain ⟨vh, vc, vd, vi, rfl, g1, g2, g3, g4⟩ := hh
  have hh1 := SlAt.one g1
  have hd1 := SlAt.one g3
  have hi1 := SlAt.one g4
  rw [hc] at g2
  have hc1 := CopiesAt.one g2
  have hft := fn70 hE h2 g2 (by simp)
  have g2' := g2
  obtain ⟨z, hsl, hdeep⟩ := g2'
  have hz0 := hdeep 0 (by simp)
  have hz1 : one1 (z 0) = true := by obtain ⟨d, g, h, _⟩ := hz0; exact SlAt.one h
  have hfc := fn71 h2 hsl (fun i hi => by
    have : i = 0 := by simp at hi; exact hi
    subst this; simp [rCopy, hz1, one1_int, one1_str]) (by simp)
  obtain ⟨ac, cc, hvc, _⟩ := hsl
  have hvc' : vc = .slice ac 1 cc := hvc
  clear hvc
  subst hvc'
  obtain ⟨zl, ⟨al, cl, hvl, _⟩, _⟩ := hl
  have hvl' : vl = .slice al 0 cl := hvl
  clear hvl
  subst hvl'
  have hvd := SlAt.sl g3
  obtain ⟨ad, cd, rfl⟩ := hvd
  have hvi := SlAt.sl g4
  obtain ⟨ai, ci, rfl⟩ := hvi
  have hvh := SlAt.sl g1
  obtain ⟨ah, ch, rfl⟩ := hvh
  have htm : tooManyC [c] = false := rfl
  rw [htm] at hft
  have q0 : decide (((0 : Nat) : Int) < ((0 : Nat) : Int)) = false := by decide
  refine Fn.of_vks hE.c72 (by simp [c_steps_Apply]) ?_
  simp only [c_steps_Apply, c_steps_Apply_r0, c_steps_Apply_r1, c_steps_Apply_r2, c_steps_Apply_r3, c_steps_Apply_r4, c_steps_Apply_r5, c_steps_Apply_r6, c_steps_Apply_r7, c_steps_Apply_r8, c_steps_Apply_r9, c_steps_Apply_r10, c_steps_Apply_r11, c_steps_Apply_r12, c_steps_Apply_r13, c_steps_Apply_r14, c_steps_Apply_r15, c_steps_Apply_r16, c_steps_Apply_r17, c_steps_Apply_r18, c_steps_Apply_r19, c_steps_Apply_r20, c_steps_Apply_r21, c_steps_Apply_r22, c_steps_Apply_r23, c_steps_Apply_r24, c_steps_Apply_r25, c_steps_Apply_r26, c_steps_Apply_r27]
  simp only [go_sem, Nat.reduceEqDiff, Nat.reduceBEq, Nat.reduceAdd, reduceCtorEq]
  refine vks_callp (.bool true) ?_ (fun _ => ⟨?_, h28⟩) ?_ <;> simp only [go_sem, Nat.reduceLeDiff, Nat.reduceEqDiff, Nat.reduceBEq, Nat.reduceAdd]
  refine vks_loopN 0 0 (fun k => [(2, ⟨true, .box [.slice ah h.hosts.length ch, .slice ac 1 cc, S h.aname, .int .i64 h.atype, .int .i64 h.alife, .slice ad h.adata.length cd, .slice ai h.hints.length ci, .int .i64 h.drift, .int .i64 h.end_]⟩), (4, ⟨true, .box [.slice none 0 0, .slice none 0 0, S [], .int .i64 0, .int .i64 0, .slice none 0 0, .slice none 0 0, .int .i64 0, .int .i64 0]⟩), (6, ⟨true, .val (.slice ac 1 cc)⟩), (20, ⟨true, .val (.slice al 0 cl)⟩), (21, ⟨true, .val (.int .i64 ((0 : Nat) : Int))⟩), (22, ⟨true, .val (.int .i64 ((0 : Nat) : Int))⟩)]) (fun _ => True) (Nat.le_refl _) rfl trivial ?_
  intro k hk _
  simp only [q0, go_sem, Nat.reduceEqDiff, Nat.reduceBEq, Nat.reduceAdd, binO]
  refine vks_callp (.bool false) ?_ (fun _ => ⟨?_, hft⟩) ?_ <;> simp only [go_sem, Nat.reduceEqDiff, Nat.reduceBEq, Nat.reduceAdd]
  refine vks_call ?_ hfc ?_
  · simp only [go_sem, Nat.reduceEqDiff]
  rintro u H1 hcl
  rcases hcl with ⟨_, hn0, _⟩ | ⟨b', cap', hb', rfl, rfl⟩
  · simp at hn0
  have hfl : flat ([c] : List CopyD).length (rCopy [c] z) = [.int .i64 c.host, .int .i64 c.from_, .int .i64 c.till, S c.apex, z 0] := rfl
  have q1 : (([c] : List CopyD).length) = 1 := rfl
  simp only [q1, go_sem, Nat.reduceLeDiff, Nat.reduceEqDiff, Nat.reduceBEq, Nat.reduceAdd]
  refine vks_loopP 1 0 (fun k fr' H' => fr' = [(2, ⟨true, .box [.slice ah h.hosts.length ch, .slice (some ⟨b', 0, none⟩) 1 cap', S h.aname, .int .i64 h.atype, .int .i64 h.alife, .slice ad h.adata.length cd, .slice ai h.hints.length ci, .int .i64 h.drift, .int .i64 h.end_]⟩), (4, ⟨true, .box [.slice none 0 0, .slice none 0 0, S [], .int .i64 0, .int .i64 0, .slice none 0 0, .slice none 0 0, .int .i64 0, .int .i64 0]⟩), (69, ⟨true, .val (.int .i64 ((1 : Nat) : Int))⟩), (70, ⟨true, .val (.int .i64 k)⟩)] ∧
      H.le H' ∧ ∃ x, one1 x = true ∧ H' b' = some (.row [.int .i64 c.host, .int .i64 c.from_, .int .i64 c.till, S c.apex, x] (cap' * 5) true) ∧ (k = 0 → SetsAt H' x c.sets)) (Nat.zero_le _) ⟨rfl, le_put hb' _, z 0, hz1, Hp.put_same .., fun _ => hz0.mono (le_put hb' _)⟩ ?_
  rintro k fr' H' hk ⟨rfl, hle, x, hx1, hb2, hset⟩
  cases k with
  | zero =>
    have q6 : decide (((0 : Nat) : Int) < ((1 : Nat) : Int)) = true := by decide
    simp only [hb2, c0N, c1N, go_sem, Nat.reduceLeDiff, Nat.reduceEqDiff, Nat.reduceBEq, Nat.reduceAdd, Int.reduceToNat, Int.reduceLE, Int.reduceLT, binO, decT]
    refine vks_dcall ?_ (fn20 hE c.apex (hset rfl) hsm) ?_
    · simp only [go_sem, Nat.reduceEqDiff]
    rintro u H2 ⟨v', rfl, hle2, hset2⟩
    have hb3 := hle2 _ _ hb2
    have hv1 : one1 v' = true := by obtain ⟨d, g, h, _⟩ := hset2; exact SlAt.one h
    simp only [hb3, hv1, vks_dst, c1N, go_sem, Nat.reduceLT, Nat.reduceLeDiff, Nat.reduceEqDiff, Nat.reduceBEq, Nat.reduceAdd, Int.reduceToNat, Int.reduceLE, Int.reduceLT, Int.reduceAdd, binO]
    exact ⟨by decide, le_put_of_le (hle.trans hle2) hb' _, v', hv1, Hp.put_same ..⟩
  | succ k =>
    have hk0 : k = 0 := by omega
    subst hk0
    have q7 : decide (((0 + 1 : Nat) : Int) < ((1 : Nat) : Int)) = false := by decide
    simp only [q7, go_sem, Nat.reduceLeDiff, Nat.reduceEqDiff, Nat.reduceBEq, Nat.reduceAdd, Nat.reduceMul, binO]
    refine vks_call ?_ (fn21 hE (g1.mono hle) hsz.1) ?_
    · simp only [go_sem, Nat.reduceEqDiff]
    rintro u1 Ha hc1'
    have hu1 : HostsAt Ha u1 h.hosts := Cloned.at (row := rHost h.hosts) (sz := 3) (fun _ _ => rfl) hc1'
    have hl1 := Cloned.le hc1'
    obtain ⟨b1, e1, hue⟩ := HostsAt.sl hu1
    subst hue
    simp only [go_sem, Nat.reduceLeDiff, Nat.reduceEqDiff, Nat.reduceBEq, Nat.reduceAdd]
    refine vks_call ?_ (fn22 hE (g3.mono (hle.trans hl1)) hsz.2.1) ?_
    · simp only [go_sem, Nat.reduceEqDiff]
    rintro u2 Hb hc2
    have hu2 : DataAt Hb u2 h.adata := Cloned.at (row := rDatum h.adata) (sz := 3) (fun _ _ => rfl) hc2
    have hl2 := Cloned.le hc2
    have hue := hu2
    obtain ⟨b2, e2, hue, _⟩ := hue
    subst hue
    simp only [go_sem, Nat.reduceLeDiff, Nat.reduceEqDiff, Nat.reduceBEq, Nat.reduceAdd]
    refine vks_call ?_ (fn23 hE (g4.mono ((hle.trans hl1).trans hl2)) hsz.2.2) ?_
    · simp only [go_sem, Nat.reduceEqDiff]
    rintro u3 Hc hc3
    have hu3 : IntsAt Hc u3 h.hints := Cloned.at (row := rInt h.hints) (sz := 1) (fun _ _ => rfl) hc3
    have hl3 := Cloned.le hc3
    have hue := hu3
    obtain ⟨b3, e3, hue, _⟩ := hue
    subst hue
    simp only [go_sem, Nat.reduceLeDiff, Nat.reduceEqDiff, Nat.reduceBEq, Nat.reduceAdd]
    exact ⟨_, rfl, ((hle.trans hl1).trans hl2).trans hl3, _, rfl, rfl, rfl⟩
/-- how far steps were taken back -/
def backRow (now : List Value) (first limit : Int) : List Value := .slice none 0 0 :: (now ++ [.int .i64 first, .int .i64 limit, .slice none 0 0, .int .i64 0])
def now0 : List Value := [.slice none 0 0, .slice none 0 0, S [], .int .i64 0, .int .i64 0, .slice none 0 0, .slice none 0 0, .int .i64 0, .int .i64 0]
set_option maxHeartbeats 400000 in
theorem fn31 (h2 : Codes2 E) {v vl : Value} {bb : Nat} {first limit : Int} (hbb : H bb = some (.row (backRow now0 first limit) 14 true)) (hv : W9 v)
    (h72 : Fn E.P (E.fn 72) [v, vl] H (fun u H' => ∃ vw, u = .tuple #[vw, .int .i64 0] ∧ H.le H' ∧ W9 vw)) :
    Fn E.P (E.fn 31) [.pointer (some ⟨bb, 0, none⟩), v, vl] H (fun u H' => H.le H' ∧ W9 u) := by
  obtain ⟨cs, rfl, hl9, hall⟩ := hv
  obtain ⟨c0, c1, c2, c3, c4, c5, c6, c7, c8, rfl⟩ : ∃ c0 c1 c2 c3 c4 c5 c6 c7 c8, cs = [c0, c1, c2, c3, c4, c5, c6, c7, c8] := by
    match cs, hl9 with
    | [c0, c1, c2, c3, c4, c5, c6, c7, c8], _ => exact ⟨_, _, _, _, _, _, _, _, _, rfl⟩
  simp only [List.all_cons, List.all_nil, Bool.and_eq_true] at hall
  obtain ⟨l0, l1, l2, l3, l4, l5, l6, l7, l8, _⟩ := hall
  have hbb' := hbb
  simp only [backRow, now0, List.cons_append, List.nil_append] at hbb'
  refine Fn.of_vks h2.c31 (by simp [c_rollback_back_apply]) ?_
  simp only [c_rollback_back_apply, c_rollback_back_apply_r0, c_rollback_back_apply_r1, c_rollback_back_apply_r2, c_rollback_back_apply_r3, c_rollback_back_apply_r4, c_rollback_back_apply_r5]
  simp only [hbb', bne_self_eq_false, go_sem, Nat.reduceEqDiff, Nat.reduceBEq, Nat.reduceAdd, reduceCtorEq, binO]
  refine vks_call ?_ h72 ?_
  · simp only [go_sem, Nat.reduceEqDiff, reduceCtorEq]
  rintro u H1 ⟨vw, rfl, hle, ds, rfl, hd9, hdall⟩
  obtain ⟨d0, d1, d2, d3, d4, d5, d6, d7, d8, rfl⟩ : ∃ c0 c1 c2 c3 c4 c5 c6 c7 c8, ds = [c0, c1, c2, c3, c4, c5, c6, c7, c8] := by
    match ds, hd9 with
    | [c0, c1, c2, c3, c4, c5, c6, c7, c8], _ => exact ⟨_, _, _, _, _, _, _, _, _, rfl⟩
  have hdall' := hdall
  simp only [List.all_cons, List.all_nil, Bool.and_eq_true] at hdall'
  obtain ⟨m0, m1, m2, m3, m4, m5, m6, m7, m8, _⟩ := hdall'
  have hb1 := hle _ _ hbb'
  simp only [hb1, m0, m1, m2, m3, m4, m5, m6, m7, m8, go_sem, Nat.reduceLT, Nat.reduceEqDiff, Nat.reduceBEq, Nat.reduceAdd, reduceCtorEq]
  exact ⟨le_put_same hle hb1, _, rfl, rfl, hdall⟩
theorem fn51 (hE : Codes E) (f : Value) : FnP E 51 [.slice none 0 0, f] H (.int .i64 (-1)) := by
  refine Fn.of_vks hE.c51 (by simp [c_slices_IndexFunc_Question]) ?_
  simp only [c_slices_IndexFunc_Question, c_slices_IndexFunc_Question_r0, c_slices_IndexFunc_Question_r1, c_slices_IndexFunc_Question_r2, c_slices_IndexFunc_Question_r3, c_slices_IndexFunc_Question_r4, c_slices_IndexFunc_Question_r5, c_slices_IndexFunc_Question_r6, c_slices_IndexFunc_Question_r7]
  simp only [go_sem, Nat.reduceEqDiff, Nat.reduceBEq, reduceCtorEq]
  refine vks_loopN 0 0 (fun k => [(0, ⟨true, .val (.slice none 0 0)⟩), (1, ⟨true, .val f⟩), (7, ⟨true, .val (.int .i64 ((0 : Nat) : Int))⟩), (8, ⟨true, .val (.int .i64 0)⟩)]) (fun _ => True) (Nat.le_refl _) rfl trivial ?_
  intro k hk _
  have q0 : decide ((0 : Int) < ((0 : Nat) : Int)) = false := by decide
  simp only [q0, go_sem, Nat.reduceEqDiff, Nat.reduceBEq, reduceCtorEq, binO]
theorem fn30 (hE : Codes E) (f : Value) : FnP E 30 [.slice none 0 0, f] H (.bool false) := by
  refine Fn.of_vks hE.c30 (by simp [c_slices_ContainsFunc_Question]) ?_
  simp only [c_slices_ContainsFunc_Question, c_slices_ContainsFunc_Question_r0, c_slices_ContainsFunc_Question_r1]
  simp only [go_sem, Nat.reduceEqDiff, Nat.reduceBEq, reduceCtorEq]
  have q0 : decide ((-1 : Int) ≥ 0) = false := by decide
  refine vks_callp _ ?_ (fun _ => ⟨?_, fn51 hE f⟩) ?_ <;> simp only [q0, go_sem, Nat.reduceEqDiff, Nat.reduceBEq, reduceCtorEq, binO]
theorem fn32 (h2 : Codes2 E) (a : Option Addr) (n cap : Nat) : Fn E.P (E.fn 32) [.slice a n cap] H (fun u H' => ∃ b, H b = none ∧ u = .func (.func (E.fn 108)) #[] #[.pointer (some ⟨b, 0, none⟩)] ∧ H' = H.put b (.row [.slice a n cap] 1 true)) := by
  refine Fn.of_vks h2.c32 (by simp [c_rollback_backwards]) ?_
  simp only [c_rollback_backwards, c_rollback_backwards_r0, c_rollback_backwards_r1]
  simp only [go_sem, Nat.reduceEqDiff, Nat.reduceBEq, reduceCtorEq]
  intro b hb
  exact ⟨b, hb, rfl, rfl⟩
theorem fn108 (h2 : Codes2 E) (y : Value) {a : Option Addr} {cap b : Nat} (hb : H b = some (.row [.slice a 0 cap] 1 true)) : Fn E.P (E.fn 108) [y, .pointer (some ⟨b, 0, none⟩)] H (fun _ H' => H' = H) := by
  refine Fn.of_vks h2.c108 (by simp [c_rollback_backwards_1]) ?_
  simp only [c_rollback_backwards_1, c_rollback_backwards_1_r0, c_rollback_backwards_1_r1, c_rollback_backwards_1_r3, c_rollback_backwards_1_r2]
  have w0 : IntKind.i64.wrap (((0 : Nat) : Int) - 1) = -1 := by decide
  have q0 : decide ((-1 : Int) ≥ 0) = false := by decide
  simp only [hb, w0, go_sem, Nat.reduceEqDiff, Nat.reduceBEq, reduceCtorEq, binO]
  refine vks_loopN 0 0 (fun k => [(0, ⟨true, .val y⟩), (1, ⟨true, .val (.pointer (some ⟨b, 0, none⟩))⟩), (3, ⟨true, .val (.int .i64 (-1))⟩)]) (fun _ => True) (Nat.le_refl _) rfl trivial ?_
  intro k hk _
  simp only [q0, go_sem, Nat.reduceEqDiff, Nat.reduceBEq, reduceCtorEq, binO]
theorem iter108 (h2 : Codes2 E) {a : Option Addr} {cap b : Nat} (hb : H b = some (.row [.slice a 0 cap] 1 true)) : Iter E (.func (.func (E.fn 108)) #[] #[.pointer (some ⟨b, 0, none⟩)]) H (fun xs => xs = []) := by
  intro y Inv Stop K hG _ h0
  refine FnV_of_Fn h2.e108 ((fn108 (H := K) h2 y (hG _ _ h0 _ _ hb)).mono ?_)
  rintro _ H' rfl
  exact .inl ⟨[], rfl, h0⟩
theorem vks_rangeF0 {fr : Fr} {Q : X → Fr → Hp → Prop} {k : List Item} {f : Arg} {ps : List Nat} {assign body : ACode} (h1 : vok fr f) (h2 : isFn (vo E fr f)) (hI : Iter E (vo E fr f) H (fun xs => xs = [])) (hend : vks E k fr H Q) :
    vks E (.code (.rangeF f ps assign body) :: k) fr H Q := by
  simp only [vks, vc]
  refine ⟨h1, h2, H, (fun xs => xs = []), hI, (by rintro xs rfl x hx; cases hx), (fun _ H' => H' = H), rfl, (by rintro pre H' rfl; exact Hp.le.refl _), (by rintro pre x H' ⟨suf, hs⟩; simp at hs), ?_⟩
  rintro xs H' _ rfl
  exact hend
set_option maxHeartbeats 400000 in
theorem fn10bad (hE : Codes E) {v vl : Value} {bl : Nat} {vp : Value} {dn fm : Int} (hend : ∃ c0 c1 c2 c3 c4 c5 c6 c7, v = .agg #[c0, c1, c2, c3, c4, c5, c6, c7, .int .i64 100]) (hl : vl = .slice (some ⟨bl, 0, none⟩) 1 1) (hbl : H bl = some (.row [.int .i64 10, vp] 2 true))
    (h28 : ∀ H', H.le H' → FnP E 28 [v, vl] H' (.bool true)) (hd : (dn = 1 ∧ fm = 10) ∨ (dn = 2 ∧ fm = 20)) :
    Fn E.P (E.fn 10) [v, vl, .int .i64 dn, .int .i64 fm, .int .i64 50, .slice none 0 0] H (fun u H' => u = .tuple #[.slice none 0 0, .int .i64 1] ∧ H.le H') := by
  obtain ⟨c0, c1, c2, c3, c4, c5, c6, c7, rfl⟩ := hend
  subst hl
  have w0 : IntKind.i64.wrap 0 = 0 := by decide
  have s1 : decide ((1 : Int) < 0) = false := by decide
  have s2 : decide ((2 : Int) < 0) = false := by decide
  have s3 : decide ((1 : Int) > 1) = false := by decide
  have s4 : decide ((2 : Int) > 1) = true := by decide
  have s5 : decide ((10 : Int) < 0) = false := by decide
  have s6 : decide ((1 : Int) > 0) = true := by decide
  have s7 : decide ((10 : Int) ≤ 10) = true := by decide
  refine Fn.of_vks hE.c10 (by simp [c_rollback_Back]) ?_
  simp only [c_rollback_Back, c_rollback_Back_r0, c_rollback_Back_r1, c_rollback_Back_r2, c_rollback_Back_r3, c_rollback_Back_r4, c_rollback_Back_r5, c_rollback_Back_r6, c_rollback_Back_r7, c_rollback_Back_r8, c_rollback_Back_r9, c_rollback_Back_r10, c_rollback_Back_r11, c_rollback_Back_r12, c_rollback_Back_r13, c_rollback_Back_r14, c_rollback_Back_r15, c_rollback_Back_r16]
  simp only [go_sem, Nat.reduceEqDiff, Nat.reduceBEq, Nat.reduceAdd, reduceCtorEq]
  intro b6 hb6
  have hle : H.le (H.put b6 (.row [c0, c1, c2, c3, c4, c5, c6, c7, .int .i64 100] 9 true)) := le_put hb6 _
  have hbl' := hle _ _ hbl
  have hb6' : (H.put b6 (.row [c0, c1, c2, c3, c4, c5, c6, c7, .int .i64 100] 9 true)) b6 = some (.row [c0, c1, c2, c3, c4, c5, c6, c7, .int .i64 100] 9 true) := Hp.put_same ..
  simp only [hb6', go_sem, Nat.reduceAdd]
  refine vks_callp (.bool true) ?_ (fun _ => ⟨?_, h28 _ hle⟩) ?_ <;> simp only [go_sem, Nat.reduceEqDiff, Nat.reduceBEq, binO]
  rcases hd with ⟨rfl, rfl⟩ | ⟨rfl, rfl⟩
  · simp only [c1N, ↓s1, ↓s3, ↓s5, ↓s6, ↓s7, w0, hbl', hb6', go_sem, Nat.reduceLeDiff, Nat.reduceEqDiff, Nat.reduceBEq, Nat.reduceAdd, Int.reduceToNat, Int.reduceLE, Int.reduceLT, Int.reduceSub, decF]
    exact hle
  · simp only [c1N, ↓s2, ↓s4, go_sem, Int.reduceLT, Int.reduceSub, decF]
    exact hle
end Go.SL
