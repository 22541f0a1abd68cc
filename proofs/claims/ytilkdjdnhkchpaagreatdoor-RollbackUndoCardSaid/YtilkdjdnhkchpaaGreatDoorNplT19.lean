/- Contract: steps.World. -/
import Derived.Test.YtilkdjdnhkchpaaGreatDoorNplO
import Derived.Test.YtilkdjdnhkchpaaGreatDoorNplT16
import Derived.Test.YtilkdjdnhkchpaaGreatDoorNplT17
import Derived.Test.YtilkdjdnhkchpaaGreatDoorNplO4
import Derived.Test.YtilkdjdnhkchpaaGreatDoorNplP
namespace Go.SL
open Go
variable {E : Env} {H : Hp}

/-- a world's cells -/
def W7 (v : Value) : Prop := ∃ cs : List Value, v = .agg cs.toArray ∧ cs.length = 7 ∧ cs.all one1 = true
/-- copies with few sets -/
def SmallP (ps : List PlacedD) : Prop := ps.length ≤ 1099511627 ∧ ∀ i, i < ps.length → SmallS (ps.getD i default).sets
def SmallW (w : WorldD) : Prop := SmallP w.zones ∧ w.hosts.length ≤ 1099511627 ∧ w.adata.length ≤ 1099511627 ∧ w.hints.length ≤ 1099511627
/-- the copies that stay, among the first k -/
def stayN (zs ps : List PlacedD) (k : Nat) : List PlacedD := (zs.take k).filter (fun p => !((mget p.key (pairsN ps ps.length)).getD false))
theorem stayN_succ (zs ps : List PlacedD) {k : Nat} (hk : k < zs.length) : stayN zs ps (k + 1) = if (mget (zs.getD k default).key (pairsN ps ps.length)).getD false then stayN zs ps k else stayN zs ps k ++ [zs.getD k default] := by
  have e : zs.take (k + 1) = zs.take k ++ [zs.getD k default] := by
    rw [List.take_add_one, List.getD_eq_getElem?_getD, List.getElem?_eq_getElem hk]; rfl
  simp only [stayN, e, List.filter_append]
  obtain ⟨q, hq⟩ : ∃ q, zs.getD k default = q := ⟨_, rfl⟩
  rw [hq]
  cases h : (mget q.key (pairsN ps ps.length)).getD false <;> simp [h]
theorem stayN_len (zs ps : List PlacedD) (k : Nat) : (stayN zs ps k).length ≤ zs.length := by
  unfold stayN
  exact Nat.le_trans (List.length_filter_le _ _) (by simp; omega)
/-- ... and those of a stage that are no stops, among its first k -/
def putN (ps : List PlacedD) (k : Nat) : List PlacedD := (ps.take k).filter (fun p => !isStopB p)
theorem putN_succ (ps : List PlacedD) {k : Nat} (hk : k < ps.length) : putN ps (k + 1) = if isStopB (ps.getD k default) then putN ps k else putN ps k ++ [ps.getD k default] := by
  have e : ps.take (k + 1) = ps.take k ++ [ps.getD k default] := by
    rw [List.take_add_one, List.getD_eq_getElem?_getD, List.getElem?_eq_getElem hk]; rfl
  simp only [putN, e, List.filter_append]
  obtain ⟨q, hq⟩ : ∃ q, ps.getD k default = q := ⟨_, rfl⟩
  rw [hq]
  cases h : isStopB q <;> simp [h]
theorem putN_len (ps : List PlacedD) (k : Nat) : (putN ps k).length ≤ ps.length := by
  unfold putN
  exact Nat.le_trans (List.length_filter_le _ _) (by simp; omega)
set_option maxHeartbeats 2000000 in
set_option maxRecDepth 100000 in
theorem fn4 (hE : Codes E) (hB : Base E H) {v vp : Value} {w : WorldD} {ps : List PlacedD} (hw : WorldAt H v w) (hp : PutsAt H vp ps) (hsw : SmallW w) (hsp : SmallP ps) :
    Fn E.P (E.fn 4) [v, .agg #[vp]] H (fun u H' => ∃ vw, u = .tuple #[vw, .int .i64 (worldE w ps)] ∧ H.le H' ∧ (worldE w ps = 0 → WorldAt H' vw (worldOf w ps)) ∧ W7 vw) := by
  have hw0 := hw
  obtain ⟨vh, vz, vd, vi, rfl, h1, h2, h3, h4⟩ := hw
  have hh1 := SlAt.one h1
  have hd1 := SlAt.one h3
  have hi1 := SlAt.one h4
  have hz1 : one1 vz = true := by obtain ⟨z, h, _⟩ := h2; exact SlAt.one h
  have hp1 : one1 vp = true := by obtain ⟨z, h, _⟩ := hp; exact SlAt.one h
  obtain ⟨ah, ch, hhe, _⟩ := id h1
  refine Fn.of_vks hE.c4 (by simp [c_steps_World]) ?_
  simp only [c_steps_World, c_steps_World_r0, c_steps_World_r1, c_steps_World_r2, c_steps_World_r3, c_steps_World_r4, c_steps_World_r5, c_steps_World_r6, c_steps_World_r7, c_steps_World_r8, c_steps_World_r9, c_steps_World_r10, c_steps_World_r11, c_steps_World_r12, c_steps_World_r13, c_steps_World_r14, c_steps_World_r15, c_steps_World_r16, c_steps_World_r17, c_steps_World_r18, c_steps_World_r19, c_steps_World_r20, c_steps_World_r21, c_steps_World_r22, c_steps_World_r23, c_steps_World_r24, c_steps_World_r25, c_steps_World_r26, c_steps_World_r27, c_steps_World_r28]
  simp only [go_sem, Nat.reduceEqDiff, Nat.reduceBEq, Nat.reduceAdd, reduceCtorEq]
  refine vks_callp _ ?_ (fun _ => ⟨?_, fn14 hE hB hw0⟩) ?_ <;> simp only [hhe, go_sem, Nat.reduceLeDiff, Nat.reduceEqDiff, Nat.reduceBEq, Nat.reduceAdd]
  refine vks_callp _ ?_ (fun hg => ⟨?_, fn15 hE hB (w.hosts.length : Int) hp⟩) ?_ <;> simp only [go_sem, Nat.reduceEqDiff, Nat.reduceBEq, Nat.reduceAdd]
  · simp only [go_sem, Nat.reduceEqDiff] at hg ⊢; exact ⟨hg, hg⟩
  refine ⟨fun h => ?_, fun h => ?_⟩
  · have hE1 : worldE w ps = 1 := by
      have : (worldValid w && stageOKB ps w.hosts.length) = false := by
        cases hx : worldValid w <;> cases hy : stageOKB ps w.hosts.length <;> simp_all
      simp only [worldE, this, Bool.false_eq_true, if_false]
    exact ⟨_, by rw [hE1], (fun h0 => by rw [hE1] at h0; cases h0), _, rfl, rfl, rfl⟩
  have hE2 : worldE w ps = if tooManyB (afterL w.zones ps) then 2 else 0 := by
    have : (worldValid w && stageOKB ps w.hosts.length) = true := by
      cases hx : worldValid w <;> cases hy : stageOKB ps w.hosts.length <;> simp_all
    simp only [worldE, this, if_true]
  refine vks_call ?_ (fn16 hE hp (by have := hsp.1; omega)) ?_
  · simp only [go_sem, Nat.reduceEqDiff]
  rintro u Hm ⟨bm, om, hbm, rfl, rfl, hM⟩
  have hlem : H.le (H.put bm om) := le_put hbm _
  obtain ⟨H1, hH1⟩ : ∃ x, x = H.put bm om := ⟨_, rfl⟩
  have hMm : MapAt H1 bm ((pairsN ps ps.length).map fun e => (encP e.1, .bool e.2)) := by rw [hH1]; exact hM H
  rw [← hH1] at hlem ⊢
  have h2' := h2
  obtain ⟨z, ⟨az, cz, rfl, hsz, hrz⟩, hdz⟩ := h2'
  have hpp := hp
  obtain ⟨y, ⟨ap, cp, rfl, hsp', hrp⟩, hdp⟩ := hpp
  simp only [go_sem, Nat.reduceLeDiff, Nat.reduceEqDiff, Nat.reduceBEq, Nat.reduceAdd]
  refine vks_loopP w.zones.length 0 (fun k fr' H' => ∃ v7, fr' = [(2, ⟨true, .box [.slice ah w.hosts.length ch, .slice az w.zones.length cz, S w.aname, .int .i64 w.atype, .int .i64 w.alife, vd, vi]⟩), (3, ⟨true, .box [.slice ap ps.length cp]⟩), (4, ⟨true, .box [.slice none 0 0, .slice none 0 0, S [], .int .i64 0, .int .i64 0, .slice none 0 0, .slice none 0 0]⟩), (6, ⟨true, .val (.map (some bm))⟩), (7, ⟨true, .val v7⟩), (28, ⟨true, .val (.slice az w.zones.length cz)⟩), (29, ⟨true, .val (.int .i64 w.zones.length)⟩), (30, ⟨true, .val (.int .i64 k)⟩)] ∧
      Bld H1 H' v7 (stayN w.zones ps k)) (Nat.zero_le _) ⟨_, rfl, H1, z, Hp.le.refl _, Hp.le.refl _, (fun i hi => by simp [stayN] at hi), .inl ⟨rfl, rfl⟩⟩ ?_
  rintro k fr' H' hk ⟨v7, rfl, hBl⟩
  have hle1 := hBl.mono0
  have hMk : MapAt H' bm ((pairsN ps ps.length).map fun e => (encP e.1, .bool e.2)) := by
    obtain ⟨es, cl, e1, e2⟩ := hMm
    exact ⟨es, cl, hle1 _ _ e1, e2⟩
  by_cases hlt : k < w.zones.length
  · have hd : decide ((k : Int) < (w.zones.length : Int)) = true := by simpa using hlt
    have hr' := hrz (by omega)
    obtain ⟨b, o, vs, c, wr, ha, hb, hi⟩ := hr'
    subst ha
    have hb1 := (hlem.trans hle1) _ _ hb
    have hi1' := (hi k hlt).1
    have hi2 := (hi k hlt).2
    have hzk := (hdz k hlt)
    have hz1 : one1 (z k) = true := by obtain ⟨d, g, h, _⟩ := hzk; exact SlAt.one h
    have hst := stayN_succ w.zones ps hlt
    have hsl := stayN_len w.zones ps k
    obtain ⟨x, hx⟩ : ∃ y, w.zones.getD k default = y := ⟨_, rfl⟩
    rw [hx] at hzk hst
    have hbound := hsw.1.1
    simp only [hd, hb1, hi2, rPlaced, hx, hz1, go_sem, Nat.reduceLeDiff, Nat.reduceEqDiff, Nat.reduceBEq, Nat.reduceAdd, binO]
    refine ⟨⟨by omega, by omega⟩, hi1', ?_⟩
    refine vks_look (enc := encP) (encv := fun b => .bool b) (l := pairsN ps ps.length) (b := bm) x.key keyP (keyIsP _) ?_ ?_ ?_ ?_ hMk ?_
    · simp only [go_sem, Nat.reduceEqDiff]
    · simp only [go_sem, Nat.reduceEqDiff]
    · simp only [go_sem, Nat.reduceEqDiff]
    · simp only [go_sem, Nat.reduceEqDiff]; rfl
    have hv : ((mget x.key (pairsN ps ps.length)).map (fun b => Value.bool b)).getD (.bool false) = .bool ((mget x.key (pairsN ps ps.length)).getD false) := by
      cases mget x.key (pairsN ps ps.length) <;> rfl
    rw [hv]
    simp only [go_sem, Nat.reduceEqDiff, Nat.reduceBEq, Nat.reduceAdd, binO]
    refine ⟨fun hm bs hbs => ?_, fun hm => ?_⟩
    · refine vks_push (H0 := H1) (bs := bs) (L := stayN w.zones ps k) (zv := z k) (v := v7) x ?_ ?_ ?_ ?_ (Hp.put_same ..) (hzk.mono hlem) (hBl.put hbs) (by omega) ?_
      · simp only [go_sem, Nat.reduceEqDiff]
      · simp only [go_sem, Nat.reduceEqDiff]
      · simp only [go_sem, Nat.reduceEqDiff]
      · simp only [go_sem, Nat.reduceEqDiff]
      rintro v' H'' hB'
      simp only [go_sem, Nat.reduceEqDiff, Nat.reduceBEq, binO]
      exact ⟨hlt, v', ⟨rfl, wrapS (by omega)⟩, by rw [hst, hm]; exact hB'⟩
    · exact ⟨hlt, v7, ⟨rfl, wrapS (by omega)⟩, by rw [hst, hm]; exact hBl⟩
  · have hd : decide ((k : Int) < (w.zones.length : Int)) = false := by simpa using hlt
    have hkn : k = w.zones.length := by omega
    simp only [hd, go_sem, Nat.reduceLeDiff, Nat.reduceEqDiff, Nat.reduceBEq, Nat.reduceAdd, binO]
    subst hkn
    have hall : stayN w.zones ps w.zones.length = w.zones.filter (fun p => !((mget p.key (pairsN ps ps.length)).getD false)) := by unfold stayN; rw [List.take_length]
    have hlen1 := stayN_len w.zones ps w.zones.length
    rw [hall] at hBl hlen1
    obtain ⟨L1, hL1⟩ : ∃ x, w.zones.filter (fun p => !((mget p.key (pairsN ps ps.length)).getD false)) = x := ⟨_, rfl⟩
    rw [hL1] at hBl hlen1
    have hbound := hsw.1.1
    have hbp := hsp.1
    refine vks_loopP ps.length 0 (fun k fr' H' => ∃ v7, fr' = [(2, ⟨true, .box [.slice ah w.hosts.length ch, .slice az w.zones.length cz, S w.aname, .int .i64 w.atype, .int .i64 w.alife, vd, vi]⟩), (4, ⟨true, .box [.slice none 0 0, .slice none 0 0, S [], .int .i64 0, .int .i64 0, .slice none 0 0, .slice none 0 0]⟩), (7, ⟨true, .val v7⟩), (49, ⟨true, .val (.slice ap ps.length cp)⟩), (50, ⟨true, .val (.int .i64 ps.length)⟩), (51, ⟨true, .val (.int .i64 k)⟩)] ∧
      Bld H1 H' v7 (L1 ++ putN ps k)) (Nat.zero_le _) ⟨_, rfl, by simpa [putN] using hBl⟩ ?_
    clear hBl hMk hle1
    rintro k fr' H' hk ⟨v7, rfl, hBl⟩
    have hle1 := hBl.mono0
    by_cases hlt : k < ps.length
    · have hd : decide ((k : Int) < (ps.length : Int)) = true := by simpa using hlt
      have hr' := hrp (by omega)
      obtain ⟨b, o, vs, c, wr, ha, hb, hi⟩ := hr'
      subst ha
      have hb1 := (hlem.trans hle1) _ _ hb
      have hi1' := (hi k hlt).1
      have hi2 := (hi k hlt).2
      have hzk := (hdp k hlt)
      have hz1 : one1 (y k) = true := by obtain ⟨d, g, h, _⟩ := hzk; exact SlAt.one h
      have hst := putN_succ ps hlt
      have hsl := putN_len ps k
      obtain ⟨x, hx⟩ : ∃ y, ps.getD k default = y := ⟨_, rfl⟩
      rw [hx] at hzk hst
      simp only [hd, hb1, hi2, rPlaced, hx, hz1, go_sem, Nat.reduceEqDiff, Nat.reduceBEq, Nat.reduceAdd, binO]
      refine ⟨⟨by omega, by omega⟩, hi1', ?_⟩
      refine vks_callp _ ?_ (fun _ => ⟨?_, fn17 hE x (hzk.mono (hlem.trans hle1))⟩) ?_ <;> simp only [go_sem, Nat.reduceEqDiff, Nat.reduceBEq, Nat.reduceAdd, binO]
      refine ⟨fun hm bs hbs => ?_, fun hm => ?_⟩
      · refine vks_push (H0 := H1) (bs := bs) (L := L1 ++ putN ps k) (zv := y k) (v := v7) x ?_ ?_ ?_ ?_ (Hp.put_same ..) (hzk.mono hlem) (hBl.put hbs) (by simp; omega) ?_
        · simp only [go_sem, Nat.reduceEqDiff]
        · simp only [go_sem, Nat.reduceEqDiff]
        · simp only [go_sem, Nat.reduceEqDiff]
        · simp only [go_sem, Nat.reduceEqDiff]
        rintro v' H'' hB'
        simp only [go_sem, Nat.reduceEqDiff, Nat.reduceBEq, binO]
        exact ⟨hlt, v', ⟨rfl, wrapS (by omega)⟩, by rw [hst, hm]; simp only [Bool.false_eq_true, if_false]; rw [← List.append_assoc]; exact hB'⟩
      · exact ⟨hlt, v7, ⟨rfl, wrapS (by omega)⟩, by rw [hst, hm]; exact hBl⟩
    · have hd : decide ((k : Int) < (ps.length : Int)) = false := by simpa using hlt
      have hkn : k = ps.length := by omega
      simp only [hd, go_sem, Nat.reduceEqDiff, Nat.reduceBEq, Nat.reduceAdd, binO]
      have haf : L1 ++ putN ps k = afterL w.zones ps := by
        unfold afterL putN; rw [hkn, List.take_length, hL1]
      have hlen2 := putN_len ps k
      have hlenA : (afterL w.zones ps).length ≤ w.zones.length + ps.length := by rw [← haf]; simp; omega
      rw [haf] at hBl
      obtain ⟨LA, hLA⟩ : ∃ x, afterL w.zones ps = x := ⟨_, rfl⟩
      rw [hLA] at hBl hE2 hlenA
      have hsmA : ∀ i, i < LA.length → SmallS (LA.getD i default).sets := by
        intro i hi
        have hm := getD_mem (d := default) hi
        obtain ⟨q, hq⟩ : ∃ q, LA.getD i default = q := ⟨_, rfl⟩
        rw [hq] at hm ⊢
        rw [← hLA] at hm
        unfold afterL at hm
        rcases List.mem_append.1 hm with hm | hm
        · obtain ⟨j, hj, ej⟩ := mem_getD default (List.mem_filter.1 hm).1
          rw [← ej]; exact hsw.1.2 j hj
        · obtain ⟨j, hj, ej⟩ := mem_getD default (List.mem_filter.1 hm).1
          rw [← ej]; exact hsp.2 j hj
      have hpa := hBl.puts
      obtain ⟨zz, hza, _⟩ := hpa
      obtain ⟨a7, c7, hv7, _⟩ := hza
      subst hv7
      refine vks_callp _ ?_ (fun _ => ⟨?_, fn19 hE hBl.puts (by omega)⟩) ?_ <;> simp only [go_sem, Nat.reduceEqDiff, Nat.reduceBEq, Nat.reduceAdd]
      refine ⟨fun hm => ?_, fun hm => ?_⟩
      · rw [hm, if_pos rfl] at hE2
        exact ⟨_, by rw [hE2], hlem.trans hle1, (fun h0 => by rw [hE2] at h0; cases h0), _, rfl, rfl, rfl⟩
      rw [hm] at hE2
      refine vks_loopP LA.length 0 (fun k fr' H' => fr' = [(2, ⟨true, .box [.slice ah w.hosts.length ch, .slice az w.zones.length cz, S w.aname, .int .i64 w.atype, .int .i64 w.alife, vd, vi]⟩), (4, ⟨true, .box [.slice none 0 0, .slice none 0 0, S [], .int .i64 0, .int .i64 0, .slice none 0 0, .slice none 0 0]⟩), (7, ⟨true, .val (.slice a7 LA.length c7)⟩), (68, ⟨true, .val (.int .i64 LA.length)⟩), (69, ⟨true, .val (.int .i64 k)⟩)] ∧
        Bld H1 H' (.slice a7 LA.length c7) LA) (Nat.zero_le _) ⟨rfl, hBl⟩ ?_
      clear hBl hle1
      rintro k fr' H' hk ⟨rfl, hBl⟩
      have hle1 := hBl.mono0
      by_cases hlt : k < LA.length
      · have hd : decide ((k : Int) < (LA.length : Int)) = true := by simpa using hlt
        obtain ⟨G, z, g1, g2, g3, g4⟩ := hBl
        rcases g4 with ⟨_, hL⟩ | ⟨b, cap, hbG, hv, hH⟩
        · rw [hL] at hlt; simp at hlt
        cases hv
        have hfl := flat_len (n := LA.length) (sz := 3) (row := rPlaced LA z) (fun i _ => rfl)
        have hi2 := take_of_take (flat_at (n := LA.length) (sz := 3) (row := rPlaced LA z) (fun i _ => rfl) k hlt) 1 2 (by omega)
        have hz1 : one1 (z k) = true := by obtain ⟨d, g, h, _⟩ := g3 k hlt; exact SlAt.one h
        simp only [hd, hH, hfl, hi2, rPlaced, go_sem, Nat.reduceLeDiff, Nat.reduceEqDiff, Nat.reduceBEq, Nat.reduceAdd, binO]
        refine ⟨⟨by omega, by omega⟩, by omega, ?_⟩
        refine vks_call ?_ (Fn.frame (fn20 hE (LA.getD k default).apex (g3 k hlt) (hsmA k hlt)) g2) ?_
        · simp only [go_sem, Nat.reduceEqDiff]
        rintro u H'' ⟨H2, ⟨z', rfl, hle2, hset2⟩, hle3, hkeep⟩
        have hbk := hkeep b _ hH hbG
        have hz1' : one1 z' = true := by obtain ⟨d, g, h, _⟩ := hset2; exact SlAt.one h
        have hsp2 := rPlaced_splice LA z hlt z'
        simp only [hbk.2, hfl, hz1', hsp2, go_sem, Nat.reduceEqDiff, Nat.reduceBEq, Nat.reduceAdd, binO]
        refine ⟨⟨by omega, by omega⟩, by omega, hlt, wrapS (by omega), H2, upd1 z k z', g1.trans hle2, le_put_of_le hle3 hbk.1 _, fun i hi => ?_, .inr ⟨b, c7, hbk.1, rfl, Hp.put_same ..⟩⟩
        by_cases e : i = k
        · subst e
          simp only [upd1, if_true]; exact hset2
        · simp only [upd1, if_neg e]; exact (g3 i hi).mono hle2
      · have hd : decide ((k : Int) < (LA.length : Int)) = false := by simpa using hlt
        simp only [hd, go_sem, Nat.reduceLeDiff, Nat.reduceEqDiff, Nat.reduceBEq, Nat.reduceAdd, binO]
        have hla := hlem.trans hle1
        have hpa := hBl.puts
        rw [hhe] at h1
        refine vks_call ?_ (fn21 hE (h1.mono hla) hsw.2.1) ?_
        · simp only [go_sem, Nat.reduceEqDiff]
        rintro u1 Ha hc1
        have hu1 : HostsAt Ha u1 w.hosts := Cloned.at (row := rHost w.hosts) (sz := 3) (fun _ _ => rfl) hc1
        have hl1 := Cloned.le hc1
        have hue := hu1
        obtain ⟨b1, e1, hue, _⟩ := hue
        subst hue
        simp only [go_sem, Nat.reduceLeDiff, Nat.reduceEqDiff, Nat.reduceBEq, Nat.reduceAdd]
        refine vks_call ?_ (fn22 hE (h3.mono (hla.trans hl1)) hsw.2.2.1) ?_
        · simp only [go_sem, Nat.reduceEqDiff]
        rintro u2 Hb hc2
        have hu2 : DataAt Hb u2 w.adata := Cloned.at (row := rDatum w.adata) (sz := 3) (fun _ _ => rfl) hc2
        have hl2 := Cloned.le hc2
        have hue := hu2
        obtain ⟨b2, e2, hue, _⟩ := hue
        subst hue
        simp only [go_sem, Nat.reduceLeDiff, Nat.reduceEqDiff, Nat.reduceBEq, Nat.reduceAdd]
        refine vks_call ?_ (fn23 hE (h4.mono ((hla.trans hl1).trans hl2)) hsw.2.2.2) ?_
        · simp only [go_sem, Nat.reduceEqDiff]
        rintro u3 Hc hc3
        have hu3 : IntsAt Hc u3 w.hints := Cloned.at (row := rInt w.hints) (sz := 1) (fun _ _ => rfl) hc3
        have hl3 := Cloned.le hc3
        have hue := hu3
        obtain ⟨b3, e3, hue, _⟩ := hue
        subst hue
        simp only [go_sem, Nat.reduceEqDiff, Nat.reduceBEq, Nat.reduceAdd]
        refine ⟨_, by rw [hE2]; rfl, ((hla.trans hl1).trans hl2).trans hl3, (fun _ => ⟨_, _, _, _, rfl, (hu1.mono hl2).mono hl3, ?_, hu2.mono hl3, hu3⟩), _, rfl, rfl, rfl⟩
        show PutsAt Hc _ (afterL w.zones ps)
        rw [hLA]
        exact ((hpa.mono hl1).mono hl2).mono hl3
end Go.SL
