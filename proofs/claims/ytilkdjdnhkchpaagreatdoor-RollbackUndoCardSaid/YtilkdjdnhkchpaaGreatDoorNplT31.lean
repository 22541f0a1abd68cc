/- Contract: head, on its one history. -/
import Derived.Test.YtilkdjdnhkchpaaGreatDoorNplO
import Derived.Test.YtilkdjdnhkchpaaGreatDoorNplT35
import Derived.Test.YtilkdjdnhkchpaaGreatDoorNplT33
import Derived.Test.YtilkdjdnhkchpaaGreatDoorNplM2
namespace Go.SL
open Go
variable {E : Env} {H : Hp}

def exW : WorldD := ⟨[⟨[97], 1, 0⟩, ⟨[98], 2, 0⟩, ⟨[99], 3, 0⟩], [⟨1, [120], setsX 1⟩], [46], 6, 0, [⟨[], 1, 1⟩], [1]⟩
def exP : List PlacedD := [⟨1, [120], setsX 2⟩, ⟨2, [120], setsX 2⟩]
def exC : CopyD := ⟨1, 0, 100, [120], setsX 1⟩
def exH : HistD := ⟨exW.hosts, [exC], [46], 6, 0, [⟨[], 1, 1⟩], [1], 0, 100⟩
theorem ex1 : worldE exW exP = 0 := by decide
theorem ex2 : undoL exW.zones exP = [⟨1, [120], setsX 1⟩, ⟨2, [120], []⟩] := by decide
theorem ex3 : worldE exW [⟨3, [120], setsX 2⟩] = 1 := by decide
theorem ex4 : worldValid ⟨exH.hosts, [], exH.aname, exH.atype, exH.alife, exH.adata, exH.hints⟩ = true := by decide
theorem ex5 : zoneValid exC.apex exC.sets = true := by decide
theorem ex6 : stepsOKB 100 3 [⟨10, exP⟩] = true := by decide
theorem ex7 : stepsOKB 100 3 [] = true := by decide
theorem smallX (n : Int) : SmallS (setsX n) := by
  refine ⟨by simp [setsX], fun i hi => ?_⟩
  match i, hi with
  | 0, _ => exact ⟨by simp [setsX], by simp [setsX]⟩
  | 1, _ => exact ⟨by simp [setsX], by simp [setsX]⟩
def ExampleOk (E : Env) : Prop := ∀ H, Fn E.P (E.fn 8) [] H (fun u H' => ∃ vw vp, u = .tuple #[vw, .agg #[vp]] ∧ H.le H' ∧ WorldAt H' vw exW ∧ PutsAt H' vp exP)
end Go.SL

/- Contract: law40.example, whose last region draws an order with two writes. -/
namespace Go.SL
open Go
variable {E : Env} {H : Hp}

theorem get_set_o {fr : Fr} {d t : Nat} {x sv : SV} (h : fr.get t = some sv) (hne : t ≠ d) (hl : sv.p.isLp d = false) : (fr.set d x).get t = some sv := by
  simp only [Fr.set, Fr.get, Ne.symm hne, if_false]
  induction fr with
  | nil => cases h
  | cons e r ih =>
    obtain ⟨k, u⟩ := e
    simp only [Fr.get] at h
    rw [List.filter_cons]
    by_cases hk : k = t
    · subst hk
      simp only [if_true, Option.some.injEq] at h
      subst h
      simp [hne, hl, Fr.get]
    · simp only [hk, if_false] at h
      split
      · simp only [Fr.get, hk, if_false]; exact ih h
      · exact ih h
theorem get_upbX {fr : Fr} {s t : Nat} {vs : List Value} {sv : SV} (h : fr.get t = some sv) : (fr.upb s vs).get t = some (if t = s then ⟨sv.c, .box vs⟩ else sv) := by
  induction fr with
  | nil => cases h
  | cons e r ih =>
    obtain ⟨k, u⟩ := e
    simp only [Fr.get] at h
    simp only [Fr.upb, List.map_cons]
    by_cases hk : k = t
    · subst hk
      simp only [if_true, Option.some.injEq] at h
      subst h
      by_cases hs : k = s <;> simp [Fr.get, hs]
    · simp only [hk, if_false] at h
      have := ih h
      simp only [Fr.upb] at this
      by_cases hs : k = s
      · simp only [hs, if_true, Fr.get]
        rw [if_neg (by rw [← hs]; exact hk)]
        exact this
      · simp only [hs, if_false, Fr.get, hk]; exact this
def zero7 : List Value := [.slice none 0 0, .slice none 0 0, S [], .int .i64 0, .int .i64 0, .slice none 0 0, .slice none 0 0]
def PostX (W : List Value) (f : Value) : Nat → Value → Hp → Prop
  | 0, v, _ => v = .agg W.toArray
  | 1, v, _ => v = f
  | 2, v, H => ∃ x, v = .agg #[S [120], x] ∧ SetsAt H x (setsX 2)
  | 3, v, H => ∃ x, v = .agg #[.int .i64 1, S [120], x] ∧ SetsAt H x (setsX 2)
  | 4, v, _ => v = f
  | 5, v, H => ∃ x, v = .agg #[S [120], x] ∧ SetsAt H x (setsX 2)
  | 6, v, H => ∃ x, v = .agg #[.int .i64 2, S [120], x] ∧ SetsAt H x (setsX 2)
  | 7, v, H => PutsAt H v exP
  | _, v, H => ∃ x, v = .agg #[x] ∧ PutsAt H x exP
theorem PostX.mono {W : List Value} {f v : Value} {H H' : Hp} (hl : H.le H') : ∀ {i : Nat}, PostX W f i v H → PostX W f i v H'
  | 0, h => h
  | 1, h => h
  | 2, ⟨x, h, k⟩ => ⟨x, h, k.mono hl⟩
  | 3, ⟨x, h, k⟩ => ⟨x, h, k.mono hl⟩
  | 4, h => h
  | 5, ⟨x, h, k⟩ => ⟨x, h, k.mono hl⟩
  | 6, ⟨x, h, k⟩ => ⟨x, h, k.mono hl⟩
  | 7, h => PutsAt.mono h hl
  | _ + 8, ⟨x, h, k⟩ => ⟨x, h, k.mono hl⟩
structure ExI (W : List Value) (f : Value) (H0 : Hp) (L : Nat → Bool) (fr : Fr) (H : Hp) : Prop where
  le : H0.le H
  s0 : fr.get 0 = some ⟨true, .box (if L 9 then W else zero7)⟩
  s1 : ∃ x, fr.get 1 = some ⟨true, .box [x]⟩ ∧ (L 10 = true → PutsAt H x exP)
  s2 : fr.get 2 = some ⟨true, .val f⟩
  s4 : fr.get 4 = some ⟨true, .box W⟩
  dn : ∀ i, i ≤ 8 → L i = true → ∃ v, fr.get (19 + i) = some ⟨true, .val v⟩ ∧ PostX W f i v H
theorem lset_ne {L : Nat → Bool} {i j : Nat} (h : j ≠ i) : lset L i j = L j := by simp [lset, h]
theorem lset_eq {L : Nat → Bool} {i : Nat} : lset L i i = true := by simp [lset]
theorem ExI.set {W : List Value} {f : Value} {H0 : Hp} {L : Nat → Bool} {fr : Fr} {H H' : Hp} (h : ExI W f H0 L fr H) {i : Nat} (hi : i ≤ 8) {v : Value} (hl : H.le H') (hp : PostX W f i v H') :
    ExI W f H0 (lset L i) (fr.set (19 + i) ⟨true, .val v⟩) H' where
  le := h.le.trans hl
  s0 := by rw [lset_ne (by omega)]; exact get_set_o h.s0 (by omega) rfl
  s1 := by
    obtain ⟨x, h1, h2⟩ := h.s1
    exact ⟨x, get_set_o h1 (by omega) rfl, fun e => (h2 (by rw [lset_ne (by omega)] at e; exact e)).mono hl⟩
  s2 := get_set_o h.s2 (by omega) rfl
  s4 := get_set_o h.s4 (by omega) rfl
  dn := fun j hj hd => by
    by_cases e : j = i
    · subst e; exact ⟨v, Fr.get_set_same .., hp⟩
    · rw [lset_ne e] at hd
      obtain ⟨u, h1, h2⟩ := h.dn j hj hd
      exact ⟨u, get_set_o h1 (by omega) rfl, h2.mono hl⟩
theorem take7 {W : List Value} (h : W.length = 7) : (W.drop 0).take 7 = W := by rw [List.drop_zero, List.take_of_length_le (by omega)]
set_option maxHeartbeats 1000000 in
theorem exRegion {W : List Value} {f : Value} (hf : f = .func (.func (E.fn 26)) #[] #[]) (h26 : ∀ H, FnV E f [.int .i64 2] H (fun u H' => ∃ v, u = .agg #[S [120], v] ∧ H.le H' ∧ SetsAt H' v (setsX 2)))
    (hW : W.length = 7) (hW1 : W.all one1 = true) {K : Fr → Hp → Prop}
    (hK : ∀ fr H' vp, fr.get 0 = some ⟨true, .box W⟩ → fr.get 1 = some ⟨true, .box [vp]⟩ → H.le H' → PutsAt H' vp exP → K fr H') {fr : Fr}
    (h0 : ExI W f H (fun _ => false) fr H) : evAll E c_law40_example_r4 fr H K := by
  refine ⟨ExI W f H, h0, ?_, ?_⟩
  · intro L i x fr G hx hL hpre hI
    match i, hx with
    | 0, hx =>
      cases hx
      simp only [ev1, gok, gcond, simC, simT, pok, pvo, hI.s4, rowThere, cellsOfPV, offOfPV, szOf, part1, setD, take7 hW, hW]
      exact ⟨trivial, fun _ => by simp, hI.set (i := 0) (by omega) (Hp.le.refl _) rfl⟩
    | 1, hx =>
      cases hx
      simp only [ev1, gok, gcond, simC, simT, pok, pvo, hI.s2, setD]
      exact ⟨trivial, fun _ => by simp, hI.set (i := 1) (by omega) (Hp.le.refl _) rfl⟩
    | 2, hx =>
      cases hx
      obtain ⟨v, h1, rfl⟩ := hI.dn 1 (by omega) (hpre 1 (by simp))
      simp only [ev1, gok, gcond, big, vok, allok, vo, h1, List.map_cons, List.map_nil, setD]
      refine ⟨trivial, fun _ => ⟨by simp, by simp, _, h26 G, ?_⟩, fun h => by cases h⟩
      rintro u G' ⟨y, rfl, hle, hs⟩
      exact hI.set (i := 2) (by omega) hle ⟨y, rfl, hs⟩
    | 3, hx =>
      cases hx
      obtain ⟨v, h1, y, rfl, hs⟩ := hI.dn 2 (by omega) (hpre 2 (by simp))
      have e : ev1 E ⟨some 22, .sim (.bld [.int .i64 0, .string ⟨#[]⟩, .slice none 0 0] [(0, 1, .c (.int .i64 1)), (1, 2, .t 21)]), none⟩ fr G (ExI W f H (lset L 3)) := by
        simp only [ev1, gok, gcond, simC, simT, fillC, fillT, vok, vo, h1, setD, splice, Value.cells, List.toList_toArray]
        exact ⟨trivial, fun _ => by simp, hI.set (i := 3) (by omega) (Hp.le.refl _) ⟨y, rfl, hs⟩⟩
      exact e
    | 4, hx =>
      cases hx
      simp only [ev1, gok, gcond, simC, simT, pok, pvo, hI.s2, setD]
      exact ⟨trivial, fun _ => by simp, hI.set (i := 4) (by omega) (Hp.le.refl _) rfl⟩
    | 5, hx =>
      cases hx
      obtain ⟨v, h1, rfl⟩ := hI.dn 4 (by omega) (hpre 4 (by simp))
      simp only [ev1, gok, gcond, big, vok, allok, vo, h1, List.map_cons, List.map_nil, setD]
      refine ⟨trivial, fun _ => ⟨by simp, by simp, _, h26 G, ?_⟩, fun h => by cases h⟩
      rintro u G' ⟨y, rfl, hle, hs⟩
      exact hI.set (i := 5) (by omega) hle ⟨y, rfl, hs⟩
    | 6, hx =>
      cases hx
      obtain ⟨v, h1, y, rfl, hs⟩ := hI.dn 5 (by omega) (hpre 5 (by simp))
      simp only [ev1, gok, gcond, simC, simT, fillC, fillT, vok, vo, h1, setD, splice, Value.cells, List.toList_toArray]
      exact ⟨trivial, fun _ => by simp, hI.set (i := 6) (by omega) (Hp.le.refl _) ⟨y, rfl, hs⟩⟩
    | 7, hx =>
      cases hx
      obtain ⟨v, h1, y, rfl, hs⟩ := hI.dn 3 (by omega) (hpre 3 (by simp))
      obtain ⟨v', h1', y', rfl, hs'⟩ := hI.dn 6 (by omega) (hpre 6 (by simp))
      simp only [ev1, gok, gcond, big, fillC, fillT, vok, vo, h1, h1', setD, splice, Value.cells, List.toList_toArray]
      refine ⟨trivial, fun _ => ⟨by simp, fun b hb => ?_⟩, fun h => by cases h⟩
      refine hI.set (i := 7) (by omega) (le_put hb _) ?_
      refine ⟨fun i => if i = 0 then y else y', SlAt.lit (Hp.put_same ..) ?_, ?_⟩
      · intro i hi
        match i, hi with
        | 0, _ => exact ⟨by simp, rfl⟩
        | 1, _ => exact ⟨by simp, rfl⟩
      · intro i hi
        match i, hi with
        | 0, _ => exact hs.mono (le_put hb _)
        | 1, _ => exact hs'.mono (le_put hb _)
    | 8, hx =>
      cases hx
      obtain ⟨v, h1, hs⟩ := hI.dn 7 (by omega) (hpre 7 (by simp))
      have hv1 := PutsAt.one hs
      have hvs : ∃ a n c, v = .slice a n c := by obtain ⟨z, ⟨a, c, rfl, _⟩, _⟩ := hs; exact ⟨_, _, _, rfl⟩
      obtain ⟨a, n, c, rfl⟩ := hvs
      simp only [ev1, gok, gcond, simC, simT, fillC, fillT, vok, vo, h1, setD, splice, Value.cells, List.toList_toArray]
      exact ⟨trivial, fun _ => by simp, hI.set (i := 8) (by omega) (Hp.le.refl _) ⟨_, rfl, hs⟩⟩
    | 9, hx =>
      cases hx
      obtain ⟨v, h1, rfl⟩ := hI.dn 0 (by omega) (hpre 0 (by simp))
      have s0 := hI.s0
      rw [hL] at s0
      simp only [ev1, gok, gcond, big, pok, pvo, vok, vo, s0, h1, setD, Value.cells, List.toList_toArray, hW, hW1]
      refine ⟨trivial, fun _ => ⟨by simp, by simp, by simp, by simp, by simp [zero7], ?_⟩, fun h => by cases h⟩
      have esp : splice zero7 0 W = W := by
        simp only [splice, List.take_zero, List.nil_append, Nat.zero_add, hW]
        simp [zero7]
      refine ⟨hI.le, ?_, ?_, ?_, ?_, ?_⟩
      · rw [lset_eq]
        have := get_upbX (s := 0) (vs := splice zero7 0 W) s0
        rw [esp] at this
        simpa [esp] using this
      · obtain ⟨y, g1, g2⟩ := hI.s1
        exact ⟨y, by simpa using get_upbX (s := 0) (vs := splice zero7 0 W) g1, fun e => g2 (by rw [lset_ne (by omega)] at e; exact e)⟩
      · simpa using get_upbX (s := 0) (vs := splice zero7 0 W) hI.s2
      · simpa using get_upbX (s := 0) (vs := splice zero7 0 W) hI.s4
      · intro j hj hd
        rw [lset_ne (by omega)] at hd
        obtain ⟨u, g1, g2⟩ := hI.dn j hj hd
        refine ⟨u, ?_, g2⟩
        have := get_upbX (s := 0) (vs := splice zero7 0 W) g1
        rw [if_neg (by omega)] at this
        exact this
    | 10, hx =>
      cases hx
      obtain ⟨v, h1, y, rfl, hs⟩ := hI.dn 8 (by omega) (hpre 8 (by simp))
      have hv1 := PutsAt.one hs
      obtain ⟨x1, s1, _⟩ := hI.s1
      have h9 := hpre 9 (by simp)
      simp only [ev1, gok, gcond, big, pok, pvo, vok, vo, s1, h1, setD, Value.cells, List.toList_toArray, List.all_cons, List.all_nil, hv1]
      refine ⟨trivial, fun _ => ⟨by simp, by simp, by simp, by simp, by simp, ?_⟩, fun h => by cases h⟩
      have esp : splice [x1] 0 [y] = [y] := rfl
      rw [esp]
      refine ⟨hI.le, ?_, ?_, ?_, ?_, ?_⟩
      · rw [lset_ne (by omega)]
        simpa using get_upbX (s := 1) (vs := [y]) hI.s0
      · exact ⟨y, by simpa using get_upbX (s := 1) (vs := [y]) s1, fun _ => hs⟩
      · simpa using get_upbX (s := 1) (vs := [y]) hI.s2
      · simpa using get_upbX (s := 1) (vs := [y]) hI.s4
      · intro j hj hd
        rw [lset_ne (by omega)] at hd
        obtain ⟨u, g1, g2⟩ := hI.dn j hj hd
        refine ⟨u, ?_, g2⟩
        have := get_upbX (s := 1) (vs := [y]) g1
        rw [if_neg (by omega)] at this
        exact this
    | n + 11, hx => simp [c_law40_example_r4] at hx
  · intro L fr G hL hI
    have e9 := hL 9 (by decide)
    have e10 := hL 10 (by decide)
    obtain ⟨vp, h1, h2⟩ := hI.s1
    refine hK fr G vp ?_ h1 hI.le (h2 e10)
    have := hI.s0
    rw [e9] at this
    simpa using this
set_option maxHeartbeats 1000000 in
theorem fn8 (hE : Codes E) (h2 : Codes2 E) (h8 : chkFunc E (E.fn 8) c_law40_example = true) : ExampleOk E := by
  intro H
  refine Fn.of_vks h8 (by simp [c_law40_example]) ?_
  simp only [c_law40_example, c_law40_example_r0, c_law40_example_r1, c_law40_example_r2, c_law40_example_r3]
  simp only [go_sem, Nat.reduceLeDiff, Nat.reduceEqDiff, Nat.reduceBEq, Nat.reduceAdd, reduceCtorEq]
  intro b1 hb1
  refine vks_callv ?_ ?_ (FnV_of_Fn hE.e26 (fn26 h2 1)) ?_
  · simp only [go_sem, Nat.reduceEqDiff, reduceCtorEq]
  · simp only [go_sem]
  rintro u H1 ⟨v1, rfl, hle1, hs1⟩
  have o1 : one1 v1 = true := by obtain ⟨d, g, h, _⟩ := hs1; exact SlAt.one h
  have hb1' := hle1 _ _ (Hp.put_same ..)
  simp only [go_sem, Nat.reduceLeDiff, Nat.reduceEqDiff, Nat.reduceBEq, Nat.reduceAdd, reduceCtorEq]
  intro bz hbz ba hba bi hbi
  rw [vks_rega]
  obtain ⟨H4, hH4⟩ : ∃ x, x = ((H1.put bz (.row [.int .i64 1, S [120], v1] 3 true)).put ba (.row [.string ⟨#[]⟩, .int .i64 1, .int .i64 1] 3 true)).put bi (.row [.int .i64 1] 1 true) := ⟨_, rfl⟩
  rw [← hH4]
  have hz : (H1.put bz (.row [.int .i64 1, S [120], v1] 3 true)) bz = some (.row [.int .i64 1, S [120], v1] 3 true) := Hp.put_same ..
  have haz := le_put hba (.row [.string ⟨#[]⟩, .int .i64 1, .int .i64 1] 3 true)
  have hiz := le_put hbi (.row [.int .i64 1] 1 true)
  have kz : H4 bz = some (.row [.int .i64 1, S [120], v1] 3 true) := by rw [hH4]; exact hiz _ _ (haz _ _ hz)
  have ka : H4 ba = some (.row [.string ⟨#[]⟩, .int .i64 1, .int .i64 1] 3 true) := by rw [hH4]; exact hiz _ _ (Hp.put_same ..)
  have ki : H4 bi = some (.row [.int .i64 1] 1 true) := by rw [hH4]; exact Hp.put_same ..
  have hl14 : H1.le H4 := by rw [hH4]; exact ((le_put hbz _).trans haz).trans hiz
  have kb := hl14 _ _ hb1'
  have hle : H.le H4 := ((le_put hb1 _).trans hle1).trans hl14
  refine exRegion (W := [.slice (some ⟨b1, 0, none⟩) 3 3, .slice (some ⟨bz, 0, none⟩) 1 1, S [46], .int .i64 6, .int .i64 0, .slice (some ⟨ba, 0, none⟩) 1 1, .slice (some ⟨bi, 0, none⟩) 1 1]) rfl (fun G => FnV_of_Fn hE.e26 (fn26 h2 2)) rfl rfl ?_ ⟨Hp.le.refl _, rfl, ⟨_, rfl, fun h => by cases h⟩, rfl, rfl, fun i _ h => by cases h⟩
  intro fr G vp g0 g1 hG hp
  have hk : fr.keep [0, 1] = [(0, ⟨true, .box [.slice (some ⟨b1, 0, none⟩) 3 3, .slice (some ⟨bz, 0, none⟩) 1 1, S [46], .int .i64 6, .int .i64 0, .slice (some ⟨ba, 0, none⟩) 1 1, .slice (some ⟨bi, 0, none⟩) 1 1]⟩), (1, ⟨true, .box [vp]⟩)] := by
    simp only [Fr.keep, g0, g1]
  rw [hk]
  simp only [go_sem, Nat.reduceAdd, reduceCtorEq]
  refine ⟨_, vp, rfl, hle.trans hG, ⟨_, _, _, _, rfl, ?_, ?_, ?_, ?_⟩, hp⟩
  · refine SlAt.lit (hG _ _ kb) ?_
    intro i hi
    match i, hi with
    | 0, _ => exact ⟨by simp, rfl⟩
    | 1, _ => exact ⟨by simp, rfl⟩
    | 2, _ => exact ⟨by simp, rfl⟩
  · refine ⟨fun _ => v1, SlAt.lit (hG _ _ kz) ?_, ?_⟩
    · intro i hi
      match i, hi with
      | 0, _ => exact ⟨by simp, rfl⟩
    · intro i hi
      match i, hi with
      | 0, _ => exact (hs1.mono hl14).mono hG
  · refine SlAt.lit (hG _ _ ka) ?_
    intro i hi
    match i, hi with
    | 0, _ => exact ⟨by simp, rfl⟩
  · refine SlAt.lit (hG _ _ ki) ?_
    intro i hi
    match i, hi with
    | 0, _ => exact ⟨by simp, rfl⟩
end Go.SL
