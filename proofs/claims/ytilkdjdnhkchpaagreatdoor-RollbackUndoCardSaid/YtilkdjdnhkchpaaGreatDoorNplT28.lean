/- Histories and steps in memory; contracts of small functions over copies. -/
import Derived.Test.YtilkdjdnhkchpaaGreatDoorNplO
import Derived.Test.YtilkdjdnhkchpaaGreatDoorNplT26
namespace Go.SL
open Go
variable {E : Env} {H : Hp}

structure CopyD where
  host : Int
  from_ : Int
  till : Int
  apex : Bs
  sets : List SignedD
  deriving DecidableEq, Inhabited
structure HistD where
  hosts : List HostD
  copies : List CopyD
  aname : Bs
  atype : Int
  alife : Int
  adata : List DatumD
  hints : List Int
  drift : Int
  end_ : Int
  deriving DecidableEq, Inhabited
structure StepD where
  at_ : Int
  puts : List PlacedD
  deriving DecidableEq, Inhabited
def rCopy (cs : List CopyD) (z : Nat → Value) (i : Nat) : List Value := [.int .i64 (cs.getD i default).host, .int .i64 (cs.getD i default).from_, .int .i64 (cs.getD i default).till, S (cs.getD i default).apex, z i]
def rStep (l : List StepD) (z : Nat → Value) (i : Nat) : List Value := [.int .i64 (l.getD i default).at_, z i]
def CopiesAt (H : Hp) (v : Value) (cs : List CopyD) : Prop := ∃ z, SlAt H 5 v cs.length (rCopy cs z) ∧ ∀ i, i < cs.length → SetsAt H (z i) (cs.getD i default).sets
def StepsAt (H : Hp) (v : Value) (l : List StepD) : Prop := ∃ z, SlAt H 2 v l.length (rStep l z) ∧ ∀ i, i < l.length → PutsAt H (z i) (l.getD i default).puts
def HistAt (H : Hp) (v : Value) (h : HistD) : Prop := ∃ vh vc vd vi, v = .agg #[vh, vc, S h.aname, .int .i64 h.atype, .int .i64 h.alife, vd, vi, .int .i64 h.drift, .int .i64 h.end_] ∧ HostsAt H vh h.hosts ∧ CopiesAt H vc h.copies ∧ DataAt H vd h.adata ∧ IntsAt H vi h.hints
theorem CopiesAt.mono {H H' : Hp} {v : Value} {cs : List CopyD} (h : CopiesAt H v cs) (hl : H.le H') : CopiesAt H' v cs := by
  obtain ⟨z, h1, h2⟩ := h
  exact ⟨z, h1.mono hl, fun i hi => (h2 i hi).mono hl⟩
theorem StepsAt.mono {H H' : Hp} {v : Value} {l : List StepD} (h : StepsAt H v l) (hl : H.le H') : StepsAt H' v l := by
  obtain ⟨z, h1, h2⟩ := h
  exact ⟨z, h1.mono hl, fun i hi => (h2 i hi).mono hl⟩
theorem HistAt.mono {H H' : Hp} {v : Value} {h : HistD} (hh : HistAt H v h) (hl : H.le H') : HistAt H' v h := by
  obtain ⟨vh, vc, vd, vi, rfl, h1, h2, h3, h4⟩ := hh
  exact ⟨vh, vc, vd, vi, rfl, h1.mono hl, h2.mono hl, h3.mono hl, h4.mono hl⟩
theorem CopiesAt.one {v : Value} {cs : List CopyD} (h : CopiesAt H v cs) : one1 v = true := by obtain ⟨z, h, _⟩ := h; exact SlAt.one h
theorem StepsAt.one {v : Value} {l : List StepD} (h : StepsAt H v l) : one1 v = true := by obtain ⟨z, h, _⟩ := h; exact SlAt.one h

def apexesC (cs : List CopyD) : Nat → List (Bs × Bool) := keysN fun k => (cs.getD k default).apex
def tooManyC (cs : List CopyD) : Bool := decide (cs.length > 4000) || decide ((apexesC cs cs.length).length > 500)

theorem fn69 (h2 : Codes2 E) (h f t : Int) (a : Bs) (z : Value) (_hz : one1 z = true) : FnP E 69 [.agg #[.int .i64 h, .int .i64 f, .int .i64 t, S a, z]] H (S a) := by
  refine Fn.of_vks h2.c69 (by simp [c_steps_Apply_1]) ?_
  simp only [c_steps_Apply_1, c_steps_Apply_1_r0, c_steps_Apply_1_r1]
  simp only [go_sem, Nat.reduceLeDiff, Nat.reduceEqDiff, Nat.reduceBEq, Nat.reduceAdd, reduceCtorEq]
theorem fn120 (h2 : Codes2 E) (h f t : Int) (a : Bs) (z : Value) (_hz : one1 z = true) : FnP E 120 [.agg #[.int .i64 h, .int .i64 f, .int .i64 t, S a, z]] H (S a) := by
  refine Fn.of_vks h2.c120 (by simp [c_history_apexOf]) ?_
  simp only [c_history_apexOf, c_history_apexOf_r0, c_history_apexOf_r1]
  simp only [go_sem, Nat.reduceLeDiff, Nat.reduceEqDiff, Nat.reduceBEq, Nat.reduceAdd, reduceCtorEq]
set_option maxHeartbeats 1000000 in
theorem fn70 (hE : Codes E) (h2 : Codes2 E) {vz : Value} {zs : List CopyD} (hz : CopiesAt H vz zs) (hn : zs.length ≤ 1099511627775) : FnP E 70 [vz, .int .i64 4000, .int .i64 500, .func (.func (E.fn 69)) #[] #[]] H (.bool (tooManyC zs)) := by
  obtain ⟨z, ⟨a, cap, rfl, hsp, hr⟩, hdeep⟩ := hz
  refine Fn.of_vks h2.c70 (by simp [c_steps_tooMany_api_Copy]) ?_
  simp only [c_steps_tooMany_api_Copy, c_steps_tooMany_api_Copy_r0, c_steps_tooMany_api_Copy_r1, c_steps_tooMany_api_Copy_r2, c_steps_tooMany_api_Copy_r3, c_steps_tooMany_api_Copy_r4, c_steps_tooMany_api_Copy_r5, c_steps_tooMany_api_Copy_r6, c_steps_tooMany_api_Copy_r7]
  simp only [go_sem, Nat.reduceEqDiff, Nat.reduceBEq, Nat.reduceAdd, reduceCtorEq]
  intro b3 hb3
  refine vks_loopP zs.length 0 (fun k fr' H' => fr' = [(0, ⟨true, .val (.slice a zs.length cap)⟩), (1, ⟨true, .val (.int .i64 4000)⟩), (2, ⟨true, .val (.int .i64 500)⟩), (3, ⟨true, .val (.func (.func (E.fn 69)) #[] #[])⟩), (9, ⟨true, .val (.map (some b3))⟩), (13, ⟨true, .val (.slice a zs.length cap)⟩), (14, ⟨true, .val (.int .i64 zs.length)⟩), (15, ⟨true, .val (.int .i64 k)⟩)] ∧
      ∃ o3, H' = H.put b3 o3 ∧ (∀ H0 : Hp, MapAt (H0.put b3 o3) b3 ((apexesC zs k).map fun e => (S e.1, .bool e.2)))) (Nat.zero_le _) ⟨rfl, _, rfl, fun H0 => ⟨#[], 0, Hp.put_same .., rfl⟩⟩ ?_
  rintro k fr' H' hk ⟨rfl, o3, rfl, hM3⟩
  have hle : H.le (H.put b3 o3) := le_put hb3 _
  by_cases hlt : k < zs.length
  · have hd : decide ((k : Int) < (zs.length : Int)) = true := by simpa using hlt
    have hr' := hr (by omega)
    obtain ⟨b, o, vs, c, wr, ha, hb, hi⟩ := hr'
    subst ha
    have hb1 := hle _ _ hb
    have hi1 := (hi k hlt).1
    have hi2 := (hi k hlt).2
    have hz1 : one1 (z k) = true := by obtain ⟨d, g, h, _⟩ := hdeep k hlt; exact SlAt.one h
    obtain ⟨x, hx⟩ : ∃ y, zs.getD k default = y := ⟨_, rfl⟩
    simp only [hd, hb1, hi2, rCopy, hx, hz1, go_sem, Nat.reduceEqDiff, Nat.reduceBEq, Nat.reduceAdd, reduceCtorEq, binO]
    refine ⟨⟨by omega, by omega⟩, hi1, ?_⟩
    refine vks_callv ?_ ?_ (FnV_of_Fn hE.e69 (Fn.same (fn69 h2 x.host x.from_ x.till x.apex (z k) hz1))) ?_
    · simp only [go_sem, Nat.reduceEqDiff, reduceCtorEq]
    · simp only [go_sem, Nat.reduceEqDiff, reduceCtorEq]
    rintro v H'' ⟨rfl, rfl⟩
    refine vks_upd (enc := fun x => S x) (encv := fun b => .bool b) (l := apexesC zs k) (b := b3) x.apex true keyS trivial ?_ ?_ ?_ ?_ ?_ ?_ (hM3 H) ?_
    · simp only [go_sem, Nat.reduceEqDiff, Nat.reduceBEq, reduceCtorEq]
    · simp only [go_sem, Nat.reduceEqDiff, Nat.reduceBEq, reduceCtorEq]
    · simp only [go_sem]
    · simp only [go_sem, Nat.reduceEqDiff, Nat.reduceBEq, reduceCtorEq]
    · simp only [go_sem, Nat.reduceEqDiff, Nat.reduceBEq, reduceCtorEq]
    · simp only [go_sem]
    intro o3' hM3'
    simp only [go_sem, Nat.reduceEqDiff, Nat.reduceBEq, reduceCtorEq, binO]
    refine ⟨hlt, wrapS (by omega), o3', rfl, fun H0 => ?_⟩
    have := hM3' H0; rw [← hx] at this; exact this
  · have hd : decide ((k : Int) < (zs.length : Int)) = false := by simpa using hlt
    have : k = zs.length := by omega
    subst this
    have c1 : decide ((zs.length : Int) > 4000) = decide (zs.length > 4000) := by rw [Bool.eq_iff_iff, decide_eq_true_eq, decide_eq_true_eq]; omega
    simp only [hd, c1, go_sem, Nat.reduceEqDiff, Nat.reduceBEq, Nat.reduceAdd, reduceCtorEq, binO]
    by_cases hq : zs.length > 4000
    · have hq' : decide (zs.length > 4000) = true := by simpa using hq
      rw [hq']
      refine vks_skipB (by intro x h; cases h) (by intro f a h; cases h) ?_ ?_ ?_
      · simp only [go_sem, Nat.reduceEqDiff, reduceCtorEq]
      · simp only [go_sem, Nat.reduceEqDiff, reduceCtorEq]
      simp only [go_sem, Nat.reduceEqDiff, Nat.reduceBEq, reduceCtorEq, binO, ↓simT_pick_t]
      refine ⟨?_, hle⟩
      simp only [tooManyC, hq', Bool.true_or]
    · have hq' : decide (zs.length > 4000) = false := by simpa using hq
      rw [hq']
      refine vks_useB (by intro x h; cases h) (by intro f a h; cases h) ?_ ?_ ?_
      · simp only [go_sem, Nat.reduceEqDiff, reduceCtorEq]
      · simp only [go_sem, Nat.reduceEqDiff, reduceCtorEq]
      refine vks_mlenM ?_ ?_ (hM3 _) ?_
      · simp only [go_sem, Nat.reduceEqDiff, reduceCtorEq]
      · simp only [go_sem, Nat.reduceEqDiff, reduceCtorEq]
      simp only [go_sem, Nat.reduceEqDiff, Nat.reduceBEq, reduceCtorEq, binO]
      refine ⟨?_, hle⟩
      simp only [tooManyC, hq', Bool.false_or, List.length_map]
      rw [Bool.eq_iff_iff, decide_eq_true_eq, decide_eq_true_eq]; omega
theorem fn71 (h2 : Codes2 E) {v : Value} {n : Nat} {row : Nat → List Value} (h : SlAt H 5 v n row) (h1 : ∀ i, i < n → (row i).all one1 = true) (hn : n ≤ 1099511627) : Fn E.P (E.fn 71) [v] H (fun u H' => Cloned H 5 n row u H') := by
  have hsrc := SlAt.src h
  have hall : (flat n row).all one1 = true := flat_all h1
  obtain ⟨a, cap, rfl, hs, hr⟩ := h
  refine Fn.of_vks h2.c71 (by simp [c_slices_Clone_Copy]) ?_
  simp only [c_slices_Clone_Copy, c_slices_Clone_Copy_r0, c_slices_Clone_Copy_r1, c_slices_Clone_Copy_r2, c_slices_Clone_Copy_r3]
  simp only [nilEq, go_sem, Nat.reduceEqDiff, Nat.reduceBEq, reduceCtorEq]
  refine ⟨fun h => ?_, fun h => ?_⟩
  · have ha : a = none := by simpa using h
    subst ha
    exact .inl ⟨rfl, hsrc.1, rfl⟩
  · intro b5 hb5
    have hle : H.le (H.put b5 (.row [] 0 true)) := le_put hb5 _
    have h' : SlAt (H.put b5 (.row [] 0 true)) 5 (.slice a n cap) n row := SlAt.mono ⟨a, cap, rfl, hs, hr⟩ hle
    have hsrc' := SlAt.src h'
    refine vks_appS (b0 := b5) (n := 0) (cap0 := 0) (vs := []) (capc := 0) ?_ ?_ hsrc'.1 ?_ ?_ ?_ ?_ (Hp.put_same ..) rfl rfl ?_
    · simp only [go_sem, Nat.reduceEqDiff, reduceCtorEq]
    · simp only [go_sem, Nat.reduceEqDiff, reduceCtorEq]
    · exact (congrArg (fun l => List.all l one1) hsrc'.2.2).trans hall
    · simp only [go_sem, Nat.reduceEqDiff, reduceCtorEq]
    · show (0 + n) * _ ≤ _; omega
    · show 0 + n ≤ _; omega
    intro b cap' hb
    rw [del_put hb5] at hb ⊢
    have e1 : srcCells (H.put b5 (.row [] 0 true)) 5 (.slice a n cap) = flat n row := hsrc'.2.2
    simp only [srcLen, e1, go_sem, Nat.reduceEqDiff, Nat.reduceBEq, reduceCtorEq]
    exact .inr ⟨b, cap', hb, rfl, rfl⟩
theorem MapAt.of {H' : Hp} {b : Nat} {o : AObj} {l : List (Value × Value)} (h : ∀ H0 : Hp, MapAt (H0.put b o) b l) (hx : H' b = some o) : MapAt H' b l := by
  obtain ⟨es, cl, h1, h2⟩ := h H'
  rw [Hp.put_same] at h1
  exact ⟨es, cl, hx.trans h1, h2⟩
theorem mput_same {κ ν : Type} [DecidableEq κ] {k : κ} {v : ν} : ∀ {l : List (κ × ν)}, mget k l = some v → mput k v l = l
  | [], h => by cases h
  | (k', v') :: r, h => by
    simp only [mget] at h
    simp only [mput]
    split at h
    · rename_i e; cases h; rw [if_pos e, e]
    · rename_i e; rw [if_neg e, mput_same h]
theorem mput_new {κ ν : Type} [DecidableEq κ] {k : κ} {v : ν} : ∀ {l : List (κ × ν)}, mget k l = none → mput k v l = l ++ [(k, v)]
  | [], _ => rfl
  | (k', v') :: r, h => by
    simp only [mget] at h
    simp only [mput]
    split at h
    · cases h
    · rename_i e; rw [if_neg e, mput_new h]; rfl
theorem mget_keysN' {κ : Type} [DecidableEq κ] {f : Nat → κ} {k : κ} {v : Bool} : ∀ {n : Nat}, mget k (keysN f n) = some v → v = true
  | 0, h => by cases h
  | n + 1, h => by
    simp only [keysN] at h
    rw [mget_mput] at h
    split at h
    · cases h; rfl
    · exact mget_keysN' h
theorem rowS_at (L : List (Bs × Bool)) (i : Nat) (hi : i < L.length) : i * 1 + 1 ≤ (L.map fun e => S e.1).length ∧ ((L.map fun e => S e.1).drop (i * 1)).take 1 = [S (L.getD i default).1] := by
  refine ⟨by simp; omega, ?_⟩
  rw [Nat.mul_one, List.drop_eq_getElem_cons (by simpa using hi)]
  simp [hi]
set_option maxHeartbeats 1000000 in
theorem fn119 (h2 : Codes2 E) {vz : Value} {zs : List CopyD} (hz : CopiesAt H vz zs) (hn : zs.length ≤ 1099511627) :
    Fn E.P (E.fn 119) [vz, .func (.func (E.fn 120)) #[] #[]] H (fun u H' => H.le H' ∧ SlAt H' 1 u (apexesC zs zs.length).length (fun i => [S ((apexesC zs zs.length).getD i default).1])) := by
  obtain ⟨z, ⟨a, cap, rfl, hsp, hr⟩, hdeep⟩ := hz
  refine Fn.of_vks h2.c119 (by simp [c_history_unique_api_Copy_string]) ?_
  simp only [c_history_unique_api_Copy_string, c_history_unique_api_Copy_string_r0, c_history_unique_api_Copy_string_r1, c_history_unique_api_Copy_string_r2, c_history_unique_api_Copy_string_r3, c_history_unique_api_Copy_string_r4, c_history_unique_api_Copy_string_r5, c_history_unique_api_Copy_string_r6, c_history_unique_api_Copy_string_r7, c_history_unique_api_Copy_string_r8, c_history_unique_api_Copy_string_r9, c_history_unique_api_Copy_string_r10, c_history_unique_api_Copy_string_r11]
  simp only [go_sem, Nat.reduceEqDiff, Nat.reduceBEq, reduceCtorEq]
  intro b3 hb3
  have hlen : ∀ k, (apexesC zs k).length ≤ k := by
    intro k
    induction k with
    | zero => exact Nat.le_refl _
    | succ k ih =>
      have e : apexesC zs (k + 1) = mput (zs.getD k default).apex true (apexesC zs k) := rfl
      rw [e]
      cases hg : mget (zs.getD k default).apex (apexesC zs k) with
      | none => rw [mput_new hg]; simp; exact ih
      | some v => rw [show v = true from mget_keysN' hg] at hg; rw [mput_same hg]; omega
  refine vks_loopP zs.length 0 (fun k fr' H' => ∃ vs o3, fr' = [(1, ⟨true, .val (.func (.func (E.fn 120)) #[] #[])⟩), (5, ⟨true, .val (.map (some b3))⟩), (6, ⟨true, .val vs⟩), (11, ⟨true, .val (.slice a zs.length cap)⟩), (12, ⟨true, .val (.int .i64 zs.length)⟩), (13, ⟨true, .val (.int .i64 k)⟩)] ∧
      H.le H' ∧ H' b3 = some o3 ∧ (∀ H0 : Hp, MapAt (H0.put b3 o3) b3 ((apexesC zs k).map fun e => (S e.1, .bool e.2))) ∧
        ((vs = .slice none 0 0 ∧ apexesC zs k = []) ∨ ∃ b cp, H b = none ∧ b ≠ b3 ∧ vs = .slice (some ⟨b, 0, none⟩) (apexesC zs k).length cp ∧ H' b = some (.row ((apexesC zs k).map fun e => S e.1) (cp * 1) true))) (Nat.zero_le _) ⟨_, _, rfl, le_put hb3 _, Hp.put_same .., fun H0 => ⟨#[], 0, Hp.put_same .., rfl⟩, .inl ⟨rfl, rfl⟩⟩ ?_
  rintro k fr' H' hk ⟨vs, o3, rfl, hle, ho3, hM3, hcase⟩
  have hvs : ∃ p n c, vs = .slice p n c := by
    rcases hcase with ⟨rfl, _⟩ | ⟨b, cp, _, _, rfl, _⟩ <;> exact ⟨_, _, _, rfl⟩
  by_cases hlt : k < zs.length
  · have hd : decide ((k : Int) < (zs.length : Int)) = true := by simpa using hlt
    have hr' := hr (by omega)
    obtain ⟨b, o, rs, c, wr, ha, hb, hi⟩ := hr'
    subst ha
    have hb1 := hle _ _ hb
    have hi1 := (hi k hlt).1
    have hi2 := (hi k hlt).2
    have hz1 : one1 (z k) = true := by obtain ⟨d, g, h, _⟩ := hdeep k hlt; exact SlAt.one h
    obtain ⟨x, hx⟩ : ∃ y, zs.getD k default = y := ⟨_, rfl⟩
    have hnx : apexesC zs (k + 1) = mput x.apex true (apexesC zs k) := by rw [← hx]; rfl
    have hlk := hlen k
    simp only [hd, hb1, hi2, rCopy, hx, hz1, go_sem, Nat.reduceEqDiff, Nat.reduceBEq, Nat.reduceAdd, binO]
    refine ⟨⟨by omega, by omega⟩, hi1, ?_⟩
    refine vks_callv ?_ ?_ (FnV_of_Fn h2.e120 (Fn.same (fn120 h2 x.host x.from_ x.till x.apex (z k) hz1))) ?_
    · simp only [go_sem, Nat.reduceEqDiff]
    · simp only [go_sem, Nat.reduceEqDiff]
    rintro v H'' ⟨rfl, rfl⟩
    simp only [go_sem, Nat.reduceEqDiff, Nat.reduceBEq]
    refine vks_look (enc := fun x => S x) (encv := fun b => .bool b) (l := apexesC zs k) (b := b3) x.apex keyS trivial ?_ ?_ ?_ ?_ (MapAt.of hM3 ho3) ?_
    · simp only [go_sem, Nat.reduceEqDiff]
    · simp only [go_sem, Nat.reduceEqDiff]
    · simp only [go_sem, Nat.reduceEqDiff]
    · simp only [go_sem, Nat.reduceEqDiff]
    cases hg : mget x.apex (apexesC zs k) with
    | some q =>
      have hq : q = true := mget_keysN' hg
      subst hq
      simp only [Option.map_some, go_sem, Nat.reduceEqDiff, Nat.reduceBEq, binO]
      refine ⟨hlt, vs, o3, ⟨rfl, wrapS (by omega)⟩, hle, ho3, ?_, ?_⟩
      · rw [hnx, mput_same hg]; exact hM3
      · rw [hnx, mput_same hg]; exact hcase
    | none =>
      simp only [Option.map_none, go_sem, Nat.reduceEqDiff, Nat.reduceBEq, binO]
      refine vks_upd (enc := fun x => S x) (encv := fun b => .bool b) (l := apexesC zs k) (b := b3) x.apex true keyS trivial ?_ ?_ ?_ ?_ ?_ ?_ (MapAt.of hM3 ho3) ?_
      · simp only [go_sem, Nat.reduceEqDiff]
      · simp only [go_sem, Nat.reduceEqDiff]
      · simp only [go_sem]
      · simp only [go_sem, Nat.reduceEqDiff]
      · simp only [go_sem, Nat.reduceEqDiff]
      · simp only [go_sem]
      intro o3' hM3'
      simp only [go_sem, Nat.reduceEqDiff, Nat.reduceBEq]
      intro bs hbs
      obtain ⟨G, hG⟩ : ∃ G, G = (H''.put b3 o3').put bs (.row [S x.apex] 1 true) := ⟨_, rfl⟩
      have hbs3 : bs ≠ b3 := by rintro rfl; rw [Hp.put_same] at hbs; cases hbs
      have hGb3 : G b3 = some o3' := by rw [hG, Hp.put_ne _ _ (Ne.symm hbs3), Hp.put_same]
      have hGbs : G bs = some (.row [S x.apex] 1 true) := by rw [hG, Hp.put_same]
      have hH'bs : H'' bs = none := by rw [Hp.put_ne _ _ hbs3] at hbs; exact hbs
      have hGle : H.le G := by rw [hG]; exact (le_put_of_le hle hb3 _).trans (le_put hbs _)
      have hsrcO : srcOk G 1 (.slice (some ⟨bs, 0, none⟩) 1 1) := .inr ⟨rfl, by rw [hGbs]; simp⟩
      have hsrcC : srcCells G 1 (.slice (some ⟨bs, 0, none⟩) 1 1) = [S x.apex] := by simp [srcCells, hGbs]
      rw [← hG]
      rcases hcase with ⟨rfl, hnil⟩ | ⟨b0, cp, hHb0, hb03, rfl, hH'b0⟩
      · refine vks_app0 ?_ ?_ hsrcO (by show (srcCells G 1 (.slice (some ⟨bs, 0, none⟩) 1 1)).all one1 = true; rw [hsrcC]; rfl) ?_ (by show 1 * 16 ≤ _; omega) (by show 1 ≤ _; omega) (fun h => by cases h) ?_
        · simp only [go_sem, Nat.reduceEqDiff]
        · simp only [go_sem, Nat.reduceEqDiff]
        · simp only [go_sem, Nat.reduceEqDiff]
        intro _ b1 cp1 hb1'
        have e1 : srcCells G 1 (.slice (some ⟨bs, 0, none⟩) 1 1) = [S x.apex] := hsrcC
        simp only [srcLen, e1, go_sem, Nat.reduceEqDiff, Nat.reduceBEq, binO]
        have hb13 : b1 ≠ b3 := by rintro rfl; rw [hGb3] at hb1'; cases hb1'
        have hHb1 : H b1 = none := by
          cases hq : H b1 with
          | none => rfl
          | some o => rw [hGle _ _ hq] at hb1'; cases hb1'
        refine ⟨hlt, _, o3', ⟨rfl, wrapS (by omega)⟩, hGle.trans (le_put hb1' _), by rw [Hp.put_ne _ _ (Ne.symm hb13)]; exact hGb3, by rw [hnx]; exact hM3', .inr ⟨b1, cp1, hHb1, hb13, ?_, ?_⟩⟩
        · rw [hnx, hnil]; rfl
        · rw [hnx, hnil, Hp.put_same]; rfl
      · have hb0s : b0 ≠ bs := by rintro rfl; rw [hH'bs] at hH'b0; cases hH'b0
        have hGb0 : G b0 = some (.row ((apexesC zs k).map fun e => S e.1) (cp * 1) true) := by rw [hG, Hp.put_ne _ _ hb0s, Hp.put_ne _ _ hb03]; exact hH'b0
        refine vks_appS (b0 := b0) (n := (apexesC zs k).length) (cap0 := cp) (capc := cp * 1) (vs := (apexesC zs k).map fun e => S e.1) ?_ ?_ hsrcO (by show (srcCells G 1 (.slice (some ⟨bs, 0, none⟩) 1 1)).all one1 = true; rw [hsrcC]; rfl) ?_ (by show ((apexesC zs k).length + 1) * 16 ≤ _; omega) (by show (apexesC zs k).length + 1 ≤ _; omega) hGb0 (by simp) rfl ?_
        · simp only [go_sem, Nat.reduceEqDiff]
        · simp only [go_sem, Nat.reduceEqDiff]
        · simp only [go_sem, Nat.reduceEqDiff]
        intro b1 cp1 hb1'
        have e1 : srcCells G 1 (.slice (some ⟨bs, 0, none⟩) 1 1) = [S x.apex] := hsrcC
        simp only [srcLen, e1, go_sem, Nat.reduceEqDiff, Nat.reduceBEq, binO]
        have hdle : H.le (G.del b0) := le_del hHb0 hGle
        have hdb3 : (G.del b0) b3 = some o3' := by rw [Hp.del_ne _ (Ne.symm hb03)]; exact hGb3
        have hb13 : b1 ≠ b3 := by rintro rfl; rw [hdb3] at hb1'; cases hb1'
        have hHb1 : H b1 = none := by
          cases hq : H b1 with
          | none => rfl
          | some o => rw [hdle _ _ hq] at hb1'; cases hb1'
        refine ⟨hlt, _, o3', ⟨rfl, wrapS (by omega)⟩, hdle.trans (le_put hb1' _), by rw [Hp.put_ne _ _ (Ne.symm hb13)]; exact hdb3, by rw [hnx]; exact hM3', .inr ⟨b1, cp1, hHb1, hb13, ?_, ?_⟩⟩
        · rw [hnx, mput_new hg]; simp
        · rw [hnx, mput_new hg, Hp.put_same]; simp
  · have hd : decide ((k : Int) < (zs.length : Int)) = false := by simpa using hlt
    have : k = zs.length := by omega
    subst this
    simp only [hd, go_sem, Nat.reduceEqDiff, Nat.reduceBEq, Nat.reduceAdd, binO]
    refine ⟨hle, ?_⟩
    rcases hcase with ⟨rfl, hnil⟩ | ⟨b, cp, _, _, rfl, hH⟩
    · rw [hnil]; exact SlAt.nil
    · exact SlAt.lit hH (rowS_at _)
end Go.SL
