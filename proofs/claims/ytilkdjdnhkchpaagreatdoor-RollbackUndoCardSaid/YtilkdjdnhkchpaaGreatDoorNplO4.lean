/- Reads that are skipped: their values do not matter. -/
import Derived.Test.YtilkdjdnhkchpaaGreatDoorNplO
namespace Go.SL
open Go
def ldV (E : Env) (fr : Fr) (H : Hp) (n : Option Nat) (x : Arg) : Value := match simT E fr H (.ld n x) with
  | .val v => v
  | _ => undef
def idxV (E : Env) (fr : Fr) (H : Hp) (n : Nat) (x i : Arg) : Value := match simT E fr H (.idx n x i) with
  | .val v => v
  | _ => undef
theorem simT_ld_val {E : Env} {fr : Fr} {H : Hp} {n : Option Nat} {x : Arg} : simT E fr H (.ld n x) = .val (ldV E fr H n x) := by
  simp only [ldV, simT]
  cases cellsOfPV fr H (pvo E fr x) <;> rfl
theorem simT_idx_val {E : Env} {fr : Fr} {H : Hp} {n : Nat} {x i : Arg} : simT E fr H (.idx n x i) = .val (idxV E fr H n x i) := by
  simp only [idxV, simT]
  split <;> rfl
end Go.SL

/- Rules: the length of a map; memories with several new blocks; first index. -/
namespace Go.SL
open Go
theorem vks_mlenM {E : Env} {fr : Fr} {H : Hp} {Q : X → Fr → Hp → Prop} {k : List Item} {d : Option Nat} {r : List AOper} {live : List Nat} {m : Arg} {b : Nat} {l : List (Value × Value)} (h1 : vok fr m) (hm : vo E fr m = .map (some b)) (hM : MapAt H b l)
    (h : vks E (.ops r live :: k) (setD fr d ⟨true, .val (.int .i64 l.length)⟩) H Q) : vks E (.ops (⟨d, .mlen m, none⟩ :: r) live :: k) fr H Q := by
  obtain ⟨es, cl, hH, rfl⟩ := hM
  rw [vks_mlen]
  refine ⟨h1, ?_⟩
  rw [hm]
  simp only [hH]
  simpa using h
theorem put_swap (H : Hp) {b c : Nat} (o o' p : AObj) (h : b ≠ c) : ((H.put b o).put c p).put b o' = (H.put b o').put c p := by
  funext x
  simp only [Hp.put]
  by_cases h1 : x = b
  · subst h1; simp [h]
  · simp [h1]
def firstN (P : Nat → Bool) : Nat → Int
  | 0 => -1
  | n + 1 => if firstN P n ≥ 0 then firstN P n else if P n then n else -1
theorem firstN_iff (P : Nat → Bool) (n : Nat) : firstN P n ≥ 0 ↔ anyN P n = true := by
  induction n with
  | zero => simp [firstN, anyN]
  | succ n ih =>
    have e : anyN P (n + 1) = (anyN P n || P n) := rfl
    have e2 : firstN P (n + 1) = if firstN P n ≥ 0 then firstN P n else if P n then (n : Int) else -1 := rfl
    rw [e, e2, Bool.or_eq_true, ← ih]
    by_cases h : firstN P n ≥ 0
    · rw [if_pos h]; exact ⟨.inl, fun _ => h⟩
    · rw [if_neg h]
      by_cases hp : P n = true
      · rw [if_pos hp]; exact ⟨fun _ => .inr hp, fun _ => by omega⟩
      · rw [if_neg hp]; exact ⟨fun h => absurd h (by omega), fun h' => h'.elim (fun x => absurd x h) (fun x => absurd x hp)⟩
theorem firstN_any (P : Nat → Bool) (n : Nat) : decide (firstN P n ≥ 0) = anyN P n := by
  rw [Bool.eq_iff_iff, decide_eq_true_eq]; exact firstN_iff P n
theorem firstN_stop {P : Nat → Bool} {k n : Nat} (h : firstN P k = -1) (hp : P k = true) (hk : k < n) : firstN P n = k := by
  induction n with
  | zero => omega
  | succ n ih =>
    simp only [firstN]
    by_cases e : k = n
    · subst e; simp [h, hp]
    · rw [ih (by omega), if_pos (by omega)]
theorem firstN_next {P : Nat → Bool} {k : Nat} (h : firstN P k = -1) (hp : P k = false) : firstN P (k + 1) = -1 := by simp [firstN, h, hp]
theorem anyN_not {P : Nat → Bool} {n : Nat} : (!anyN (fun i => !P i) n) = allN P n := by
  induction n with
  | zero => rfl
  | succ n ih => simp only [anyN, allN, ← ih, Bool.not_or, Bool.not_not]
end Go.SL

/- Appending, cloning. -/
namespace Go.SL
open Go
section
variable {E : Env} {fr : Fr} {H : Hp} {Q : X → Fr → Hp → Prop} {k : List Item} {d : Option Nat} {r : List AOper} {live : List Nat}
theorem vks_appS {size bytes n cap0 b0 capc : Nat} {zero : List Value} {s x : Arg} {vs : List Value} (h1 : vok fr s) (h2 : vok fr x) (h3 : srcOk H size (vo E fr x)) (h4 : (srcCells H size (vo E fr x)).all one1 = true)
    (hs : vo E fr s = .slice (some ⟨b0, 0, none⟩) n cap0) (h5 : (n + srcLen (vo E fr x)) * bytes ≤ 140737488355328) (h6 : n + srcLen (vo E fr x) ≤ 4611686018427387904) (hb : H b0 = some (.row vs capc true)) (h7 : vs.length = n * size) (h8 : capc = cap0 * size)
    (h : ∀ b cap, (H.del b0) b = none → vks E (.ops r live :: k) (setD fr d ⟨true, .val (.slice (some ⟨b, 0, none⟩) (n + srcLen (vo E fr x)) cap)⟩) ((H.del b0).put b (.row (vs ++ srcCells H size (vo E fr x)) (cap * size) true)) Q) :
    vks E (.ops (⟨d, .app size bytes zero s x, none⟩ :: r) live :: k) fr H Q := by
  simp only [vks, evs, ev1, gok, gcond, big] at h ⊢
  refine ⟨trivial, fun _ => ⟨h1, h2, h3, h4, ?_⟩, fun e => by cases e⟩
  simp only [hs, hb]
  exact ⟨h5, h6, h7, h8, h⟩
theorem vks_app0 {size bytes : Nat} {zero : List Value} {s x : Arg} (h1 : vok fr s) (h2 : vok fr x) (h3 : srcOk H size (vo E fr x)) (h4 : (srcCells H size (vo E fr x)).all one1 = true)
    (hs : vo E fr s = .slice none 0 0) (h5 : srcLen (vo E fr x) * bytes ≤ 140737488355328) (h6 : srcLen (vo E fr x) ≤ 4611686018427387904)
    (h7 : srcLen (vo E fr x) = 0 → vks E (.ops r live :: k) (setD fr d ⟨true, .val (.slice none 0 0)⟩) H Q)
    (h : 0 < srcLen (vo E fr x) → ∀ b cap, H b = none → vks E (.ops r live :: k) (setD fr d ⟨true, .val (.slice (some ⟨b, 0, none⟩) (srcLen (vo E fr x)) cap)⟩) (H.put b (.row (srcCells H size (vo E fr x)) (cap * size) true)) Q) :
    vks E (.ops (⟨d, .app size bytes zero s x, none⟩ :: r) live :: k) fr H Q := by
  simp only [vks, evs, ev1, gok, gcond, big] at h h7 ⊢
  refine ⟨trivial, fun _ => ⟨h1, h2, h3, h4, ?_⟩, fun e => by cases e⟩
  simp only [hs]
  exact ⟨h5, h6, h7, h⟩
end
theorem del_put {H : Hp} {b : Nat} (h : H b = none) (o : AObj) : (H.put b o).del b = H := by
  funext c
  simp only [Hp.del, Hp.put]
  by_cases e : c = b
  · subst e; simp [h]
  · simp [e]
/-- rows one behind the other -/
def flat (n : Nat) (row : Nat → List Value) : List Value := ((List.range n).map row).flatten
theorem flat_succ (n : Nat) (row : Nat → List Value) : flat (n + 1) row = flat n row ++ row n := by simp [flat, List.range_succ]
theorem flat_len {n sz : Nat} {row : Nat → List Value} (h : ∀ i, i < n → (row i).length = sz) : (flat n row).length = n * sz := by
  induction n with
  | zero => simp [flat]
  | succ n ih =>
    rw [flat_succ, List.length_append, ih (fun i hi => h i (by omega)), h n (by omega), Nat.succ_mul]
theorem flat_at {n sz : Nat} {row : Nat → List Value} (h : ∀ i, i < n → (row i).length = sz) : ∀ i, i < n → ((flat n row).drop (i * sz)).take sz = row i := by
  induction n with
  | zero => intro i hi; omega
  | succ n ih =>
    intro i hi
    rw [flat_succ]
    have hl := flat_len (n := n) (fun i hi => h i (by omega))
    by_cases e : i = n
    · subst e
      rw [List.drop_append_of_le_length (by omega), List.drop_of_length_le (by omega), List.nil_append, List.take_of_length_le (by rw [h i (by omega)]; omega)]
    · have hlt : i < n := by omega
      have h1 : i * sz + sz ≤ n * sz := by
        have := Nat.mul_le_mul_right sz (show i + 1 ≤ n by omega)
        rw [Nat.succ_mul] at this; exact this
      rw [List.drop_append_of_le_length (by omega), List.take_append_of_le_length (by rw [List.length_drop]; omega)]
      exact ih (fun i hi => h i (by omega)) i hlt
theorem flat_all {n : Nat} {row : Nat → List Value} (h : ∀ i, i < n → (row i).all one1 = true) : (flat n row).all one1 = true := by
  induction n with
  | zero => simp [flat]
  | succ n ih => rw [flat_succ, List.all_append, ih (fun i hi => h i (by omega)), h n (by omega)]; rfl
theorem chunk_eq {n sz : Nat} {row : Nat → List Value} {cs : List Value} (hl : cs.length = n * sz) (h : ∀ i, i < n → (cs.drop (i * sz)).take sz = row i) : cs = flat n row := by
  induction n generalizing cs with
  | zero => simp at hl; simp [hl, flat]
  | succ n ih =>
    rw [Nat.succ_mul] at hl
    rw [flat_succ, ← ih (cs := cs.take (n * sz)) (by rw [List.length_take]; omega), ← h n (by omega)]
    · rw [List.take_of_length_le (l := cs.drop (n * sz)) (by rw [List.length_drop]; omega), List.take_append_drop]
    · intro i hi
      have h1 : i * sz + sz ≤ n * sz := by
        have := Nat.mul_le_mul_right sz (show i + 1 ≤ n by omega)
        rw [Nat.succ_mul] at this; exact this
      rw [List.drop_take, List.take_take, Nat.min_eq_left (by omega)]
      exact h i (by omega)
theorem SlAt.src {H : Hp} {sz n : Nat} {v : Value} {row : Nat → List Value} (h : SlAt H sz v n row) : srcOk H sz v ∧ srcLen v = n ∧ srcCells H sz v = flat n row := by
  obtain ⟨a, cap, rfl, hs, hr⟩ := h
  cases a with
  | none =>
    have hn : n = 0 := by
      cases n with
      | zero => rfl
      | succ n => obtain ⟨b, o, vs, c, wr, ha, _⟩ := hr (by omega); cases ha
    subst hn
    exact ⟨rfl, rfl, rfl⟩
  | some p =>
    cases n with
    | zero =>
      refine ⟨.inl rfl, rfl, ?_⟩
      simp only [srcCells]
      split <;> simp [flat]
    | succ m =>
    obtain ⟨b, o, vs, c', wr', ha, h2, hi⟩ := hr (by omega)
    cases ha
    have hlen : o + (m + 1) * sz ≤ vs.length ∧ ∀ i, i < m + 1 → (vs.drop (o + i * sz)).take sz = row i := by
      have := (hi m (by omega)).1
      refine ⟨by rw [Nat.succ_mul]; omega, fun i h => (hi i h).2⟩
    refine ⟨.inr ⟨rfl, by rw [h2]; exact hlen.1⟩, rfl, ?_⟩
    simp only [srcCells, h2]
    apply chunk_eq (sz := sz)
    · rw [List.length_take, List.length_drop]; omega
    · intro i hi
      have h1 : i * sz + sz ≤ (m + 1) * sz := by
        have := Nat.mul_le_mul_right sz (show i + 1 ≤ m + 1 by omega)
        rw [Nat.succ_mul] at this; exact this
      rw [List.drop_take, List.take_take, Nat.min_eq_left (by omega), List.drop_drop]
      exact hlen.2 i hi
/-- a clone: nil, or a row of its own -/
def Cloned (H : Hp) (sz n : Nat) (row : Nat → List Value) (u : Value) (H' : Hp) : Prop :=
  (u = .slice none 0 0 ∧ n = 0 ∧ H' = H) ∨ ∃ b cap, H b = none ∧ u = .slice (some ⟨b, 0, none⟩) n cap ∧ H' = H.put b (.row (flat n row) (cap * sz) true)
theorem Cloned.le {H H' : Hp} {sz n : Nat} {row : Nat → List Value} {u : Value} (h : Cloned H sz n row u H') : H.le H' := by
  rcases h with ⟨_, _, rfl⟩ | ⟨b, cap, hb, _, rfl⟩
  · exact Hp.le.refl _
  · exact le_put hb _
theorem SlAt.ofRow {H : Hp} {sz n cap c : Nat} {row : Nat → List Value} {b : Nat} {wr : Bool} (h : ∀ i, i < n → (row i).length = sz) (hb : H b = some (.row (flat n row) c wr)) : SlAt H sz (.slice (some ⟨b, 0, none⟩) n cap) n row := by
  refine ⟨_, _, rfl, (fun h => by cases h), fun _ => ⟨b, 0, _, _, _, rfl, hb, fun i hi => ⟨?_, ?_⟩⟩⟩
  · have h1 : i * sz + sz ≤ n * sz := by
      have := Nat.mul_le_mul_right sz (show i + 1 ≤ n by omega)
      rw [Nat.succ_mul] at this; exact this
    rw [flat_len h]; omega
  · rw [Nat.zero_add]; exact flat_at h i hi
theorem Cloned.at {H H' : Hp} {sz n : Nat} {row : Nat → List Value} {u : Value} (hl : ∀ i, i < n → (row i).length = sz) (h : Cloned H sz n row u H') : SlAt H' sz u n row := by
  rcases h with ⟨rfl, rfl, rfl⟩ | ⟨b, cap, hb, rfl, rfl⟩
  · exact SlAt.nil
  · exact SlAt.ofRow hl (Hp.put_same ..)
end Go.SL

/- Writing into rows. -/
namespace Go.SL
open Go
theorem flat_congr {n : Nat} {row row' : Nat → List Value} (h : ∀ i, i < n → row i = row' i) : flat n row = flat n row' := by
  induction n with
  | zero => rfl
  | succ n ih => rw [flat_succ, flat_succ, ih (fun i hi => h i (by omega)), h n (by omega)]
theorem flat_set {n sz : Nat} {row : Nat → List Value} (h : ∀ i, i < n → (row i).length = sz) {i j : Nat} (hi : i < n) (hj : j < sz) (x : Value) :
    (flat n row).set (i * sz + j) x = flat n (fun i' => if i' = i then (row i).set j x else row i') := by
  induction n with
  | zero => omega
  | succ n ih =>
    have hl := flat_len (n := n) (fun i hi => h i (by omega))
    rw [flat_succ, flat_succ, List.set_append]
    by_cases e : i = n
    · subst e
      rw [if_neg (by rw [hl]; omega), hl, Nat.add_sub_cancel_left]
      simp only [if_true]
      congr 1
      exact flat_congr fun i' h' => by rw [if_neg (by omega)]
    · have h1 : i * sz + sz ≤ n * sz := by
        have := Nat.mul_le_mul_right sz (show i + 1 ≤ n by omega)
        rw [Nat.succ_mul] at this; exact this
      rw [if_pos (by rw [hl]; omega), ih (fun i hi => h i (by omega)) (by omega), if_neg (by omega)]
theorem splice1 {l : List Value} {p : Nat} (h : p < l.length) (x : Value) : l.take p ++ [x] ++ l.drop (p + 1) = l.set p x := by
  rw [List.set_eq_take_append_cons_drop, if_pos h, List.append_assoc]; rfl
theorem flat_splice {n sz : Nat} {row : Nat → List Value} (h : ∀ i, i < n → (row i).length = sz) {i j : Nat} (hi : i < n) (hj : j < sz) (x : Value) :
    (flat n row).take (i * sz + j) ++ [x] ++ (flat n row).drop (i * sz + j + 1) = flat n (fun i' => if i' = i then (row i).set j x else row i') := by
  have h1 : i * sz + sz ≤ n * sz := by
    have := Nat.mul_le_mul_right sz (show i + 1 ≤ n by omega)
    rw [Nat.succ_mul] at this; exact this
  rw [splice1 (by rw [flat_len h]; omega), flat_set h hi hj]
theorem flat_getD {n sz : Nat} {row : Nat → List Value} (h : ∀ i, i < n → (row i).length = sz) {i j : Nat} (hi : i < n) (hj : j < sz) : (flat n row).getD (i * sz + j) undef = (row i).getD j undef :=
  getD_of_take (flat_at h i hi) hj
def upd1 (f : Nat → Value) (k : Nat) (x : Value) : Nat → Value := fun i => if i = k then x else f i
theorem rSigned_upd3 (ss : List SignedD) (d g : Nat → Value) (k n : Nat) (x : Value) : flat n (fun i' => if i' = k then (rSigned ss d g k).set 3 x else rSigned ss d g i') = flat n (rSigned ss (upd1 d k x) g) := by
  apply flat_congr
  intro i _
  by_cases e : i = k
  · subst e; simp [rSigned, upd1]
  · simp [rSigned, upd1, e]
theorem rSigned_upd4 (ss : List SignedD) (d g : Nat → Value) (k n : Nat) (x : Value) : flat n (fun i' => if i' = k then (rSigned ss d g k).set 4 x else rSigned ss d g i') = flat n (rSigned ss d (upd1 g k x)) := by
  apply flat_congr
  intro i _
  by_cases e : i = k
  · subst e; simp [rSigned, upd1]
  · simp [rSigned, upd1, e]
theorem del_le (H : Hp) (b : Nat) : (H.del b).le H := fun c o h => by
  simp only [Hp.del] at h
  split at h
  · cases h
  · exact h
theorem le_del {H H' : Hp} {b : Nat} (hb : H b = none) (h : H.le H') : H.le (H'.del b) := fun c o hc => by
  simp only [Hp.del]
  rw [if_neg (by rintro rfl; rw [hb] at hc; cases hc)]
  exact h c o hc
theorem del_mono {H H' : Hp} (b : Nat) (h : H.le H') : (H.del b).le (H'.del b) := fun c o hc => by
  simp only [Hp.del] at hc ⊢
  split at hc
  · cases hc
  · rename_i hne; rw [if_neg hne]; exact h c o hc
theorem put_del (H : Hp) (b : Nat) (o : AObj) : (H.put b o).del b = H.del b := by
  funext c
  simp only [Hp.del, Hp.put]
  by_cases e : c = b <;> simp [e]
theorem Cloned.atDel {H H' : Hp} {sz n b : Nat} {row : Nat → List Value} {u : Value} {o : AObj} (hl : ∀ i, i < n → (row i).length = sz) (h : Cloned H sz n row u H') (hb : H b = some o) : SlAt (H'.del b) sz u n row := by
  rcases h with ⟨rfl, rfl, rfl⟩ | ⟨b', cap, hb', rfl, rfl⟩
  · exact SlAt.nil
  · refine SlAt.ofRow (c := cap * sz) (wr := true) hl ?_
    have hne : b' ≠ b := by rintro rfl; rw [hb'] at hb; cases hb
    rw [Hp.del_ne _ hne, Hp.put_same]
end Go.SL

/- Lists of copies that are being built; a call in a larger memory. -/
namespace Go.SL
open Go
theorem Fn.frame {P : Program} {f : FuncId} {args : List Value} {G H : Hp} {Q : Value → Hp → Prop} (h : Fn P f args G Q) (hle : G.le H) :
    Fn P f args H (fun u H'' => ∃ H2, Q u H2 ∧ H2.le H'' ∧ ∀ c o, H c = some o → G c = none → H2 c = none ∧ H'' c = some o) := by
  intro w hw
  refine (h w (hw.le hle)).mono ?_
  rintro e w' ⟨v, H2, he, hs, hk, hq⟩
  have hG : ∀ c, H c = none → G c = none := fun c hc => by
    cases hx : G c with
    | none => rfl
    | some o => rw [hle c o hx] at hc; cases hc
  refine ⟨v, fun c => match H2 c with | some o => some o | none => if G c = none then H c else none, he, ?_, ?_, H2, hq, ?_, ?_⟩
  · intro b o hb
    simp only at hb
    cases h2 : H2 b with
    | some o' => rw [h2] at hb; simp only at hb; cases hb; exact hs b o h2
    | none =>
      rw [h2] at hb
      simp only at hb
      split at hb
      · rename_i hg
        rw [hk.same b (hw.lt hb) hg]
        exact hw b o hb
      · cases hb
  · refine ⟨hk.os, hk.tape, hk.output, hk.size, fun b hb h0 => hk.same b hb (hG b h0), fun b o hb => ?_, hk.shape⟩
    cases h2 : H2 b with
    | some o' =>
      rcases hk.fresh b o' h2 with hx | hx
      · exact .inl fun h0 => hx (hG b h0)
      · exact .inr hx
    | none =>
      rw [h2] at hb
      simp only at hb
      split at hb
      · exact .inl (by rw [hb]; simp)
      · cases hb
  · intro c o hc
    simp only [hc]
  · intro c o hc hg
    have hn : H2 c = none := by
      cases h2 : H2 c with
      | none => rfl
      | some o' =>
        rcases hk.fresh c o' h2 with hx | hx
        · exact absurd hg hx
        · exact absurd (hw.lt hc) (Nat.not_lt.2 hx)
    exact ⟨hn, by simp only [hn, hg, if_true]; exact hc⟩

/-- a list of copies: nil, or a row of its own; what its elements lead to lies in G -/
def BldG (H0 G H : Hp) (v : Value) (L : List PlacedD) : Prop :=
  ∃ z, H0.le G ∧ G.le H ∧ (∀ i, i < L.length → SetsAt G (z i) (L.getD i default).sets) ∧
    ((v = .slice none 0 0 ∧ L = []) ∨ ∃ b cap, G b = none ∧ v = .slice (some ⟨b, 0, none⟩) L.length cap ∧ H b = some (.row (flat L.length (rPlaced L z)) (cap * 3) true))
def Bld (H0 H : Hp) (v : Value) (L : List PlacedD) : Prop :=
  ∃ G z, H0.le G ∧ G.le H ∧ (∀ i, i < L.length → SetsAt G (z i) (L.getD i default).sets) ∧
    ((v = .slice none 0 0 ∧ L = []) ∨ ∃ b cap, G b = none ∧ v = .slice (some ⟨b, 0, none⟩) L.length cap ∧ H b = some (.row (flat L.length (rPlaced L z)) (cap * 3) true))
theorem rPlaced_len (L : List PlacedD) (z : Nat → Value) (i : Nat) : (rPlaced L z i).length = 3 := rfl
theorem Bld.puts {H0 H : Hp} {v : Value} {L : List PlacedD} (h : Bld H0 H v L) : PutsAt H v L := by
  obtain ⟨G, z, h1, h2, h3, h4⟩ := h
  refine ⟨z, ?_, fun i hi => (h3 i hi).mono h2⟩
  rcases h4 with ⟨rfl, rfl⟩ | ⟨b, cap, hb, rfl, hH⟩
  · exact SlAt.nil
  · exact SlAt.ofRow (fun i _ => rPlaced_len L z i) hH
theorem Bld.mono0 {H0 H : Hp} {v : Value} {L : List PlacedD} (h : Bld H0 H v L) : H0.le H := by
  obtain ⟨G, z, h1, h2, _⟩ := h
  exact h1.trans h2
theorem Bld.put {H0 H : Hp} {v : Value} {L : List PlacedD} {c : Nat} {o : AObj} (h : Bld H0 H v L) (hc : H c = none) : Bld H0 (H.put c o) v L := by
  obtain ⟨G, z, h1, h2, h3, h4⟩ := h
  refine ⟨G, z, h1, h2.trans (le_put hc _), h3, ?_⟩
  rcases h4 with h4 | ⟨b, cap, hb, hv, hH⟩
  · exact .inl h4
  · exact .inr ⟨b, cap, hb, hv, le_put hc _ _ _ hH⟩
theorem flat_push (L : List PlacedD) (p : PlacedD) (z : Nat → Value) (x : Value) : flat (L.length + 1) (rPlaced (L ++ [p]) (upd1 z L.length x)) = flat L.length (rPlaced L z) ++ [.int .i64 p.host, S p.apex, x] := by
  rw [flat_succ]
  congr 1
  · apply flat_congr
    intro i hi
    simp [rPlaced, upd1, show i ≠ L.length by omega, List.getElem?_append_left hi]
  · simp [rPlaced, upd1]
section
variable {E : Env} {fr : Fr} {Q : X → Fr → Hp → Prop} {k : List Item} {d : Option Nat} {r : List AOper} {live : List Nat}
theorem vks_pushG {H0 G H : Hp} {zero : List Value} {s x : Arg} {v zv : Value} {L : List PlacedD} {bs : Nat} (p : PlacedD) (h1 : vok fr s) (h2 : vok fr x) (hs : vo E fr s = v) (hx : vo E fr x = .slice (some ⟨bs, 0, none⟩) 1 1)
    (hb : H bs = some (.row [.int .i64 p.host, S p.apex, zv] 3 true)) (hz : SetsAt G zv p.sets) (hB : BldG H0 G H v L) (hn : L.length ≤ 2199023255552)
    (h : ∀ v' H', Bld H0 H' v' (L ++ [p]) → vks E (.ops r live :: k) (setD fr d ⟨true, .val v'⟩) H' Q) :
    vks E (.ops (⟨d, .app 3 48 zero s x, none⟩ :: r) live :: k) fr H Q := by
  have hz1 : one1 zv = true := by obtain ⟨_, _, h, _⟩ := hz; exact SlAt.one h
  have e1 : srcOk H 3 (vo E fr x) := by rw [hx]; exact .inr ⟨rfl, by rw [hb]; simp⟩
  have e2 : srcCells H 3 (vo E fr x) = [.int .i64 p.host, S p.apex, zv] := by rw [hx]; simp [srcCells, hb]
  have e3 : srcLen (vo E fr x) = 1 := by rw [hx]; rfl
  have e4 : (srcCells H 3 (vo E fr x)).all one1 = true := by rw [e2]; simp [one1_int, one1_str, hz1]
  obtain ⟨z, g1, g2, g3, g4⟩ := hB
  have hset : ∀ (K : Hp), G.le K → ∀ i, i < (L ++ [p]).length → SetsAt K (upd1 z L.length zv i) ((L ++ [p]).getD i default).sets := by
    intro K hK i hi
    by_cases e : i = L.length
    · subst e
      simp only [upd1, if_true]
      have : (L ++ [p]).getD L.length default = p := by simp
      rw [this]
      exact hz.mono hK
    · have hi' : i < L.length := by simp at hi; omega
      simp only [upd1, if_neg e]
      have : (L ++ [p]).getD i default = L.getD i default := by simp [List.getElem?_append_left hi']
      rw [this]
      exact (g3 i hi').mono hK
  have hfp := flat_push L p z zv
  rcases g4 with ⟨rfl, rfl⟩ | ⟨b0, cap, hb0, rfl, hH⟩
  · refine vks_app0 h1 h2 e1 e4 hs (by rw [e3]; omega) (by rw [e3]; omega) (fun h0 => by rw [e3] at h0; cases h0) fun _ b cap hbn => ?_
    rw [e2, e3]
    refine h _ _ ⟨H, upd1 z 0 zv, g1.trans g2, le_put hbn _, hset H g2, .inr ⟨b, cap, hbn, rfl, ?_⟩⟩
    rw [Hp.put_same]
    exact congrArg (fun l => some (AObj.row l (cap * 3) true)) hfp.symm
  · have hfl := flat_len (n := L.length) (sz := 3) (row := rPlaced L z) (fun i _ => rfl)
    refine vks_appS h1 h2 e1 e4 hs (by rw [e3]; omega) (by rw [e3]; omega) hH hfl rfl fun b cap' hbn => ?_
    rw [e2, e3]
    have hGd : G.le (H.del b0) := le_del hb0 g2
    have hlen : (L ++ [p]).length = L.length + 1 := by simp
    refine h _ _ ⟨H.del b0, upd1 z L.length zv, g1.trans hGd, le_put hbn _, hset _ hGd, .inr ⟨b, cap', hbn, by rw [hlen], ?_⟩⟩
    rw [Hp.put_same, hlen, hfp]
end
theorem vks_push {E : Env} {fr : Fr} {Q : X → Fr → Hp → Prop} {k : List Item} {d : Option Nat} {r : List AOper} {live : List Nat} {H0 H : Hp} {zero : List Value} {s x : Arg} {v zv : Value} {L : List PlacedD} {bs : Nat} (p : PlacedD) (h1 : vok fr s) (h2 : vok fr x) (hs : vo E fr s = v) (hx : vo E fr x = .slice (some ⟨bs, 0, none⟩) 1 1)
    (hb : H bs = some (.row [.int .i64 p.host, S p.apex, zv] 3 true)) (hz : SetsAt H0 zv p.sets) (hB : Bld H0 H v L) (hn : L.length ≤ 2199023255552)
    (h : ∀ v' H', Bld H0 H' v' (L ++ [p]) → vks E (.ops r live :: k) (setD fr d ⟨true, .val v'⟩) H' Q) :
    vks E (.ops (⟨d, .app 3 48 zero s x, none⟩ :: r) live :: k) fr H Q := by
  obtain ⟨G, z, g1, g2, g3, g4⟩ := hB
  exact vks_pushG p h1 h2 hs hx hb (hz.mono g1) ⟨z, g1, g2, g3, g4⟩ hn h
theorem BldG.put {H0 G H : Hp} {v : Value} {L : List PlacedD} {c : Nat} {o : AObj} (h : BldG H0 G H v L) (hc : H c = none) : BldG H0 G (H.put c o) v L := by
  obtain ⟨z, h1, h2, h3, h4⟩ := h
  refine ⟨z, h1, h2.trans (le_put hc _), h3, ?_⟩
  rcases h4 with h4 | ⟨b, cap, hb, hv, hH⟩
  · exact .inl h4
  · exact .inr ⟨b, cap, hb, hv, le_put hc _ _ _ hH⟩
/-- a call that is made in G alone -/
theorem BldG.frame {H0 G H H2 H' : Hp} {v : Value} {L : List PlacedD} (h : BldG H0 G H v L) (h1 : G.le H2) (h2 : H2.le H') (h3 : ∀ c o, H c = some o → G c = none → H2 c = none ∧ H' c = some o) : BldG H0 H2 H' v L := by
  obtain ⟨z, g1, g2, g3, g4⟩ := h
  refine ⟨z, g1.trans h1, h2, fun i hi => (g3 i hi).mono h1, ?_⟩
  rcases g4 with g4 | ⟨b, cap, hb, hv, hH⟩
  · exact .inl g4
  · have := h3 b _ hH hb
    exact .inr ⟨b, cap, this.1, hv, this.2⟩
theorem splice2 {l : List Value} {p : Nat} (h : p + 1 < l.length) (x y : Value) : l.take p ++ [x, y] ++ l.drop (p + 2) = (l.set p x).set (p + 1) y := by
  apply List.ext_getElem?
  intro i
  rcases Nat.lt_trichotomy i p with h1 | h1 | h1
  · rw [List.append_assoc, List.getElem?_append_left (by simp; omega)]
    simp [h1, show p + 1 ≠ i by omega, show p ≠ i by omega]
  · subst h1
    rw [List.append_assoc, List.getElem?_append_right (by simp; omega)]
    simp [Nat.min_eq_left (show i ≤ l.length by omega), show i < l.length by omega]
  · by_cases h2 : i = p + 1
    · subst h2
      rw [List.append_assoc, List.getElem?_append_right (by simp; omega)]
      simp [Nat.min_eq_left (show p ≤ l.length by omega), h]
    · rw [List.getElem?_append_right (by simp; omega)]
      have e : i - (List.take p l ++ [x, y]).length = i - (p + 2) := by simp; omega
      rw [e, List.getElem?_drop]
      have e2 : p + 2 + (i - (p + 2)) = i := by omega
      rw [e2]
      simp [show p + 1 ≠ i by omega, show p ≠ i by omega]
theorem rPlaced_splice (L : List PlacedD) (z : Nat → Value) {k : Nat} (hk : k < L.length) (x : Value) :
    (flat L.length (rPlaced L z)).take (k * 3 + 1) ++ [S (L.getD k default).apex, x] ++ (flat L.length (rPlaced L z)).drop (k * 3 + 1 + 2) = flat L.length (rPlaced L (upd1 z k x)) := by
  have hl := flat_len (n := L.length) (sz := 3) (row := rPlaced L z) (fun i _ => rfl)
  rw [splice2 (by rw [hl]; omega), flat_set (sz := 3) (fun i _ => rfl) hk (by omega)]
  rw [show k * 3 + 1 + 1 = k * 3 + 2 from rfl, flat_set (sz := 3) (fun i _ => by split <;> rfl) hk (by omega)]
  apply flat_congr
  intro i _
  by_cases e : i = k
  · subst e; simp [rPlaced, upd1]
  · simp [rPlaced, upd1, e]
end Go.SL
