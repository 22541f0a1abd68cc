/- Contracts: slices.Clone. -/
import Derived.Test.YtilkdjdnhkchpaaGreatDoorNplO
import Derived.Test.YtilkdjdnhkchpaaGreatDoorNplO4
namespace Go.SL
open Go
variable {E : Env} {H : Hp}

theorem fn21 (hE : Codes E) {v : Value} {l : List HostD} (h : HostsAt H v l) (hn : l.length ≤ 1099511627) : Fn E.P (E.fn 21) [v] H (fun u H' => Cloned H 3 l.length (rHost l) u H') := by
  have hsrc := SlAt.src h
  have hall : (flat l.length (rHost l)).all one1 = true := flat_all fun i _ => rfl
  obtain ⟨a, cap, rfl, hs, hr⟩ := h
  refine Fn.of_vks hE.c21 (by simp [c_slices_Clone_Host]) ?_
  simp only [c_slices_Clone_Host, c_slices_Clone_Host_r0, c_slices_Clone_Host_r1, c_slices_Clone_Host_r2, c_slices_Clone_Host_r3]
  simp only [nilEq, go_sem, Nat.reduceEqDiff, Nat.reduceBEq, reduceCtorEq]
  refine ⟨fun h => ?_, fun h => ?_⟩
  · have ha : a = none := by simpa using h
    subst ha
    exact .inl ⟨rfl, hsrc.1, rfl⟩
  · intro b5 hb5
    have hle : H.le (H.put b5 (.row [] 0 true)) := le_put hb5 _
    have h' : SlAt (H.put b5 (.row [] 0 true)) 3 (.slice a l.length cap) l.length (rHost l) := SlAt.mono ⟨a, cap, rfl, hs, hr⟩ hle
    have hsrc' := SlAt.src h'
    refine vks_appS (b0 := b5) (n := 0) (cap0 := 0) (vs := []) (capc := 0) ?_ ?_ hsrc'.1 ?_ ?_ ?_ ?_ (Hp.put_same ..) rfl rfl ?_
    · simp only [go_sem, Nat.reduceEqDiff, reduceCtorEq]
    · simp only [go_sem, Nat.reduceEqDiff, reduceCtorEq]
    · exact (congrArg (fun l => List.all l one1) hsrc'.2.2).trans hall
    · simp only [go_sem, Nat.reduceEqDiff, reduceCtorEq]
    · show (0 + l.length) * _ ≤ _; omega
    · show 0 + l.length ≤ _; omega
    intro b cap' hb
    rw [del_put hb5] at hb ⊢
    have e1 : srcCells (H.put b5 (.row [] 0 true)) 3 (.slice a l.length cap) = flat l.length (rHost l) := hsrc'.2.2
    simp only [srcLen, e1, go_sem, Nat.reduceEqDiff, Nat.reduceBEq, reduceCtorEq]
    exact .inr ⟨b, cap', hb, rfl, rfl⟩
theorem fn22 (hE : Codes E) {v : Value} {l : List DatumD} (h : DataAt H v l) (hn : l.length ≤ 1099511627) : Fn E.P (E.fn 22) [v] H (fun u H' => Cloned H 3 l.length (rDatum l) u H') := by
  have hsrc := SlAt.src h
  have hall : (flat l.length (rDatum l)).all one1 = true := flat_all fun i _ => rfl
  obtain ⟨a, cap, rfl, hs, hr⟩ := h
  refine Fn.of_vks hE.c22 (by simp [c_slices_Clone_Datum]) ?_
  simp only [c_slices_Clone_Datum, c_slices_Clone_Datum_r0, c_slices_Clone_Datum_r1, c_slices_Clone_Datum_r2, c_slices_Clone_Datum_r3]
  simp only [nilEq, go_sem, Nat.reduceEqDiff, Nat.reduceBEq, reduceCtorEq]
  refine ⟨fun h => ?_, fun h => ?_⟩
  · have ha : a = none := by simpa using h
    subst ha
    exact .inl ⟨rfl, hsrc.1, rfl⟩
  · intro b5 hb5
    have hle : H.le (H.put b5 (.row [] 0 true)) := le_put hb5 _
    have h' : SlAt (H.put b5 (.row [] 0 true)) 3 (.slice a l.length cap) l.length (rDatum l) := SlAt.mono ⟨a, cap, rfl, hs, hr⟩ hle
    have hsrc' := SlAt.src h'
    refine vks_appS (b0 := b5) (n := 0) (cap0 := 0) (vs := []) (capc := 0) ?_ ?_ hsrc'.1 ?_ ?_ ?_ ?_ (Hp.put_same ..) rfl rfl ?_
    · simp only [go_sem, Nat.reduceEqDiff, reduceCtorEq]
    · simp only [go_sem, Nat.reduceEqDiff, reduceCtorEq]
    · exact (congrArg (fun l => List.all l one1) hsrc'.2.2).trans hall
    · simp only [go_sem, Nat.reduceEqDiff, reduceCtorEq]
    · show (0 + l.length) * _ ≤ _; omega
    · show 0 + l.length ≤ _; omega
    intro b cap' hb
    rw [del_put hb5] at hb ⊢
    have e1 : srcCells (H.put b5 (.row [] 0 true)) 3 (.slice a l.length cap) = flat l.length (rDatum l) := hsrc'.2.2
    simp only [srcLen, e1, go_sem, Nat.reduceEqDiff, Nat.reduceBEq, reduceCtorEq]
    exact .inr ⟨b, cap', hb, rfl, rfl⟩
theorem fn23 (hE : Codes E) {v : Value} {l : List Int} (h : IntsAt H v l) (hn : l.length ≤ 1099511627) : Fn E.P (E.fn 23) [v] H (fun u H' => Cloned H 1 l.length (rInt l) u H') := by
  have hsrc := SlAt.src h
  have hall : (flat l.length (rInt l)).all one1 = true := flat_all fun i _ => rfl
  obtain ⟨a, cap, rfl, hs, hr⟩ := h
  refine Fn.of_vks hE.c23 (by simp [c_slices_Clone_int]) ?_
  simp only [c_slices_Clone_int, c_slices_Clone_int_r0, c_slices_Clone_int_r1, c_slices_Clone_int_r2, c_slices_Clone_int_r3]
  simp only [nilEq, go_sem, Nat.reduceEqDiff, Nat.reduceBEq, reduceCtorEq]
  refine ⟨fun h => ?_, fun h => ?_⟩
  · have ha : a = none := by simpa using h
    subst ha
    exact .inl ⟨rfl, hsrc.1, rfl⟩
  · intro b5 hb5
    have hle : H.le (H.put b5 (.row [] 0 true)) := le_put hb5 _
    have h' : SlAt (H.put b5 (.row [] 0 true)) 1 (.slice a l.length cap) l.length (rInt l) := SlAt.mono ⟨a, cap, rfl, hs, hr⟩ hle
    have hsrc' := SlAt.src h'
    refine vks_appS (b0 := b5) (n := 0) (cap0 := 0) (vs := []) (capc := 0) ?_ ?_ hsrc'.1 ?_ ?_ ?_ ?_ (Hp.put_same ..) rfl rfl ?_
    · simp only [go_sem, Nat.reduceEqDiff, reduceCtorEq]
    · simp only [go_sem, Nat.reduceEqDiff, reduceCtorEq]
    · exact (congrArg (fun l => List.all l one1) hsrc'.2.2).trans hall
    · simp only [go_sem, Nat.reduceEqDiff, reduceCtorEq]
    · show (0 + l.length) * _ ≤ _; omega
    · show 0 + l.length ≤ _; omega
    intro b cap' hb
    rw [del_put hb5] at hb ⊢
    have e1 : srcCells (H.put b5 (.row [] 0 true)) 1 (.slice a l.length cap) = flat l.length (rInt l) := hsrc'.2.2
    simp only [srcLen, e1, go_sem, Nat.reduceEqDiff, Nat.reduceBEq, reduceCtorEq]
    exact .inr ⟨b, cap', hb, rfl, rfl⟩
theorem fn39 (hE : Codes E) {v : Value} {l : List SigD} (h : SigsAt H v l) (hn : l.length ≤ 1099511627) : Fn E.P (E.fn 39) [v] H (fun u H' => Cloned H 6 l.length (rSig l) u H') := by
  have hsrc := SlAt.src h
  have hall : (flat l.length (rSig l)).all one1 = true := flat_all fun i _ => rfl
  obtain ⟨a, cap, rfl, hs, hr⟩ := h
  refine Fn.of_vks hE.c39 (by simp [c_slices_Clone_Sig]) ?_
  simp only [c_slices_Clone_Sig, c_slices_Clone_Sig_r0, c_slices_Clone_Sig_r1, c_slices_Clone_Sig_r2, c_slices_Clone_Sig_r3]
  simp only [nilEq, go_sem, Nat.reduceEqDiff, Nat.reduceBEq, reduceCtorEq]
  refine ⟨fun h => ?_, fun h => ?_⟩
  · have ha : a = none := by simpa using h
    subst ha
    exact .inl ⟨rfl, hsrc.1, rfl⟩
  · intro b5 hb5
    have hle : H.le (H.put b5 (.row [] 0 true)) := le_put hb5 _
    have h' : SlAt (H.put b5 (.row [] 0 true)) 6 (.slice a l.length cap) l.length (rSig l) := SlAt.mono ⟨a, cap, rfl, hs, hr⟩ hle
    have hsrc' := SlAt.src h'
    refine vks_appS (b0 := b5) (n := 0) (cap0 := 0) (vs := []) (capc := 0) ?_ ?_ hsrc'.1 ?_ ?_ ?_ ?_ (Hp.put_same ..) rfl rfl ?_
    · simp only [go_sem, Nat.reduceEqDiff, reduceCtorEq]
    · simp only [go_sem, Nat.reduceEqDiff, reduceCtorEq]
    · exact (congrArg (fun l => List.all l one1) hsrc'.2.2).trans hall
    · simp only [go_sem, Nat.reduceEqDiff, reduceCtorEq]
    · show (0 + l.length) * _ ≤ _; omega
    · show 0 + l.length ≤ _; omega
    intro b cap' hb
    rw [del_put hb5] at hb ⊢
    have e1 : srcCells (H.put b5 (.row [] 0 true)) 6 (.slice a l.length cap) = flat l.length (rSig l) := hsrc'.2.2
    simp only [srcLen, e1, go_sem, Nat.reduceEqDiff, Nat.reduceBEq, reduceCtorEq]
    exact .inr ⟨b, cap', hb, rfl, rfl⟩
theorem fn38 (hE : Codes E) {v : Value} {n : Nat} {row : Nat → List Value} (h : SlAt H 5 v n row) (h1 : ∀ i, i < n → (row i).all one1 = true) (hn : n ≤ 1099511627) : Fn E.P (E.fn 38) [v] H (fun u H' => Cloned H 5 n row u H') := by
  have hsrc := SlAt.src h
  have hall : (flat n row).all one1 = true := flat_all h1
  obtain ⟨a, cap, rfl, hs, hr⟩ := h
  refine Fn.of_vks hE.c38 (by simp [c_slices_Clone_Signed]) ?_
  simp only [c_slices_Clone_Signed, c_slices_Clone_Signed_r0, c_slices_Clone_Signed_r1, c_slices_Clone_Signed_r2, c_slices_Clone_Signed_r3]
  simp only [nilEq, go_sem, Nat.reduceEqDiff, Nat.reduceBEq, reduceCtorEq]
  refine ⟨fun h => ?_, fun h => ?_⟩
  · have ha : a = none := by simpa using h
    subst ha
    exact .inl ⟨rfl, hsrc.1, rfl⟩
  · intro b5 hb5
    have hle : H.le (H.put b5 (.row [] 0 true)) := le_put hb5 _
    have h' : SlAt (H.put b5 (.row [] 0 true)) 5 (.slice a n cap) n row := SlAt.mono ⟨a, cap, rfl, hs, hr⟩ hle
    have hsrc' := SlAt.src h'
    refine vks_appS (b0 := b5) (n := 0) (cap0 := 0) (vs := []) (capc := 0) ?_ ?_ hsrc'.1 ?_ ?_ ?_ ?_ (Hp.put_same ..) rfl rfl ?_
    · simp only [go_sem, Nat.reduceEqDiff, reduceCtorEq]
    · simp only [go_sem, Nat.reduceEqDiff, reduceCtorEq]
    · exact (congrArg (fun l => List.all l one1) hsrc'.2.2).trans hall
    · simp only [go_sem, Nat.reduceEqDiff, reduceCtorEq]
    · show (0 + n) * _ ≤ _; omega
    · show 0 + n ≤ _; omega
    intro b cap' hb
    rw [del_put hb5] at hb ⊢
    have e1 : srcCells (H.put b5 (.row [] 0 true)) 5 (.slice a n cap) = flat n row := hsrc'.2.2
    simp only [srcLen, e1, go_sem, Nat.reduceEqDiff, Nat.reduceBEq, reduceCtorEq]
    exact .inr ⟨b, cap', hb, rfl, rfl⟩
end Go.SL
