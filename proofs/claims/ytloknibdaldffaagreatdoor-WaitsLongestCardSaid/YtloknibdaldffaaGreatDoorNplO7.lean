import Derived.Test.YtloknibdaldffaaGreatDoorNplL
import Derived.Test.YtloknibdaldffaaGreatDoorNplO
import Derived.Test.YtloknibdaldffaaGreatDoorNplM5
import Derived.Test.YtloknibdaldffaaGreatDoorNplM6
namespace Go.SL
open Go
def cf98_0 : List AOper := [
 Jc 4 (.int .i64 0)]
def cf98_1 : List AOper := [
 Jm 6 0,Js 7 (.len true (.t 6)),Kb 8 .sub 7 1,Jm 5 8]
def cf98_2 : List AOper := [
 Jm 9 5,Kb 10 .geq 9 0]
def cf98_4 : List AOper := [
 Jm 13 0,Jm 14 5,Js 15 (.idxs (.t 13) (.t 14)),Jm 16 1,Kc 17 .eql 15 16]
def cf98_5 : List AOper := [
 Jm 18 5,Jm 4 18]
def cf98_3 : List AOper := [
 Jm 11 5,Kb 12 .sub 11 1,Jm 5 12]
def cf98_6 : List AOper := [
 Jc 4 (.int .i64 (-1))]
def cf98 : AFunc := ⟨19, [.slot 4],
  (Jz cf98_0 [0,1] (.seq (Jz cf98_1 [0,1,5] (.block 0 (.loop [0,1,5] (.seq (Jz cf98_2 [0,1,5,10] (.cond (.t 10) .skip (.exit 0))) (.seq (.block 1 (Jz cf98_4 [0,1,5,17] (.cond (.t 17) (Jz cf98_5 [4] .ret) .skip))) (.reg cf98_3 [0,1,5])))))) (Jz cf98_6 [4] .ret)))⟩
def cf86_0 : List AOper := [
 Jc 10 (.bool true)]
def cf86_1 : List AOper := [
 Jc 11 (.bool true)]
def cf86_2 : List AOper := [
 Jm 21 2,Jm 22 1,Kc 23 .sub 21 22,Jm 12 23]
def cf86_3 : List AOper := [
 Jm 24 12,Kb 25 .leq 24 12]
def cf86_4 : List AOper := [
 Jm 26 0,Jm 27 1,Jm 28 2,Jm 29 4,Jx 30 109 [.t 26,.t 27,.t 28,.t 29]]
def cf86_5 : List AOper := [
 Jm 31 3,Kb 32 .eql 31 0]
def cf86_6 : List AOper := [
 Jm 33 0,Jm 34 1,Jm 35 2,Jm 36 4,Jx 37 110 [.t 33,.t 34,.t 35,.t 36]]
def cf86_7 : List AOper := [
 Jm 38 10,Kn 39 38]
def cf86_8 : List AOper := [
 Jm 40 0,Jm 41 1,Jm 42 2,Jm 43 4,Jx 44 111 [.t 40,.t 41,.t 42,.t 43]]
def cf86_9 : List AOper := [
 Jm 45 3,Kb 46 .sub 45 1,Jm 3 46]
def cf86_10 : List AOper := [
 Jm 48 0,Jm 49 1,Jm 50 2,Jm 51 4,Jx 52 112 [.t 48,.t 49,.t 50,.t 51],Jm 47 52,Ke 53 0 47,Ke 54 1 47,Jm 13 53,Jm 14 54]
def cf86_11 : List AOper := [
 Jm 55 14,Kb 56 .eql 55 2]
def cf86_12 : List AOper := [
 Jm 57 0,Jm 58 1,Jm 59 2,Jm 60 4,Jx 61 113 [.t 57,.t 58,.t 59,.t 60]]
def cf86_13 : List AOper := [
 Jm 62 2,Kb 63 .sub 62 1,Jm 64 13,Jm 65 1,Kc 66 .sub 64 65,Kc 67 .sub 63 66,Jm 13 67]
def cf86_14 : List AOper := [
 Jc 14 (.int .i64 1)]
def cf86_15 : List AOper := [
 Jm 68 10,Jm 69 68,Ju 70 11 69,Ja 71 69 70,Jm 72 71,Ju 73 14 72,Jt 74 (.bin .eql (.t 73) (.c (.int .i64 1))) 72,Ja 75 72 74]
def cf86_16 : List AOper := [
 Jm 76 0,Jm 77 1,Jm 78 2,Jm 79 4,Jx 80 114 [.t 76,.t 77,.t 78,.t 79]]
def cf86_17 : List DOp := [
 ⟨0,Jm 81 1,[]⟩,
 ⟨1,Kb 82 .gtr 81 0,[]⟩,
 ⟨2,Jm 83 82,[]⟩,
 ⟨3,Ju 84 4 83,[]⟩,
 ⟨4,Ju 85 0 83,[]⟩,
 ⟨5,Ju 86 1 83,[]⟩,
 ⟨6,Jt 87 (.bin .sub (.t 86) (.c (.int .i64 1))) 83,[]⟩,
 ⟨7,Jt 88 (.idx 2 (.t 85) (.t 87)) 83,[]⟩,
 ⟨8,Jt 89 (.ld (some 2) (.t 88)) 83,[]⟩,
 ⟨9,Ju 90 0 83,[]⟩,
 ⟨10,Ju 91 13 83,[]⟩,
 ⟨11,Jt 92 (.idx 2 (.t 90) (.t 91)) 83,[]⟩,
 ⟨12,Jt 93 (.ld (some 2) (.t 92)) 83,[]⟩,
 ⟨13,⟨some 94,.callv (.t 84) [.t 89,.t 93],(some (83,true))⟩,[]⟩,
 ⟨14,Jt 95 (.bin .lss (.t 94) (.c (.int .i64 0))) 83,[]⟩,
 ⟨15,Jt 96 (.not (.t 95)) 83,[]⟩,
 ⟨16,Ja 97 83 96,[]⟩]
def cf86_18 : List AOper := [
 Jm 98 0,Jm 99 1,Jm 100 2,Jm 101 13,Jm 102 4,Jx 103 115 [.t 98,.t 99,.t 100,.t 101,.t 102],Jm 15 103]
def cf86_19 : List AOper := [
 Jm 104 15,Jm 1 104]
def cf86_20 : List AOper := [
 Jm 106 0,Jm 107 1,Jm 108 2,Jm 109 13,Jm 110 4,Jx 111 116 [.t 106,.t 107,.t 108,.t 109,.t 110],Jm 105 111,Ke 112 0 105,Ke 113 1 105,Jm 16 112,Jm 17 113]
def cf86_21 : List AOper := [
 Jm 114 17,Jm 11 114]
def cf86_22 : List AOper := [
 Jm 115 16,Jm 116 1,Kc 117 .sub 115 116,Jm 118 2,Jm 119 16,Kc 120 .sub 118 119,Jm 18 117,Jm 19 120]
def cf86_23 : List AOper := [
 Jm 121 12,Kb 122 .quo 121 8,Jm 20 122]
def cf86_24 : List AOper := [
 Jm 123 18,Jm 124 19,Kc 125 .lss 123 124]
def cf86_25 : List AOper := [
 Jm 126 18,Jm 127 20,Kc 128 .geq 126 127,Jm 10 128]
def cf86_26 : List AOper := [
 Jm 129 0,Jm 130 1,Jm 131 16,Jm 132 3,Jm 133 4,Jx 134 86 [.t 129,.t 130,.t 131,.t 132,.t 133]]
def cf86_27 : List AOper := [
 Jm 135 16,Kb 136 .add 135 1,Jm 1 136]
def cf86_28 : List AOper := [
 Jm 137 19,Jm 138 20,Kc 139 .geq 137 138,Jm 10 139]
def cf86_29 : List AOper := [
 Jm 140 0,Jm 141 16,Kb 142 .add 141 1,Jm 143 2,Jm 144 3,Jm 145 4,Jx 146 86 [.t 140,.t 142,.t 143,.t 144,.t 145]]
def cf86_30 : List AOper := [
 Jm 147 16,Jm 2 147]
def cf86 : AFunc := ⟨148, [],
  (Jz cf86_0 [0,1,2,3,4,10] (Jz cf86_1 [0,1,2,3,4,10,11] (.block 0 (.loop [0,1,2,3,4,10,11] (.block 1 (Jz cf86_2 [0,1,2,3,4,10,11,12] (.seq (Jz cf86_3 [0,1,2,3,4,10,11,12,25] (.cond (.t 25) (Jz cf86_4 [] .ret) .skip)) (.seq (Jz cf86_5 [0,1,2,3,4,10,11,12,32] (.cond (.t 32) (Jz cf86_6 [] .ret) .skip)) (.seq (Jz cf86_7 [0,1,2,3,4,10,11,12,39] (.cond (.t 39) (Jz cf86_8 [0,1,2,3,4,10,11,12] (.reg cf86_9 [0,1,2,3,4,10,11,12])) .skip)) (Jz cf86_10 [0,1,2,3,4,10,11,12,13,14] (.seq (Jz cf86_11 [0,1,2,3,4,10,11,12,13,14,56] (.cond (.t 56) (Jz cf86_12 [0,1,2,3,4,10,11,12,13] (Jz cf86_13 [0,1,2,3,4,10,11,12,13] (.reg cf86_14 [0,1,2,3,4,10,11,12,13,14]))) .skip)) (.seq (Jz cf86_15 [0,1,2,3,4,10,11,12,13,75] (.cond (.t 75) (Jz cf86_16 [0,1,2,3,4,10,11,12,13,80] (.cond (.t 80) .ret .skip)) .skip)) (.seq (.seq (.regd cf86_17 [0,1,2,3,4,10,11,12,13,97]) (.cond (.t 97) (Jz cf86_18 [0,2,3,4,10,11,15] (Jz cf86_19 [0,1,2,3,4,10,11] (.exit 1))) .skip)) (Jz cf86_20 [0,1,2,3,4,12,16,17] (Jz cf86_21 [0,1,2,3,4,11,12,16] (Jz cf86_22 [0,1,2,3,4,11,12,16,18,19] (Jz cf86_23 [0,1,2,3,4,11,16,18,19,20] (Jz cf86_24 [0,1,2,3,4,11,16,18,19,20,125] (.cond (.t 125) (Jz cf86_25 [0,1,2,3,4,10,11,16] (Jz cf86_26 [0,2,3,4,10,11,16] (.reg cf86_27 [0,1,2,3,4,10,11]))) (Jz cf86_28 [0,1,2,3,4,10,11,16] (Jz cf86_29 [0,1,3,4,10,11,16] (.reg cf86_30 [0,1,2,3,4,10,11]))))))))))))))))))))))⟩
def cf85_0 : List AOper := [
 Jc 2 (.int .i64 0)]
def cf85_1 : List AOper := [
 Jm 3 0,Js 4 (.cvi .u32 (.t 3)),Jx 5 117 [.t 4],Jm 2 5]
def cf85_2 : List AOper := [
 Jm 6 0,Jx 7 118 [.t 6],Jm 2 7]
def cf85 : AFunc := ⟨8, [.slot 2],
  (Jz cf85_0 [0] (.seq (.cond (.c (.bool false)) (Jz cf85_1 [2] .ret) .skip) (Jz cf85_2 [2] .ret)))⟩
def cf119_0 : List AOper := [
 Jc 4 (.slice none 0 0)]
def cf119_1 : List AOper := [
 ⟨some 10,.mkmap none,none⟩,Jm 5 10]
def cf119_2 : List AOper := [
 Jc 6 (.slice none 0 0)]
def cf119_3 : List AOper := [
 Jm 11 0,Je 12 11,Jc 13 (.int .i64 0)]
def cf119_4 : List AOper := [
 Kc 14 .lss 13 12]
def cf119_5 : List AOper := [
 Ji 15 5 11 13,Jk 16 5 15,Js 8 (.new [.int .i64 0,.int .i64 0,.int .i64 0,.string ⟨#[]⟩,.slice none 0 0]),Jw 5 8 16]
def cf119_6 : List AOper := [
 Jm 17 1,Jk 18 5 8,
 ⟨some 19,.callv (.t 17) [.t 18],none⟩,Jm 9 19]
def cf119_7 : List AOper := [
 Jm 20 5,Jm 21 9,
 ⟨some 22,.look false [.s] (.bool false) false (.t 20) (.t 21),none⟩,Kn 23 22]
def cf119_8 : List AOper := [
 Jm 24 5,Jm 25 9,
 ⟨none,.upd false [.s] (.t 24) (.t 25) (.c (.bool true)),none⟩]
def cf119_9 : List AOper := [
 Jm 26 6,Jm 27 9,
 ⟨some 28,.mksl 1 1 [.string ⟨#[]⟩] [(0,1,.t 27)],none⟩,
 ⟨some 29,.app 1 16 [.string ⟨#[]⟩] (.t 26) (.t 28),none⟩,Jm 6 29]
def cf119_10 : List AOper := [
 Kb 30 .add 13 1,Jm 13 30]
def cf119_11 : List AOper := [
 Jm 31 6,Jm 4 31]
def cf119 : AFunc := ⟨32, [.slot 4],
  (Jz cf119_0 [0,1] (Jz cf119_1 [0,1,5] (Jz cf119_2 [0,1,5,6] (.seq (Jz cf119_3 [1,5,6,11,12,13] (.block 0 (.loop [1,5,6,11,12,13] (Jz cf119_4 [1,5,6,11,12,13,14] (.seq (.cond (.t 14) .skip (.exit 0)) (.seq (.block 1 (Jz cf119_5 [1,5,6,8,11,12,13] (Jz cf119_6 [1,5,6,9,11,12,13] (Jz cf119_7 [1,5,6,9,11,12,13,23] (.cond (.t 23) (Jz cf119_8 [1,5,6,9,11,12,13] (.reg cf119_9 [1,5,6,11,12,13])) .skip))))) (.reg cf119_10 [1,5,6,11,12,13]))))))) (Jz cf119_11 [4] .ret)))))⟩
def cf120_0 : List AOper := [
 Kx 1 0,Jc 2 (.string ⟨#[]⟩)]
def cf120_1 : List AOper := [
 Jf 3 3 1,Jf 4 0 3,Jl 5 4,Jm 2 5]
def cf120 : AFunc := ⟨6, [.slot 2],
  (Jz cf120_0 [1] (Jz cf120_1 [2] .ret))⟩
end Go.SL
/- Writing into rows. -/
namespace Go.SL
open Go
theorem flat_congr {n : Nat} {row row' : Nat → List Value} (h : ∀ i, i < n → row i = row' i) : flat n row = flat n row' := by
 induction n with
 | zero => rfl
 | succ n ih => rw [flat_succ,flat_succ,ih (fun i hi => h i (by omega)),h n (by omega)]
theorem flat_set {n sz : Nat} {row : Nat → List Value} (h : ∀ i, i < n → (row i).length = sz) {i j : Nat} (hi : i < n) (hj : j < sz) (x : Value) :
  (flat n row).set (i * sz + j) x = flat n (fun i' => if i' = i then (row i).set j x else row i') := by
 induction n with
 | zero => omega
 | succ n ih =>
  have hl := flat_len (n := n) (fun i hi => h i (by omega))
  rw [flat_succ,flat_succ,List.set_append]
  by_cases e : i = n
  ·subst e
   rw [if_neg (by rw [hl]; omega),hl,Nat.add_sub_cancel_left]
   simp only [if_true]
   congr 1
   exact flat_congr fun i' h' => by rw [if_neg (by omega)]
  ·have h1 : i * sz + sz ≤ n * sz := by
    have := Nat.mul_le_mul_right sz (show i + 1 ≤ n by omega)
    rw [Nat.succ_mul] at this; exact this
   rw [if_pos (by rw [hl]; omega),ih (fun i hi => h i (by omega)) (by omega),if_neg (by omega)]
theorem splice1 {l : List Value} {p : Nat} (h : p < l.length) (x : Value) : l.take p ++ [x] ++ l.drop (p + 1) = l.set p x := by
 rw [List.set_eq_take_append_cons_drop,if_pos h,List.append_assoc]; rfl
theorem flat_splice {n sz : Nat} {row : Nat → List Value} (h : ∀ i, i < n → (row i).length = sz) {i j : Nat} (hi : i < n) (hj : j < sz) (x : Value) :
  (flat n row).take (i * sz + j) ++ [x] ++ (flat n row).drop (i * sz + j + 1) = flat n (fun i' => if i' = i then (row i).set j x else row i') := by
 have h1 : i * sz + sz ≤ n * sz := by
  have := Nat.mul_le_mul_right sz (show i + 1 ≤ n by omega)
  rw [Nat.succ_mul] at this; exact this
 rw [splice1 (by rw [flat_len h]; omega),flat_set h hi hj]
theorem flat_getD {n sz : Nat} {row : Nat → List Value} (h : ∀ i, i < n → (row i).length = sz) {i j : Nat} (hi : i < n) (hj : j < sz) : (flat n row).getD (i * sz + j) undef = (row i).getD j undef :=
 getD_of_take (flat_at h i hi) hj
def upd1 (f : Nat → Value) (k : Nat) (x : Value) : Nat → Value := fun i => if i = k then x else f i
theorem del_le (H : Hp) (b : Nat) : (H.del b).le H := fun c o h => by
 simp only [Hp.del] at h
 split at h
 ·cases h
 ·exact h
theorem le_del {H H' : Hp} {b : Nat} (hb : H b = none) (h : H.le H') : H.le (H'.del b) := fun c o hc => by
 simp only [Hp.del]
 rw [if_neg (by rintro rfl; rw [hb] at hc; cases hc)]
 exact h c o hc
end Go.SL
/- Lists of copies that are being built; a call in a larger memory. -/
namespace Go.SL
open Go
theorem Fn.frame {P : Program} {f : FuncId} {args : List Value} {G H : Hp} {Q : Value → Hp → Prop} (h : Fn P f args G Q) (hle : G.le H) :
  Fn P f args H (fun u H'' => ∃ H2,Q u H2 ∧ H2.le H'' ∧ ∀ c o,H c = some o → G c = none → H2 c = none ∧ H'' c = some o) := by
 intro w hw
 refine (h w (hw.le hle)).mono ?_
 rintro e w' ⟨v,H2,he,hs,hk,hq⟩
 have hG : ∀ c, H c = none → G c = none := fun c hc => by
  cases hx : G c with
  | none => rfl
  | some o => rw [hle c o hx] at hc; cases hc
 refine ⟨v,fun c => match H2 c with | some o => some o | none => if G c = none then H c else none,he,?_,?_,H2,hq,?_,?_⟩
 ·intro b o hb
  simp only at hb
  cases h2 : H2 b with
  | some o' => rw [h2] at hb; simp only at hb; cases hb; exact hs b o h2
  | none =>
   rw [h2] at hb
   simp only at hb
   split at hb
   ·rename_i hg
    rw [hk.same b (hw.lt hb) hg]
    exact hw b o hb
   ·cases hb
 ·refine ⟨hk.os, hk.tape, hk.output, hk.size, fun b hb h0 => hk.same b hb (hG b h0), fun b o hb => ?_, fun b hb ht => by
   have hs2 := hk.shape b hb (fun hx => ht (hx.le hle))
   refine ⟨hs2.1,fun hx => ?_⟩
   cases h2 : H2 b with
   | some o => simp only [h2] at hx; exact hs2.2 (by rw [h2]; exact hx)
   | none =>
    simp only [h2] at hx
    split at hx
    ·exact ht hx
    ·exact hx.elim⟩
  cases h2 : H2 b with
  | some o' =>
   rcases hk.fresh b o' h2 with hx | hx
   ·exact .inl fun h0 => hx (hG b h0)
   ·exact .inr hx
  | none =>
   rw [h2] at hb
   simp only at hb
   split at hb
   ·exact .inl (by rw [hb]; simp)
   ·cases hb
 ·intro c o hc
  simp only [hc]
 ·intro c o hc hg
  have hn : H2 c = none := by
   cases h2 : H2 c with
   | none => rfl
   | some o' =>
    rcases hk.fresh c o' h2 with hx | hx
    ·exact absurd hg hx
    ·exact absurd (hw.lt hc) (Nat.not_lt.2 hx)
  exact ⟨hn,by simp only [hn,hg,if_true]; exact hc⟩
def BldG (H0 G H : Hp) (v : Value) (L : List PlacedD) : Prop :=
 ∃ z, H0.le G ∧ G.le H ∧ (∀ i, i < L.length → SetsAt G (z i) (L.getD i default).sets) ∧
  ((v = .slice none 0 0 ∧ L = []) ∨ ∃ b cap,G b = none ∧ v = .slice (some ⟨b,0,none⟩) L.length cap ∧ H b = some (.row (flat L.length (rPlaced L z)) (cap * 3) true))
def Bld (H0 H : Hp) (v : Value) (L : List PlacedD) : Prop :=
 ∃ G z, H0.le G ∧ G.le H ∧ (∀ i, i < L.length → SetsAt G (z i) (L.getD i default).sets) ∧
  ((v = .slice none 0 0 ∧ L = []) ∨ ∃ b cap,G b = none ∧ v = .slice (some ⟨b,0,none⟩) L.length cap ∧ H b = some (.row (flat L.length (rPlaced L z)) (cap * 3) true))
theorem rPlaced_len (L : List PlacedD) (z : Nat → Value) (i : Nat) : (rPlaced L z i).length = 3 := rfl
theorem Bld.puts {H0 H : Hp} {v : Value} {L : List PlacedD} (h : Bld H0 H v L) : PutsAt H v L := by
 obtain ⟨G,z,h1,h2,h3,h4⟩ := h
 refine ⟨z,?_,fun i hi => (h3 i hi).mono h2⟩
 rcases h4 with ⟨rfl,rfl⟩ | ⟨b,cap,hb,rfl,hH⟩
 ·exact SlAt.nil
 ·exact SlAt.ofRow (fun i _ => rPlaced_len L z i) hH
theorem Bld.put {H0 H : Hp} {v : Value} {L : List PlacedD} {c : Nat} {o : AObj} (h : Bld H0 H v L) (hc : H c = none) : Bld H0 (H.put c o) v L := by
 obtain ⟨G,z,h1,h2,h3,h4⟩ := h
 refine ⟨G,z,h1,h2.trans (le_put hc _),h3,?_⟩
 rcases h4 with h4 | ⟨b,cap,hb,hv,hH⟩
 ·exact .inl h4
 ·exact .inr ⟨b,cap,hb,hv,le_put hc _ _ _ hH⟩
section
variable {E : Env} {fr : Fr} {Q : X → Fr → Hp → Prop} {k : List Item} {d : Option Nat} {r : List AOper} {live : List Nat}
end
theorem BldG.put {H0 G H : Hp} {v : Value} {L : List PlacedD} {c : Nat} {o : AObj} (h : BldG H0 G H v L) (hc : H c = none) : BldG H0 G (H.put c o) v L := by
 obtain ⟨z,h1,h2,h3,h4⟩ := h
 refine ⟨z,h1,h2.trans (le_put hc _),h3,?_⟩
 rcases h4 with h4 | ⟨b,cap,hb,hv,hH⟩
 ·exact .inl h4
 ·exact .inr ⟨b,cap,hb,hv,le_put hc _ _ _ hH⟩
theorem BldG.frame {H0 G H H2 H' : Hp} {v : Value} {L : List PlacedD} (h : BldG H0 G H v L) (h1 : G.le H2) (h2 : H2.le H') (h3 : ∀ c o, H c = some o → G c = none → H2 c = none ∧ H' c = some o) : BldG H0 H2 H' v L := by
 obtain ⟨z,g1,g2,g3,g4⟩ := h
 refine ⟨z,g1.trans h1,h2,fun i hi => (g3 i hi).mono h1,?_⟩
 rcases g4 with g4 | ⟨b,cap,hb,hv,hH⟩
 ·exact .inl g4
 ·have := h3 b _ hH hb
  exact .inr ⟨b,cap,this.1,hv,this.2⟩
end Go.SL
/- The codes of the further functions. -/
namespace Go.SL
open Go
structure Codes2 (E : Env) : Prop where
 c86 : chkFunc E (E.fn 86) cf86 = true
 c85 : chkFunc E (E.fn 85) cf85 = true
 c119 : chkFunc E (E.fn 119) cf119 = true
 c120 : chkFunc E (E.fn 120) cf120 = true
 c48 : chkFunc E (E.fn 48) cf48 = true
 c121 : chkFunc E (E.fn 121) cf121 = true
 c109 : chkFunc E (E.fn 109) cf109 = true
 c118 : chkFunc E (E.fn 118) cf118 = true
 e120 : enters E.P (E.fn 120) = true
 e121 : enters E.P (E.fn 121) = true
end Go.SL
/- The codes of further functions. -/
namespace Go.SL
open Go
structure Codes3 (E : Env) : Prop where
 c124 : chkFunc E (E.fn 124) cf124 = true
 c122 : chkFunc E (E.fn 122) cf122 = true
 c130 : chkFunc E (E.fn 130) cf130 = true
 c125 : chkFunc E (E.fn 125) cf125 = true
 c126 : chkFunc E (E.fn 126) cf126 = true
 c131 : chkFunc E (E.fn 131) cf131 = true
 c128 : chkFunc E (E.fn 128) cf128 = true
 c127 : chkFunc E (E.fn 127) cf127 = true
 c132 : chkFunc E (E.fn 132) cf132 = true
 c139 : chkFunc E (E.fn 139) cf139 = true
 c138 : chkFunc E (E.fn 138) cf138 = true
 c140 : chkFunc E (E.fn 140) cf140 = true
 c129 : chkFunc E (E.fn 129) cf129 = true
 c141 : chkFunc E (E.fn 141) cf141 = true
 c143 : chkFunc E (E.fn 143) cf143 = true
 c142 : chkFunc E (E.fn 142) cf142 = true
 c144 : chkFunc E (E.fn 144) cf144 = true
 c135 : chkFunc E (E.fn 135) cf135 = true
 c136 : chkFunc E (E.fn 136) cf136 = true
 c123 : chkFunc E (E.fn 123) cf123 = true
 c146 : chkFunc E (E.fn 146) cf146 = true
 c147 : chkFunc E (E.fn 147) cf147 = true
 c158 : chkFunc E (E.fn 158) cf158 = true
 c155 : chkFunc E (E.fn 155) cf155 = true
 c157 : chkFunc E (E.fn 157) cf157 = true
 c159 : chkFunc E (E.fn 159) cf159 = true
 c161 : chkFunc E (E.fn 161) cf161 = true
 c160 : chkFunc E (E.fn 160) cf160 = true
 c162 : chkFunc E (E.fn 162) cf162 = true
 c163 : chkFunc E (E.fn 163) cf163 = true
 c156 : chkFunc E (E.fn 156) cf156 = true
 c172 : chkFunc E (E.fn 172) cf172 = true
 c177 : chkFunc E (E.fn 177) cf177 = true
 e122 : enters E.P (E.fn 122) = true
 e125 : enters E.P (E.fn 125) = true
 e131 : enters E.P (E.fn 131) = true
 e132 : enters E.P (E.fn 132) = true
 e140 : enters E.P (E.fn 140) = true
 e141 : enters E.P (E.fn 141) = true
 e143 : enters E.P (E.fn 143) = true
 e155 : enters E.P (E.fn 155) = true
 e172 : enters E.P (E.fn 172) = true
end Go.SL
/- The codes of further functions. -/
namespace Go.SL
open Go
structure Codes4 (E : Env) : Prop where
 c188 : chkFunc E (E.fn 188) cf188 = true
 c183 : chkFunc E (E.fn 183) cf183 = true
 c189 : chkFunc E (E.fn 189) cf189 = true
 c184 : chkFunc E (E.fn 184) cf184 = true
 c185 : chkFunc E (E.fn 185) cf185 = true
 c191 : chkFunc E (E.fn 191) cf191 = true
 c195 : chkFunc E (E.fn 195) cf195 = true
 c186 : chkFunc E (E.fn 186) cf186 = true
 c197 : chkFunc E (E.fn 197) cf197 = true
 c187 : chkFunc E (E.fn 187) cf187 = true
 c190 : chkFunc E (E.fn 190) cf190 = true
 c192 : chkFunc E (E.fn 192) cf192 = true
 c193 : chkFunc E (E.fn 193) cf193 = true
 c194 : chkFunc E (E.fn 194) cf194 = true
 c201 : chkFunc E (E.fn 201) cf201 = true
 c202 : chkFunc E (E.fn 202) cf202 = true
 c203 : chkFunc E (E.fn 203) cf203 = true
 c204 : chkFunc E (E.fn 204) cf204 = true
 c205 : chkFunc E (E.fn 205) cf205 = true
 c208 : chkFunc E (E.fn 208) cf208 = true
 c209 : chkFunc E (E.fn 209) cf209 = true
 c210 : chkFunc E (E.fn 210) cf210 = true
 c211 : chkFunc E (E.fn 211) cf211 = true
 c212 : chkFunc E (E.fn 212) cf212 = true
 c213 : chkFunc E (E.fn 213) cf213 = true
 c214 : chkFunc E (E.fn 214) cf214 = true
 c198 : chkFunc E (E.fn 198) cf198 = true
 c199 : chkFunc E (E.fn 199) cf199 = true
 c196 : chkFunc E (E.fn 196) cf196 = true
 c215 : chkFunc E (E.fn 215) cf215 = true
 c216 : chkFunc E (E.fn 216) cf216 = true
 c217 : chkFunc E (E.fn 217) cf217 = true
 c206 : chkFunc E (E.fn 206) cf206 = true
 c218 : chkFunc E (E.fn 218) cf218 = true
 c200 : chkFunc E (E.fn 200) cf200 = true
 c219 : chkFunc E (E.fn 219) cf219 = true
 c220 : chkFunc E (E.fn 220) cf220 = true
 c221 : chkFunc E (E.fn 221) cf221 = true
 c222 : chkFunc E (E.fn 222) cf222 = true
 c223 : chkFunc E (E.fn 223) cf223 = true
 c207 : chkFunc E (E.fn 207) cf207 = true
 c224 : chkFunc E (E.fn 224) cf224 = true
end Go.SL
/- Small rules that several texts use. -/
namespace Go.SL
open Go
variable {E : Env} {H : Hp}
section
variable {fr : Fr} {Q : X → Fr → Hp → Prop} {k : List Item} {d : Option Nat} {r : List AOper} {live : List Nat}
theorem vks_big {op : BOp} (hop : ∀ x, op ≠ .sim x) (hop' : ∀ f a, op ≠ .callp f a) (h : big E op d fr H (fun fr' H' => vks E (.ops r live :: k) fr' H' Q)) : vks E (.ops (⟨d, op, none⟩ :: r) live :: k) fr H Q := by
 simp only [vks,evs,ev1,gok,gcond]
 cases op <;> first | exact absurd rfl (hop _) | exact absurd rfl (hop' _ _) | exact ⟨trivial,fun _ => (by simpa only [vks] using h),fun h => by cases h⟩
end
theorem decF (i : Decidable False) : @decide False i = false := by cases i <;> first | rfl | (rename_i h; exact h.elim)
theorem decT (i : Decidable True) : @decide True i = true := by cases i <;> first | rfl | (rename_i h; exact (h trivial).elim)
theorem w01 : IntKind.i64.wrap (0 + 1) = 1 := by decide
theorem PutsAt.one {H : Hp} {v : Value} {ps : List PlacedD} (h : PutsAt H v ps) : one1 v = true := by obtain ⟨z,h,_⟩ := h; exact SlAt.one h
theorem SlAt.lit {H : Hp} {b n cap sz c : Nat} {vs : List Value} {wr : Bool} {row : Nat → List Value} (hb : H b = some (.row vs c wr)) (h : ∀ i, i < n → i * sz + sz ≤ vs.length ∧ (vs.drop (i * sz)).take sz = row i) :
  SlAt H sz (.slice (some ⟨b,0,none⟩) n cap) n row :=
 ⟨_,_,rfl,(fun h => by cases h),fun _ => ⟨b,0,vs,c,wr,rfl,hb,fun i hi => by rw [Nat.zero_add]; exact h i hi⟩⟩
theorem PutsAt.nil0 {H : Hp} : PutsAt H (.slice none 0 0) [] := ⟨fun _ => undef,SlAt.nil,fun i hi => by simp at hi⟩
theorem HostsAt.sl {v : Value} {hs : List HostD} (h : HostsAt H v hs) : ∃ a c,v = .slice a hs.length c := by obtain ⟨a,c,h,_⟩ := h; exact ⟨a,c,h⟩
theorem SlAt.sl {sz n : Nat} {v : Value} {row : Nat → List Value} (h : SlAt H sz v n row) : ∃ a c,v = .slice a n c := by obtain ⟨a,c,h,_⟩ := h; exact ⟨a,c,h⟩
end Go.SL
