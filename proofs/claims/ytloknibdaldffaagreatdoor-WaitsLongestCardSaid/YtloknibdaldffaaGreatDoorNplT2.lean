/- Contracts of package name. -/
import Derived.Test.YtloknibdaldffaaGreatDoorNplQ
import Derived.Test.YtloknibdaldffaaGreatDoorNplO
namespace Go.SL
open Go
variable {E : Env} {H : Hp}
def nx : Option Nat → Nat
 | none => 0
 | some i => i + 1
theorem it65 (hE : Codes E) (G : Hp) (l : Bs) (hl : l.length ≤ 60) : Iter E (.func (.func (E.fn 65)) #[S l] #[]) G (fun xs => xs = (labs l).map (fun x => [S x])) := by
 intro y Inv Stop H hG hy h0
 refine FnV_of_Fn hE.e65 ?_
 show Fn E.P (E.fn 65) [S l,y] H _
 refine Fn.of_vks hE.c65 (by simp [cf65]) ?_
 simp only [cf65,cf65_0,cf65_1,cf65_2,cf65_3,cf65_4]
 simp only [go_sem,Nat.reduceEqDiff,Nat.reduceBEq,reduceCtorEq,binO]
 refine ⟨fun h => ?_,fun h => ?_⟩
 ·have : l = [46] := by simpa using h
  exact .inl ⟨_,rfl,by simpa [labs,this] using h0⟩
 ·have hne : l ≠ [46] := by simpa using h
  refine vks_loop (fun m fr' H' => ∃ rest pre,fr' = [(1,⟨true,.val y⟩),(4,⟨true,.val (S rest)⟩)] ∧ rest.length + 1 ≤ m ∧ rest.length ≤ 60 ∧ labs l = pre ++ labF m rest ∧ Inv (pre.map (fun x => [S x])) H') (l.length + 1) ⟨l,[],rfl,Nat.le_refl _,hl,by simp [labs,hne],h0⟩ ?_
  rintro m fr' H' ⟨rest,pre,rfl,hm,hr,hlab,hinv⟩
  simp only [go_sem,Nat.reduceEqDiff,Nat.reduceBEq]
  refine vks_callp _ ?_ (fun _ => ⟨?_,fn90 hE rest hr⟩) ?_ <;> simp only [go_sem,Nat.reduceEqDiff,Nat.reduceBEq,binO]
  obtain ⟨m,rfl⟩ : ∃ m',m = m' + 1 := ⟨m - 1,by omega⟩
  have hlb : labF (m + 1) rest = rest.drop (nx (lastIx 46 rest)) :: (match lastIx 46 rest with | none => [] | some i => labF m (rest.take i)) := by
   simp only [labF]
   cases lastIx 46 rest <;> simp [nx]
  have hnx : nx (lastIx 46 rest) ≤ rest.length := by
   cases hx : lastIx 46 rest with
   | none => simp [nx]
   | some i => have := lastIx_lt hx; simp [nx]; omega
  have e1 : IntKind.i64.wrap (ixI (lastIx 46 rest) + 1) = ((nx (lastIx 46 rest) : Nat) : Int) := by
   cases hx : lastIx 46 rest with
   | none => rw [wrapI] <;> simp [ixI,nx]
   | some i => have := lastIx_lt hx; simp only [ixI,nx]; rw [wrapI] <;> omega
  have e2 : List.take (rest.length - nx (lastIx 46 rest)) (rest.drop (nx (lastIx 46 rest))) = rest.drop (nx (lastIx 46 rest)) := List.take_of_length_le (by simp)
  rw [hlb] at hlab
  simp only [e1,toNat_ofNat',e2]
  refine ⟨⟨by omega,by omega⟩,?_⟩
  refine vks_callv ?_ ?_ (hy (pre.map (fun x => [S x])) [S (rest.drop (nx (lastIx 46 rest)))] H' ⟨(match lastIx 46 rest with | none => [] | some i => labF m (rest.take i)).map (fun x => [S x]),by simp [hlab]⟩ hinv) ?_
  ·simp only [go_sem,Nat.reduceEqDiff]
  ·simp only [go_sem,Nat.reduceEqDiff]
  ·rintro v H'' (⟨rfl,hi⟩ | ⟨rfl,hs⟩)
   ·simp only [go_sem,Nat.reduceEqDiff,Nat.reduceBEq,binO]
    refine ⟨fun h => ?_,fun h => ?_⟩
    ·cases hx : lastIx 46 rest with
     | none =>
      refine .inl ⟨_,rfl,?_⟩
      rw [hlab,hx]
      rw [hx] at hi
      simpa using hi
     | some i => exact absurd h (by simp [hx,ixI])
    ·cases hx : lastIx 46 rest with
     | none => rw [hx] at h; simp [ixI] at h
     | some i =>
      have hlt := lastIx_lt hx
      rw [hx] at hlab hi
      simp only [ixI,toNat_ofNat']
      refine ⟨⟨by omega,by omega⟩,m,by omega,rest.take i,pre ++ [rest.drop (i + 1)],rfl,by rw [List.length_take]; omega,by rw [List.length_take]; omega,?_,?_⟩
      ·rw [hlab]; simp [nx]
      ·simpa [nx] using hi
   ·simp only [go_sem,Nat.reduceEqDiff,Nat.reduceBEq,binO]
    exact .inr ⟨_,hs⟩
theorem fn50 (hE : Codes E) (l : Bs) : FnP E 50 [S l] H (.bool (nameValid l)) := by
 refine Fn.of_vks hE.c50 (by simp [cf50]) ?_
 simp only [cf50,cf50_0,cf50_1,cf50_2,cf50_3,cf50_4,cf50_5,cf50_6,cf50_7,cf50_8,cf50_9,cf50_10,cf50_11,cf50_12,cf50_13,cf50_14]
 simp only [go_sem,Nat.reduceEqDiff,Nat.reduceBEq,reduceCtorEq,binO,put_get]
 intro b2 hb2
 refine ⟨fun h => ?_,fun h => ?_⟩
 ·refine ⟨?_,le_put hb2 _⟩
  simp [nameValid,h]
 ·refine ⟨fun h1 => ⟨?_,le_put hb2 _⟩,fun h1 => ?_⟩
  ·have : ¬ l.length ≤ 60 := by simp at h1; omega
   simp [nameValid,h,this]
  ·have h60 : l.length ≤ 60 := by simp at h1; omega
   have hnv : nameValid l = validGo (labs l) 0 false := by simp [nameValid,h,h60]
   intro b3 hb3 b4 hb4
   have h32 : b3 ≠ b2 := by rintro rfl; simp at hb3
   have h42 : b4 ≠ b2 := by rintro rfl; simp [h32.symm] at hb4
   have h43 : b4 ≠ b3 := by rintro rfl; simp at hb4
   simp only [h32,h42,h43,if_false] at hb3 hb4
   simp only [h43,h43.symm,go_sem]
   refine vks_rangeF H (fun xs => xs = (labs l).map (fun x => [S x])) (fun pre H' => H.le H' ∧ H' b2 = some (.row [.bool false] 1 true) ∧ H' b3 = some (.row [.int .i64 pre.length] 1 true) ∧ ∃ star, H' b4 = some (.row [.bool star] 1 true) ∧ pre.length ≤ 8 ∧ validGo (labs l) 0 false = validGo ((labs l).drop pre.length) pre.length star)
    (by simp only [go_sem,Nat.reduceEqDiff]) (by simp only [go_sem,Nat.reduceEqDiff,isFn]) (it65 hE H l h60) (by rintro xs rfl x hx; simp at hx; obtain ⟨a,_,rfl⟩ := hx; rfl) ?_ (fun pre H' h => h.1) ?_ ?_
   ·refine ⟨?_,by simp [put_get,h32.symm,h42.symm],by simp [put_get,h43.symm],false,by simp [put_get],by simp,rfl⟩
    exact le_put_of_le (le_put_of_le (le_put_of_le (le_put_of_le (le_put hb2 _) hb3 _) hb4 _) hb3 _) hb4 _
   ·rintro pre x H' ⟨suf,hsuf⟩ ⟨hle,k2,k3,star,k4,h8,hgo⟩
    obtain ⟨hlt,rfl,hdrop⟩ := at_pre hsuf
    rw [hdrop] at hgo
    generalize hy : (labs l).getD pre.length [] = y at *
    simp only [h43,h32.symm,k2,k3,k4,go_sem,Nat.reduceEqDiff,Nat.reduceBEq,binO,put_get]
    rw [wrapS (by omega)]
    have hLb2 : H.le ((H'.put b3 (AObj.row [Value.int IntKind.i64 ((pre.length + 1 : Nat) : Int)] 1 true)).put b4 (AObj.row [Value.bool (y == [42])] 1 true)) := le_put_of_le (le_put_of_le hle hb3 _) hb4 _
    refine ⟨fun hc => ⟨?_,le_put_of_le (le_put_of_le hle hb3 _) hb2 _⟩,fun hc => ?_⟩
    ·have : (star || decide (pre.length + 1 > 8)) = true := by cases star <;> simp at hc ⊢ <;> omega
     rw [hnv,hgo]; simp only [validGo,this,if_true]
    ·have hc' : (star || decide (pre.length + 1 > 8)) = false := by cases star <;> simp at hc ⊢ <;> omega
     simp only [validGo,hc',Bool.false_eq_true,if_false] at hgo
     refine vks_callp _ ?_ (fun hg => ⟨?_,fn66 hE y⟩) ?_ <;> simp only [h43,h32.symm,h42.symm,h43.symm,k2,k3,k4,go_sem,Nat.reduceEqDiff,Nat.reduceBEq,put_get]
     ·simp only [go_sem,Nat.reduceEqDiff] at hg ⊢; exact hg
     ·refine ⟨fun hb => ⟨?_,le_put_of_le hLb2 hb2 _⟩,fun hb => ⟨hLb2,?_,?_⟩⟩
      ·rw [hnv,hgo]; simp only [hb,if_true]
      ·simp
      ·refine ⟨_,rfl,?_,?_⟩
       ·simp at hc' ⊢; omega
       ·rw [hgo]; simp only [hb,Bool.false_eq_true,if_false]; simp
   ·rintro xs H' rfl ⟨hle,k2,k3,star,k4,h8,hgo⟩
    simp only [k2,go_sem,Nat.reduceEqDiff,put_get]
    refine ⟨?_,le_put_of_le hle hb2 _⟩
    rw [hnv,hgo]; simp [validGo]
theorem fn45 (hE : Codes E) (l : Bs) : FnP E 45 [S l] H (.bool (nameValid l)) := by
 refine Fn.of_vks hE.c45 (by simp [cf45]) ?_
 simp only [cf45,cf45_0,cf45_1]
 simp only [go_sem,Nat.reduceBEq,reduceCtorEq]
 refine vks_callp _ ?_ (fun _ => ⟨?_,fn50 hE l⟩) ?_ <;> simp only [go_sem,Nat.reduceEqDiff,Nat.reduceBEq,reduceCtorEq]
theorem nameValid_len {l : Bs} (h : nameValid l = true) : l.length ≤ 60 := by
 simp only [nameValid,Bool.or_eq_true,beq_iff_eq,Bool.and_eq_true,decide_eq_true_eq] at h
 rcases h with rfl | h
 ·simp
 ·exact h.1
theorem fn80 (hE : Codes E) (s z : Bs) : FnP E 80 [S s, S z] H (.tuple #[.bool (underB s z), .int .i64 (underE s z)]) := by
 refine Fn.of_vks hE.c80 (by simp [cf80]) ?_
 simp only [cf80,cf80_0,cf80_1,cf80_2,cf80_3,cf80_4,cf80_5]
 simp only [go_sem,Nat.reduceEqDiff,Nat.reduceBEq,reduceCtorEq]
 refine vks_callp _ ?_ (fun _ => ⟨?_,fn50 hE s⟩) ?_ <;> simp only [go_sem,Nat.reduceEqDiff,Nat.reduceBEq,reduceCtorEq]
 refine vks_callp _ ?_ (fun hg => ⟨?_,fn50 hE z⟩) ?_ <;> simp only [go_sem,Nat.reduceEqDiff,Nat.reduceBEq,reduceCtorEq,binO]
 ·simp only [go_sem,Nat.reduceEqDiff,reduceCtorEq] at hg ⊢; exact hg
 ·refine ⟨fun h => ?_,fun h => ⟨fun h2 => ?_,fun h2 => ?_⟩⟩
  ·have : (nameValid s && nameValid z) = false := by cases hs : nameValid s <;> simp_all
   simp [underB,underE,this]
  ·have h' : nameValid s = true ∧ nameValid z = true := by simpa using h
   simp [underB,underE,h',h2]
  ·have h' : nameValid s = true ∧ nameValid z = true := by simpa using h
   have l1 := nameValid_len h'.1
   have l2 := nameValid_len h'.2
   have e : z.length < s.length → IntKind.i64.wrap (IntKind.i64.wrap ((s.length : Int) - (z.length : Int)) - 1) = ((s.length - z.length - 1 : Nat) : Int) := fun h => by
    rw [wrapI (n := (s.length : Int) - (z.length : Int)) (by omega),wrapI (by omega)]; omega
   refine vks_callp _ ?_ (fun hg => ⟨?_,fn94 hE s z (by omega)⟩) ?_ <;> simp only [go_sem,Nat.reduceEqDiff,Nat.reduceBEq,reduceCtorEq,binO]
   ·simp only [go_sem,Nat.reduceEqDiff,reduceCtorEq] at hg ⊢; exact ⟨hg,hg⟩
   ·have hu : underB s z = (decide (z.length < s.length) && hasSuf s z && bI s (s.length - z.length - 1) == 46) := by simp [underB,h',h2]
    have hc : decide ((s.length : Int) > (z.length : Int)) = decide (z.length < s.length) := by simp
    have he : underE s z = 0 := by simp [underE,h']
    simp only [hc,hu,he]
    by_cases hz : z.length < s.length
    ·have hlt : ((s.length - z.length - 1 : Nat) : Int) < (s.length : Int) := by omega
     have hge : (0 : Int) ≤ ((s.length - z.length - 1 : Nat) : Int) := by omega
     simp only [hz,e hz,toNat_ofNat',decide_true,hlt,hge]
     simp
    ·simp [hz]
theorem fn102 (hE : Codes E) (l : Bs) : Fn E.P (E.fn 102) [S l] H (fun v H' => ∃ bm br, v = .func (.func (E.fn 104)) #[] #[.pointer (some ⟨bm, 0, none⟩), .pointer (some ⟨br, 0, none⟩)] ∧ H bm = none ∧ H br = none ∧ bm ≠ br ∧ H.le H' ∧ H' bm = some (.row [.bool (!(l == [46]))] 1 true) ∧ H' br = some (.row [S l] 1 true)) := by
 refine Fn.of_vks hE.c102 (by simp [cf102]) ?_
 simp only [cf102,cf102_0,cf102_1,cf102_2]
 simp only [go_sem,Nat.reduceEqDiff,Nat.reduceBEq,reduceCtorEq,binO,put_get]
 intro b3 hb3 b4 hb4
 have h43 : b4 ≠ b3 := by rintro rfl; simp at hb4
 simp only [h43,if_false] at hb4
 simp only [h43,h43.symm,go_sem]
 refine ⟨b4,b3,rfl,hb4,hb3,h43,le_put_of_le (le_put_of_le (le_put_of_le (le_put hb3 _) hb4 _) hb3 _) hb4 _,?_,?_⟩
 ·simp []
 ·simp [h43.symm]
def Pull (H : Hp) (bm br : Nat) (L : List Bs) : Prop := ∃ more rest m,H bm = some (.row [.bool more] 1 true) ∧ H br = some (.row [S rest] 1 true) ∧ rest.length ≤ 60 ∧ rest.length < m ∧ L = if more then labF m rest else []
def pulled : List Bs → Value
 | [] => .tuple #[S [],.bool false]
 | x :: _ => .tuple #[S x,.bool true]
theorem Pull.congr {H H' : Hp} {bm br : Nat} {L : List Bs} (h : Pull H bm br L) (h1 : H' bm = H bm) (h2 : H' br = H br) : Pull H' bm br L := by
 obtain ⟨more,rest,m,k1,k2,k3⟩ := h
 exact ⟨more,rest,m,h1.trans k1,h2.trans k2,k3⟩
theorem fn104 (hE : Codes E) {bm br : Nat} {L : List Bs} (hne : bm ≠ br) (hp : Pull H bm br L) : Fn E.P (E.fn 104) [.pointer (some ⟨bm, 0, none⟩), .pointer (some ⟨br, 0, none⟩)] H (fun v H' => (∀ c, c ≠ bm → c ≠ br → H' c = H c) ∧ Pull H' bm br L.tail ∧
  v = pulled L) := by
 obtain ⟨more,rest,m,k1,k2,h60,hm,rfl⟩ := hp
 refine Fn.of_vks hE.c104 (by simp [cf104]) ?_
 simp only [cf104,cf104_0,cf104_1,cf104_2,cf104_3,cf104_4,cf104_5,cf104_6,cf104_7,cf104_8]
 simp only [k1,k2,go_sem,Nat.reduceEqDiff,Nat.reduceBEq,reduceCtorEq]
 refine ⟨fun h => ?_,fun h => ?_⟩
 ·subst h
  exact ⟨⟨false,rest,m,k1,k2,h60,hm,by simp⟩,by simp [pulled]⟩
 ·subst h
  refine vks_callp _ ?_ (fun _ => ⟨?_,fn90 hE rest h60⟩) ?_ <;> simp only [k1,k2,go_sem,Nat.reduceEqDiff,Nat.reduceBEq,reduceCtorEq,binO,put_get]
  obtain ⟨m,rfl⟩ : ∃ m',m = m' + 1 := ⟨m - 1,by omega⟩
  have hlb : labF (m + 1) rest = rest.drop (nx (lastIx 46 rest)) :: (match lastIx 46 rest with | none => [] | some i => labF m (rest.take i)) := by
   simp only [labF]
   cases lastIx 46 rest <;> simp [nx]
  have hnx : nx (lastIx 46 rest) ≤ rest.length := by
   cases hx : lastIx 46 rest with
   | none => simp [nx]
   | some i => have := lastIx_lt hx; simp [nx]; omega
  have e1 : IntKind.i64.wrap (ixI (lastIx 46 rest) + 1) = ((nx (lastIx 46 rest) : Nat) : Int) := by
   cases hx : lastIx 46 rest with
   | none => rw [wrapI] <;> simp [ixI,nx]
   | some i => have := lastIx_lt hx; simp only [ixI,nx]; rw [wrapI] <;> omega
  have e2 : List.take (rest.length - nx (lastIx 46 rest)) (rest.drop (nx (lastIx 46 rest))) = rest.drop (nx (lastIx 46 rest)) := List.take_of_length_le (by simp)
  simp only [e1,toNat_ofNat',e2,hlb]
  refine ⟨⟨by omega,by omega⟩,fun h => ?_,fun h => ?_⟩
  ·cases hx : lastIx 46 rest with
   | none =>
    refine ⟨fun c h1 _ => by simp [h1],⟨false,rest,m + 1,by simp [put_get],by simp [put_get,hne.symm,k2],h60,hm,by simp⟩,by simp [nx,pulled]⟩
   | some i => exact absurd h (by simp [hx,ixI])
  ·cases hx : lastIx 46 rest with
   | none => exact absurd h (by simp [hx,ixI])
   | some i =>
    have hlt := lastIx_lt hx
    simp only [ixI,toNat_ofNat']
    refine ⟨⟨by omega,by omega⟩,fun c _ h1 => by simp [h1],⟨true,rest.take i,m,by simp [put_get,hne,k1],by simp [put_get],by rw [List.length_take]; omega,by rw [List.length_take]; omega,by simp⟩,by simp [nx,pulled]⟩
theorem fn95 (hE : Codes E) (a b : Bs) : FnP E 95 [S a, S b] H (.tuple #[.int .i64 (nameCmp a b), .int .i64 (nameCmpE a b)]) := by
 refine Fn.of_vks hE.c95 (by simp [cf95]) ?_
 simp only [cf95,cf95_0,cf95_1,cf95_2,cf95_3,cf95_4,cf95_5,cf95_6,cf95_7,cf95_8,cf95_9,cf95_10,cf95_11,cf95_12,cf95_13,cf95_14,cf95_15,cf95_16]
 simp only [go_sem,Nat.reduceEqDiff,Nat.reduceBEq,reduceCtorEq,put_get]
 intro b4 hb4 b5 hb5
 have h54 : b5 ≠ b4 := by rintro rfl; simp at hb5
 simp only [h54,if_false] at hb5
 refine vks_callp _ ?_ (fun _ => ⟨?_,fn50 hE a⟩) ?_ <;> simp only [go_sem,Nat.reduceEqDiff,Nat.reduceBEq]
 refine vks_callp _ ?_ (fun hg => ⟨?_,fn50 hE b⟩) ?_ <;> simp only [h54,h54.symm,go_sem,Nat.reduceEqDiff,Nat.reduceBEq,binO,put_get]
 ·simp only [go_sem,Nat.reduceEqDiff] at hg ⊢; exact hg
 ·refine ⟨fun h => ?_,fun h => ⟨fun h2 => ?_,fun h2 => ?_⟩⟩
  ·have : (nameValid a && nameValid b) = false := by cases hs : nameValid a <;> simp_all
   refine ⟨by simp [nameCmp,nameCmpE,this],?_⟩
   exact le_put_of_le (le_put_of_le (le_put_of_le (le_put hb4 _) hb5 _) hb4 _) hb5 _
  ·have h' : nameValid a = true ∧ nameValid b = true := by simpa using h
   have h2' : a = b := by simpa using h2
   refine ⟨by simp [nameCmp,nameCmpE,h',h2'],?_⟩
   exact le_put_of_le (le_put_of_le (le_put_of_le (le_put hb4 _) hb5 _) hb4 _) hb5 _
  ·have h' : nameValid a = true ∧ nameValid b = true := by simpa using h
   have l1 := nameValid_len h'.1
   have l2 := nameValid_len h'.2
   have h2' : a ≠ b := by simpa using h2
   have hr : nameCmp a b = cmpL (labs a) (labs b) := by simp [nameCmp,h',h2']
   have hr' : nameCmpE a b = 0 := by simp [nameCmpE,h']
   rw [hr,hr']
   refine vks_call ?_ (fn102 hE b) ?_
   ·simp only [go_sem,Nat.reduceEqDiff]
   ·rintro v H1 ⟨bm,br,rfl,hbm,hbr,hmr,hle1,km,kr⟩
    have k4 : H1 b4 = some (.row [.int .i64 0] 1 true) := hle1 _ _ (by simp [put_get,h54.symm])
    have k5 : H1 b5 = some (.row [.int .i64 0] 1 true) := hle1 _ _ (by simp [put_get])
    have hmb4 : bm ≠ b4 := by rintro rfl; simp [put_get,h54.symm] at hbm
    have hmb5 : bm ≠ b5 := by rintro rfl; simp [put_get] at hbm
    have hrb4 : br ≠ b4 := by rintro rfl; simp [put_get,h54.symm] at hbr
    have hrb5 : br ≠ b5 := by rintro rfl; simp [put_get] at hbr
    have hbm0 : H bm = none := by simpa [put_get,hmb4,hmb5] using hbm
    have hbr0 : H br = none := by simpa [put_get,hrb4,hrb5] using hbr
    have hle0 : H.le H1 := (le_put_of_le (le_put hb4 _) hb5 _).trans hle1
    simp only [go_sem,Nat.reduceEqDiff,Nat.reduceBEq,put_get]
    intro b8 hb8
    have h84 : b8 ≠ b4 := (ne_of_none k4 hb8).symm
    have h85 : b8 ≠ b5 := (ne_of_none k5 hb8).symm
    have h8m : b8 ≠ bm := (ne_of_none km hb8).symm
    have h8r : b8 ≠ br := (ne_of_none kr hb8).symm
    have hb80 : H b8 = none := by
     cases hx : H b8 with
     | none => rfl
     | some o => rw [hle0 _ _ hx] at hb8; cases hb8
    have hPull : Pull H1 bm br (labs b) := by
     by_cases hd : b = [46]
     ·exact ⟨false,b,b.length + 1,by rw [km]; simp [hd],kr,l2,by omega,by simp [labs,hd]⟩
     ·exact ⟨true,b,b.length + 1,by rw [km]; simp [hd],kr,l2,by omega,by simp [labs,hd]⟩
    refine vks_rangeF H (fun xs => xs = (labs a).map (fun x => [S x])) (fun pre H' => H.le H' ∧ H' b4 = some (.row [.int .i64 0] 1 true) ∧ H' b5 = some (.row [.int .i64 0] 1 true) ∧ H' b8 = some (.row [.func (.func (E.fn 104)) #[] #[.pointer (some ⟨bm, 0, none⟩), .pointer (some ⟨br, 0, none⟩)]] 1 true) ∧
      Pull H' bm br ((labs b).drop pre.length) ∧ cmpL (labs a) (labs b) = cmpL ((labs a).drop pre.length) ((labs b).drop pre.length))
     (by simp only [go_sem,Nat.reduceEqDiff]) (by simp only [go_sem,Nat.reduceEqDiff,isFn]) (it65 hE H a l1) (by rintro xs rfl x hx; simp at hx; obtain ⟨a,_,rfl⟩ := hx; rfl) ?_ (fun pre H' h => h.1) ?_ ?_
    ·refine ⟨le_put_of_le hle0 hb80 _,by simp [put_get,h84.symm,k4],by simp [put_get,h85.symm,k5],by simp [put_get],?_,rfl⟩
     exact hPull.congr (by simp [put_get,h8m.symm]) (by simp [put_get,h8r.symm])
    ·rintro pre x H' ⟨suf,hsuf⟩ ⟨hle,k4,k5,k8,hpl,hgo⟩
     obtain ⟨hlt,rfl,hdrop⟩ := at_pre hsuf
     rw [hdrop] at hgo
     generalize hy : (labs a).getD pre.length [] = y at *
     simp only [k8,go_sem,Nat.reduceEqDiff,Nat.reduceBEq]
     refine vks_callv ?_ ?_ (FnV_of_Fn hE.e104 (fn104 hE hmr hpl)) ?_
     ·simp only [go_sem,Nat.reduceEqDiff]
     ·simp only [go_sem]
     ·rintro v H2 ⟨hoth,hp2,rfl⟩
      have k4' : H2 b4 = some (.row [.int .i64 0] 1 true) := (hoth _ hmb4.symm hrb4.symm).trans k4
      have k5' : H2 b5 = some (.row [.int .i64 0] 1 true) := (hoth _ hmb5.symm hrb5.symm).trans k5
      have k8' := (hoth _ h8m h8r).trans k8
      have hle2 : H.le H2 := fun c o hc => by
       rw [hoth c (ne_of_none hc hbm0) (ne_of_none hc hbr0)]; exact hle c o hc
      cases hL : (labs b).drop pre.length with
      | nil =>
       rw [hL] at hgo
       simp only [pulled,h54,h54.symm,k4',k5',go_sem,Nat.reduceLT,Nat.reduceEqDiff,Nat.reduceBEq,Nat.reduceAdd,put_get]
       refine ⟨?_,le_put_of_le (le_put_of_le hle2 hb4 _) hb5 _⟩
       rw [hgo]; simp [cmpL]
      | cons x L' =>
       rw [hL] at hgo hp2
       simp only [pulled,h54,h54.symm,k4',k5',go_sem,Nat.reduceLT,Nat.reduceEqDiff,Nat.reduceBEq,Nat.reduceAdd,put_get]
       refine vks_callp _ ?_ (fun _ => ⟨?_,fn103 hE y x⟩) ?_ <;> simp only [h54,h54.symm,k4',k5',go_sem,Nat.reduceEqDiff,Nat.reduceBEq,binO,put_get]
       have hL2 : L' = (labs b).drop (pre.length + 1) := by
        have := congrArg (List.drop 1) hL
        simpa [List.drop_drop] using this.symm
       simp only [cmpL] at hgo
       refine ⟨fun hc => ⟨?_,le_put_of_le (le_put_of_le hle2 hb4 _) hb5 _⟩,fun hc => ⟨hle2,k8',?_,?_⟩⟩
       ·have : cmpBs y x ≠ 0 := by simpa using hc
        rw [hgo]; simp [this]
       ·simpa [hL2] using hp2
       ·have : cmpBs y x = 0 := by simpa using hc
        rw [hgo]; simp [this,hL2]
    ·rintro xs H' rfl ⟨hle,k4,k5,k8,hpl,hgo⟩
     simp only [h54,h54.symm,k4,k5,go_sem,Nat.reduceEqDiff,put_get]
     refine ⟨?_,le_put_of_le (le_put_of_le hle hb4 _) hb5 _⟩
     rw [hgo]; simp [cmpL]
end Go.SL
/- Contracts of package record, and of the search. -/
namespace Go.SL
open Go
variable {E : Env} {H : Hp}
theorem fn81 (hE : Codes E) (a : Bs) (s : Int) (b : Bs) (t : Int) : FnP E 81 [S a, .int .i64 s, S b, .int .i64 t] H (.int .i64 (cmpPl a s b t)) := by
 refine Fn.of_vks hE.c81 (by simp [cf81]) ?_
 simp only [cf81,cf81_0,cf81_1,cf81_2,cf81_3,cf81_4]
 simp only [go_sem,Nat.reduceEqDiff,Nat.reduceBEq,Nat.reduceAdd,reduceCtorEq,binO]
 refine ⟨fun h => ?_,fun h => ?_⟩
 ·refine vks_callp _ ?_ (fun _ => ⟨?_,fn95 hE a b⟩) ?_ <;> simp only [go_sem,Nat.reduceLT,Nat.reduceEqDiff,Nat.reduceBEq,Nat.reduceAdd,reduceCtorEq]
  simp at h; simp [cmpPl,h]
 ·refine vks_callp _ ?_ (fun _ => ⟨?_,fn89 hE s t⟩) ?_ <;> simp only [go_sem,Nat.reduceEqDiff,Nat.reduceBEq,reduceCtorEq]
  simp at h; simp [cmpPl,h]
theorem fn96 (hE : Codes E) (a : Bs) (s l : Int) (d g : Value) (b : Bs) (t : Int) : FnP E 96 [.agg #[S a, .int .i64 s, .int .i64 l, d, g], .agg #[S b, .int .i64 t]] H (.int .i64 (cmpPl a s b t)) := by
 refine Fn.of_vks hE.c96 (by simp [cf96]) ?_
 simp only [cf96,cf96_0,cf96_1]
 simp only [go_sem,Nat.reduceLeDiff,Nat.reduceEqDiff,Nat.reduceBEq,Nat.reduceAdd,reduceCtorEq]
 refine vks_callp _ ?_ (fun _ => ⟨?_,fn81 hE a s b t⟩) ?_ <;> simp only [go_sem,Nat.reduceEqDiff,Nat.reduceBEq]
def orI : List Int → Int
 | [] => 0
 | x :: r => if x ≠ 0 then x else orI r
theorem fn93 (hE : Codes E) {v : Value} {ns : List Int} (h : IntsAt H v ns) (hn : ns.length ≤ 1099511627776) : FnP E 93 [v] H (.int .i64 (orI ns)) := by
 obtain ⟨a,cap,rfl,hs,hr⟩ := h
 refine Fn.of_vks hE.c93 (by simp [cf93]) ?_
 simp only [cf93,cf93_0,cf93_1,cf93_2,cf93_3,cf93_4,cf93_5,cf93_6,cf93_7,cf93_8]
 simp only [go_sem,Nat.reduceEqDiff,Nat.reduceBEq,reduceCtorEq]
 refine vks_loopN ns.length 0 (fun k => [(3,⟨true,.val (.int .i64 0)⟩),(6,⟨true,.val (.slice a ns.length cap)⟩),(7,⟨true,.val (.int .i64 ns.length)⟩),(8,⟨true,.val (.int .i64 k)⟩)]) (fun k => orI ns = orI (ns.drop k)) (Nat.zero_le _) rfl rfl ?_
 intro k hk hP
 simp only [go_sem,Nat.reduceEqDiff,Nat.reduceBEq,binO]
 refine ⟨fun h => ?_,fun h => ?_⟩
 ·have hlt : k < ns.length := by simpa using h
  have hr' := hr (by omega)
  obtain ⟨b,o,vs,c,wr,ha,hb,hi⟩ := hr'
  subst ha
  have hi' := hi k hlt
  have hi1 := hi'.1
  have hv := getD_of_take hi'.2 (j := 0) (by omega)
  simp only [Nat.add_zero] at hv
  simp only [hb,go_sem,Nat.reduceEqDiff,Nat.reduceBEq,Nat.mul_one]
  simp only [Nat.mul_one] at hi1 hv
  simp only [hv,rInt,go_sem]
  have hd : ns.drop k = ns.getD k 0 :: ns.drop (k + 1) := by
   rw [List.drop_eq_getElem_cons hlt,List.getD_eq_getElem?_getD,List.getElem?_eq_getElem hlt]; rfl
  rw [hd] at hP
  simp only [orI] at hP
  refine ⟨⟨by omega,by omega⟩,hi1,fun hc => ?_,fun hc => ⟨hlt,wrapS (by omega),?_⟩⟩
  ·simp at hc; simp [hP,hc]
  ·simp at hc; simp [hP,hc]
 ·have : ns.drop k = [] := List.drop_eq_nil_of_le (by simp at h; omega)
  rw [hP,this]; rfl
theorem fn78 (hE : Codes E) (a b : DatumD) : FnP E 78 [.agg #[S a.text, .int .i64 a.n, .int .i64 a.m], .agg #[S b.text, .int .i64 b.n, .int .i64 b.m]] H (.int .i64 (cmpDatum a b)) := by
 refine Fn.of_vks hE.c78 (by simp [cf78]) ?_
 simp only [cf78,cf78_0,cf78_1]
 simp only [go_sem,Nat.reduceLeDiff,Nat.reduceEqDiff,Nat.reduceBEq,Nat.reduceAdd,reduceCtorEq]
 refine vks_dcallp _ ?_ (fun _ => ⟨?_,fn92 hE a.text b.text⟩) ?_ ?_ <;> simp only [go_sem,Nat.reduceLeDiff,Nat.reduceEqDiff,Nat.reduceBEq,Nat.reduceAdd]
 refine vks_dcallp _ ?_ (fun _ => ⟨?_,fn89 hE a.n b.n⟩) ?_ ?_ <;> simp only [go_sem,Nat.reduceLeDiff,Nat.reduceEqDiff,Nat.reduceBEq,Nat.reduceAdd]
 refine vks_dcallp _ ?_ (fun _ => ⟨?_,fn89 hE a.m b.m⟩) ?_ ?_ <;> simp only [vks_dmksl,go_sem,Nat.reduceLeDiff,Nat.reduceEqDiff,Nat.reduceBEq,Nat.reduceAdd]
 intro b0 hb0
 have hI : IntsAt (H.put b0 (.row [.int .i64 (cmpBs a.text b.text), .int .i64 (cmpInt a.n b.n), .int .i64 (cmpInt a.m b.m)] 3 true)) (.slice (some ⟨b0, 0, none⟩) 3 3) [cmpBs a.text b.text, cmpInt a.n b.n, cmpInt a.m b.m] := by
  refine ⟨_,_,rfl,(fun h => by cases h),fun _ => ⟨b0,0,_,_,_,rfl,Hp.put_same ..,?_⟩⟩
  intro i hi
  match i,hi with
  | 0,_ => exact ⟨by simp,rfl⟩
  | 1,_ => exact ⟨by simp,rfl⟩
  | 2,_ => exact ⟨by simp,rfl⟩
 refine vks_dcallp _ ?_ (fun _ => ⟨?_,fn93 hE hI (by simp)⟩) ?_ ?_ <;> simp only [go_sem,Nat.reduceLeDiff,Nat.reduceEqDiff,Nat.reduceBEq,Nat.reduceAdd]
 refine ⟨?_,le_put hb0 _⟩
 simp only [orI,cmpDatum]
 split <;> try rfl
 split <;> try rfl
 split <;> simp_all
theorem fn77 (hE : Codes E) (r : Rule) (d : DatumD) : FnP E 77 [.agg #[.int .i64 r.text, .int .i64 r.leastN, .int .i64 r.mostN, .int .i64 r.leastM, .int .i64 r.mostM, .bool r.even, .bool r.single, .bool r.wild], .agg #[S d.text, .int .i64 d.n, .int .i64 d.m]] H (.bool (validDatum r d)) := by
 refine Fn.of_vks hE.c77 (by simp [cf77]) ?_
 simp only [cf77,cf77_0,cf77_1,cf77_2,cf77_3,cf77_4,cf77_5,cf77_6,cf77_7,cf77_8,cf77_9,cf77_10]
 simp only [go_sem,Nat.reduceLeDiff,Nat.reduceEqDiff,Nat.reduceBEq,Nat.reduceAdd,reduceCtorEq]
 refine vks_callp _ ?_ (fun _ => ⟨?_,fn74 hE d.n r.leastN r.mostN⟩) ?_ <;> simp only [go_sem,Nat.reduceLeDiff,Nat.reduceEqDiff,Nat.reduceBEq,Nat.reduceAdd]
 refine vks_callp _ ?_ (fun hg => ⟨?_,fn74 hE d.m r.leastM r.mostM⟩) ?_ <;> simp only [go_sem,Nat.reduceLeDiff,Nat.reduceEqDiff,Nat.reduceBEq,Nat.reduceAdd,Int.reduceEq,binO]
 ·simp only [go_sem,Nat.reduceEqDiff] at hg ⊢; exact ⟨hg,hg,hg⟩
 ·refine ⟨fun h => ⟨h,fun h2 => by simp [h,h2]⟩,fun h => ?_,fun h => ?_⟩
  ·have h' : (!(!withinI d.n r.leastN r.mostN || !withinI d.m r.leastM r.mostM || (r.even && d.n.tmod 2 != 0))) = false := by rw [Bool.not_eq_false']; exact h
   simp only [validDatum,h',Bool.false_and]
  ·have h' : validDatum r d = textOk r.text d.text := by
    have : (!(!withinI d.n r.leastN r.mostN || !withinI d.m r.leastM r.mostM || (r.even && d.n.tmod 2 != 0))) = true := by rw [Bool.not_eq_true']; exact h
    simp only [validDatum,this,Bool.true_and]
   rw [h']
   refine ⟨fun h1 => ?_,fun h1 => ⟨fun h2 => ?_,fun h2 => ⟨fun h3 => ?_,fun h3 => ?_⟩⟩⟩
   ·refine vks_callp _ ?_ (fun _ => ⟨?_,fn45 hE d.text⟩) ?_ <;> simp only [go_sem,Nat.reduceLeDiff,Nat.reduceEqDiff,Nat.reduceBEq,Nat.reduceAdd]
    refine vks_callp _ ?_ (fun hg => ⟨?_,fn76 hE d.text⟩) ?_ <;> simp only [go_sem,Nat.reduceEqDiff,Nat.reduceBEq]
    ·simp only [go_sem,Nat.reduceEqDiff] at hg ⊢; exact hg
    ·simp at h1; simp [textOk,h1]
   ·refine vks_callp _ ?_ (fun _ => ⟨?_,fn45 hE d.text⟩) ?_ <;> simp only [go_sem,Nat.reduceEqDiff,Nat.reduceBEq]
    simp at h2; simp [textOk,h2]
   ·refine vks_callp _ ?_ (fun _ => ⟨?_,fn91 hE d.text⟩) ?_ <;> simp only [go_sem,Nat.reduceEqDiff,Nat.reduceBEq]
    simp at h3; simp [textOk,h3]
   ·simp at h1 h2 h3; simp [textOk,h1,h2,h3]
end Go.SL
/- Contract of record.Valid. -/
namespace Go.SL
open Go
variable {E : Env} {H : Hp}
theorem rules_at (t : Int) (h : withinI t 1 8 = true) : t.toNat * 8 + 8 ≤ rulesCells.length ∧ (rulesCells.drop (t.toNat * 8)).take 8 = rRule (rules.getD t.toNat default) ∧ 0 ≤ t ∧ t < 9 := by
 simp only [withinI,Bool.and_eq_true,decide_eq_true_eq] at h
 obtain ⟨n,rfl⟩ : ∃ n : Nat,t = n := ⟨t.toNat,by omega⟩
 simp only [Int.toNat_natCast]
 have hn : n = 1 ∨ n = 2 ∨ n = 3 ∨ n = 4 ∨ n = 5 ∨ n = 6 ∨ n = 7 ∨ n = 8 := by omega
 rcases hn with rfl | rfl | rfl | rfl | rfl | rfl | rfl | rfl <;> exact ⟨by decide,rfl,by omega,by omega⟩
def datOk (ty : Int) (ds : List DatumD) (i : Nat) : Bool := validDatum (rules.getD ty.toNat default) (ds.getD i default) && !(decide (0 < i) && decide (cmpDatum (ds.getD (i - 1) default) (ds.getD i default) ≥ 0))
theorem fn54 (hE : Codes E) (hB : Base E H) (name : Bs) (ty life : Int) {v : Value} {ds : List DatumD} (hd : DataAt H v ds) : FnP E 54 [.agg #[S name, .int .i64 ty, .int .i64 life, v]] H (.bool (recValid name ty life ds)) := by
 obtain ⟨a,cap,rfl,hs,hr⟩ := hd
 obtain ⟨gc,gw,hg⟩ := hB
 refine Fn.of_vks hE.c54 (by simp [cf54]) ?_
 simp only [cf54,cf54_0,cf54_1,cf54_2,cf54_3,cf54_4,cf54_5,cf54_6,cf54_7,cf54_8,cf54_9,cf54_10,cf54_11,cf54_12,cf54_13,cf54_14]
 simp only [go_sem,Nat.reduceLeDiff,Nat.reduceEqDiff,Nat.reduceBEq,Nat.reduceAdd,reduceCtorEq]
 refine vks_callp _ ?_ (fun _ => ⟨?_,fn45 hE name⟩) ?_ <;> simp only [go_sem,Nat.reduceLeDiff,Nat.reduceEqDiff,Nat.reduceBEq,Nat.reduceAdd]
 refine vks_callp _ ?_ (fun hg => ⟨?_,fn74 hE ty 1 8⟩) ?_ <;> simp only [go_sem,Nat.reduceLeDiff,Nat.reduceEqDiff,Nat.reduceBEq,Nat.reduceAdd]
 ·simp only [go_sem,Nat.reduceEqDiff] at hg ⊢; exact hg
 refine vks_callp _ ?_ (fun hg => ⟨?_,fn74 hE life 0 100000⟩) ?_ <;> simp only [go_sem,Nat.reduceEqDiff,Nat.reduceBEq,Nat.reduceAdd]
 ·simp only [go_sem,Nat.reduceEqDiff] at hg ⊢; exact hg
 refine ⟨fun h => ?_,fun h => ?_⟩
 ·have : (nameValid name && withinI ty 1 8 && withinI life 0 100000) = false := by
   clear hr hs; cases hx : nameValid name <;> cases hy : withinI ty 1 8 <;> cases hz : withinI life 0 100000 <;> simp_all
  simp only [recValid,this,Bool.false_and]
 have h0 : nameValid name = true ∧ withinI ty 1 8 = true ∧ withinI life 0 100000 = true := by
  clear hr hs; cases hx : nameValid name <;> cases hy : withinI ty 1 8 <;> cases hz : withinI life 0 100000 <;> simp_all
 refine vks_callp _ ?_ (fun _ => ⟨?_,fn74 hE (ds.length : Int) 1 8⟩) ?_ <;> simp only [go_sem,Nat.reduceLeDiff,Nat.reduceEqDiff,Nat.reduceBEq,Nat.reduceAdd,binO]
 have hrl := rules_at ty h0.2.1
 have hr1 := hrl.1
 have hr2 := hrl.2.1
 have hr3 := hrl.2.2.1
 have hr4 := hrl.2.2.2
 clear hrl
 simp only [hg,hr2,rRule,go_sem,Nat.reduceLeDiff,Nat.reduceEqDiff,Nat.reduceBEq,Nat.reduceAdd]
 refine ⟨fun h1 => ?_,fun h1 => ⟨⟨hr3,hr4⟩,hr1,?_⟩⟩
 ·have : withinI ds.length 1 8 = false := by simpa using h1
  simp only [recValid,this,Bool.and_false,Bool.false_and]
 have hlen : ds.length ≤ 8 := by simp [withinI] at h1; omega
 refine vks_callp _ ?_ (fun hg => ⟨?_,fn76 hE name⟩) ?_ <;> simp only [go_sem,Nat.reduceEqDiff,Nat.reduceBEq,Nat.reduceAdd]
 ·simp only [go_sem,Nat.reduceEqDiff] at hg ⊢; exact hg
 obtain ⟨ru,hru⟩ : ∃ ru,ru = rules.getD ty.toNat default := ⟨_,rfl⟩
 rw [← hru]
 have hrec0 : recValid name ty life ds = (!(ru.single && (ds.length : Int) != 1) && !(isWildB name && !ru.wild) && allN (datOk ty ds) ds.length) := by
  have e : ((ds.length : Int) != 1) = (ds.length != 1) := by rw [Bool.eq_iff_iff]; simp; omega
  simp only [recValid,h0.1,h0.2.1,h0.2.2,h1,← hru,Bool.true_and,e]
  rw [hru]; rfl
 refine ⟨?_,fun h2 => ?_,fun h2 => ?_⟩
 ·exact fun hx => ⟨hx,fun hy => by simp only [hx,hy,Bool.not_false,Bool.and_self]⟩
 ·have : (!(ru.single && (ds.length : Int) != 1) && !(isWildB name && !ru.wild)) = false := by rw [← Bool.not_or,h2]; rfl
  rw [hrec0,this,Bool.false_and]
 ·have hrec : recValid name ty life ds = allN (datOk ty ds) ds.length := by
   rw [hrec0,← Bool.not_or,h2]; rfl
  rw [hrec]
  refine vks_loopN ds.length 0 (fun k => [(1,⟨true,.box [S name,.int .i64 ty,.int .i64 life,.slice a ds.length cap]⟩),(3,⟨true,.box (rRule ru)⟩),(50,⟨true,.val (.slice a ds.length cap)⟩),(51,⟨true,.val (.int .i64 ds.length)⟩),(52,⟨true,.val (.int .i64 k)⟩)]) (fun k => allN (datOk ty ds) k = true) (Nat.zero_le _) rfl rfl ?_
  intro k hk hP
  simp only [rRule,go_sem,Nat.reduceEqDiff,Nat.reduceBEq,Nat.reduceAdd,binO]
  refine ⟨fun h3 => ?_,fun h3 => ?_⟩
  ·have hlt : k < ds.length := by simpa using h3
   have hr' := hr (by omega)
   obtain ⟨b,o,vs,c,wr,ha,hb,hi⟩ := hr'
   subst ha
   have hi1 := (hi k hlt).1
   have hi2 := (hi k hlt).2
   simp only [hb,hi2,rDatum,go_sem,Nat.reduceEqDiff,Nat.reduceBEq,Nat.reduceAdd]
   refine ⟨⟨by omega,by omega⟩,hi1,?_⟩
   refine vks_dcallp _ ?_ (fun _ => ⟨?_,fn77 hE ru (ds.getD k default)⟩) ?_ ?_ <;> simp only [go_sem,Nat.reduceEqDiff,Nat.reduceBEq,Nat.reduceAdd,binO]
   have hF : datOk ty ds k = false → allN (datOk ty ds) ds.length = false := fun h => allN_false hlt h
   have hS : datOk ty ds k = true → allN (datOk ty ds) (k + 1) = true := fun h => allN_succ hP h
   have hdk : datOk ty ds k = (validDatum ru (ds.getD k default) && !(decide (0 < k) && decide (cmpDatum (ds.getD (k - 1) default) (ds.getD k default) ≥ 0))) := by rw [hru]; rfl
   by_cases hk0 : k = 0
   ·have e0 : decide ((k : Int) > 0) = false := by simp; omega
    have e0' : decide (0 < k) = false := by simp; omega
    simp only [e0',Bool.false_and,Bool.not_false,Bool.and_true] at hdk
    simp only [hb,e0,go_sem]
    refine vks_dcallp (.int .i64 0) ?_ (fun hg => absurd hg ?_) ?_ ?_ <;> simp only [hb,e0,go_sem,Nat.reduceEqDiff,Nat.reduceBEq,Nat.reduceAdd,binO]
    ·simp
    ·exact ⟨fun hx => (hF (hdk.trans hx)).symm,fun hx => ⟨hlt,wrapS (by omega),hS (hdk.trans hx)⟩⟩
   ·have e0 : decide ((k : Int) > 0) = true := by simp; omega
    have e0' : decide (0 < k) = true := by simp; omega
    simp only [e0',Bool.true_and] at hdk
    have e1 : IntKind.i64.wrap ((k : Int) - 1) = ((k - 1 : Nat) : Int) := by rw [wrapI] <;> omega
    have hj1 := (hi (k - 1) (by omega)).1
    have hj2 := (hi (k - 1) (by omega)).2
    simp only [e0,e1,toNat_ofNat',hb,hj2,rDatum,go_sem]
    refine ⟨fun hx => ⟨hx,hx,by omega,by omega⟩,fun hx => ⟨hx,hj1⟩,?_⟩
    refine vks_dcallp _ ?_ (fun hg => ⟨?_,fn78 hE (ds.getD (k - 1) default) (ds.getD k default)⟩) ?_ ?_ <;> simp only [e0,go_sem,Nat.reduceEqDiff,Nat.reduceBEq,Nat.reduceAdd,binO]
    ·simp only [go_sem,Nat.reduceEqDiff] at hg ⊢; exact ⟨hg,hg⟩
    ·rw [bad_eq,← hdk]
     exact ⟨fun hx => ⟨hx,hx⟩,fun hx => (hF (by simpa using hx)).symm,fun hx => ⟨hlt,wrapS (by omega),hS (by simpa using hx)⟩⟩
  ·have : k = ds.length := by simp at h3; omega
   subst this
   exact hP.symm
theorem fn97 (hE : Codes E) (nm : Bs) (t : Int) {v : Value} {ss : List SignedD} (hss : SetsAt H v ss) (hn : ss.length ≤ 1099511627776) : FnP E 97 [v, .agg #[S nm, .int .i64 t], .func (.func (E.fn 96)) #[] #[]] H (.tuple #[.int .i64 (findI ss nm t), .bool (findB ss nm t)]) := by
 obtain ⟨d,g,⟨a,cap,rfl,hs,hr⟩,hdeep⟩ := hss
 refine Fn.of_vks hE.c97 (by simp [cf97]) ?_
 simp only [cf97,cf97_0,cf97_1,cf97_2,cf97_3,cf97_4,cf97_5,cf97_6,cf97_7,cf97_8]
 simp only [go_sem,Nat.reduceEqDiff,Nat.reduceBEq,Nat.reduceAdd,reduceCtorEq]
 refine vks_loopM (fun m fr' H' => ∃ i j f, fr' = [(0, ⟨true, .val (.slice a ss.length cap)⟩), (2, ⟨true, .val (.func (.func (E.fn 96)) #[] #[])⟩), (4, ⟨true, .box [S nm, .int .i64 t]⟩), (8, ⟨true, .val (.int .i64 ss.length)⟩), (9, ⟨true, .val (.int .i64 ((i : Nat) : Int))⟩), (10, ⟨true, .val (.int .i64 ((j : Nat) : Int))⟩)] ∧
   H' = H ∧ i ≤ j ∧ j ≤ ss.length ∧ m = j - i ∧ j - i < f ∧ findI ss nm t = bsGo (fun h => cmpPl (sAt ss h).name (sAt ss h).type nm t) f i j) (ss.length - 0) ⟨0,ss.length,ss.length + 1,rfl,rfl,Nat.zero_le _,Nat.le_refl _,rfl,by omega,rfl⟩ ?_
 rintro m fr' H' ⟨i,j,f,rfl,rfl,hij,hj,rfl,hf,hfind⟩
 obtain ⟨f,rfl⟩ : ∃ f',f = f' + 1 := ⟨f - 1,by omega⟩
 simp only [bsGo] at hfind
 by_cases hlt : i < j
 ·simp only [hlt,if_true] at hfind
  have hd : decide ((i : Int) < (j : Int)) = true := by simpa using hlt
  have e1 : IntKind.i64.wrap ((i : Int) + (j : Int)) = ((i + j : Nat) : Int) := by rw [wrapI] <;> omega
  have e2 : IntKind.i64.wrap ((IntKind.u64.wrap ((i + j : Nat) : Int)).fdiv (2 ^ min 1 64)) = (((i + j) / 2 : Nat) : Int) := by
   have : IntKind.u64.wrap ((i + j : Nat) : Int) = ((i + j : Nat) : Int) := by
    simp only [IntKind.wrap,IntKind.bits,IntKind.signed,Bool.false_and]; simp; omega
   rw [this]
   have h2 : (2 : Int) ^ min 1 64 = 2 := by decide
   rw [h2,Int.fdiv_eq_ediv_of_nonneg _ (by omega),wrapI] <;> omega
  have hr' := hr (by omega)
  obtain ⟨b,o,vs,c,wr,ha,hb,hi⟩ := hr'
  subst ha
  obtain ⟨h,hh⟩ : ∃ h,h = (i + j) / 2 := ⟨_,rfl⟩
  rw [← hh] at e2 hfind
  have hhn : h < ss.length := by omega
  have hi1 := (hi h hhn).1
  have hi2 := (hi h hhn).2
  simp only [hd,e1,e2,hb,hi2,rSigned,go_sem,Nat.reduceEqDiff,Nat.reduceBEq,Nat.reduceAdd,reduceCtorEq,Int.reduceToNat,Int.reduceLT,binO]
  refine ⟨⟨by omega,by omega⟩,hi1,?_⟩
  refine vks_dcallv ?_ ?_ (FnV_of_Fn hE.e96 (Fn.same (fn96 hE (sAt ss h).name (sAt ss h).type (sAt ss h).life (d h) (g h) nm t))) ?_
  ·simp only [go_sem,Nat.reduceEqDiff,reduceCtorEq]
  ·simp only [go_sem,Nat.reduceEqDiff,reduceCtorEq]
  ·rintro v H' ⟨rfl,rfl⟩
   simp only [go_sem,Nat.reduceEqDiff,Nat.reduceBEq,Nat.reduceAdd,reduceCtorEq,binO]
   refine ⟨fun hc => ?_,fun hc => ?_⟩
   ·have hc' : cmpPl (sAt ss h).name (sAt ss h).type nm t < 0 := by simpa using hc
    rw [if_pos hc'] at hfind
    exact ⟨j - (h + 1),by omega,h + 1,j,f,⟨wrapS (by omega),rfl⟩,by omega,hj,rfl,by omega,hfind⟩
   ·have hc' : ¬ cmpPl (sAt ss h).name (sAt ss h).type nm t < 0 := by simpa using hc
    rw [if_neg hc'] at hfind
    exact ⟨h - i,by omega,i,h,f,⟨rfl,rfl⟩,by omega,by omega,rfl,by omega,hfind⟩
 ·simp only [hlt,if_false] at hfind
  have hd : decide ((i : Int) < (j : Int)) = false := by simpa using hlt
  have hij : i = j := by omega
  subst hij
  by_cases hin : i < ss.length
  ·have hr' := hr (by omega)
   obtain ⟨b,o,vs,c,wr,ha,hb,hi⟩ := hr'
   subst ha
   have hd2 : decide ((i : Int) < (ss.length : Int)) = true := by simpa using hin
   have hi1 := (hi i hin).1
   have hi2 := (hi i hin).2
   simp only [hd,hd2,hb,hi2,rSigned,go_sem,Nat.reduceEqDiff,Nat.reduceBEq,Nat.reduceAdd,reduceCtorEq,Int.reduceToNat,Int.reduceLT,binO]
   refine ⟨⟨by omega,by omega⟩,hi1,?_⟩
   refine vks_dbig (by intro x h; cases h) (by intro f a h; cases h) ?_ (fun _ => ⟨?_,?_,_,FnV_of_Fn hE.e96 (Fn.same (fn96 hE (sAt ss i).name (sAt ss i).type (sAt ss i).life (d i) (g i) nm t)),?_⟩) (fun hg => ?_)
   ·simp only [go_sem,Nat.reduceEqDiff,reduceCtorEq]
   ·simp only [go_sem,Nat.reduceEqDiff,reduceCtorEq]
   ·simp only [go_sem,Nat.reduceEqDiff,reduceCtorEq]
   ·rintro v H'' ⟨rfl,rfl⟩
    simp only [go_sem,Nat.reduceEqDiff,Nat.reduceBEq,Nat.reduceAdd,reduceCtorEq,binO]
    simp [findB,hfind,hin]
   ·simp only [go_sem,Nat.reduceEqDiff,reduceCtorEq] at hg
  ·have hd2 : decide ((i : Int) < (ss.length : Int)) = false := by simpa using hin
   have fin : ∀ {A : Prop},A → (A ↔ True) := fun h => ⟨fun _ => trivial,fun _ => h⟩
   have hfb : findB ss nm t = false := by simp [findB,hfind,hin]
   obtain ⟨ho,hho⟩ : ∃ o,(match a with | none => none | some p => H' p.block) = o := ⟨_,rfl⟩
   rcases a with _ | p
   ·simp only [undef,hd,hd2,go_sem,Nat.reduceEqDiff,Nat.reduceBEq,Nat.reduceAdd,reduceCtorEq,Int.reduceToNat,Int.reduceLT,binO]
    refine vks_dbig (by intro x h; cases h) (by intro f a h; cases h) ?_ (fun hg => ?_) (fun hg => ?_)
    ·simp only [go_sem,Nat.reduceEqDiff,reduceCtorEq]
    ·simp only [go_sem,Nat.reduceEqDiff,reduceCtorEq] at hg
    ·simp only [undef,hfind,hfb,go_sem,Nat.reduceEqDiff,Nat.reduceBEq,Nat.reduceAdd,reduceCtorEq,binO]
   ·simp only at hho
    rcases ho with _ | (⟨vs,c,w⟩ | ob)
    all_goals
     simp only [undef,hd,hd2,hho,go_sem,Nat.reduceEqDiff,Nat.reduceBEq,Nat.reduceAdd,reduceCtorEq,Int.reduceToNat,Int.reduceLT,binO]
     refine vks_dbig (by intro x h; cases h) (by intro f a h; cases h) ?_ (fun hg => ?_) (fun hg => ?_)
     ·simp only [go_sem,Nat.reduceEqDiff,reduceCtorEq]
     ·simp only [go_sem,Nat.reduceEqDiff,reduceCtorEq] at hg
     ·simp only [undef,hho,hfind,hfb,go_sem,Nat.reduceEqDiff,Nat.reduceBEq,Nat.reduceAdd,reduceCtorEq,binO]
theorem fn82 (hE : Codes E) (nm : Bs) (t : Int) (apex : Bs) {v : Value} {ss : List SignedD} (hss : SetsAt H v ss) (hn : ss.length ≤ 1099511627776) : FnP E 82 [.agg #[S apex, v], .agg #[S nm, .int .i64 t]] H (.tuple #[.int .i64 (findI ss nm t), .bool (findB ss nm t)]) := by
 refine Fn.of_vks hE.c82 (by simp [cf82]) ?_
 simp only [cf82,cf82_0,cf82_1]
 simp only [go_sem,Nat.reduceEqDiff,Nat.reduceBEq,Nat.reduceAdd,reduceCtorEq]
 refine vks_callp _ ?_ (fun _ => ⟨?_,fn97 hE nm t hss hn⟩) ?_ <;> simp only [go_sem,Nat.reduceLT,Nat.reduceEqDiff,Nat.reduceBEq,Nat.reduceAdd]
end Go.SL
