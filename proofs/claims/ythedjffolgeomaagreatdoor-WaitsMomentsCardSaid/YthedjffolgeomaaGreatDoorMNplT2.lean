/- Contracts of package name. -/
import Derived.Test.YthedjffolgeomaaGreatDoorMNplQ
import Derived.Test.YthedjffolgeomaaGreatDoorMNplO
namespace Go.SL
open Go
variable {E:Env} {H:Hp}
def nx : Option Nat → Nat
 | none=>0
 | some i=>i + 1
theorem yRX (hE : zV E) (G : Hp) (l : Bs) (hl : l.length ≤ 60) : Iter E (.func (.func (E.fn 65)) #[S l] #[]) G (fun xs => xs = (zW l).map (fun x => [S x])) := by
 intro y Inv Stop H hG hy h0
 refine wE hE.e65 ?_
 show Fn E.P (E.fn 65) [S l,y] H _
 refine Fn.of_vks hE.c65 (by simp [yFw]) ?_
 simp only [yFw,yHQ,yPd,yMn,yNp,yIA]
 simp only [go_sem,Nat.reduceEqDiff,Nat.reduceBEq,reduceCtorEq,zC]
 refine⟨fun h=>?_,fun h=>?_⟩
 ·have:l = [46]:=by simpa using h
  exact .inl ⟨_,rfl,by simpa [zW,this] using h0⟩
 ·have hne:l≠[46]:=by simpa using h
  refine zIs (fun m fr' H'=>∃ rest pre,fr' = [(1,⟨true,.val y⟩),(4,⟨true,.val (S rest)⟩)]∧rest.length + 1≤m∧rest.length≤60∧zW l=pre ++ wZ m rest∧Inv (pre.map (fun x=>[S x])) H') (l.length + 1) ⟨l,[],rfl,Nat.le_refl _,hl,by simp [zW,hne],h0⟩ ?_
  rintro m fr' H' ⟨rest,pre,rfl,hm,hr,hlab,hinv⟩
  simp only [go_sem,Nat.reduceEqDiff,Nat.reduceBEq]
  refine zE _ ?_ (fun _=>⟨?_,yVP hE rest hr⟩) ?_<;>simp only [go_sem,Nat.reduceEqDiff,Nat.reduceBEq,zC]
  obtain⟨m,rfl⟩:∃ m',m=m' + 1:=⟨m - 1,by omega⟩
  have hlb : wZ (m + 1) rest = rest.drop (nx (lastIx 46 rest)) :: (match lastIx 46 rest with | none => [] | some i => wZ m (rest.take i)) := by
   simp only [wZ]
   cases lastIx 46 rest<;>simp [nx]
  have hnx : nx (lastIx 46 rest) ≤ rest.length := by
   cases hx:lastIx 46 rest with
   | none=>simp [nx]
   | some i=>have:=uO hx; simp [nx]; omega
  have e1 : IntKind.i64.wrap (ixI (lastIx 46 rest) + 1) = ((nx (lastIx 46 rest) : Nat) : Int) := by
   cases hx:lastIx 46 rest with
   | none=>rw [yX]<;>simp [ixI,nx]
   | some i=>have:=uO hx; simp only [ixI,nx]; rw [yX]<;>omega
  have e2:List.take (rest.length - nx (lastIx 46 rest)) (rest.drop (nx (lastIx 46 rest)))=rest.drop (nx (lastIx 46 rest)):=List.take_of_length_le (by simp)
  rw [hlb] at hlab
  simp only [e1,toNat_ofNat',e2]
  refine⟨⟨by omega,by omega⟩,?_⟩
  refine wU ?_ ?_ (hy (pre.map (fun x=>[S x])) [S (rest.drop (nx (lastIx 46 rest)))] H' ⟨(match lastIx 46 rest with | none=>[] | some i=>wZ m (rest.take i)).map (fun x=>[S x]),by simp [hlab]⟩ hinv) ?_
  ·simp only [go_sem,Nat.reduceEqDiff]
  ·simp only [go_sem,Nat.reduceEqDiff]
  ·rintro v H'' (⟨rfl,hi⟩ | ⟨rfl,hs⟩)
   ·simp only [go_sem,Nat.reduceEqDiff,Nat.reduceBEq,zC]
    refine⟨fun h=>?_,fun h=>?_⟩
    ·cases hx:lastIx 46 rest with
     | none =>
      refine .inl ⟨_,rfl,?_⟩
      rw [hlab,hx]
      rw [hx] at hi
      simpa using hi
     | some i=>exact absurd h (by simp [hx,ixI])
    ·cases hx:lastIx 46 rest with
     | none=>rw [hx] at h; simp [ixI] at h
     | some i =>
      have hlt:=uO hx
      rw [hx] at hlab hi
      simp only [ixI,toNat_ofNat']
      refine⟨⟨by omega,by omega⟩,m,by omega,rest.take i,pre ++ [rest.drop (i + 1)],rfl,by rw [List.length_take]; omega,by rw [List.length_take]; omega,?_,?_⟩
      ·rw [hlab]; simp [nx]
      ·simpa [nx] using hi
   ·simp only [go_sem,Nat.reduceEqDiff,Nat.reduceBEq,zC]
    exact .inr ⟨_,hs⟩
theorem zKj (hE : zV E) (l : Bs) : yD E 50 [S l] H (.bool (zK l)) := by
 refine Fn.of_vks hE.c50 (by simp [yGr]) ?_
 simp only [yGr,yIr,yMD,yME,yMg,yOT,yJZ,yIi,yHt,yOq,yMs,zYn,yDp,zYW,yEi,zTM]
 simp only [go_sem,Nat.reduceEqDiff,Nat.reduceBEq,reduceCtorEq,zC,yL]
 intro b2 hb2
 refine⟨fun h=>?_,fun h=>?_⟩
 ·refine⟨?_,zM hb2 _⟩
  simp [zK,h]
 ·refine⟨fun h1=>⟨?_,zM hb2 _⟩,fun h1=>?_⟩
  ·have:¬ l.length≤60:=by simp at h1; omega
   simp [zK,h,this]
  ·have h60:l.length≤60:=by simp at h1; omega
   have hnv:zK l=uW (zW l) 0 false:=by simp [zK,h,h60]
   intro b3 hb3 b4 hb4
   have h32:b3≠b2:=by rintro rfl; simp at hb3
   have h42:b4≠b2:=by rintro rfl; simp [h32.symm] at hb4
   have h43:b4≠b3:=by rintro rfl; simp at hb4
   simp only [h32,h42,h43,if_false] at hb3 hb4
   simp only [h43,h43.symm,go_sem]
   refine zAz H (fun xs => xs = (zW l).map (fun x => [S x])) (fun pre H' => H.le H' ∧ H' b2 = some (.row [.bool false] 1 true) ∧ H' b3 = some (.row [.int .i64 pre.length] 1 true) ∧ ∃ star, H' b4 = some (.row [.bool star] 1 true) ∧ pre.length ≤ 8 ∧ uW (zW l) 0 false = uW ((zW l).drop pre.length) pre.length star)
    (by simp only [go_sem,Nat.reduceEqDiff]) (by simp only [go_sem,Nat.reduceEqDiff,zGk]) (yRX hE H l h60) (by rintro xs rfl x hx; simp at hx; obtain⟨a,_,rfl⟩:=hx; rfl) ?_ (fun pre H' h=>h.1) ?_ ?_
   ·refine⟨?_,by simp [yL,h32.symm,h42.symm],by simp [yL,h43.symm],false,by simp [yL],by simp,rfl⟩
    exact zI (zI (zI (zI (zM hb2 _) hb3 _) hb4 _) hb3 _) hb4 _
   ·rintro pre x H' ⟨suf,hsuf⟩ ⟨hle,k2,k3,star,k4,h8,hgo⟩
    obtain⟨hlt,rfl,hdrop⟩:=zOP hsuf
    rw [hdrop] at hgo
    generalize hy:(zW l).getD pre.length []=y at *
    simp only [h43,h32.symm,k2,k3,k4,go_sem,Nat.reduceEqDiff,Nat.reduceBEq,zC,yL]
    rw [zQ (by omega)]
    have hLb2:H.le ((H'.put b3 (xD.row [Value.int IntKind.i64 ((pre.length + 1:Nat):Int)] 1 true)).put b4 (xD.row [Value.bool (y == [42])] 1 true)):=zI (zI hle hb3 _) hb4 _
    refine⟨fun hc=>⟨?_,zI (zI hle hb3 _) hb2 _⟩,fun hc=>?_⟩
    ·have:(star || decide (pre.length + 1 > 8))=true:=by cases star<;>simp at hc ⊢<;>omega
     rw [hnv,hgo]; simp only [uW,this,if_true]
    ·have hc':(star || decide (pre.length + 1 > 8))=false:=by cases star<;>simp at hc ⊢<;>omega
     simp only [uW,hc',Bool.false_eq_true,if_false] at hgo
     refine zE _ ?_ (fun hg=>⟨?_,xAx hE y⟩) ?_<;>simp only [h43,h32.symm,h42.symm,h43.symm,k2,k3,k4,go_sem,Nat.reduceEqDiff,Nat.reduceBEq,yL]
     ·simp only [go_sem,Nat.reduceEqDiff] at hg ⊢; exact hg
     ·refine⟨fun hb=>⟨?_,zI hLb2 hb2 _⟩,fun hb=>⟨hLb2,?_,?_⟩⟩
      ·rw [hnv,hgo]; simp only [hb,if_true]
      ·simp
      ·refine⟨_,rfl,?_,?_⟩
       ·simp at hc' ⊢; omega
       ·rw [hgo]; simp only [hb,Bool.false_eq_true,if_false]; simp
   ·rintro xs H' rfl ⟨hle,k2,k3,star,k4,h8,hgo⟩
    simp only [k2,go_sem,Nat.reduceEqDiff,yL]
    refine⟨?_,zI hle hb2 _⟩
    rw [hnv,hgo]; simp [uW]
theorem zGR (hE : zV E) (l : Bs) : yD E 45 [S l] H (.bool (zK l)) := by
 refine Fn.of_vks hE.c45 (by simp [yFx]) ?_
 simp only [yFx,yPT,yJC]
 simp only [go_sem,Nat.reduceBEq,reduceCtorEq]
 refine zE _ ?_ (fun _=>⟨?_,zKj hE l⟩) ?_<;>simp only [go_sem,Nat.reduceEqDiff,Nat.reduceBEq,reduceCtorEq]
theorem jY {l : Bs} (h : zK l = true) : l.length ≤ 60 := by
 simp only [zK,Bool.or_eq_true,beq_iff_eq,Bool.and_eq_true,decide_eq_true_eq] at h
 rcases h with rfl | h
 ·simp
 ·exact h.1
theorem yWg (hE : zV E) (s z : Bs) : yD E 80 [S s, S z] H (.tuple #[.bool (pV s z), .int .i64 (zGr s z)]) := by
 refine Fn.of_vks hE.c80 (by simp [yFF]) ?_
 simp only [yFF,yKE,yOH,yIq,yII,yKu,yPi]
 simp only [go_sem,Nat.reduceEqDiff,Nat.reduceBEq,reduceCtorEq]
 refine zE _ ?_ (fun _=>⟨?_,zKj hE s⟩) ?_<;>simp only [go_sem,Nat.reduceEqDiff,Nat.reduceBEq,reduceCtorEq]
 refine zE _ ?_ (fun hg=>⟨?_,zKj hE z⟩) ?_<;>simp only [go_sem,Nat.reduceEqDiff,Nat.reduceBEq,reduceCtorEq,zC]
 ·simp only [go_sem,Nat.reduceEqDiff,reduceCtorEq] at hg ⊢; exact hg
 ·refine⟨fun h=>?_,fun h=>⟨fun h2=>?_,fun h2=>?_⟩⟩
  ·have:(zK s && zK z)=false:=by cases hs:zK s<;>simp_all
   simp [pV,zGr,this]
  ·have h':zK s=true∧zK z=true:=by simpa using h
   simp [pV,zGr,h',h2]
  ·have h':zK s=true∧zK z=true:=by simpa using h
   have l1:=jY h'.1
   have l2:=jY h'.2
   have e : z.length < s.length → IntKind.i64.wrap (IntKind.i64.wrap ((s.length : Int) - (z.length : Int)) - 1) = ((s.length - z.length - 1 : Nat) : Int) := fun h => by
    rw [yX (n:=(s.length:Int) - (z.length:Int)) (by omega),yX (by omega)]; omega
   refine zE _ ?_ (fun hg=>⟨?_,xAt hE s z (by omega)⟩) ?_<;>simp only [go_sem,Nat.reduceEqDiff,Nat.reduceBEq,reduceCtorEq,zC]
   ·simp only [go_sem,Nat.reduceEqDiff,reduceCtorEq] at hg ⊢; exact⟨hg,hg⟩
   ·have hu:pV s z=(decide (z.length < s.length) && zCa s z && bI s (s.length - z.length - 1) == 46):=by simp [pV,h',h2]
    have hc:decide ((s.length:Int) > (z.length:Int))=decide (z.length < s.length):=by simp
    have he:zGr s z=0:=by simp [zGr,h']
    simp only [hc,hu,he]
    by_cases hz:z.length < s.length
    ·have hlt:((s.length - z.length - 1:Nat):Int) < (s.length:Int):=by omega
     have hge:(0:Int)≤((s.length - z.length - 1:Nat):Int):=by omega
     simp only [hz,e hz,toNat_ofNat',decide_true,hlt,hge]
     simp
    ·simp [hz]
theorem yZK (hE : zV E) (l : Bs) : Fn E.P (E.fn 102) [S l] H (fun v H' => ∃ bm br, v = .func (.func (E.fn 104)) #[] #[.pointer (some ⟨bm, 0, none⟩), .pointer (some ⟨br, 0, none⟩)] ∧ H bm = none ∧ H br = none ∧ bm ≠ br ∧ H.le H' ∧ H' bm = some (.row [.bool (!(l == [46]))] 1 true) ∧ H' br = some (.row [S l] 1 true)) := by
 refine Fn.of_vks hE.c102 (by simp [zNl]) ?_
 simp only [zNl,yEp,yBj,yAi]
 simp only [go_sem,Nat.reduceEqDiff,Nat.reduceBEq,reduceCtorEq,zC,yL]
 intro b3 hb3 b4 hb4
 have h43:b4≠b3:=by rintro rfl; simp at hb4
 simp only [h43,if_false] at hb4
 simp only [h43,h43.symm,go_sem]
 refine⟨b4,b3,rfl,hb4,hb3,h43,zI (zI (zI (zM hb3 _) hb4 _) hb3 _) hb4 _,?_,?_⟩
 ·simp []
 ·simp [h43.symm]
def zIm (H:Hp) (bm br:Nat) (L:List Bs):Prop:=∃ more rest m,H bm=some (.row [.bool more] 1 true)∧H br=some (.row [S rest] 1 true)∧rest.length≤60∧rest.length < m∧L=if more then wZ m rest else []
def zFg : List Bs → Value
 | []=>.tuple #[S [],.bool false]
 | x :: _=>.tuple #[S x,.bool true]
theorem zIm.congr {H H' : Hp} {bm br : Nat} {L : List Bs} (h : zIm H bm br L) (h1 : H' bm = H bm) (h2 : H' br = H br) : zIm H' bm br L := by
 obtain⟨more,rest,m,k1,k2,k3⟩:=h
 exact⟨more,rest,m,h1.trans k1,h2.trans k2,k3⟩
theorem yZA (hE : zV E) {bm br : Nat} {L : List Bs} (hne : bm ≠ br) (hp : zIm H bm br L) : Fn E.P (E.fn 104) [.pointer (some ⟨bm, 0, none⟩), .pointer (some ⟨br, 0, none⟩)] H (fun v H' => (∀ c, c ≠ bm → c ≠ br → H' c = H c) ∧ zIm H' bm br L.tail ∧
  v=zFg L):=by
 obtain⟨more,rest,m,k1,k2,h60,hm,rfl⟩:=hp
 refine Fn.of_vks hE.c104 (by simp [zLW]) ?_
 simp only [zLW,yBy,yEK,zZp,yDF,zWJ,yAr,yDe,zSX,zUg]
 simp only [k1,k2,go_sem,Nat.reduceEqDiff,Nat.reduceBEq,reduceCtorEq]
 refine⟨fun h=>?_,fun h=>?_⟩
 ·subst h
  exact⟨⟨false,rest,m,k1,k2,h60,hm,by simp⟩,by simp [zFg]⟩
 ·subst h
  refine zE _ ?_ (fun _=>⟨?_,yVP hE rest h60⟩) ?_<;>simp only [k1,k2,go_sem,Nat.reduceEqDiff,Nat.reduceBEq,reduceCtorEq,zC,yL]
  obtain⟨m,rfl⟩:∃ m',m=m' + 1:=⟨m - 1,by omega⟩
  have hlb : wZ (m + 1) rest = rest.drop (nx (lastIx 46 rest)) :: (match lastIx 46 rest with | none => [] | some i => wZ m (rest.take i)) := by
   simp only [wZ]
   cases lastIx 46 rest<;>simp [nx]
  have hnx : nx (lastIx 46 rest) ≤ rest.length := by
   cases hx:lastIx 46 rest with
   | none=>simp [nx]
   | some i=>have:=uO hx; simp [nx]; omega
  have e1 : IntKind.i64.wrap (ixI (lastIx 46 rest) + 1) = ((nx (lastIx 46 rest) : Nat) : Int) := by
   cases hx:lastIx 46 rest with
   | none=>rw [yX]<;>simp [ixI,nx]
   | some i=>have:=uO hx; simp only [ixI,nx]; rw [yX]<;>omega
  have e2:List.take (rest.length - nx (lastIx 46 rest)) (rest.drop (nx (lastIx 46 rest)))=rest.drop (nx (lastIx 46 rest)):=List.take_of_length_le (by simp)
  simp only [e1,toNat_ofNat',e2,hlb]
  refine⟨⟨by omega,by omega⟩,fun h=>?_,fun h=>?_⟩
  ·cases hx:lastIx 46 rest with
   | none =>
    refine⟨fun c h1 _=>by simp [h1],⟨false,rest,m + 1,by simp [yL],by simp [yL,hne.symm,k2],h60,hm,by simp⟩,by simp [nx,zFg]⟩
   | some i=>exact absurd h (by simp [hx,ixI])
  ·cases hx:lastIx 46 rest with
   | none=>exact absurd h (by simp [hx,ixI])
   | some i =>
    have hlt:=uO hx
    simp only [ixI,toNat_ofNat']
    refine⟨⟨by omega,by omega⟩,fun c _ h1=>by simp [h1],⟨true,rest.take i,m,by simp [yL,hne,k1],by simp [yL],by rw [List.length_take]; omega,by rw [List.length_take]; omega,by simp⟩,by simp [nx,zFg]⟩
theorem yVJ (hE : zV E) (a b : Bs) : yD E 95 [S a, S b] H (.tuple #[.int .i64 (vX a b), .int .i64 (zDY a b)]) := by
 refine Fn.of_vks hE.c95 (by simp [yGn]) ?_
 simp only [yGn,yNH,yIL,yLp,yLd,yIT,yNq,yMp,yLh,yLF,yLN,zZs,zWE,zYQ,yCR,zUx,yBr,zXm]
 simp only [go_sem,Nat.reduceEqDiff,Nat.reduceBEq,reduceCtorEq,yL]
 intro b4 hb4 b5 hb5
 have h54:b5≠b4:=by rintro rfl; simp at hb5
 simp only [h54,if_false] at hb5
 refine zE _ ?_ (fun _=>⟨?_,zKj hE a⟩) ?_<;>simp only [go_sem,Nat.reduceEqDiff,Nat.reduceBEq]
 refine zE _ ?_ (fun hg=>⟨?_,zKj hE b⟩) ?_<;>simp only [h54,h54.symm,go_sem,Nat.reduceEqDiff,Nat.reduceBEq,zC,yL]
 ·simp only [go_sem,Nat.reduceEqDiff] at hg ⊢; exact hg
 ·refine⟨fun h=>?_,fun h=>⟨fun h2=>?_,fun h2=>?_⟩⟩
  ·have:(zK a && zK b)=false:=by cases hs:zK a<;>simp_all
   refine⟨by simp [vX,zDY,this],?_⟩
   exact zI (zI (zI (zM hb4 _) hb5 _) hb4 _) hb5 _
  ·have h':zK a=true∧zK b=true:=by simpa using h
   have h2':a=b:=by simpa using h2
   refine⟨by simp [vX,zDY,h',h2'],?_⟩
   exact zI (zI (zI (zM hb4 _) hb5 _) hb4 _) hb5 _
  ·have h':zK a=true∧zK b=true:=by simpa using h
   have l1:=jY h'.1
   have l2:=jY h'.2
   have h2':a≠b:=by simpa using h2
   have hr:vX a b=uC (zW a) (zW b):=by simp [vX,h',h2']
   have hr':zDY a b=0:=by simp [zDY,h']
   rw [hr,hr']
   refine zP ?_ (yZK hE b) ?_
   ·simp only [go_sem,Nat.reduceEqDiff]
   ·rintro v H1 ⟨bm,br,rfl,hbm,hbr,hmr,hle1,km,kr⟩
    have k4:H1 b4=some (.row [.int .i64 0] 1 true):=hle1 _ _ (by simp [yL,h54.symm])
    have k5:H1 b5=some (.row [.int .i64 0] 1 true):=hle1 _ _ (by simp [yL])
    have hmb4:bm≠b4:=by rintro rfl; simp [yL,h54.symm] at hbm
    have hmb5:bm≠b5:=by rintro rfl; simp [yL] at hbm
    have hrb4:br≠b4:=by rintro rfl; simp [yL,h54.symm] at hbr
    have hrb5:br≠b5:=by rintro rfl; simp [yL] at hbr
    have hbm0:H bm=none:=by simpa [yL,hmb4,hmb5] using hbm
    have hbr0:H br=none:=by simpa [yL,hrb4,hrb5] using hbr
    have hle0:H.le H1:=(zI (zM hb4 _) hb5 _).trans hle1
    simp only [go_sem,Nat.reduceEqDiff,Nat.reduceBEq,yL]
    intro b8 hb8
    have h84:b8≠b4:=(zAA k4 hb8).symm
    have h85:b8≠b5:=(zAA k5 hb8).symm
    have h8m:b8≠bm:=(zAA km hb8).symm
    have h8r:b8≠br:=(zAA kr hb8).symm
    have hb80 : H b8 = none := by
     cases hx:H b8 with
     | none=>rfl
     | some o=>rw [hle0 _ _ hx] at hb8; cases hb8
    have hPull : zIm H1 bm br (zW b) := by
     by_cases hd:b = [46]
     ·exact⟨false,b,b.length + 1,by rw [km]; simp [hd],kr,l2,by omega,by simp [zW,hd]⟩
     ·exact⟨true,b,b.length + 1,by rw [km]; simp [hd],kr,l2,by omega,by simp [zW,hd]⟩
    refine zAz H (fun xs => xs = (zW a).map (fun x => [S x])) (fun pre H' => H.le H' ∧ H' b4 = some (.row [.int .i64 0] 1 true) ∧ H' b5 = some (.row [.int .i64 0] 1 true) ∧ H' b8 = some (.row [.func (.func (E.fn 104)) #[] #[.pointer (some ⟨bm, 0, none⟩), .pointer (some ⟨br, 0, none⟩)]] 1 true) ∧
      zIm H' bm br ((zW b).drop pre.length)∧uC (zW a) (zW b)=uC ((zW a).drop pre.length) ((zW b).drop pre.length))
     (by simp only [go_sem,Nat.reduceEqDiff]) (by simp only [go_sem,Nat.reduceEqDiff,zGk]) (yRX hE H a l1) (by rintro xs rfl x hx; simp at hx; obtain⟨a,_,rfl⟩:=hx; rfl) ?_ (fun pre H' h=>h.1) ?_ ?_
    ·refine⟨zI hle0 hb80 _,by simp [yL,h84.symm,k4],by simp [yL,h85.symm,k5],by simp [yL],?_,rfl⟩
     exact hPull.congr (by simp [yL,h8m.symm]) (by simp [yL,h8r.symm])
    ·rintro pre x H' ⟨suf,hsuf⟩ ⟨hle,k4,k5,k8,hpl,hgo⟩
     obtain⟨hlt,rfl,hdrop⟩:=zOP hsuf
     rw [hdrop] at hgo
     generalize hy:(zW a).getD pre.length []=y at *
     simp only [k8,go_sem,Nat.reduceEqDiff,Nat.reduceBEq]
     refine wU ?_ ?_ (wE hE.e104 (yZA hE hmr hpl)) ?_
     ·simp only [go_sem,Nat.reduceEqDiff]
     ·simp only [go_sem]
     ·rintro v H2 ⟨hoth,hp2,rfl⟩
      have k4':H2 b4=some (.row [.int .i64 0] 1 true):=(hoth _ hmb4.symm hrb4.symm).trans k4
      have k5':H2 b5=some (.row [.int .i64 0] 1 true):=(hoth _ hmb5.symm hrb5.symm).trans k5
      have k8':=(hoth _ h8m h8r).trans k8
      have hle2 : H.le H2 := fun c o hc => by
       rw [hoth c (zAA hc hbm0) (zAA hc hbr0)]; exact hle c o hc
      cases hL:(zW b).drop pre.length with
      | nil =>
       rw [hL] at hgo
       simp only [zFg,h54,h54.symm,k4',k5',go_sem,Nat.reduceLT,Nat.reduceEqDiff,Nat.reduceBEq,Nat.reduceAdd,yL]
       refine⟨?_,zI (zI hle2 hb4 _) hb5 _⟩
       rw [hgo]; simp [uC]
      | cons x L' =>
       rw [hL] at hgo hp2
       simp only [zFg,h54,h54.symm,k4',k5',go_sem,Nat.reduceLT,Nat.reduceEqDiff,Nat.reduceBEq,Nat.reduceAdd,yL]
       refine zE _ ?_ (fun _=>⟨?_,yYQ hE y x⟩) ?_<;>simp only [h54,h54.symm,k4',k5',go_sem,Nat.reduceEqDiff,Nat.reduceBEq,zC,yL]
       have hL2 : L' = (zW b).drop (pre.length + 1) := by
        have:=congrArg (List.drop 1) hL
        simpa [List.drop_drop] using this.symm
       simp only [uC] at hgo
       refine⟨fun hc=>⟨?_,zI (zI hle2 hb4 _) hb5 _⟩,fun hc=>⟨hle2,k8',?_,?_⟩⟩
       ·have:wI y x≠0:=by simpa using hc
        rw [hgo]; simp [this]
       ·simpa [hL2] using hp2
       ·have:wI y x=0:=by simpa using hc
        rw [hgo]; simp [this,hL2]
    ·rintro xs H' rfl ⟨hle,k4,k5,k8,hpl,hgo⟩
     simp only [h54,h54.symm,k4,k5,go_sem,Nat.reduceEqDiff,yL]
     refine⟨?_,zI (zI hle hb4 _) hb5 _⟩
     rw [hgo]; simp [uC]
end Go.SL
/- Contracts of package record, and of the search. -/
namespace Go.SL
open Go
variable {E:Env} {H:Hp}
theorem yVj (hE : zV E) (a : Bs) (s : Int) (b : Bs) (t : Int) : yD E 81 [S a, .int .i64 s, S b, .int .i64 t] H (.int .i64 (vO a s b t)) := by
 refine Fn.of_vks hE.c81 (by simp [yFE]) ?_
 simp only [yFE,yPI,yHV,yOr,yNu,yMh]
 simp only [go_sem,Nat.reduceEqDiff,Nat.reduceBEq,Nat.reduceAdd,reduceCtorEq,zC]
 refine⟨fun h=>?_,fun h=>?_⟩
 ·refine zE _ ?_ (fun _=>⟨?_,yVJ hE a b⟩) ?_<;>simp only [go_sem,Nat.reduceLT,Nat.reduceEqDiff,Nat.reduceBEq,Nat.reduceAdd,reduceCtorEq]
  simp at h; simp [vO,h]
 ·refine zE _ ?_ (fun _=>⟨?_,zPi hE s t⟩) ?_<;>simp only [go_sem,Nat.reduceEqDiff,Nat.reduceBEq,reduceCtorEq]
  simp at h; simp [vO,h]
theorem yVO (hE : zV E) (a : Bs) (s l : Int) (d g : Value) (b : Bs) (t : Int) : yD E 96 [.agg #[S a, .int .i64 s, .int .i64 l, d, g], .agg #[S b, .int .i64 t]] H (.int .i64 (vO a s b t)) := by
 refine Fn.of_vks hE.c96 (by simp [yGI]) ?_
 simp only [yGI,yOR,yPb]
 simp only [go_sem,Nat.reduceLeDiff,Nat.reduceEqDiff,Nat.reduceBEq,Nat.reduceAdd,reduceCtorEq]
 refine zE _ ?_ (fun _=>⟨?_,yVj hE a s b t⟩) ?_<;>simp only [go_sem,Nat.reduceEqDiff,Nat.reduceBEq]
def orI : List Int → Int
 | []=>0
 | x :: r=>if x≠0 then x else orI r
theorem yZR (hE : zV E) {v : Value} {ns : List Int} (h : xE H v ns) (hn : ns.length ≤ 1099511627776) : yD E 93 [v] H (.int .i64 (orI ns)) := by
 obtain⟨a,cap,rfl,hs,hr⟩:=h
 refine Fn.of_vks hE.c93 (by simp [yGj]) ?_
 simp only [yGj,yHu,yKh,yIy,yPx,yID,yNN,yMb,yNg,yNL]
 simp only [go_sem,Nat.reduceEqDiff,Nat.reduceBEq,reduceCtorEq]
 refine zS ns.length 0 (fun k=>[(3,⟨true,.val (.int .i64 0)⟩),(6,⟨true,.val (.slice a ns.length cap)⟩),(7,⟨true,.val (.int .i64 ns.length)⟩),(8,⟨true,.val (.int .i64 k)⟩)]) (fun k=>orI ns=orI (ns.drop k)) (Nat.zero_le _) rfl rfl ?_
 intro k hk hP
 simp only [go_sem,Nat.reduceEqDiff,Nat.reduceBEq,zC]
 refine⟨fun h=>?_,fun h=>?_⟩
 ·have hlt:k < ns.length:=by simpa using h
  have hr':=hr (by omega)
  obtain⟨b,o,vs,c,wr,ha,hb,hi⟩:=hr'
  subst ha
  have hi':=hi k hlt
  have hi1:=hi'.1
  have hv:=zH hi'.2 (j:=0) (by omega)
  simp only [Nat.add_zero] at hv
  simp only [hb,go_sem,Nat.reduceEqDiff,Nat.reduceBEq,Nat.mul_one]
  simp only [Nat.mul_one] at hi1 hv
  simp only [hv,wH,go_sem]
  have hd : ns.drop k = ns.getD k 0 :: ns.drop (k + 1) := by
   rw [List.drop_eq_getElem_cons hlt,List.getD_eq_getElem?_getD,List.getElem?_eq_getElem hlt]; rfl
  rw [hd] at hP
  simp only [orI] at hP
  refine⟨⟨by omega,by omega⟩,hi1,fun hc=>?_,fun hc=>⟨hlt,zQ (by omega),?_⟩⟩
  ·simp at hc; simp [hP,hc]
  ·simp at hc; simp [hP,hc]
 ·have:ns.drop k = []:=List.drop_eq_nil_of_le (by simp at h; omega)
  rw [hP,this]; rfl
theorem xAn (hE : zV E) (a b : xN) : yD E 78 [.agg #[S a.text, .int .i64 a.n, .int .i64 a.m], .agg #[S b.text, .int .i64 b.n, .int .i64 b.m]] H (.int .i64 (zBq a b)) := by
 refine Fn.of_vks hE.c78 (by simp [yFV]) ?_
 simp only [yFV,yJb,yNK]
 simp only [go_sem,Nat.reduceLeDiff,Nat.reduceEqDiff,Nat.reduceBEq,Nat.reduceAdd,reduceCtorEq]
 refine yV _ ?_ (fun _=>⟨?_,xAe hE a.text b.text⟩) ?_ ?_<;>simp only [go_sem,Nat.reduceLeDiff,Nat.reduceEqDiff,Nat.reduceBEq,Nat.reduceAdd]
 refine yV _ ?_ (fun _=>⟨?_,zPi hE a.n b.n⟩) ?_ ?_<;>simp only [go_sem,Nat.reduceLeDiff,Nat.reduceEqDiff,Nat.reduceBEq,Nat.reduceAdd]
 refine yV _ ?_ (fun _=>⟨?_,zPi hE a.m b.m⟩) ?_ ?_<;>simp only [zCD,go_sem,Nat.reduceLeDiff,Nat.reduceEqDiff,Nat.reduceBEq,Nat.reduceAdd]
 intro b0 hb0
 have hI : xE (H.put b0 (.row [.int .i64 (wI a.text b.text), .int .i64 (vE a.n b.n), .int .i64 (vE a.m b.m)] 3 true)) (.slice (some ⟨b0, 0, none⟩) 3 3) [wI a.text b.text, vE a.n b.n, vE a.m b.m] := by
  refine⟨_,_,rfl,(fun h=>by cases h),fun _=>⟨b0,0,_,_,_,rfl,Hp.put_same ..,?_⟩⟩
  intro i hi
  match i,hi with
  | 0,_=>exact⟨by simp,rfl⟩
  | 1,_=>exact⟨by simp,rfl⟩
  | 2,_=>exact⟨by simp,rfl⟩
 refine yV _ ?_ (fun _=>⟨?_,yZR hE hI (by simp)⟩) ?_ ?_<;>simp only [go_sem,Nat.reduceLeDiff,Nat.reduceEqDiff,Nat.reduceBEq,Nat.reduceAdd]
 refine⟨?_,zM hb0 _⟩
 simp only [orI,zBq]
 split<;>try rfl
 split<;>try rfl
 split<;>simp_all
theorem xAT (hE : zV E) (r : zKL) (d : xN) : yD E 77 [.agg #[.int .i64 r.text, .int .i64 r.leastN, .int .i64 r.mostN, .int .i64 r.leastM, .int .i64 r.mostM, .bool r.even, .bool r.single, .bool r.wild], .agg #[S d.text, .int .i64 d.n, .int .i64 d.m]] H (.bool (wB r d)) := by
 refine Fn.of_vks hE.c77 (by simp [yGv]) ?_
 simp only [yGv,yHX,yOc,yJK,yOe,yJU,yPu,yIS,yKy,yOf,yMl,zZU]
 simp only [go_sem,Nat.reduceLeDiff,Nat.reduceEqDiff,Nat.reduceBEq,Nat.reduceAdd,reduceCtorEq]
 refine zE _ ?_ (fun _=>⟨?_,zJH hE d.n r.leastN r.mostN⟩) ?_<;>simp only [go_sem,Nat.reduceLeDiff,Nat.reduceEqDiff,Nat.reduceBEq,Nat.reduceAdd]
 refine zE _ ?_ (fun hg=>⟨?_,zJH hE d.m r.leastM r.mostM⟩) ?_<;>simp only [go_sem,Nat.reduceLeDiff,Nat.reduceEqDiff,Nat.reduceBEq,Nat.reduceAdd,Int.reduceEq,zC]
 ·simp only [go_sem,Nat.reduceEqDiff] at hg ⊢; exact⟨hg,hg,hg⟩
 ·refine⟨fun h=>⟨h,fun h2=>by simp [h,h2]⟩,fun h=>?_,fun h=>?_⟩
  ·have h':(!(!zZ d.n r.leastN r.mostN || !zZ d.m r.leastM r.mostM || (r.even && d.n.tmod 2 != 0)))=false:=by rw [Bool.not_eq_false']; exact h
   simp only [wB,h',Bool.false_and]
  ·have h' : wB r d = uV r.text d.text := by
    have:(!(!zZ d.n r.leastN r.mostN || !zZ d.m r.leastM r.mostM || (r.even && d.n.tmod 2 != 0)))=true:=by rw [Bool.not_eq_true']; exact h
    simp only [wB,this,Bool.true_and]
   rw [h']
   refine⟨fun h1=>?_,fun h1=>⟨fun h2=>?_,fun h2=>⟨fun h3=>?_,fun h3=>?_⟩⟩⟩
   ·refine zE _ ?_ (fun _=>⟨?_,zGR hE d.text⟩) ?_<;>simp only [go_sem,Nat.reduceLeDiff,Nat.reduceEqDiff,Nat.reduceBEq,Nat.reduceAdd]
    refine zE _ ?_ (fun hg=>⟨?_,yWj hE d.text⟩) ?_<;>simp only [go_sem,Nat.reduceEqDiff,Nat.reduceBEq]
    ·simp only [go_sem,Nat.reduceEqDiff] at hg ⊢; exact hg
    ·simp at h1; simp [uV,h1]
   ·refine zE _ ?_ (fun _=>⟨?_,zGR hE d.text⟩) ?_<;>simp only [go_sem,Nat.reduceEqDiff,Nat.reduceBEq]
    simp at h2; simp [uV,h2]
   ·refine zE _ ?_ (fun _=>⟨?_,xAL hE d.text⟩) ?_<;>simp only [go_sem,Nat.reduceEqDiff,Nat.reduceBEq]
    simp at h3; simp [uV,h3]
   ·simp at h1 h2 h3; simp [uV,h1,h2,h3]
end Go.SL
/- Contract of record.Valid. -/
namespace Go.SL
open Go
variable {E:Env} {H:Hp}
theorem ySq (t : Int) (h : zZ t 1 8 = true) : t.toNat * 8 + 8 ≤ zBT.length ∧ (zBT.drop (t.toNat * 8)).take 8 = zDf (rules.getD t.toNat default) ∧ 0 ≤ t ∧ t < 9 := by
 simp only [zZ,Bool.and_eq_true,decide_eq_true_eq] at h
 obtain⟨n,rfl⟩:∃ n:Nat,t=n:=⟨t.toNat,by omega⟩
 simp only [Int.toNat_natCast]
 have hn:n=1∨n=2∨n=3∨n=4∨n=5∨n=6∨n=7∨n=8:=by omega
 rcases hn with rfl | rfl | rfl | rfl | rfl | rfl | rfl | rfl<;>exact⟨by decide,rfl,by omega,by omega⟩
def zEe (ty:Int) (ds:List xN) (i:Nat):Bool:=wB (rules.getD ty.toNat default) (ds.getD i default) && !(decide (0 < i) && decide (zBq (ds.getD (i - 1) default) (ds.getD i default)≥0))
theorem yWe (hE : zV E) (hB : qT E H) (name : Bs) (ty life : Int) {v : Value} {ds : List xN} (hd : xC H v ds) : yD E 54 [.agg #[S name, .int .i64 ty, .int .i64 life, v]] H (.bool (wQ name ty life ds)) := by
 obtain⟨a,cap,rfl,hs,hr⟩:=hd
 obtain⟨gc,gw,hg⟩:=hB
 refine Fn.of_vks hE.c54 (by simp [yFO]) ?_
 simp only [yFO,yOB,yNd,yLQ,yJS,yOg,yNI,yPB,yQh,yOv,yJA,zUO,zYA,yCy,yCn,zUv]
 simp only [go_sem,Nat.reduceLeDiff,Nat.reduceEqDiff,Nat.reduceBEq,Nat.reduceAdd,reduceCtorEq]
 refine zE _ ?_ (fun _=>⟨?_,zGR hE name⟩) ?_<;>simp only [go_sem,Nat.reduceLeDiff,Nat.reduceEqDiff,Nat.reduceBEq,Nat.reduceAdd]
 refine zE _ ?_ (fun hg=>⟨?_,zJH hE ty 1 8⟩) ?_<;>simp only [go_sem,Nat.reduceLeDiff,Nat.reduceEqDiff,Nat.reduceBEq,Nat.reduceAdd]
 ·simp only [go_sem,Nat.reduceEqDiff] at hg ⊢; exact hg
 refine zE _ ?_ (fun hg=>⟨?_,zJH hE life 0 100000⟩) ?_<;>simp only [go_sem,Nat.reduceEqDiff,Nat.reduceBEq,Nat.reduceAdd]
 ·simp only [go_sem,Nat.reduceEqDiff] at hg ⊢; exact hg
 refine⟨fun h=>?_,fun h=>?_⟩
 ·have : (zK name && zZ ty 1 8 && zZ life 0 100000) = false := by
   clear hr hs; cases hx:zK name<;>cases hy:zZ ty 1 8<;>cases hz:zZ life 0 100000<;>simp_all
  simp only [wQ,this,Bool.false_and]
 have h0 : zK name = true ∧ zZ ty 1 8 = true ∧ zZ life 0 100000 = true := by
  clear hr hs; cases hx:zK name<;>cases hy:zZ ty 1 8<;>cases hz:zZ life 0 100000<;>simp_all
 refine zE _ ?_ (fun _=>⟨?_,zJH hE (ds.length:Int) 1 8⟩) ?_<;>simp only [go_sem,Nat.reduceLeDiff,Nat.reduceEqDiff,Nat.reduceBEq,Nat.reduceAdd,zC]
 have hrl:=ySq ty h0.2.1
 have hr1:=hrl.1
 have hr2:=hrl.2.1
 have hr3:=hrl.2.2.1
 have hr4:=hrl.2.2.2
 clear hrl
 simp only [hg,hr2,zDf,go_sem,Nat.reduceLeDiff,Nat.reduceEqDiff,Nat.reduceBEq,Nat.reduceAdd]
 refine⟨fun h1=>?_,fun h1=>⟨⟨hr3,hr4⟩,hr1,?_⟩⟩
 ·have:zZ ds.length 1 8=false:=by simpa using h1
  simp only [wQ,this,Bool.and_false,Bool.false_and]
 have hlen:ds.length≤8:=by simp [zZ] at h1; omega
 refine zE _ ?_ (fun hg=>⟨?_,yWj hE name⟩) ?_<;>simp only [go_sem,Nat.reduceEqDiff,Nat.reduceBEq,Nat.reduceAdd]
 ·simp only [go_sem,Nat.reduceEqDiff] at hg ⊢; exact hg
 obtain⟨ru,hru⟩:∃ ru,ru=rules.getD ty.toNat default:=⟨_,rfl⟩
 rw [← hru]
 have hrec0 : wQ name ty life ds = (!(ru.single && (ds.length : Int) != 1) && !(pH name && !ru.wild) && zO (zEe ty ds) ds.length) := by
  have e:((ds.length:Int) != 1)=(ds.length != 1):=by rw [Bool.eq_iff_iff]; simp; omega
  simp only [wQ,h0.1,h0.2.1,h0.2.2,h1,← hru,Bool.true_and,e]
  rw [hru]; rfl
 refine⟨?_,fun h2=>?_,fun h2=>?_⟩
 ·exact fun hx=>⟨hx,fun hy=>by simp only [hx,hy,Bool.not_false,Bool.and_self]⟩
 ·have:(!(ru.single && (ds.length:Int) != 1) && !(pH name && !ru.wild))=false:=by rw [← Bool.not_or,h2]; rfl
  rw [hrec0,this,Bool.false_and]
 ·have hrec : wQ name ty life ds = zO (zEe ty ds) ds.length := by
   rw [hrec0,← Bool.not_or,h2]; rfl
  rw [hrec]
  refine zS ds.length 0 (fun k=>[(1,⟨true,.box [S name,.int .i64 ty,.int .i64 life,.slice a ds.length cap]⟩),(3,⟨true,.box (zDf ru)⟩),(50,⟨true,.val (.slice a ds.length cap)⟩),(51,⟨true,.val (.int .i64 ds.length)⟩),(52,⟨true,.val (.int .i64 k)⟩)]) (fun k=>zO (zEe ty ds) k=true) (Nat.zero_le _) rfl rfl ?_
  intro k hk hP
  simp only [zDf,go_sem,Nat.reduceEqDiff,Nat.reduceBEq,Nat.reduceAdd,zC]
  refine⟨fun h3=>?_,fun h3=>?_⟩
  ·have hlt:k < ds.length:=by simpa using h3
   have hr':=hr (by omega)
   obtain⟨b,o,vs,c,wr,ha,hb,hi⟩:=hr'
   subst ha
   have hi1:=(hi k hlt).1
   have hi2:=(hi k hlt).2
   simp only [hb,hi2,jD,go_sem,Nat.reduceEqDiff,Nat.reduceBEq,Nat.reduceAdd]
   refine⟨⟨by omega,by omega⟩,hi1,?_⟩
   refine yV _ ?_ (fun _=>⟨?_,xAT hE ru (ds.getD k default)⟩) ?_ ?_<;>simp only [go_sem,Nat.reduceEqDiff,Nat.reduceBEq,Nat.reduceAdd,zC]
   have hF:zEe ty ds k=false→zO (zEe ty ds) ds.length=false:=fun h=>zY hlt h
   have hS:zEe ty ds k=true→zO (zEe ty ds) (k + 1)=true:=fun h=>yJ hP h
   have hdk:zEe ty ds k=(wB ru (ds.getD k default) && !(decide (0 < k) && decide (zBq (ds.getD (k - 1) default) (ds.getD k default)≥0))):=by rw [hru]; rfl
   by_cases hk0:k=0
   ·have e0:decide ((k:Int) > 0)=false:=by simp; omega
    have e0':decide (0 < k)=false:=by simp; omega
    simp only [e0',Bool.false_and,Bool.not_false,Bool.and_true] at hdk
    simp only [hb,e0,go_sem]
    refine yV (.int .i64 0) ?_ (fun hg=>absurd hg ?_) ?_ ?_<;>simp only [hb,e0,go_sem,Nat.reduceEqDiff,Nat.reduceBEq,Nat.reduceAdd,zC]
    ·simp
    ·exact⟨fun hx=>(hF (hdk.trans hx)).symm,fun hx=>⟨hlt,zQ (by omega),hS (hdk.trans hx)⟩⟩
   ·have e0:decide ((k:Int) > 0)=true:=by simp; omega
    have e0':decide (0 < k)=true:=by simp; omega
    simp only [e0',Bool.true_and] at hdk
    have e1:IntKind.i64.wrap ((k:Int) - 1)=((k - 1:Nat):Int):=by rw [yX]<;>omega
    have hj1:=(hi (k - 1) (by omega)).1
    have hj2:=(hi (k - 1) (by omega)).2
    simp only [e0,e1,toNat_ofNat',hb,hj2,jD,go_sem]
    refine⟨fun hx=>⟨hx,hx,by omega,by omega⟩,fun hx=>⟨hx,hj1⟩,?_⟩
    refine yV _ ?_ (fun hg=>⟨?_,xAn hE (ds.getD (k - 1) default) (ds.getD k default)⟩) ?_ ?_<;>simp only [e0,go_sem,Nat.reduceEqDiff,Nat.reduceBEq,Nat.reduceAdd,zC]
    ·simp only [go_sem,Nat.reduceEqDiff] at hg ⊢; exact⟨hg,hg⟩
    ·rw [yWc,← hdk]
     exact⟨fun hx=>⟨hx,hx⟩,fun hx=>(hF (by simpa using hx)).symm,fun hx=>⟨hlt,zQ (by omega),hS (by simpa using hx)⟩⟩
  ·have:k=ds.length:=by simp at h3; omega
   subst this
   exact hP.symm
theorem xBj (hE : zV E) (nm : Bs) (t : Int) {v : Value} {ss : List zF} (hss : xL H v ss) (hn : ss.length ≤ 1099511627776) : yD E 97 [v, .agg #[S nm, .int .i64 t], .func (.func (E.fn 96)) #[] #[]] H (.tuple #[.int .i64 (zEx ss nm t), .bool (zAe ss nm t)]) := by
 obtain⟨d,g,⟨a,cap,rfl,hs,hr⟩,hdeep⟩:=hss
 refine Fn.of_vks hE.c97 (by simp [yGp]) ?_
 simp only [yGp,yPm,yMt,yNJ,yJJ,yIJ,yHS,yPj,yIe,yLJ]
 simp only [go_sem,Nat.reduceEqDiff,Nat.reduceBEq,Nat.reduceAdd,reduceCtorEq]
 refine pX (fun m fr' H' => ∃ i j f, fr' = [(0, ⟨true, .val (.slice a ss.length cap)⟩), (2, ⟨true, .val (.func (.func (E.fn 96)) #[] #[])⟩), (4, ⟨true, .box [S nm, .int .i64 t]⟩), (8, ⟨true, .val (.int .i64 ss.length)⟩), (9, ⟨true, .val (.int .i64 ((i : Nat) : Int))⟩), (10, ⟨true, .val (.int .i64 ((j : Nat) : Int))⟩)] ∧
   H'=H∧i≤j∧j≤ss.length∧m=j - i∧j - i < f∧zEx ss nm t=zGC (fun h=>vO (yG ss h).name (yG ss h).type nm t) f i j) (ss.length - 0) ⟨0,ss.length,ss.length + 1,rfl,rfl,Nat.zero_le _,Nat.le_refl _,rfl,by omega,rfl⟩ ?_
 rintro m fr' H' ⟨i,j,f,rfl,rfl,hij,hj,rfl,hf,hfind⟩
 obtain⟨f,rfl⟩:∃ f',f=f' + 1:=⟨f - 1,by omega⟩
 simp only [zGC] at hfind
 by_cases hlt:i < j
 ·simp only [hlt,if_true] at hfind
  have hd:decide ((i:Int) < (j:Int))=true:=by simpa using hlt
  have e1:IntKind.i64.wrap ((i:Int) + (j:Int))=((i + j:Nat):Int):=by rw [yX]<;>omega
  have e2 : IntKind.i64.wrap ((IntKind.u64.wrap ((i + j : Nat) : Int)).fdiv (2 ^ min 1 64)) = (((i + j) / 2 : Nat) : Int) := by
   have : IntKind.u64.wrap ((i + j : Nat) : Int) = ((i + j : Nat) : Int) := by
    simp only [IntKind.wrap,IntKind.bits,IntKind.signed,Bool.false_and]; simp; omega
   rw [this]
   have h2:(2:Int) ^ min 1 64=2:=by decide
   rw [h2,Int.fdiv_eq_ediv_of_nonneg _ (by omega),yX]<;>omega
  have hr':=hr (by omega)
  obtain⟨b,o,vs,c,wr,ha,hb,hi⟩:=hr'
  subst ha
  obtain⟨h,hh⟩:∃ h,h=(i + j) / 2:=⟨_,rfl⟩
  rw [← hh] at e2 hfind
  have hhn:h < ss.length:=by omega
  have hi1:=(hi h hhn).1
  have hi2:=(hi h hhn).2
  simp only [hd,e1,e2,hb,hi2,xA,go_sem,Nat.reduceEqDiff,Nat.reduceBEq,Nat.reduceAdd,reduceCtorEq,Int.reduceToNat,Int.reduceLT,zC]
  refine⟨⟨by omega,by omega⟩,hi1,?_⟩
  refine yGB ?_ ?_ (wE hE.e96 (Fn.same (yVO hE (yG ss h).name (yG ss h).type (yG ss h).life (d h) (g h) nm t))) ?_
  ·simp only [go_sem,Nat.reduceEqDiff,reduceCtorEq]
  ·simp only [go_sem,Nat.reduceEqDiff,reduceCtorEq]
  ·rintro v H' ⟨rfl,rfl⟩
   simp only [go_sem,Nat.reduceEqDiff,Nat.reduceBEq,Nat.reduceAdd,reduceCtorEq,zC]
   refine⟨fun hc=>?_,fun hc=>?_⟩
   ·have hc':vO (yG ss h).name (yG ss h).type nm t < 0:=by simpa using hc
    rw [if_pos hc'] at hfind
    exact⟨j - (h + 1),by omega,h + 1,j,f,⟨zQ (by omega),rfl⟩,by omega,hj,rfl,by omega,hfind⟩
   ·have hc':¬ vO (yG ss h).name (yG ss h).type nm t < 0:=by simpa using hc
    rw [if_neg hc'] at hfind
    exact⟨h - i,by omega,i,h,f,⟨rfl,rfl⟩,by omega,by omega,rfl,by omega,hfind⟩
 ·simp only [hlt,if_false] at hfind
  have hd:decide ((i:Int) < (j:Int))=false:=by simpa using hlt
  have hij:i=j:=by omega
  subst hij
  by_cases hin:i < ss.length
  ·have hr':=hr (by omega)
   obtain⟨b,o,vs,c,wr,ha,hb,hi⟩:=hr'
   subst ha
   have hd2:decide ((i:Int) < (ss.length:Int))=true:=by simpa using hin
   have hi1:=(hi i hin).1
   have hi2:=(hi i hin).2
   simp only [hd,hd2,hb,hi2,xA,go_sem,Nat.reduceEqDiff,Nat.reduceBEq,Nat.reduceAdd,reduceCtorEq,Int.reduceToNat,Int.reduceLT,zC]
   refine⟨⟨by omega,by omega⟩,hi1,?_⟩
   refine uX (by intro x h; cases h) (by intro f a h; cases h) ?_ (fun _=>⟨?_,?_,_,wE hE.e96 (Fn.same (yVO hE (yG ss i).name (yG ss i).type (yG ss i).life (d i) (g i) nm t)),?_⟩) (fun hg=>?_)
   ·simp only [go_sem,Nat.reduceEqDiff,reduceCtorEq]
   ·simp only [go_sem,Nat.reduceEqDiff,reduceCtorEq]
   ·simp only [go_sem,Nat.reduceEqDiff,reduceCtorEq]
   ·rintro v H'' ⟨rfl,rfl⟩
    simp only [go_sem,Nat.reduceEqDiff,Nat.reduceBEq,Nat.reduceAdd,reduceCtorEq,zC]
    simp [zAe,hfind,hin]
   ·simp only [go_sem,Nat.reduceEqDiff,reduceCtorEq] at hg
  ·have hd2:decide ((i:Int) < (ss.length:Int))=false:=by simpa using hin
   have fin:∀ {A:Prop},A→(A↔True):=fun h=>⟨fun _=>trivial,fun _=>h⟩
   have hfb:zAe ss nm t=false:=by simp [zAe,hfind,hin]
   obtain⟨ho,hho⟩:∃ o,(match a with | none=>none | some p=>H' p.block)=o:=⟨_,rfl⟩
   rcases a with _ | p
   ·simp only [undef,hd,hd2,go_sem,Nat.reduceEqDiff,Nat.reduceBEq,Nat.reduceAdd,reduceCtorEq,Int.reduceToNat,Int.reduceLT,zC]
    refine uX (by intro x h; cases h) (by intro f a h; cases h) ?_ (fun hg=>?_) (fun hg=>?_)
    ·simp only [go_sem,Nat.reduceEqDiff,reduceCtorEq]
    ·simp only [go_sem,Nat.reduceEqDiff,reduceCtorEq] at hg
    ·simp only [undef,hfind,hfb,go_sem,Nat.reduceEqDiff,Nat.reduceBEq,Nat.reduceAdd,reduceCtorEq,zC]
   ·simp only at hho
    rcases ho with _ | (⟨vs,c,w⟩ | ob)
    all_goals
     simp only [undef,hd,hd2,hho,go_sem,Nat.reduceEqDiff,Nat.reduceBEq,Nat.reduceAdd,reduceCtorEq,Int.reduceToNat,Int.reduceLT,zC]
     refine uX (by intro x h; cases h) (by intro f a h; cases h) ?_ (fun hg=>?_) (fun hg=>?_)
     ·simp only [go_sem,Nat.reduceEqDiff,reduceCtorEq]
     ·simp only [go_sem,Nat.reduceEqDiff,reduceCtorEq] at hg
     ·simp only [undef,hho,hfind,hfb,go_sem,Nat.reduceEqDiff,Nat.reduceBEq,Nat.reduceAdd,reduceCtorEq,zC]
theorem yVR (hE : zV E) (nm : Bs) (t : Int) (apex : Bs) {v : Value} {ss : List zF} (hss : xL H v ss) (hn : ss.length ≤ 1099511627776) : yD E 82 [.agg #[S apex, v], .agg #[S nm, .int .i64 t]] H (.tuple #[.int .i64 (zEx ss nm t), .bool (zAe ss nm t)]) := by
 refine Fn.of_vks hE.c82 (by simp [yGW]) ?_
 simp only [yGW,yNA,yLC]
 simp only [go_sem,Nat.reduceEqDiff,Nat.reduceBEq,Nat.reduceAdd,reduceCtorEq]
 refine zE _ ?_ (fun _=>⟨?_,xBj hE nm t hss hn⟩) ?_<;>simp only [go_sem,Nat.reduceLT,Nat.reduceEqDiff,Nat.reduceBEq,Nat.reduceAdd]
end Go.SL
