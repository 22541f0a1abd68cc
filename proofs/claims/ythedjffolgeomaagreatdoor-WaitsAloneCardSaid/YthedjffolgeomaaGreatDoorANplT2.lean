/- Contracts of package name. -/
import Derived.Test.YthedjffolgeomaaGreatDoorANplQ
import Derived.Test.YthedjffolgeomaaGreatDoorANplO
namespace Go.SL
open Go
variable {E:Env} {H:Hp}
def nx : Option Nat → Nat
 | none=>0
 | some i=>i + 1
theorem yRH (hE : zX E) (G : Hp) (l : Bs) (hl : l.length ≤ 60) : Iter E (.func (.func (E.fn 65)) #[S l] #[]) G (fun xs => xs = (zU l).map (fun x => [S x])) := by
 intro y Inv Stop H hG hy h0
 refine yP hE.e65 ?_
 show Fn E.P (E.fn 65) [S l,y] H _
 refine Fn.of_vks hE.c65 (by simp [yHj]) ?_
 simp only [yHj,yLq,yOB,yKO,yLo,yJx]
 simp only [go_sem,Nat.reduceEqDiff,Nat.reduceBEq,reduceCtorEq,zC]
 refine⟨fun h=>?_,fun h=>?_⟩
 ·have:l = [46]:=by simpa using h
  exact .inl ⟨_,rfl,by simpa [zU,this] using h0⟩
 ·have hne:l≠[46]:=by simpa using h
  refine zIs (fun m fr' H'=>∃ rest pre,fr' = [(1,⟨true,.val y⟩),(4,⟨true,.val (S rest)⟩)]∧rest.length + 1≤m∧rest.length≤60∧zU l=pre ++ vA m rest∧Inv (pre.map (fun x=>[S x])) H') (l.length + 1) ⟨l,[],rfl,Nat.le_refl _,hl,by simp [zU,hne],h0⟩ ?_
  rintro m fr' H' ⟨rest,pre,rfl,hm,hr,hlab,hinv⟩
  simp only [go_sem,Nat.reduceEqDiff,Nat.reduceBEq]
  refine zE _ ?_ (fun _=>⟨?_,yVz hE rest hr⟩) ?_<;>simp only [go_sem,Nat.reduceEqDiff,Nat.reduceBEq,zC]
  obtain⟨m,rfl⟩:∃ m',m=m' + 1:=⟨m - 1,by omega⟩
  have hlb : vA (m + 1) rest = rest.drop (nx (lastIx 46 rest)) :: (match lastIx 46 rest with | none => [] | some i => vA m (rest.take i)) := by
   simp only [vA]
   cases lastIx 46 rest<;>simp [nx]
  have hnx : nx (lastIx 46 rest) ≤ rest.length := by
   cases hx:lastIx 46 rest with
   | none=>simp [nx]
   | some i=>have:=uV hx; simp [nx]; omega
  have e1 : IntKind.i64.wrap (ixI (lastIx 46 rest) + 1) = ((nx (lastIx 46 rest) : Nat) : Int) := by
   cases hx:lastIx 46 rest with
   | none=>rw [yZ]<;>simp [ixI,nx]
   | some i=>have:=uV hx; simp only [ixI,nx]; rw [yZ]<;>omega
  have e2:List.take (rest.length - nx (lastIx 46 rest)) (rest.drop (nx (lastIx 46 rest)))=rest.drop (nx (lastIx 46 rest)):=List.take_of_length_le (by simp)
  rw [hlb] at hlab
  simp only [e1,toNat_ofNat',e2]
  refine⟨⟨by omega,by omega⟩,?_⟩
  refine xA ?_ ?_ (hy (pre.map (fun x=>[S x])) [S (rest.drop (nx (lastIx 46 rest)))] H' ⟨(match lastIx 46 rest with | none=>[] | some i=>vA m (rest.take i)).map (fun x=>[S x]),by simp [hlab]⟩ hinv) ?_
  ·simp only [go_sem,Nat.reduceEqDiff]
  ·simp only [go_sem,Nat.reduceEqDiff]
  ·rintro v H'' (⟨rfl,hi⟩ | ⟨rfl,hs⟩)
   ·simp only [go_sem,Nat.reduceEqDiff,Nat.reduceBEq,zC]
    refine⟨fun h=>?_,fun h=>?_⟩
    ·cases hx:lastIx 46 rest with
     | none =>
      refine .inl ⟨_,rfl,?_⟩
      rw [hlab,hx]
      rw [hx] at hi
      simpa using hi
     | some i=>exact absurd h (by simp [hx,ixI])
    ·cases hx:lastIx 46 rest with
     | none=>rw [hx] at h; simp [ixI] at h
     | some i =>
      have hlt:=uV hx
      rw [hx] at hlab hi
      simp only [ixI,toNat_ofNat']
      refine⟨⟨by omega,by omega⟩,m,by omega,rest.take i,pre ++ [rest.drop (i + 1)],rfl,by rw [List.length_take]; omega,by rw [List.length_take]; omega,?_,?_⟩
      ·rw [hlab]; simp [nx]
      ·simpa [nx] using hi
   ·simp only [go_sem,Nat.reduceEqDiff,Nat.reduceBEq,zC]
    exact .inr ⟨_,hs⟩
theorem zJW (hE : zX E) (l : Bs) : yB E 50 [S l] H (.bool (zL l)) := by
 refine Fn.of_vks hE.c50 (by simp [yHD]) ?_
 simp only [yHD,yKU,yKW,yIX,yOh,yKu,yJw,yNe,yIH,yPX,yPP,zXk,yDg,zZd,yBP,zTe]
 simp only [go_sem,Nat.reduceEqDiff,Nat.reduceBEq,reduceCtorEq,zC,yL]
 intro b2 hb2
 refine⟨fun h=>?_,fun h=>?_⟩
 ·refine⟨?_,zJ hb2 _⟩
  simp [zL,h]
 ·refine⟨fun h1=>⟨?_,zJ hb2 _⟩,fun h1=>?_⟩
  ·have:¬ l.length≤60:=by simp at h1; omega
   simp [zL,h,this]
  ·have h60:l.length≤60:=by simp at h1; omega
   have hnv:zL l=qE (zU l) 0 false:=by simp [zL,h,h60]
   intro b3 hb3 b4 hb4
   have h32:b3≠b2:=by rintro rfl; simp at hb3
   have h42:b4≠b2:=by rintro rfl; simp [h32.symm] at hb4
   have h43:b4≠b3:=by rintro rfl; simp at hb4
   simp only [h32,h42,h43,if_false] at hb3 hb4
   simp only [h43,h43.symm,go_sem]
   refine zAM H (fun xs => xs = (zU l).map (fun x => [S x])) (fun pre H' => H.le H' ∧ H' b2 = some (.row [.bool false] 1 true) ∧ H' b3 = some (.row [.int .i64 pre.length] 1 true) ∧ ∃ star, H' b4 = some (.row [.bool star] 1 true) ∧ pre.length ≤ 8 ∧ qE (zU l) 0 false = qE ((zU l).drop pre.length) pre.length star)
    (by simp only [go_sem,Nat.reduceEqDiff]) (by simp only [go_sem,Nat.reduceEqDiff,zFD]) (yRH hE H l h60) (by rintro xs rfl x hx; simp at hx; obtain⟨a,_,rfl⟩:=hx; rfl) ?_ (fun pre H' h=>h.1) ?_ ?_
   ·refine⟨?_,by simp [yL,h32.symm,h42.symm],by simp [yL,h43.symm],false,by simp [yL],by simp,rfl⟩
    exact zH (zH (zH (zH (zJ hb2 _) hb3 _) hb4 _) hb3 _) hb4 _
   ·rintro pre x H' ⟨suf,hsuf⟩ ⟨hle,k2,k3,star,k4,h8,hgo⟩
    obtain⟨hlt,rfl,hdrop⟩:=zRq hsuf
    rw [hdrop] at hgo
    generalize hy:(zU l).getD pre.length []=y at *
    simp only [h43,h32.symm,k2,k3,k4,go_sem,Nat.reduceEqDiff,Nat.reduceBEq,zC,yL]
    rw [zR (by omega)]
    have hLb2:H.le ((H'.put b3 (xI.row [Value.int IntKind.i64 ((pre.length + 1:Nat):Int)] 1 true)).put b4 (xI.row [Value.bool (y == [42])] 1 true)):=zH (zH hle hb3 _) hb4 _
    refine⟨fun hc=>⟨?_,zH (zH hle hb3 _) hb2 _⟩,fun hc=>?_⟩
    ·have:(star || decide (pre.length + 1 > 8))=true:=by cases star<;>simp at hc ⊢<;>omega
     rw [hnv,hgo]; simp only [qE,this,if_true]
    ·have hc':(star || decide (pre.length + 1 > 8))=false:=by cases star<;>simp at hc ⊢<;>omega
     simp only [qE,hc',Bool.false_eq_true,if_false] at hgo
     refine zE _ ?_ (fun hg=>⟨?_,xBy hE y⟩) ?_<;>simp only [h43,h32.symm,h42.symm,h43.symm,k2,k3,k4,go_sem,Nat.reduceEqDiff,Nat.reduceBEq,yL]
     ·simp only [go_sem,Nat.reduceEqDiff] at hg ⊢; exact hg
     ·refine⟨fun hb=>⟨?_,zH hLb2 hb2 _⟩,fun hb=>⟨hLb2,?_,?_⟩⟩
      ·rw [hnv,hgo]; simp only [hb,if_true]
      ·simp
      ·refine⟨_,rfl,?_,?_⟩
       ·simp at hc' ⊢; omega
       ·rw [hgo]; simp only [hb,Bool.false_eq_true,if_false]; simp
   ·rintro xs H' rfl ⟨hle,k2,k3,star,k4,h8,hgo⟩
    simp only [k2,go_sem,Nat.reduceEqDiff,yL]
    refine⟨?_,zH hle hb2 _⟩
    rw [hnv,hgo]; simp [qE]
theorem zFy (hE : zX E) (l : Bs) : yB E 45 [S l] H (.bool (zL l)) := by
 refine Fn.of_vks hE.c45 (by simp [yGM]) ?_
 simp only [yGM,yKe,yLY]
 simp only [go_sem,Nat.reduceBEq,reduceCtorEq]
 refine zE _ ?_ (fun _=>⟨?_,zJW hE l⟩) ?_<;>simp only [go_sem,Nat.reduceEqDiff,Nat.reduceBEq,reduceCtorEq]
theorem jT {l : Bs} (h : zL l = true) : l.length ≤ 60 := by
 simp only [zL,Bool.or_eq_true,beq_iff_eq,Bool.and_eq_true,decide_eq_true_eq] at h
 rcases h with rfl | h
 ·simp
 ·exact h.1
theorem yVx (hE : zX E) (s z : Bs) : yB E 80 [S s, S z] H (.tuple #[.bool (pY s z), .int .i64 (zGp s z)]) := by
 refine Fn.of_vks hE.c80 (by simp [yHS]) ?_
 simp only [yHS,yLB,yNC,yPu,yMS,yKP,yNl]
 simp only [go_sem,Nat.reduceEqDiff,Nat.reduceBEq,reduceCtorEq]
 refine zE _ ?_ (fun _=>⟨?_,zJW hE s⟩) ?_<;>simp only [go_sem,Nat.reduceEqDiff,Nat.reduceBEq,reduceCtorEq]
 refine zE _ ?_ (fun hg=>⟨?_,zJW hE z⟩) ?_<;>simp only [go_sem,Nat.reduceEqDiff,Nat.reduceBEq,reduceCtorEq,zC]
 ·simp only [go_sem,Nat.reduceEqDiff,reduceCtorEq] at hg ⊢; exact hg
 ·refine⟨fun h=>?_,fun h=>⟨fun h2=>?_,fun h2=>?_⟩⟩
  ·have:(zL s && zL z)=false:=by cases hs:zL s<;>simp_all
   simp [pY,zGp,this]
  ·have h':zL s=true∧zL z=true:=by simpa using h
   simp [pY,zGp,h',h2]
  ·have h':zL s=true∧zL z=true:=by simpa using h
   have l1:=jT h'.1
   have l2:=jT h'.2
   have e : z.length < s.length → IntKind.i64.wrap (IntKind.i64.wrap ((s.length : Int) - (z.length : Int)) - 1) = ((s.length - z.length - 1 : Nat) : Int) := fun h => by
    rw [yZ (n:=(s.length:Int) - (z.length:Int)) (by omega),yZ (by omega)]; omega
   refine zE _ ?_ (fun hg=>⟨?_,xBA hE s z (by omega)⟩) ?_<;>simp only [go_sem,Nat.reduceEqDiff,Nat.reduceBEq,reduceCtorEq,zC]
   ·simp only [go_sem,Nat.reduceEqDiff,reduceCtorEq] at hg ⊢; exact⟨hg,hg⟩
   ·have hu:pY s z=(decide (z.length < s.length) && zBR s z && bI s (s.length - z.length - 1) == 46):=by simp [pY,h',h2]
    have hc:decide ((s.length:Int) > (z.length:Int))=decide (z.length < s.length):=by simp
    have he:zGp s z=0:=by simp [zGp,h']
    simp only [hc,hu,he]
    by_cases hz:z.length < s.length
    ·have hlt:((s.length - z.length - 1:Nat):Int) < (s.length:Int):=by omega
     have hge:(0:Int)≤((s.length - z.length - 1:Nat):Int):=by omega
     simp only [hz,e hz,toNat_ofNat',decide_true,hlt,hge]
     simp
    ·simp [hz]
theorem yXb (hE : zX E) (l : Bs) : Fn E.P (E.fn 102) [S l] H (fun v H' => ∃ bm br, v = .func (.func (E.fn 104)) #[] #[.pointer (some ⟨bm, 0, none⟩), .pointer (some ⟨br, 0, none⟩)] ∧ H bm = none ∧ H br = none ∧ bm ≠ br ∧ H.le H' ∧ H' bm = some (.row [.bool (!(l == [46]))] 1 true) ∧ H' br = some (.row [S l] 1 true)) := by
 refine Fn.of_vks hE.c102 (by simp [zME]) ?_
 simp only [zME,yBH,zWc,zWG]
 simp only [go_sem,Nat.reduceEqDiff,Nat.reduceBEq,reduceCtorEq,zC,yL]
 intro b3 hb3 b4 hb4
 have h43:b4≠b3:=by rintro rfl; simp at hb4
 simp only [h43,if_false] at hb4
 simp only [h43,h43.symm,go_sem]
 refine⟨b4,b3,rfl,hb4,hb3,h43,zH (zH (zH (zJ hb3 _) hb4 _) hb3 _) hb4 _,?_,?_⟩
 ·simp []
 ·simp [h43.symm]
def zHU (H:Hp) (bm br:Nat) (L:List Bs):Prop:=∃ more rest m,H bm=some (.row [.bool more] 1 true)∧H br=some (.row [S rest] 1 true)∧rest.length≤60∧rest.length < m∧L=if more then vA m rest else []
def zEY : List Bs → Value
 | []=>.tuple #[S [],.bool false]
 | x :: _=>.tuple #[S x,.bool true]
theorem zHU.congr {H H' : Hp} {bm br : Nat} {L : List Bs} (h : zHU H bm br L) (h1 : H' bm = H bm) (h2 : H' br = H br) : zHU H' bm br L := by
 obtain⟨more,rest,m,k1,k2,k3⟩:=h
 exact⟨more,rest,m,h1.trans k1,h2.trans k2,k3⟩
theorem yWN (hE : zX E) {bm br : Nat} {L : List Bs} (hne : bm ≠ br) (hp : zHU H bm br L) : Fn E.P (E.fn 104) [.pointer (some ⟨bm, 0, none⟩), .pointer (some ⟨br, 0, none⟩)] H (fun v H' => (∀ c, c ≠ bm → c ≠ br → H' c = H c) ∧ zHU H' bm br L.tail ∧
  v=zEY L):=by
 obtain⟨more,rest,m,k1,k2,h60,hm,rfl⟩:=hp
 refine Fn.of_vks hE.c104 (by simp [zLB]) ?_
 simp only [zLB,yCT,zYV,yAu,yCM,zZw,zYJ,yCv,zZX,yBu]
 simp only [k1,k2,go_sem,Nat.reduceEqDiff,Nat.reduceBEq,reduceCtorEq]
 refine⟨fun h=>?_,fun h=>?_⟩
 ·subst h
  exact⟨⟨false,rest,m,k1,k2,h60,hm,by simp⟩,by simp [zEY]⟩
 ·subst h
  refine zE _ ?_ (fun _=>⟨?_,yVz hE rest h60⟩) ?_<;>simp only [k1,k2,go_sem,Nat.reduceEqDiff,Nat.reduceBEq,reduceCtorEq,zC,yL]
  obtain⟨m,rfl⟩:∃ m',m=m' + 1:=⟨m - 1,by omega⟩
  have hlb : vA (m + 1) rest = rest.drop (nx (lastIx 46 rest)) :: (match lastIx 46 rest with | none => [] | some i => vA m (rest.take i)) := by
   simp only [vA]
   cases lastIx 46 rest<;>simp [nx]
  have hnx : nx (lastIx 46 rest) ≤ rest.length := by
   cases hx:lastIx 46 rest with
   | none=>simp [nx]
   | some i=>have:=uV hx; simp [nx]; omega
  have e1 : IntKind.i64.wrap (ixI (lastIx 46 rest) + 1) = ((nx (lastIx 46 rest) : Nat) : Int) := by
   cases hx:lastIx 46 rest with
   | none=>rw [yZ]<;>simp [ixI,nx]
   | some i=>have:=uV hx; simp only [ixI,nx]; rw [yZ]<;>omega
  have e2:List.take (rest.length - nx (lastIx 46 rest)) (rest.drop (nx (lastIx 46 rest)))=rest.drop (nx (lastIx 46 rest)):=List.take_of_length_le (by simp)
  simp only [e1,toNat_ofNat',e2,hlb]
  refine⟨⟨by omega,by omega⟩,fun h=>?_,fun h=>?_⟩
  ·cases hx:lastIx 46 rest with
   | none =>
    refine⟨fun c h1 _=>by simp [h1],⟨false,rest,m + 1,by simp [yL],by simp [yL,hne.symm,k2],h60,hm,by simp⟩,by simp [nx,zEY]⟩
   | some i=>exact absurd h (by simp [hx,ixI])
  ·cases hx:lastIx 46 rest with
   | none=>exact absurd h (by simp [hx,ixI])
   | some i =>
    have hlt:=uV hx
    simp only [ixI,toNat_ofNat']
    refine⟨⟨by omega,by omega⟩,fun c _ h1=>by simp [h1],⟨true,rest.take i,m,by simp [yL,hne,k1],by simp [yL],by rw [List.length_take]; omega,by rw [List.length_take]; omega,by simp⟩,by simp [nx,zEY]⟩
theorem yVQ (hE : zX E) (a b : Bs) : yB E 95 [S a, S b] H (.tuple #[.int .i64 (uB a b), .int .i64 (zDC a b)]) := by
 refine Fn.of_vks hE.c95 (by simp [yHx]) ?_
 simp only [yHx,yKm,yIK,yJG,yMZ,yNo,yPs,yOi,yPS,yKC,yPp,zYX,yFb,yEf,zUy,zUH,zVO,zZx]
 simp only [go_sem,Nat.reduceEqDiff,Nat.reduceBEq,reduceCtorEq,yL]
 intro b4 hb4 b5 hb5
 have h54:b5≠b4:=by rintro rfl; simp at hb5
 simp only [h54,if_false] at hb5
 refine zE _ ?_ (fun _=>⟨?_,zJW hE a⟩) ?_<;>simp only [go_sem,Nat.reduceEqDiff,Nat.reduceBEq]
 refine zE _ ?_ (fun hg=>⟨?_,zJW hE b⟩) ?_<;>simp only [h54,h54.symm,go_sem,Nat.reduceEqDiff,Nat.reduceBEq,zC,yL]
 ·simp only [go_sem,Nat.reduceEqDiff] at hg ⊢; exact hg
 ·refine⟨fun h=>?_,fun h=>⟨fun h2=>?_,fun h2=>?_⟩⟩
  ·have:(zL a && zL b)=false:=by cases hs:zL a<;>simp_all
   refine⟨by simp [uB,zDC,this],?_⟩
   exact zH (zH (zH (zJ hb4 _) hb5 _) hb4 _) hb5 _
  ·have h':zL a=true∧zL b=true:=by simpa using h
   have h2':a=b:=by simpa using h2
   refine⟨by simp [uB,zDC,h',h2'],?_⟩
   exact zH (zH (zH (zJ hb4 _) hb5 _) hb4 _) hb5 _
  ·have h':zL a=true∧zL b=true:=by simpa using h
   have l1:=jT h'.1
   have l2:=jT h'.2
   have h2':a≠b:=by simpa using h2
   have hr:uB a b=uG (zU a) (zU b):=by simp [uB,h',h2']
   have hr':zDC a b=0:=by simp [zDC,h']
   rw [hr,hr']
   refine zM ?_ (yXb hE b) ?_
   ·simp only [go_sem,Nat.reduceEqDiff]
   ·rintro v H1 ⟨bm,br,rfl,hbm,hbr,hmr,hle1,km,kr⟩
    have k4:H1 b4=some (.row [.int .i64 0] 1 true):=hle1 _ _ (by simp [yL,h54.symm])
    have k5:H1 b5=some (.row [.int .i64 0] 1 true):=hle1 _ _ (by simp [yL])
    have hmb4:bm≠b4:=by rintro rfl; simp [yL,h54.symm] at hbm
    have hmb5:bm≠b5:=by rintro rfl; simp [yL] at hbm
    have hrb4:br≠b4:=by rintro rfl; simp [yL,h54.symm] at hbr
    have hrb5:br≠b5:=by rintro rfl; simp [yL] at hbr
    have hbm0:H bm=none:=by simpa [yL,hmb4,hmb5] using hbm
    have hbr0:H br=none:=by simpa [yL,hrb4,hrb5] using hbr
    have hle0:H.le H1:=(zH (zJ hb4 _) hb5 _).trans hle1
    simp only [go_sem,Nat.reduceEqDiff,Nat.reduceBEq,yL]
    intro b8 hb8
    have h84:b8≠b4:=(zAJ k4 hb8).symm
    have h85:b8≠b5:=(zAJ k5 hb8).symm
    have h8m:b8≠bm:=(zAJ km hb8).symm
    have h8r:b8≠br:=(zAJ kr hb8).symm
    have hb80 : H b8 = none := by
     cases hx:H b8 with
     | none=>rfl
     | some o=>rw [hle0 _ _ hx] at hb8; cases hb8
    have hPull : zHU H1 bm br (zU b) := by
     by_cases hd:b = [46]
     ·exact⟨false,b,b.length + 1,by rw [km]; simp [hd],kr,l2,by omega,by simp [zU,hd]⟩
     ·exact⟨true,b,b.length + 1,by rw [km]; simp [hd],kr,l2,by omega,by simp [zU,hd]⟩
    refine zAM H (fun xs => xs = (zU a).map (fun x => [S x])) (fun pre H' => H.le H' ∧ H' b4 = some (.row [.int .i64 0] 1 true) ∧ H' b5 = some (.row [.int .i64 0] 1 true) ∧ H' b8 = some (.row [.func (.func (E.fn 104)) #[] #[.pointer (some ⟨bm, 0, none⟩), .pointer (some ⟨br, 0, none⟩)]] 1 true) ∧
      zHU H' bm br ((zU b).drop pre.length)∧uG (zU a) (zU b)=uG ((zU a).drop pre.length) ((zU b).drop pre.length))
     (by simp only [go_sem,Nat.reduceEqDiff]) (by simp only [go_sem,Nat.reduceEqDiff,zFD]) (yRH hE H a l1) (by rintro xs rfl x hx; simp at hx; obtain⟨a,_,rfl⟩:=hx; rfl) ?_ (fun pre H' h=>h.1) ?_ ?_
    ·refine⟨zH hle0 hb80 _,by simp [yL,h84.symm,k4],by simp [yL,h85.symm,k5],by simp [yL],?_,rfl⟩
     exact hPull.congr (by simp [yL,h8m.symm]) (by simp [yL,h8r.symm])
    ·rintro pre x H' ⟨suf,hsuf⟩ ⟨hle,k4,k5,k8,hpl,hgo⟩
     obtain⟨hlt,rfl,hdrop⟩:=zRq hsuf
     rw [hdrop] at hgo
     generalize hy:(zU a).getD pre.length []=y at *
     simp only [k8,go_sem,Nat.reduceEqDiff,Nat.reduceBEq]
     refine xA ?_ ?_ (yP hE.e104 (yWN hE hmr hpl)) ?_
     ·simp only [go_sem,Nat.reduceEqDiff]
     ·simp only [go_sem]
     ·rintro v H2 ⟨hoth,hp2,rfl⟩
      have k4':H2 b4=some (.row [.int .i64 0] 1 true):=(hoth _ hmb4.symm hrb4.symm).trans k4
      have k5':H2 b5=some (.row [.int .i64 0] 1 true):=(hoth _ hmb5.symm hrb5.symm).trans k5
      have k8':=(hoth _ h8m h8r).trans k8
      have hle2 : H.le H2 := fun c o hc => by
       rw [hoth c (zAJ hc hbm0) (zAJ hc hbr0)]; exact hle c o hc
      cases hL:(zU b).drop pre.length with
      | nil =>
       rw [hL] at hgo
       simp only [zEY,h54,h54.symm,k4',k5',go_sem,Nat.reduceLT,Nat.reduceEqDiff,Nat.reduceBEq,Nat.reduceAdd,yL]
       refine⟨?_,zH (zH hle2 hb4 _) hb5 _⟩
       rw [hgo]; simp [uG]
      | cons x L' =>
       rw [hL] at hgo hp2
       simp only [zEY,h54,h54.symm,k4',k5',go_sem,Nat.reduceLT,Nat.reduceEqDiff,Nat.reduceBEq,Nat.reduceAdd,yL]
       refine zE _ ?_ (fun _=>⟨?_,yWO hE y x⟩) ?_<;>simp only [h54,h54.symm,k4',k5',go_sem,Nat.reduceEqDiff,Nat.reduceBEq,zC,yL]
       have hL2 : L' = (zU b).drop (pre.length + 1) := by
        have:=congrArg (List.drop 1) hL
        simpa [List.drop_drop] using this.symm
       simp only [uG] at hgo
       refine⟨fun hc=>⟨?_,zH (zH hle2 hb4 _) hb5 _⟩,fun hc=>⟨hle2,k8',?_,?_⟩⟩
       ·have:wJ y x≠0:=by simpa using hc
        rw [hgo]; simp [this]
       ·simpa [hL2] using hp2
       ·have:wJ y x=0:=by simpa using hc
        rw [hgo]; simp [this,hL2]
    ·rintro xs H' rfl ⟨hle,k4,k5,k8,hpl,hgo⟩
     simp only [h54,h54.symm,k4,k5,go_sem,Nat.reduceEqDiff,yL]
     refine⟨?_,zH (zH hle hb4 _) hb5 _⟩
     rw [hgo]; simp [uG]
end Go.SL
/- Contracts of package record, and of the search. -/
namespace Go.SL
open Go
variable {E:Env} {H:Hp}
theorem yWz (hE : zX E) (a : Bs) (s : Int) (b : Bs) (t : Int) : yB E 81 [S a, .int .i64 s, S b, .int .i64 t] H (.int .i64 (vS a s b t)) := by
 refine Fn.of_vks hE.c81 (by simp [yHa]) ?_
 simp only [yHa,yJt,yOe,yQe,yNB,yNk]
 simp only [go_sem,Nat.reduceEqDiff,Nat.reduceBEq,Nat.reduceAdd,reduceCtorEq,zC]
 refine⟨fun h=>?_,fun h=>?_⟩
 ·refine zE _ ?_ (fun _=>⟨?_,yVQ hE a b⟩) ?_<;>simp only [go_sem,Nat.reduceLT,Nat.reduceEqDiff,Nat.reduceBEq,Nat.reduceAdd,reduceCtorEq]
  simp at h; simp [vS,h]
 ·refine zE _ ?_ (fun _=>⟨?_,zOq hE s t⟩) ?_<;>simp only [go_sem,Nat.reduceEqDiff,Nat.reduceBEq,reduceCtorEq]
  simp at h; simp [vS,h]
theorem yVL (hE : zX E) (a : Bs) (s l : Int) (d g : Value) (b : Bs) (t : Int) : yB E 96 [.agg #[S a, .int .i64 s, .int .i64 l, d, g], .agg #[S b, .int .i64 t]] H (.int .i64 (vS a s b t)) := by
 refine Fn.of_vks hE.c96 (by simp [yGO]) ?_
 simp only [yGO,yNy,yNO]
 simp only [go_sem,Nat.reduceLeDiff,Nat.reduceEqDiff,Nat.reduceBEq,Nat.reduceAdd,reduceCtorEq]
 refine zE _ ?_ (fun _=>⟨?_,yWz hE a s b t⟩) ?_<;>simp only [go_sem,Nat.reduceEqDiff,Nat.reduceBEq]
def orI : List Int → Int
 | []=>0
 | x :: r=>if x≠0 then x else orI r
theorem xCy (hE : zX E) {v : Value} {ns : List Int} (h : wH H v ns) (hn : ns.length ≤ 1099511627776) : yB E 93 [v] H (.int .i64 (orI ns)) := by
 obtain⟨a,cap,rfl,hs,hr⟩:=h
 refine Fn.of_vks hE.c93 (by simp [yIx]) ?_
 simp only [yIx,yKh,yNr,yMO,yOX,yIU,yJQ,yLh,yOt,yQC]
 simp only [go_sem,Nat.reduceEqDiff,Nat.reduceBEq,reduceCtorEq]
 refine zT ns.length 0 (fun k=>[(3,⟨true,.val (.int .i64 0)⟩),(6,⟨true,.val (.slice a ns.length cap)⟩),(7,⟨true,.val (.int .i64 ns.length)⟩),(8,⟨true,.val (.int .i64 k)⟩)]) (fun k=>orI ns=orI (ns.drop k)) (Nat.zero_le _) rfl rfl ?_
 intro k hk hP
 simp only [go_sem,Nat.reduceEqDiff,Nat.reduceBEq,zC]
 refine⟨fun h=>?_,fun h=>?_⟩
 ·have hlt:k < ns.length:=by simpa using h
  have hr':=hr (by omega)
  obtain⟨b,o,vs,c,wr,ha,hb,hi⟩:=hr'
  subst ha
  have hi':=hi k hlt
  have hi1:=hi'.1
  have hv:=zK hi'.2 (j:=0) (by omega)
  simp only [Nat.add_zero] at hv
  simp only [hb,go_sem,Nat.reduceEqDiff,Nat.reduceBEq,Nat.mul_one]
  simp only [Nat.mul_one] at hi1 hv
  simp only [hv,vP,go_sem]
  have hd : ns.drop k = ns.getD k 0 :: ns.drop (k + 1) := by
   rw [List.drop_eq_getElem_cons hlt,List.getD_eq_getElem?_getD,List.getElem?_eq_getElem hlt]; rfl
  rw [hd] at hP
  simp only [orI] at hP
  refine⟨⟨by omega,by omega⟩,hi1,fun hc=>?_,fun hc=>⟨hlt,zR (by omega),?_⟩⟩
  ·simp at hc; simp [hP,hc]
  ·simp at hc; simp [hP,hc]
 ·have:ns.drop k = []:=List.drop_eq_nil_of_le (by simp at h; omega)
  rw [hP,this]; rfl
theorem xAU (hE : zX E) (a b : xO) : yB E 78 [.agg #[S a.text, .int .i64 a.n, .int .i64 a.m], .agg #[S b.text, .int .i64 b.n, .int .i64 b.m]] H (.int .i64 (zBj a b)) := by
 refine Fn.of_vks hE.c78 (by simp [yHh]) ?_
 simp only [yHh,yMw,yLX]
 simp only [go_sem,Nat.reduceLeDiff,Nat.reduceEqDiff,Nat.reduceBEq,Nat.reduceAdd,reduceCtorEq]
 refine xM _ ?_ (fun _=>⟨?_,xCj hE a.text b.text⟩) ?_ ?_<;>simp only [go_sem,Nat.reduceLeDiff,Nat.reduceEqDiff,Nat.reduceBEq,Nat.reduceAdd]
 refine xM _ ?_ (fun _=>⟨?_,zOq hE a.n b.n⟩) ?_ ?_<;>simp only [go_sem,Nat.reduceLeDiff,Nat.reduceEqDiff,Nat.reduceBEq,Nat.reduceAdd]
 refine xM _ ?_ (fun _=>⟨?_,zOq hE a.m b.m⟩) ?_ ?_<;>simp only [zEh,go_sem,Nat.reduceLeDiff,Nat.reduceEqDiff,Nat.reduceBEq,Nat.reduceAdd]
 intro b0 hb0
 have hI : wH (H.put b0 (.row [.int .i64 (wJ a.text b.text), .int .i64 (vC a.n b.n), .int .i64 (vC a.m b.m)] 3 true)) (.slice (some ⟨b0, 0, none⟩) 3 3) [wJ a.text b.text, vC a.n b.n, vC a.m b.m] := by
  refine⟨_,_,rfl,(fun h=>by cases h),fun _=>⟨b0,0,_,_,_,rfl,Hp.put_same ..,?_⟩⟩
  intro i hi
  match i,hi with
  | 0,_=>exact⟨by simp,rfl⟩
  | 1,_=>exact⟨by simp,rfl⟩
  | 2,_=>exact⟨by simp,rfl⟩
 refine xM _ ?_ (fun _=>⟨?_,xCy hE hI (by simp)⟩) ?_ ?_<;>simp only [go_sem,Nat.reduceLeDiff,Nat.reduceEqDiff,Nat.reduceBEq,Nat.reduceAdd]
 refine⟨?_,zJ hb0 _⟩
 simp only [orI,zBj]
 split<;>try rfl
 split<;>try rfl
 split<;>simp_all
theorem xCc (hE : zX E) (r : zJy) (d : xO) : yB E 77 [.agg #[.int .i64 r.text, .int .i64 r.leastN, .int .i64 r.mostN, .int .i64 r.leastM, .int .i64 r.mostM, .bool r.even, .bool r.single, .bool r.wild], .agg #[S d.text, .int .i64 d.n, .int .i64 d.m]] H (.bool (xY r d)) := by
 refine Fn.of_vks hE.c77 (by simp [yIn]) ?_
 simp only [yIn,yOp,yPN,yQr,yQE,yPW,yJF,yOA,yIG,yMx,yNU,zWL]
 simp only [go_sem,Nat.reduceLeDiff,Nat.reduceEqDiff,Nat.reduceBEq,Nat.reduceAdd,reduceCtorEq]
 refine zE _ ?_ (fun _=>⟨?_,zKl hE d.n r.leastN r.mostN⟩) ?_<;>simp only [go_sem,Nat.reduceLeDiff,Nat.reduceEqDiff,Nat.reduceBEq,Nat.reduceAdd]
 refine zE _ ?_ (fun hg=>⟨?_,zKl hE d.m r.leastM r.mostM⟩) ?_<;>simp only [go_sem,Nat.reduceLeDiff,Nat.reduceEqDiff,Nat.reduceBEq,Nat.reduceAdd,Int.reduceEq,zC]
 ·simp only [go_sem,Nat.reduceEqDiff] at hg ⊢; exact⟨hg,hg,hg⟩
 ·refine⟨fun h=>⟨h,fun h2=>by simp [h,h2]⟩,fun h=>?_,fun h=>?_⟩
  ·have h':(!(!zZ d.n r.leastN r.mostN || !zZ d.m r.leastM r.mostM || (r.even && d.n.tmod 2 != 0)))=false:=by rw [Bool.not_eq_false']; exact h
   simp only [xY,h',Bool.false_and]
  ·have h' : xY r d = qB r.text d.text := by
    have:(!(!zZ d.n r.leastN r.mostN || !zZ d.m r.leastM r.mostM || (r.even && d.n.tmod 2 != 0)))=true:=by rw [Bool.not_eq_true']; exact h
    simp only [xY,this,Bool.true_and]
   rw [h']
   refine⟨fun h1=>?_,fun h1=>⟨fun h2=>?_,fun h2=>⟨fun h3=>?_,fun h3=>?_⟩⟩⟩
   ·refine zE _ ?_ (fun _=>⟨?_,zFy hE d.text⟩) ?_<;>simp only [go_sem,Nat.reduceLeDiff,Nat.reduceEqDiff,Nat.reduceBEq,Nat.reduceAdd]
    refine zE _ ?_ (fun hg=>⟨?_,yWc hE d.text⟩) ?_<;>simp only [go_sem,Nat.reduceEqDiff,Nat.reduceBEq]
    ·simp only [go_sem,Nat.reduceEqDiff] at hg ⊢; exact hg
    ·simp at h1; simp [qB,h1]
   ·refine zE _ ?_ (fun _=>⟨?_,zFy hE d.text⟩) ?_<;>simp only [go_sem,Nat.reduceEqDiff,Nat.reduceBEq]
    simp at h2; simp [qB,h2]
   ·refine zE _ ?_ (fun _=>⟨?_,xBI hE d.text⟩) ?_<;>simp only [go_sem,Nat.reduceEqDiff,Nat.reduceBEq]
    simp at h3; simp [qB,h3]
   ·simp at h1 h2 h3; simp [qB,h1,h2,h3]
end Go.SL
/- Contract of record.Valid. -/
namespace Go.SL
open Go
variable {E:Env} {H:Hp}
theorem yQV (t : Int) (h : zZ t 1 8 = true) : t.toNat * 8 + 8 ≤ zBM.length ∧ (zBM.drop (t.toNat * 8)).take 8 = zDd (rules.getD t.toNat default) ∧ 0 ≤ t ∧ t < 9 := by
 simp only [zZ,Bool.and_eq_true,decide_eq_true_eq] at h
 obtain⟨n,rfl⟩:∃ n:Nat,t=n:=⟨t.toNat,by omega⟩
 simp only [Int.toNat_natCast]
 have hn:n=1∨n=2∨n=3∨n=4∨n=5∨n=6∨n=7∨n=8:=by omega
 rcases hn with rfl | rfl | rfl | rfl | rfl | rfl | rfl | rfl<;>exact⟨by decide,rfl,by omega,by omega⟩
def zEc (ty:Int) (ds:List xO) (i:Nat):Bool:=xY (rules.getD ty.toNat default) (ds.getD i default) && !(decide (0 < i) && decide (zBj (ds.getD (i - 1) default) (ds.getD i default)≥0))
theorem yVY (hE : zX E) (hB : qU E H) (name : Bs) (ty life : Int) {v : Value} {ds : List xO} (hd : xF H v ds) : yB E 54 [.agg #[S name, .int .i64 ty, .int .i64 life, v]] H (.bool (wK name ty life ds)) := by
 obtain⟨a,cap,rfl,hs,hr⟩:=hd
 obtain⟨gc,gw,hg⟩:=hB
 refine Fn.of_vks hE.c54 (by simp [yGU]) ?_
 simp only [yGU,yPH,yKH,yIF,yKx,yOF,yLp,yNj,yOH,yLK,yMl,yDT,zWF,yBh,yDq,zYf]
 simp only [go_sem,Nat.reduceLeDiff,Nat.reduceEqDiff,Nat.reduceBEq,Nat.reduceAdd,reduceCtorEq]
 refine zE _ ?_ (fun _=>⟨?_,zFy hE name⟩) ?_<;>simp only [go_sem,Nat.reduceLeDiff,Nat.reduceEqDiff,Nat.reduceBEq,Nat.reduceAdd]
 refine zE _ ?_ (fun hg=>⟨?_,zKl hE ty 1 8⟩) ?_<;>simp only [go_sem,Nat.reduceLeDiff,Nat.reduceEqDiff,Nat.reduceBEq,Nat.reduceAdd]
 ·simp only [go_sem,Nat.reduceEqDiff] at hg ⊢; exact hg
 refine zE _ ?_ (fun hg=>⟨?_,zKl hE life 0 100000⟩) ?_<;>simp only [go_sem,Nat.reduceEqDiff,Nat.reduceBEq,Nat.reduceAdd]
 ·simp only [go_sem,Nat.reduceEqDiff] at hg ⊢; exact hg
 refine⟨fun h=>?_,fun h=>?_⟩
 ·have : (zL name && zZ ty 1 8 && zZ life 0 100000) = false := by
   clear hr hs; cases hx:zL name<;>cases hy:zZ ty 1 8<;>cases hz:zZ life 0 100000<;>simp_all
  simp only [wK,this,Bool.false_and]
 have h0 : zL name = true ∧ zZ ty 1 8 = true ∧ zZ life 0 100000 = true := by
  clear hr hs; cases hx:zL name<;>cases hy:zZ ty 1 8<;>cases hz:zZ life 0 100000<;>simp_all
 refine zE _ ?_ (fun _=>⟨?_,zKl hE (ds.length:Int) 1 8⟩) ?_<;>simp only [go_sem,Nat.reduceLeDiff,Nat.reduceEqDiff,Nat.reduceBEq,Nat.reduceAdd,zC]
 have hrl:=yQV ty h0.2.1
 have hr1:=hrl.1
 have hr2:=hrl.2.1
 have hr3:=hrl.2.2.1
 have hr4:=hrl.2.2.2
 clear hrl
 simp only [hg,hr2,zDd,go_sem,Nat.reduceLeDiff,Nat.reduceEqDiff,Nat.reduceBEq,Nat.reduceAdd]
 refine⟨fun h1=>?_,fun h1=>⟨⟨hr3,hr4⟩,hr1,?_⟩⟩
 ·have:zZ ds.length 1 8=false:=by simpa using h1
  simp only [wK,this,Bool.and_false,Bool.false_and]
 have hlen:ds.length≤8:=by simp [zZ] at h1; omega
 refine zE _ ?_ (fun hg=>⟨?_,yWc hE name⟩) ?_<;>simp only [go_sem,Nat.reduceEqDiff,Nat.reduceBEq,Nat.reduceAdd]
 ·simp only [go_sem,Nat.reduceEqDiff] at hg ⊢; exact hg
 obtain⟨ru,hru⟩:∃ ru,ru=rules.getD ty.toNat default:=⟨_,rfl⟩
 rw [← hru]
 have hrec0 : wK name ty life ds = (!(ru.single && (ds.length : Int) != 1) && !(pL name && !ru.wild) && zP (zEc ty ds) ds.length) := by
  have e:((ds.length:Int) != 1)=(ds.length != 1):=by rw [Bool.eq_iff_iff]; simp; omega
  simp only [wK,h0.1,h0.2.1,h0.2.2,h1,← hru,Bool.true_and,e]
  rw [hru]; rfl
 refine⟨?_,fun h2=>?_,fun h2=>?_⟩
 ·exact fun hx=>⟨hx,fun hy=>by simp only [hx,hy,Bool.not_false,Bool.and_self]⟩
 ·have:(!(ru.single && (ds.length:Int) != 1) && !(pL name && !ru.wild))=false:=by rw [← Bool.not_or,h2]; rfl
  rw [hrec0,this,Bool.false_and]
 ·have hrec : wK name ty life ds = zP (zEc ty ds) ds.length := by
   rw [hrec0,← Bool.not_or,h2]; rfl
  rw [hrec]
  refine zT ds.length 0 (fun k=>[(1,⟨true,.box [S name,.int .i64 ty,.int .i64 life,.slice a ds.length cap]⟩),(3,⟨true,.box (zDd ru)⟩),(50,⟨true,.val (.slice a ds.length cap)⟩),(51,⟨true,.val (.int .i64 ds.length)⟩),(52,⟨true,.val (.int .i64 k)⟩)]) (fun k=>zP (zEc ty ds) k=true) (Nat.zero_le _) rfl rfl ?_
  intro k hk hP
  simp only [zDd,go_sem,Nat.reduceEqDiff,Nat.reduceBEq,Nat.reduceAdd,zC]
  refine⟨fun h3=>?_,fun h3=>?_⟩
  ·have hlt:k < ds.length:=by simpa using h3
   have hr':=hr (by omega)
   obtain⟨b,o,vs,c,wr,ha,hb,hi⟩:=hr'
   subst ha
   have hi1:=(hi k hlt).1
   have hi2:=(hi k hlt).2
   simp only [hb,hi2,pR,go_sem,Nat.reduceEqDiff,Nat.reduceBEq,Nat.reduceAdd]
   refine⟨⟨by omega,by omega⟩,hi1,?_⟩
   refine xM _ ?_ (fun _=>⟨?_,xCc hE ru (ds.getD k default)⟩) ?_ ?_<;>simp only [go_sem,Nat.reduceEqDiff,Nat.reduceBEq,Nat.reduceAdd,zC]
   have hF:zEc ty ds k=false→zP (zEc ty ds) ds.length=false:=fun h=>zY hlt h
   have hS:zEc ty ds k=true→zP (zEc ty ds) (k + 1)=true:=fun h=>yJ hP h
   have hdk:zEc ty ds k=(xY ru (ds.getD k default) && !(decide (0 < k) && decide (zBj (ds.getD (k - 1) default) (ds.getD k default)≥0))):=by rw [hru]; rfl
   by_cases hk0:k=0
   ·have e0:decide ((k:Int) > 0)=false:=by simp; omega
    have e0':decide (0 < k)=false:=by simp; omega
    simp only [e0',Bool.false_and,Bool.not_false,Bool.and_true] at hdk
    simp only [hb,e0,go_sem]
    refine xM (.int .i64 0) ?_ (fun hg=>absurd hg ?_) ?_ ?_<;>simp only [hb,e0,go_sem,Nat.reduceEqDiff,Nat.reduceBEq,Nat.reduceAdd,zC]
    ·simp
    ·exact⟨fun hx=>(hF (hdk.trans hx)).symm,fun hx=>⟨hlt,zR (by omega),hS (hdk.trans hx)⟩⟩
   ·have e0:decide ((k:Int) > 0)=true:=by simp; omega
    have e0':decide (0 < k)=true:=by simp; omega
    simp only [e0',Bool.true_and] at hdk
    have e1:IntKind.i64.wrap ((k:Int) - 1)=((k - 1:Nat):Int):=by rw [yZ]<;>omega
    have hj1:=(hi (k - 1) (by omega)).1
    have hj2:=(hi (k - 1) (by omega)).2
    simp only [e0,e1,toNat_ofNat',hb,hj2,pR,go_sem]
    refine⟨fun hx=>⟨hx,hx,by omega,by omega⟩,fun hx=>⟨hx,hj1⟩,?_⟩
    refine xM _ ?_ (fun hg=>⟨?_,xAU hE (ds.getD (k - 1) default) (ds.getD k default)⟩) ?_ ?_<;>simp only [e0,go_sem,Nat.reduceEqDiff,Nat.reduceBEq,Nat.reduceAdd,zC]
    ·simp only [go_sem,Nat.reduceEqDiff] at hg ⊢; exact⟨hg,hg⟩
    ·rw [yVR,← hdk]
     exact⟨fun hx=>⟨hx,hx⟩,fun hx=>(hF (by simpa using hx)).symm,fun hx=>⟨hlt,zR (by omega),hS (by simpa using hx)⟩⟩
  ·have:k=ds.length:=by simp at h3; omega
   subst this
   exact hP.symm
theorem xBh (hE : zX E) (nm : Bs) (t : Int) {v : Value} {ss : List zF} (hss : xT H v ss) (hn : ss.length ≤ 1099511627776) : yB E 97 [v, .agg #[S nm, .int .i64 t], .func (.func (E.fn 96)) #[] #[]] H (.tuple #[.int .i64 (zEf ss nm t), .bool (zAa ss nm t)]) := by
 obtain⟨d,g,⟨a,cap,rfl,hs,hr⟩,hdeep⟩:=hss
 refine Fn.of_vks hE.c97 (by simp [yHg]) ?_
 simp only [yHg,yJb,yNv,yLN,yLR,yPU,yMo,yKw,yIR,yJi]
 simp only [go_sem,Nat.reduceEqDiff,Nat.reduceBEq,Nat.reduceAdd,reduceCtorEq]
 refine pZ (fun m fr' H' => ∃ i j f, fr' = [(0, ⟨true, .val (.slice a ss.length cap)⟩), (2, ⟨true, .val (.func (.func (E.fn 96)) #[] #[])⟩), (4, ⟨true, .box [S nm, .int .i64 t]⟩), (8, ⟨true, .val (.int .i64 ss.length)⟩), (9, ⟨true, .val (.int .i64 ((i : Nat) : Int))⟩), (10, ⟨true, .val (.int .i64 ((j : Nat) : Int))⟩)] ∧
   H'=H∧i≤j∧j≤ss.length∧m=j - i∧j - i < f∧zEf ss nm t=zGy (fun h=>vS (yF ss h).name (yF ss h).type nm t) f i j) (ss.length - 0) ⟨0,ss.length,ss.length + 1,rfl,rfl,Nat.zero_le _,Nat.le_refl _,rfl,by omega,rfl⟩ ?_
 rintro m fr' H' ⟨i,j,f,rfl,rfl,hij,hj,rfl,hf,hfind⟩
 obtain⟨f,rfl⟩:∃ f',f=f' + 1:=⟨f - 1,by omega⟩
 simp only [zGy] at hfind
 by_cases hlt:i < j
 ·simp only [hlt,if_true] at hfind
  have hd:decide ((i:Int) < (j:Int))=true:=by simpa using hlt
  have e1:IntKind.i64.wrap ((i:Int) + (j:Int))=((i + j:Nat):Int):=by rw [yZ]<;>omega
  have e2 : IntKind.i64.wrap ((IntKind.u64.wrap ((i + j : Nat) : Int)).fdiv (2 ^ min 1 64)) = (((i + j) / 2 : Nat) : Int) := by
   have : IntKind.u64.wrap ((i + j : Nat) : Int) = ((i + j : Nat) : Int) := by
    simp only [IntKind.wrap,IntKind.bits,IntKind.signed,Bool.false_and]; simp; omega
   rw [this]
   have h2:(2:Int) ^ min 1 64=2:=by decide
   rw [h2,Int.fdiv_eq_ediv_of_nonneg _ (by omega),yZ]<;>omega
  have hr':=hr (by omega)
  obtain⟨b,o,vs,c,wr,ha,hb,hi⟩:=hr'
  subst ha
  obtain⟨h,hh⟩:∃ h,h=(i + j) / 2:=⟨_,rfl⟩
  rw [← hh] at e2 hfind
  have hhn:h < ss.length:=by omega
  have hi1:=(hi h hhn).1
  have hi2:=(hi h hhn).2
  simp only [hd,e1,e2,hb,hi2,xD,go_sem,Nat.reduceEqDiff,Nat.reduceBEq,Nat.reduceAdd,reduceCtorEq,Int.reduceToNat,Int.reduceLT,zC]
  refine⟨⟨by omega,by omega⟩,hi1,?_⟩
  refine zFQ ?_ ?_ (yP hE.e96 (Fn.same (yVL hE (yF ss h).name (yF ss h).type (yF ss h).life (d h) (g h) nm t))) ?_
  ·simp only [go_sem,Nat.reduceEqDiff,reduceCtorEq]
  ·simp only [go_sem,Nat.reduceEqDiff,reduceCtorEq]
  ·rintro v H' ⟨rfl,rfl⟩
   simp only [go_sem,Nat.reduceEqDiff,Nat.reduceBEq,Nat.reduceAdd,reduceCtorEq,zC]
   refine⟨fun hc=>?_,fun hc=>?_⟩
   ·have hc':vS (yF ss h).name (yF ss h).type nm t < 0:=by simpa using hc
    rw [if_pos hc'] at hfind
    exact⟨j - (h + 1),by omega,h + 1,j,f,⟨zR (by omega),rfl⟩,by omega,hj,rfl,by omega,hfind⟩
   ·have hc':¬ vS (yF ss h).name (yF ss h).type nm t < 0:=by simpa using hc
    rw [if_neg hc'] at hfind
    exact⟨h - i,by omega,i,h,f,⟨rfl,rfl⟩,by omega,by omega,rfl,by omega,hfind⟩
 ·simp only [hlt,if_false] at hfind
  have hd:decide ((i:Int) < (j:Int))=false:=by simpa using hlt
  have hij:i=j:=by omega
  subst hij
  by_cases hin:i < ss.length
  ·have hr':=hr (by omega)
   obtain⟨b,o,vs,c,wr,ha,hb,hi⟩:=hr'
   subst ha
   have hd2:decide ((i:Int) < (ss.length:Int))=true:=by simpa using hin
   have hi1:=(hi i hin).1
   have hi2:=(hi i hin).2
   simp only [hd,hd2,hb,hi2,xD,go_sem,Nat.reduceEqDiff,Nat.reduceBEq,Nat.reduceAdd,reduceCtorEq,Int.reduceToNat,Int.reduceLT,zC]
   refine⟨⟨by omega,by omega⟩,hi1,?_⟩
   refine qY (by intro x h; cases h) (by intro f a h; cases h) ?_ (fun _=>⟨?_,?_,_,yP hE.e96 (Fn.same (yVL hE (yF ss i).name (yF ss i).type (yF ss i).life (d i) (g i) nm t)),?_⟩) (fun hg=>?_)
   ·simp only [go_sem,Nat.reduceEqDiff,reduceCtorEq]
   ·simp only [go_sem,Nat.reduceEqDiff,reduceCtorEq]
   ·simp only [go_sem,Nat.reduceEqDiff,reduceCtorEq]
   ·rintro v H'' ⟨rfl,rfl⟩
    simp only [go_sem,Nat.reduceEqDiff,Nat.reduceBEq,Nat.reduceAdd,reduceCtorEq,zC]
    simp [zAa,hfind,hin]
   ·simp only [go_sem,Nat.reduceEqDiff,reduceCtorEq] at hg
  ·have hd2:decide ((i:Int) < (ss.length:Int))=false:=by simpa using hin
   have fin:∀ {A:Prop},A→(A↔True):=fun h=>⟨fun _=>trivial,fun _=>h⟩
   have hfb:zAa ss nm t=false:=by simp [zAa,hfind,hin]
   obtain⟨ho,hho⟩:∃ o,(match a with | none=>none | some p=>H' p.block)=o:=⟨_,rfl⟩
   rcases a with _ | p
   ·simp only [undef,hd,hd2,go_sem,Nat.reduceEqDiff,Nat.reduceBEq,Nat.reduceAdd,reduceCtorEq,Int.reduceToNat,Int.reduceLT,zC]
    refine qY (by intro x h; cases h) (by intro f a h; cases h) ?_ (fun hg=>?_) (fun hg=>?_)
    ·simp only [go_sem,Nat.reduceEqDiff,reduceCtorEq]
    ·simp only [go_sem,Nat.reduceEqDiff,reduceCtorEq] at hg
    ·simp only [undef,hfind,hfb,go_sem,Nat.reduceEqDiff,Nat.reduceBEq,Nat.reduceAdd,reduceCtorEq,zC]
   ·simp only at hho
    rcases ho with _ | (⟨vs,c,w⟩ | ob)
    all_goals
     simp only [undef,hd,hd2,hho,go_sem,Nat.reduceEqDiff,Nat.reduceBEq,Nat.reduceAdd,reduceCtorEq,Int.reduceToNat,Int.reduceLT,zC]
     refine qY (by intro x h; cases h) (by intro f a h; cases h) ?_ (fun hg=>?_) (fun hg=>?_)
     ·simp only [go_sem,Nat.reduceEqDiff,reduceCtorEq]
     ·simp only [go_sem,Nat.reduceEqDiff,reduceCtorEq] at hg
     ·simp only [undef,hho,hfind,hfb,go_sem,Nat.reduceEqDiff,Nat.reduceBEq,Nat.reduceAdd,reduceCtorEq,zC]
theorem yWi (hE : zX E) (nm : Bs) (t : Int) (apex : Bs) {v : Value} {ss : List zF} (hss : xT H v ss) (hn : ss.length ≤ 1099511627776) : yB E 82 [.agg #[S apex, v], .agg #[S nm, .int .i64 t]] H (.tuple #[.int .i64 (zEf ss nm t), .bool (zAa ss nm t)]) := by
 refine Fn.of_vks hE.c82 (by simp [yIm]) ?_
 simp only [yIm,yLf,yJS]
 simp only [go_sem,Nat.reduceEqDiff,Nat.reduceBEq,Nat.reduceAdd,reduceCtorEq]
 refine zE _ ?_ (fun _=>⟨?_,xBh hE nm t hss hn⟩) ?_<;>simp only [go_sem,Nat.reduceLT,Nat.reduceEqDiff,Nat.reduceBEq,Nat.reduceAdd]
end Go.SL
