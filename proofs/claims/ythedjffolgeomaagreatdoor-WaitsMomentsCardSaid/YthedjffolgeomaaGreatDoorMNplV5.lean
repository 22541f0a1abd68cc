/- Contracts: sorting nothing; Normal. -/
import Derived.Test.YthedjffolgeomaaGreatDoorMNplQ
import Derived.Test.YthedjffolgeomaaGreatDoorMNplW3
import Derived.Test.YthedjffolgeomaaGreatDoorMNplT2
import Derived.Test.YthedjffolgeomaaGreatDoorMNplW2
import Derived.Test.YthedjffolgeomaaGreatDoorMNplX18
import Derived.Test.YthedjffolgeomaaGreatDoorMNplX19
namespace Go.SL
open Go
variable {E:Env} {H:Hp}
theorem wi0:IntKind.i64.wrap (0:Int)=0:=by decide
theorem yUZ (h2 : wC E) (v f : Value) : Fn E.P (E.fn 109) [v, .int .i64 0, .int .i64 0, f] H (fun _ H' => H' = H) := by
 refine Fn.of_vks h2.c109 (by simp [zHo]) ?_
 simp only [zHo,zKs,zKG,zJU,zKf,zKB,zKw,zKa]
 simp only [go_sem,Nat.reduceEqDiff,Nat.reduceBEq,Nat.reduceAdd,reduceCtorEq,Int.reduceAdd,zC]
 refine zS 0 0 (fun _=>[(0,⟨true,.val v⟩),(1,⟨true,.val (.int .i64 0)⟩),(2,⟨true,.val (.int .i64 0)⟩),(3,⟨true,.val f⟩),(8,⟨true,.val (.int .i64 1)⟩)]) (fun _=>True) (Nat.le_refl _) rfl trivial ?_
 intro k hk _
 simp only [zJV,go_sem,Nat.reduceEqDiff,Nat.reduceBEq,reduceCtorEq,Int.reduceLT,zC]
theorem yZJ (h2 : wC E) (v f : Value) (m : Int) : Fn E.P (E.fn 86) [v, .int .i64 0, .int .i64 0, .int .i64 m, f] H (fun _ H' => H' = H) := by
 refine Fn.of_vks h2.c86 (by simp [zKH]) ?_
 simp only [zKH,zQr,zOX,zOq,zQu,zOr]
 simp only [go_sem,Nat.reduceEqDiff,Nat.reduceBEq,Nat.reduceAdd,reduceCtorEq]
 refine zS 0 0 (fun _=>[(0,⟨true,.val v⟩),(1,⟨true,.val (.int .i64 0)⟩),(2,⟨true,.val (.int .i64 0)⟩),(3,⟨true,.val (.int .i64 m)⟩),(4,⟨true,.val f⟩),(10,⟨true,.val (.bool true)⟩),(11,⟨true,.val (.bool true)⟩)]) (fun _=>True) (Nat.le_refl _) rfl trivial ?_
 intro k hk _
 simp only [wi0,zKp,go_sem,Nat.reduceEqDiff,Nat.reduceBEq,reduceCtorEq,Int.reduceLE,Int.reduceSub,zC]
 refine zP ?_ (yUZ h2 v f) ?_
 ·simp only [go_sem,Nat.reduceEqDiff,reduceCtorEq]
 rintro u H' rfl
 simp only [go_sem,Nat.reduceBEq]
theorem yZh (hE : zV E) (h2 : wC E) (f : Value) : Fn E.P (E.fn 87) [.slice none 0 0, f] H (fun _ H' => H' = H) := by
 refine Fn.of_vks hE.c87 (by simp [zKr]) ?_
 simp only [zKr,zOS,zRg]
 have e1:IntKind.u64.wrap (0:Int)=((0:Nat):Int):=by decide
 have cN:((0:Nat):Int)=0:=rfl
 simp only [cN,e1,go_sem,Nat.reduceEqDiff,Nat.reduceBEq,reduceCtorEq]
 refine zE _ ?_ (fun _=>⟨?_,zHm h2 0 (by omega)⟩) ?_<;>simp only [go_sem,Nat.reduceEqDiff,Nat.reduceBEq,reduceCtorEq]
 refine zP ?_ (yZJ h2 _ f _) ?_
 ·simp only [go_sem,Nat.reduceEqDiff,reduceCtorEq]
 rintro u H' rfl
 simp only [go_sem,Nat.reduceBEq]
def yHf (l:List zN):Prop:=∀ s∈l,0≤s.from_∧s.from_≤s.till∧s.till≤20000000
set_option maxHeartbeats 1000000 in
theorem ySX (hE : zV E) (h2 : wC E) (h3 : yZ E) {v : Value} {l : List zN} (hl : wP H v l) (hn : l.length ≤ 12) (hok : yHf l) :
  Fn E.P (E.fn 129) [v] H (fun u H'=>∃ w ob,u = .tuple #[w,.int .i64 0]∧qK H' w (yC l) ob∧H.le H'∧∀ b,ob=some b→H b=none):=by
 have hl':=hl
 obtain⟨a,cap,rfl,hsp,hr⟩:=hl
 refine Fn.of_vks h3.c129 (by simp [zMh]) ?_
 simp only [zMh,yDU,yDb,yBJ,zYw,zXV,yBD,zVw,zXz,zVM,yAW,zPt,zQD]
 simp only [go_sem,Nat.reduceEqDiff,Nat.reduceBEq,reduceCtorEq,zC]
 have d1:decide ((l.length:Int) > 20000)=false:=by rw [decide_eq_false_iff_not]; omega
 simp only [d1,go_sem]
 refine zS l.length 0 (fun k=>[(0,⟨true,.val (.slice a l.length cap)⟩),(10,⟨true,.val (.slice a l.length cap)⟩),(11,⟨true,.val (.int .i64 l.length)⟩),(12,⟨true,.val (.int .i64 k)⟩)]) (fun _=>True) (Nat.zero_le _) rfl trivial ?_
 intro k hk _
 by_cases hlt:k < l.length
 ·have hd:decide ((k:Int) < (l.length:Int))=true:=by simpa using hlt
  have hr':=hr (by omega)
  obtain⟨b,o,vs,c,wr,ha,hb,hi⟩:=hr'
  subst ha
  have hi1:=(hi k hlt).1
  have hi2:=(hi k hlt).2
  have hx:=hok _ (yY hlt)
  have c1:decide ((l.getD k default).from_ < 0)=false:=by rw [decide_eq_false_iff_not]; omega
  have c2:decide ((l.getD k default).from_ > (l.getD k default).till)=false:=by rw [decide_eq_false_iff_not]; omega
  have c3:decide ((l.getD k default).till > 20000000)=false:=by rw [decide_eq_false_iff_not]; omega
  simp only [hd,hb,hi2,yN,c1,c2,c3,go_sem,Nat.reduceLeDiff,Nat.reduceEqDiff,Nat.reduceBEq,Nat.reduceAdd,reduceCtorEq,zC]
  refine⟨⟨by omega,by omega⟩,hi1,hlt,zQ (by omega)⟩
 ·have hd:decide ((k:Int) < (l.length:Int))=false:=by simpa using hlt
  simp only [hd,go_sem,Nat.reduceEqDiff,Nat.reduceBEq,Nat.reduceAdd,reduceCtorEq,zC]
  refine zP ?_ (yXi h3 hl' (by omega)) ?_
  ·simp only [go_sem,Nat.reduceEqDiff,reduceCtorEq]
  rintro w H1 ⟨ob,hO,hle,hob⟩
  have hsl:=zIk l
  have fin : ∀ (H2 : Hp) (w2 : Value), w2 = w → H.le H2 → wP H2 w (pC (vH l)) →
    Fn E.P (E.fn 144) [w2] H2 (fun u H'=>∃ ob,qK H' u (yC l) ob∧H.le H'∧∀ b,ob=some b→H b=none):=by
   rintro H2 w2 rfl hle2 hs
   refine(yZf h3 hs (by rw [pC,vC]; omega)).mono ?_
   rintro u H' ⟨ob,h1,h2,h3⟩
   refine⟨ob,h1,hle2.trans h2,fun b hb=>?_⟩
   have:=h3 b hb
   cases hq:H b with
   | none=>rfl
   | some o=>rw [hle2 _ _ hq] at this; cases this
  cases ob with
  | none =>
   obtain⟨rfl,hnil⟩:=hO
   have hs:wP H1 (.slice none 0 0) (pC (vH l)):=by rw [hnil]; exact zG.nil
   simp only [go_sem,Nat.reduceEqDiff,Nat.reduceBEq,reduceCtorEq]
   refine zP ?_ (yZh hE h2 (.func (.func (E.fn 143)) #[] #[])) ?_
   ·simp only [go_sem,Nat.reduceEqDiff]
   rintro u H2 rfl
   simp only [go_sem,Nat.reduceEqDiff,Nat.reduceBEq]
   refine zP ?_ (fin _ _ rfl hle hs) ?_
   ·simp only [go_sem,Nat.reduceEqDiff]
   rintro u2 H3 ⟨ob,h1,h2,h3⟩
   obtain⟨_,_,hu2⟩:=h1.sl
   subst hu2
   simp only [go_sem,Nat.reduceEqDiff,Nat.reduceBEq]
   exact⟨_,ob,rfl,h1,h2,h3⟩
  | some b =>
   obtain⟨hne,cp,rfl,hrow⟩:=hO
   simp only [go_sem,Nat.reduceEqDiff,Nat.reduceBEq,reduceCtorEq]
   refine zP ?_ (yTd hE h2 (yVq hE h3) (vH l) (by omega) hrow) ?_
   ·simp only [go_sem,Nat.reduceEqDiff]
   rintro u H2 rfl
   have hs : wP (H1.put b (.row (flat (vH l).length (yN (pC (vH l)))) (cp * 2) true)) (.slice (some ⟨b, 0, none⟩) (vH l).length cp) (pC (vH l)) := by
    have e:(pC (vH l)).length=(vH l).length:=by rw [pC,vC]
    have:=zG.ofRow (H:=H1.put b (.row (flat (vH l).length (yN (pC (vH l)))) (cp * 2) true)) (sz:=2) (n:=(pC (vH l)).length) (cap:=cp) (c:=cp * 2) (row:=yN (pC (vH l))) (b:=b) (wr:=true) (fun i _=>rfl) (by rw [Hp.put_same,e])
    rw [e] at this
    unfold wP
    rw [e]
    exact this
   simp only [go_sem,Nat.reduceEqDiff,Nat.reduceBEq]
   refine zP ?_ (fin _ _ rfl (zI hle (hob b rfl) _) hs) ?_
   ·simp only [go_sem,Nat.reduceEqDiff]
   rintro u2 H3 ⟨ob,h1,h2,h3⟩
   obtain⟨_,_,hu2⟩:=h1.sl
   subst hu2
   simp only [go_sem,Nat.reduceEqDiff,Nat.reduceBEq]
   exact⟨_,ob,rfl,h1,h2,h3⟩
end Go.SL
/- Contracts: when a cache may use a set. -/
namespace Go.SL
open Go
variable {E:Env} {H:Hp}
structure zDS (d : Int) (s : zF) : Prop where
 d1:0≤d
 d2:d≤1000
 life:0≤s.life∧s.life≤100000
 sigs:∀ g∈s.sigs,0≤g.till∧g.till≤20000000
theorem yFJ.grow {d:Int} {s:zF} (h:yFJ s) (h1:0≤d) (h2:d≤1000):zDS d s:=⟨h1,h2,h.life,h.sigs⟩
def kA (zn:Bs) (s:zF) (dv gv fv sv:Value):List Value:=[S zn,S s.name,.int .i64 s.type,.int .i64 s.life,dv,gv,fv,sv]
set_option maxHeartbeats 1000000 in
theorem yYw (h3 : yZ E) {b2 b3 c2 c3 : Nat} {w2 w3 : Bool} {zn : Bs} {s : zF} {dv gv fv sv : Value} {d : Int} {sp : zN} (ho : zDS d s) (hsp : 0 ≤ sp.till ∧ sp.till ≤ 10000000)
  (hx:H b2=some (.row (kA zn s dv gv fv sv) c2 w2)) (hd:H b3=some (.row [.int .i64 d] c3 w3)) (hg:xT H gv s.sigs) :
  yD E 140 [pR sp,.pointer (some ⟨b2,0,none⟩),.pointer (some ⟨b3,0,none⟩)] H (pR (zAC d s sp)):=by
 have hg':=hg
 obtain⟨a,cap,rfl,hs0,hr⟩:=hg
 have l1:=ho.life
 have l2:=ho.d1
 have l3:=ho.d2
 have w1:IntKind.i64.wrap (sp.till - 1)=sp.till - 1:=by rw [yX]<;>omega
 have w2:IntKind.i64.wrap (2 * d)=2 * d:=by rw [yX]<;>omega
 have w3:IntKind.i64.wrap (sp.till - 1 + max s.life 1)=sp.till - 1 + max s.life 1:=by rw [yX]<;>omega
 have w4:IntKind.i64.wrap (sp.till - 1 + max s.life 1 + 2 * d)=sp.till - 1 + max s.life 1 + 2 * d:=by rw [yX]<;>omega
 unfold pR zAC
 simp only [kA] at hx
 refine Fn.of_vks h3.c140 (by simp [zNj]) ?_
 simp only [zNj,yCS,zUQ,zUC,yBY,zWW]
 rcases hsig:s.sigs with _ | ⟨g,r⟩
 ·have hge:wM d s sp.till=max sp.till (sp.till - 1 + max s.life 1 + 2 * d):=by unfold wM; rw [hsig]
  have cN:decide (((s.sigs.length:Nat):Int) > 0)=false:=by rw [hsig]; rfl
  clear hsig
  simp only [hx,hd,w1,w2,w3,w4,cN,go_sem,Nat.reduceLeDiff,Nat.reduceEqDiff,Nat.reduceBEq,Nat.reduceAdd,reduceCtorEq,zC]
  rw [hge]
 ·have hgm:=ho.sigs g (by rw [hsig]; exact List.mem_cons_self)
  have hge:wM d s sp.till=max sp.till (min (sp.till - 1 + max s.life 1 + 2 * d) (g.till + d + 1)):=by unfold wM; rw [hsig]
  have hpos:0 < s.sigs.length:=by rw [hsig]; simp
  have hg0:s.sigs.getD 0 default=g:=by rw [hsig]; rfl
  have hr':=hr hpos
  obtain⟨b,o,vs,c,wr,ha,hb,hi⟩:=hr'
  subst ha
  have hi1:=(hi 0 hpos).1
  have hi2:=(hi 0 hpos).2
  have v4:=zH (o:=o + 0 * 6) (sz:=6) (j:=4) hi2 (by omega)
  simp only [zBi,hg0,List.getD_cons_zero,List.getD_cons_succ,Nat.zero_mul,Nat.add_zero] at v4 hi1
  have w5:IntKind.i64.wrap (g.till + d)=g.till + d:=by rw [yX]<;>omega
  have w6:IntKind.i64.wrap (g.till + d + 1)=g.till + d + 1:=by rw [yX]<;>omega
  have cN:decide (((s.sigs.length:Nat):Int) > 0)=true:=by rw [decide_eq_true_eq]; omega
  clear hsig
  simp only [hx,hd,w1,w2,w3,w4,w5,w6,hb,v4,cN,go_sem,Nat.reduceLeDiff,Nat.reduceEqDiff,Nat.reduceBEq,Nat.reduceAdd,reduceCtorEq,Int.reduceToNat,Int.reduceLE,zC]
  exact⟨by omega,by omega,by rw [hge]⟩
theorem zIV {d : Int} {s : zF} {e : Int} (ho : zDS d s) (h : e ≤ 10000000) : wM d s e ≤ 20000000 := by
 have l1:=ho.life
 have l2:=ho.d1
 have l3:=ho.d2
 unfold wM
 split<;>omega
theorem zLL {α β : Type} [Inhabited α] (f : α → β) {l : List α} {k : Nat} (hk : k < l.length) : (l.take (k + 1)).map f = (l.take k).map f ++ [f (l.getD k default)] := by
 rw [List.take_add_one,List.getElem?_eq_getElem hk,List.getD_eq_getElem?_getD,List.getElem?_eq_getElem hk,List.map_append]; rfl
set_option maxHeartbeats 1000000 in
theorem yYk (hE : zV E) (h2 : wC E) (h3 : yZ E) {zn : Bs} {s : zF} {dv gv fv sv : Value} {d : Int} {fresh : List zN} (ho : zDS d s) (hg : xT H gv s.sigs) (hf : wP H fv fresh) (hn : fresh.length ≤ 12)
  (hb:∀ sp∈fresh,0≤sp.from_∧sp.from_≤sp.till∧sp.till≤10000000) (_h1d:yW dv=true) (_h1s:yW sv=true) :
  Fn E.P (E.fn 138) [.agg #[S zn,S s.name,.int .i64 s.type,.int .i64 s.life,dv,gv,fv,sv],.int .i64 d] H (fun u H'=>∃ ob,qK H' u (zEw d s fresh) ob∧H.le H'∧∀ b,ob=some b→H b=none):=by
 have h1g:=zG.one hg
 have h1f:=zG.one hf
 obtain⟨a,cap,rfl,hsp,hr⟩:=hf
 refine Fn.of_vks h3.c138 (by simp [zMY]) ?_
 simp only [zMY,zXn,yCv,zSS,zVa,yEI,yAn,yCX,zUs,zUf,zZr]
 simp only [go_sem,Nat.reduceEqDiff,Nat.reduceBEq,Nat.reduceAdd,reduceCtorEq]
 intro b2 hb2 b3 hb3
 obtain⟨G,hG⟩:∃ y,y=(H.put b2 (.row [S zn,S s.name,.int .i64 s.type,.int .i64 s.life,dv,gv,.slice a fresh.length cap,sv] 8 true)).put b3 (.row [.int .i64 d] 1 true):=⟨_,rfl⟩
 have hne:b2≠b3:=by rintro rfl; rw [Hp.put_same] at hb3; cases hb3
 have hG2:G b2=some (.row (kA zn s dv gv (.slice a fresh.length cap) sv) 8 true):=by rw [hG,Hp.put_ne _ _ hne,Hp.put_same]; rfl
 have hG3:G b3=some (.row [.int .i64 d] 1 true):=by rw [hG,Hp.put_same]
 have hGle:H.le G:=by rw [hG]; exact(zM hb2 _).trans (zM hb3 _)
 have hG2':=hG2
 simp only [kA] at hG2'
 rw [← hG]
 simp only [hG2',go_sem,Nat.reduceLeDiff,Nat.reduceEqDiff,Nat.reduceBEq,Nat.reduceAdd]
 refine yP fresh.length 0 (fun k fr' H' => ∃ u ob, fr' = [(5, ⟨true, .val (.func (.func (E.fn 140)) #[] #[.pointer (some ⟨b2, 0, none⟩), .pointer (some ⟨b3, 0, none⟩)])⟩), (6, ⟨true, .val u⟩), (11, ⟨true, .val (.slice a fresh.length cap)⟩), (12, ⟨true, .val (.int .i64 fresh.length)⟩), (13, ⟨true, .val (.int .i64 k)⟩)] ∧
  qK H' u ((fresh.take k).map (zAC d s)) ob∧G.le H'∧∀ b,ob=some b→G b=none) (Nat.zero_le _) ⟨_,none,rfl,⟨rfl,rfl⟩,Hp.le.refl _,fun b h=>by cases h⟩ ?_
 rintro k fr' H' hk ⟨u,ob,rfl,hO,hle,hob⟩
 by_cases hlt:k < fresh.length
 ·have hd:decide ((k:Int) < (fresh.length:Int))=true:=by simpa using hlt
  have hr':=hr (by omega)
  obtain⟨b,o,vs,c,wr,ha,hbb,hi⟩:=hr'
  subst ha
  have hb1:=hle _ _ (hGle _ _ hbb)
  have hi1:=(hi k hlt).1
  have hi2:=(hi k hlt).2
  have hsucc:=zLL (zAC d s) hlt
  have hlen:((fresh.take k).map (zAC d s)).length≤12:=by rw [List.length_map,List.length_take]; omega
  have hxm:=hb _ (yY hlt)
  obtain⟨x,hx⟩:∃ y,fresh.getD k default=y:=⟨_,rfl⟩
  rw [hx] at hsucc hxm
  have hfn:=yYw h3 (H:=H') (sp:=x) (zn:=zn) ho (by omega) (hle _ _ hG2) (hle _ _ hG3) (xT.mono hg (hGle.trans hle))
  simp only [hd,hb1,hi2,yN,hx,go_sem,Nat.reduceEqDiff,Nat.reduceBEq,Nat.reduceAdd,zC]
  refine⟨⟨by omega,by omega⟩,hi1,?_⟩
  refine wU ?_ ?_ (wE h3.e140 (Fn.same hfn)) ?_
  ·simp only [go_sem,Nat.reduceEqDiff]
  ·simp only [go_sem,Nat.reduceEqDiff]
  rintro w H'' ⟨rfl,rfl⟩
  simp only [pR,zAC,go_sem,Nat.reduceEqDiff,Nat.reduceBEq,Nat.reduceAdd]
  intro bs hbs
  have hO2 : qK (H''.put bs (.row [.int .i64 x.from_, .int .i64 (wM d s x.till)] 2 true)) u ((fresh.take k).map (zAC d s)) ob := hO.keep fun b hb => by
   rw [Hp.put_ne]
   rintro rfl
   subst hb
   obtain⟨_,_,_,hbb⟩:=hO
   rw [hbb] at hbs; cases hbs
  refine zDo (zAC d s x) ?_ ?_ ?_ ?_ (Hp.put_same ..) hO2 (by omega) ?_
  ·simp only [go_sem,Nat.reduceEqDiff]
  ·simp only [go_sem,Nat.reduceEqDiff]
  ·simp only [go_sem,Nat.reduceEqDiff]
  ·simp only [go_sem,Nat.reduceEqDiff]
  intro v' H3 b' hO3 hkeep hb'
  simp only [go_sem,Nat.reduceEqDiff,Nat.reduceBEq,zC]
  refine⟨hlt,v',some b',⟨rfl,zQ (by omega)⟩,by rw [hsucc]; exact hO3,fun c o hc=>hkeep c o (zM hbs _ _ _ (hle _ _ hc)) (fun e=>by rw [hob c e.symm] at hc; cases hc),?_⟩
  intro b2 e
  cases e
  rcases hb' with h | h
  ·cases hq:G b' with
   | none=>rfl
   | some o=>rw [zM hbs _ _ _ (hle _ _ hq)] at h; cases h
  ·exact hob b' h.symm
 ·have hd:decide ((k:Int) < (fresh.length:Int))=false:=by simpa using hlt
  have:k=fresh.length:=by omega
  subst this
  rw [List.take_length] at hO
  have hok : yHf (fresh.map (zAC d s)) := by
   intro q hq
   obtain⟨sp,hsp,rfl⟩:=List.mem_map.1 hq
   have h1:=hb sp hsp
   have h2:=yGM d s sp.till
   have h3:=zIV ho h1.2.2
   exact⟨h1.1,by show sp.from_≤wM d s sp.till; omega,h3⟩
  simp only [hd,go_sem,Nat.reduceEqDiff,Nat.reduceBEq,Nat.reduceAdd,zC]
  refine zP ?_ (ySX hE h2 h3 hO.at (by rw [List.length_map]; exact hn) hok) ?_
  ·simp only [go_sem,Nat.reduceEqDiff]
  rintro w H2 ⟨w,ob2,rfl,q1,q2,q3⟩
  obtain⟨_,_,hw⟩:=q1.sl
  subst hw
  simp only [go_sem,Nat.reduceLT,Nat.reduceEqDiff,Nat.reduceBEq,Nat.reduceAdd]
  refine⟨ob2,q1,(hGle.trans hle).trans q2,fun b hb=>?_⟩
  have:=q3 b hb
  cases hq:H b with
  | none=>rfl
  | some o=>rw [hle _ _ (hGle _ _ hq)] at this; cases this
end Go.SL
/- Contracts: sorting few names. -/
namespace Go.SL
open Go
variable {E:Env} {H:Hp}
def kN (l:List Bs) (i:Nat):List Value:=[S (l.getD i [])]
def qU (a b:Bs):Bool:=decide (vX a b < 0)
theorem yAj (l : List Bs) {k : Nat} (hk : k < l.length) : (flat l.length (kN l)).getD k undef = S (l.getD k []) := by
 have h:=pE (n:=l.length) (sz:=1) (row:=kN l) (fun i _=>rfl) k hk
 have:=zH (j:=0) h (by omega)
 simpa only [kN,List.getD_cons_zero,Nat.mul_one,Nat.add_zero] using this
theorem yAC (l : List Bs) {k : Nat} (hk : k < l.length) (x : Bs) : (flat l.length (kN l)).take k ++ [S x] ++ (flat l.length (kN l)).drop (k + 1) = flat l.length (kN (l.set k x)) := by
 have h:=zIe (n:=l.length) (sz:=1) (row:=kN l) (fun i _=>rfl) hk (r:=[S x]) rfl
 rw [Nat.mul_one] at h
 rw [h]
 apply xZ
 intro i _
 by_cases e:i=k
 ·subst e; simp [kN,hk]
 ·simp [kN,e,Ne.symm e]
theorem yYC (hE : zV E) (h3 : yZ E) (a b : Bs) : yD E 122 [S a, S b] H (.int .i64 (vX a b)) := by
 refine Fn.of_vks h3.c122 (by simp [zNw]) ?_
 simp only [zNw,zVZ,zVO,yAd]
 simp only [go_sem,Nat.reduceEqDiff,Nat.reduceBEq,reduceCtorEq]
 refine zE _ ?_ (fun _=>⟨?_,yVJ hE a b⟩) ?_<;>simp only [go_sem,Nat.reduceLT,Nat.reduceEqDiff,Nat.reduceBEq,Nat.reduceAdd,reduceCtorEq]
theorem yVB (hE : zV E) (h3 : yZ E) : zFD E (.func (.func (E.fn 122)) #[] #[]) S vX := fun _G a b =>
 wE h3.e122 (Fn.same (yYC hE h3 a b))
set_option maxHeartbeats 1000000 in
theorem yVG (h3 : yZ E) {f : Value} (hf : zFD E f S vX) {b cap capc : Nat} (l : List Bs) (hn : l.length ≤ 1000000) (hH : H b = some (.row (flat l.length (kN l)) capc true)) :
  Fn E.P (E.fn 147) [.slice (some ⟨b,0,none⟩) l.length cap,.int .i64 0,.int .i64 l.length,f] H (fun _ H'=>H'=H.put b (.row (flat l.length (kN (xJ qU l.length l))) capc true)):=by
 refine Fn.of_vks h3.c147 (by simp [zHl]) ?_
 simp only [zHl,zJJ,zKM,zKA,zKN,zKc,zKE,zJI]
 simp only [go_sem,Nat.reduceEqDiff,Nat.reduceBEq,Nat.reduceAdd,reduceCtorEq,Int.reduceAdd,zC]
 refine yP (l.length - 1) 0 (fun k fr' H' => fr' = [(0, ⟨true, .val (.slice (some ⟨b, 0, none⟩) l.length cap)⟩), (1, ⟨true, .val (.int .i64 0)⟩), (2, ⟨true, .val (.int .i64 l.length)⟩), (3, ⟨true, .val f⟩), (8, ⟨true, .val (.int .i64 ((k + 1 : Nat) : Int))⟩)] ∧
  H'=H.put b (.row (flat l.length (kN (xJ qU (k + 1) l))) capc true)) (Nat.zero_le _) ⟨rfl,(zDT hH).symm⟩ ?_
 rintro k fr' H' hk ⟨rfl,rfl⟩
 by_cases hlt:k + 1 < l.length
 ·have hd:decide (((k + 1:Nat):Int) < (l.length:Int))=true:=by rw [decide_eq_true_eq]; omega
  simp only [hd,go_sem,Nat.reduceEqDiff,Nat.reduceBEq,reduceCtorEq,zC]
  refine pX (fun m fr' H' => ∃ L : List Bs, L.length = l.length ∧ qZ qU m L = xJ qU (k + 2) l ∧ m ≤ k + 1 ∧
   fr' = [(0,⟨true,.val (.slice (some ⟨b,0,none⟩) l.length cap)⟩),(1,⟨true,.val (.int .i64 0)⟩),(2,⟨true,.val (.int .i64 l.length)⟩),(3,⟨true,.val f⟩),(8,⟨true,.val (.int .i64 ((k + 1:Nat):Int))⟩),(9,⟨true,.val (.int .i64 ((m:Nat):Int))⟩)] ∧
   H'=H.put b (.row (flat l.length (kN L)) capc true)) (k + 1) ⟨xJ qU (k + 1) l,vC _ _ _,rfl,Nat.le_refl _,rfl,rfl⟩ ?_
  rintro m fr' H' ⟨L,hL,hT,hm,rfl,rfl⟩
  have hGb:(H.put b (.row (flat l.length (kN L)) capc true)) b=some (.row (flat l.length (kN L)) capc true):=Hp.put_same ..
  have hfl:(flat l.length (kN L)).length=l.length:=by rw [xR (sz:=1) (fun i _=>rfl),Nat.mul_one]
  cases m with
  | zero =>
   have hT':L=xJ qU (k + 2) l:=hT
   have hd2:decide (((0:Nat):Int) > 0)=false:=by decide
   simp only [hd2,hGb,undef,go_sem,Nat.reduceEqDiff,Nat.reduceBEq,reduceCtorEq,zC]
   refine uX (by intro x h; cases h) (by intro f a h; cases h) ?_ (fun hg=>?_) (fun hg=>?_)
   ·simp only [go_sem,Nat.reduceEqDiff,reduceCtorEq]
   ·simp only [go_sem,Nat.reduceEqDiff,reduceCtorEq] at hg
   ·simp only [hGb,undef,↓vI,↓vR,↓yB,go_sem,Nat.reduceEqDiff,Nat.reduceBEq,reduceCtorEq,zC]
    rw [hT']
    refine⟨by omega,?_,?_⟩
    ·exact zQ (by omega)
    ·rfl
  | succ j =>
   have hd2:decide (((j + 1:Nat):Int) > 0)=true:=by rw [decide_eq_true_eq]; omega
   have e1:IntKind.i64.wrap (((j + 1:Nat):Int) - 1)=(j:Int):=by rw [yX]<;>omega
   have hj1:j + 1 < l.length:=by omega
   have g1:=yAj L (k:=j + 1) (by omega)
   have g0:=yAj L (k:=j) (by omega)
   rw [hL] at g1 g0
   simp only [hd2,e1,hGb,g1,g0,hfl,Nat.mul_one,go_sem,Nat.reduceEqDiff,Nat.reduceBEq,reduceCtorEq,zC]
   refine⟨⟨by omega,by omega⟩,by omega,⟨by omega,by omega⟩,by omega,?_⟩
   refine uX (by intro x h; cases h) (by intro f a h; cases h) ?_ (fun _=>⟨?_,?_,_,hf _ (L.getD (j + 1) []) (L.getD j []),?_⟩) (fun hg=>?_)
   ·simp only [go_sem,Nat.reduceEqDiff,reduceCtorEq]
   ·simp only [go_sem,Nat.reduceEqDiff,reduceCtorEq]
   ·simp only [go_sem,Nat.reduceEqDiff,reduceCtorEq]
   ·rintro v H'' ⟨rfl,rfl⟩
    simp only [hGb,go_sem,Nat.reduceEqDiff,Nat.reduceBEq,reduceCtorEq,zC]
    have hlt':qU (L.getD (j + 1) []) (L.getD j [])=decide (vX (L.getD (j + 1) []) (L.getD j []) < 0):=rfl
    have hins:qZ qU (j + 1) L=if qU (L.getD (j + 1) []) (L.getD j []) then qZ qU j (swp L j) else L:=rfl
    rw [hins] at hT
    refine⟨fun hc=>?_,fun hc=>?_⟩
    ·rw [hlt',hc,if_pos rfl] at hT
     have s1:=yAC L (k:=j + 1) (by omega) (L.getD j [])
     have s2:=yAC (L.set (j + 1) (L.getD j [])) (k:=j) (by simp; omega) (L.getD (j + 1) [])
     rw [hL] at s1
     rw [List.length_set,hL] at s2
     simp only [e1,hGb,g1,g0,hfl,Nat.mul_one,jA,go_sem,Nat.reduceEqDiff,Nat.reduceBEq,reduceCtorEq,zC]
     refine⟨⟨by omega,by omega⟩,by omega,⟨by omega,by omega⟩,by omega,⟨by omega,by omega⟩,by omega,⟨by omega,by omega⟩,?_⟩
     rw [s1,Hp.put_same]
     refine⟨by rw [xR (sz:=1) (fun i _=>rfl)]; omega,j,by omega,swp L j,by rw [zCp]; exact hL,hT,by omega,rfl,?_⟩
     rw [s2]; rfl
    ·rw [hlt',hc,if_neg (by simp)] at hT
     rw [hT]
     refine⟨by omega,?_,?_⟩
     ·exact zQ (by omega)
     ·rfl
   ·simp only [go_sem,Nat.reduceEqDiff,reduceCtorEq] at hg
 ·have hd:decide (((k + 1:Nat):Int) < (l.length:Int))=false:=by rw [decide_eq_false_iff_not]; omega
  simp only [hd,go_sem,Nat.reduceEqDiff,Nat.reduceBEq,reduceCtorEq,zC]
  have e : xJ qU (k + 1) l = xJ qU l.length l := by
   rcases Nat.lt_or_ge 0 l.length with h | h
   ·rw [show k + 1=l.length by omega]
   ·have:l = []:=by simpa using h
    subst this
    have:k=0:=by simpa using hk
    subst this
    rfl
  rw [e]
end Go.SL
/- What a walk over published sets keeps: rows of their own, their tags. -/
namespace Go.SL
open Go
variable {E:Env} {H:Hp}
section
variable {fr:Fr} {d:Option Nat} {K:Fr→Hp→Prop}
theorem zEu {sz bytes n c : Nat} {zero cells : List Value} {s x : Arg} {v : Value} {row row' : Nat → List Value} {ob : Option Nat} {bs : Nat} {wr : Bool} (h1 : vok fr s) (h2 : vok fr x) (hs : vo E fr s = v) (hx : vo E fr x = .slice (some ⟨bs, 0, none⟩) 1 1)
  (hb:H bs=some (.row cells c wr)) (hc:cells.length=sz) (hc1:cells.all yW=true) (hB:xS H sz v n row ob) (hl:∀ i,i < n→(row i).length=sz) (hr:∀ i,i < n→row' i=row i) (hrn:row' n=cells)
  (hn1:(n + 1) * bytes≤140737488355328) (hn2:n + 1≤4611686018427387904) (hpos:1 * bytes≤140737488355328)
  (h:∀ v' H' b',xS H' sz v' (n + 1) row' (some b')→(∀ c o,H c=some o→some c≠ob→H' c=some o)→(H b'=none∨some b'=ob)→K (setD fr d ⟨true,.val v'⟩) H') :
  xQ E (.app sz bytes zero s x) d fr H K:=by
 have e1:qY H sz (vo E fr x):=by rw [hx]; exact .inr ⟨rfl,by rw [hb]; show 0 + 1 * sz≤_; omega⟩
 have e2 : zL H sz (vo E fr x) = cells := by
  rw [hx]
  simp only [zL,hb,List.drop_zero,Nat.one_mul]
  exact List.take_of_length_le (by omega)
 have e3:zU (vo E fr x)=1:=by rw [hx]; rfl
 have e4:(zL H sz (vo E fr x)).all yW=true:=by rw [e2]; exact hc1
 have hfp:flat (n + 1) row'=flat n row ++ cells:=by rw [vP,hrn,xZ hr]
 simp only [xQ]
 refine⟨h1,h2,e1,e4,?_⟩
 cases ob with
 | none =>
  obtain⟨rfl,rfl⟩:=hB
  simp only [hs,e2,e3]
  refine⟨hpos,by omega,(fun h0=>by cases h0),fun _ b cap hbn=>?_⟩
  refine h _ _ b ⟨cap,rfl,?_⟩ (fun c o hc _=>zM hbn _ _ _ hc) (.inl hbn)
  rw [Hp.put_same,hfp]; rfl
 | some b0 =>
  obtain⟨cap,rfl,hH⟩:=hB
  have hfl:=xR hl
  simp only [hs,hH,e2,e3]
  refine⟨hn1,hn2,hfl,trivial,fun b cap' hbn=>?_⟩
  refine h _ _ b ⟨cap',rfl,?_⟩ (fun c o hc hne=>?_) ?_
  ·rw [Hp.put_same,hfp]
  ·have hcb:c≠b0:=by rintro rfl; exact hne rfl
   refine zM hbn _ _ _ ?_
   rw [Hp.del_ne _ hcb]; exact hc
  ·by_cases e:b=b0
   ·exact .inr (by rw [e])
   ·rw [Hp.del_ne _ e] at hbn; exact .inl hbn
end
def zCk : Nat → yU → List (Bs × Nat)
 | _,[]=>[]
 | n,e :: r=>(e.1,n) :: zCk (n + 1) r
theorem zHV (e : Bs × (zF × List zN)) : ∀ (n : Nat) (G : yU), zCk n (G ++ [e]) = zCk n G ++ [(e.1, n + G.length)]
 | n,[]=>rfl
 | n,x :: r=>by simp only [List.cons_append,zCk,zHV e (n + 1) r,List.length_cons]; rw [Nat.add_right_comm]; rfl
theorem zOQ (k : Bs) (y : zF × List zN) : ∀ (n : Nat) (G : yU) (i : Nat), (G.getD i default).1 = k → zCk n (G.set i (k, y)) = zCk n G
 | n,[],i,h=>rfl
 | n, x :: r, 0, h => by
  have h':x.1=k:=h
  simp only [List.set_cons_zero,zCk,h']
 | n, x :: r, i + 1, h => by
  have h':(r.getD i default).1=k:=h
  simp only [List.set_cons_succ,zCk,zOQ k y (n + 1) r i h']
theorem zKP {k : Bs} : ∀ {n : Nat} {G : yU}, yK k (zCk n G) = none → yK k G = none
 | n,[],h=>rfl
 | n, x :: r, h => by
  simp only [zCk,yK] at h
  split at h
  ·cases h
  ·rename_i hne
   have ih:=zKP h
   obtain⟨k',u⟩:=x
   simp only [yK,if_neg hne,ih]
theorem zLh {k : Bs} {i : Nat} : ∀ {n : Nat} {G : yU}, yK k (zCk n G) = some i → ∃ j, i = n + j ∧ j < G.length ∧ (G.getD j default).1 = k ∧ yK k G = some (G.getD j default).2 ∧ ∀ v, xU k v G = G.set j (k, v)
 | n,[],h=>by cases h
 | n, x :: r, h => by
  obtain⟨k',u⟩:=x
  simp only [zCk,yK] at h
  split at h
  ·rename_i he
   cases h
   exact⟨0,rfl,by simp,he.symm,by simp only [yK,if_pos he]; rfl,fun v=>by simp only [xU,if_pos he]; rfl⟩
  ·rename_i hne
   obtain⟨j,hj,hjl,hk,hg,hp⟩:=zLh h
   refine⟨j + 1,by omega,by simpa using hjl,hk,?_,fun v=>?_⟩
   ·simp only [yK,if_neg hne,hg]; rfl
   ·simp only [xU,if_neg hne,hp]; rfl
def ixs (G:yU):List (Bs × Nat):=zCk 0 G
def xF (zn:Bs) (G:yU) (dv gv fv:Nat→Value) (i:Nat):List Value:=kA zn (G.getD i default).2.1 (dv i) (gv i) (fv i) (.slice none 0 0)
structure uU (K H : Hp) (tg : Nat → Option Nat) (zn : Bs) (G : yU) (v : Value) (dv gv fv : Nat → Value) (ob : Option Nat) (fb : Nat → Option Nat) : Prop where
 le:K.le H
 tag:∀ b t,tg b=some t→K b=none∧H b≠none
 own:xS H 8 v G.length (xF zn G dv gv fv) ob
 otag:∀ b,ob=some b→tg b=some 5
 data:∀ i,i < G.length→xC K (dv i) (G.getD i default).2.1.data∧xT K (gv i) (G.getD i default).2.1.sigs
 fresh:∀ i,i < G.length→xS H 2 (fv i) (G.getD i default).2.2.length (yN (G.getD i default).2.2) (fb i)
 ftag:∀ i,i < G.length→∀ b,fb i=some b→tg b=some (6 + i)
structure qJ (H : Hp) (tg : Nat → Option Nat) (b4 b5 b6 b7 bm : Nat) (v : Value) (th : Bool) (om : xD) (G : yU) : Prop where
 v4:H b4=some (.row [.slice none 0 0] 1 true)
 v5:H b5=some (.row [.int .i64 0] 1 true)
 v6:H b6=some (.row [v] 1 true)
 v7:H b7=some (.row [.bool th] 1 true)
 vm:H bm=some om
 t4:tg b4=some 0
 t5:tg b5=some 1
 t6:tg b6=some 2
 t7:tg b7=some 3
 tm:tg bm=some 4
 map:∀ H0:Hp,uR (H0.put bm om) bm ((ixs G).map fun e=>(S e.1,.int .i64 (e.2:Int)))
section
variable {K:Hp} {tg:Nat→Option Nat} {zn:Bs} {G:yU} {v:Value} {dv gv fv:Nat→Value} {ob:Option Nat} {fb:Nat→Option Nat}
theorem wV {b c t u : Nat} (h1 : tg b = some t) (h2 : tg c = some u) (h : t ≠ u) : b ≠ c := by
 rintro rfl; rw [h1] at h2; cases h2; exact h rfl
theorem uU.put (h : uU K H tg zn G v dv gv fv ob fb) {b t : Nat} (o : xD) (ht : tg b = some t) (h5 : t < 5) : uU K (H.put b o) tg zn G v dv gv fv ob fb where
 le:=zI h.le (h.tag b t ht).1 o
 tag := fun c u hc => ⟨(h.tag c u hc).1, by
  by_cases e:c=b
  ·rw [e,Hp.put_same]; simp
  ·rw [Hp.put_ne _ _ e]; exact(h.tag c u hc).2⟩
 own:=h.own.keep fun c hc=>Hp.put_ne _ _ (wV (h.otag c hc) ht (by omega))
 otag:=h.otag
 data:=h.data
 fresh:=fun i hi=>(h.fresh i hi).keep fun c hc=>Hp.put_ne _ _ (wV (h.ftag i hi c hc) ht (by omega))
 ftag:=h.ftag
theorem uU.mono {H' : Hp} (h : uU K H tg zn G v dv gv fv ob fb) (hl : H.le H') : uU K H' tg zn G v dv gv fv ob fb where
 le:=h.le.trans hl
 tag := fun c u hc => ⟨(h.tag c u hc).1, by
  cases hq:H c with
  | none=>exact absurd hq (h.tag c u hc).2
  | some o=>rw [hl c o hq]; simp⟩
 own:=h.own.mono hl
 otag:=h.otag
 data:=h.data
 fresh:=fun i hi=>(h.fresh i hi).mono hl
 ftag:=h.ftag
theorem uU.frame {K2 H' : Hp} (h : uU K H tg zn G v dv gv fv ob fb) (h1 : K.le K2) (h2 : K2.le H') (h3 : ∀ c o, H c = some o → K c = none → K2 c = none ∧ H' c = some o) : uU K2 H' tg zn G v dv gv fv ob fb := by
 have hk : ∀ c u, tg c = some u → K2 c = none ∧ H' c = H c := fun c u hc => by
  have ht:=h.tag c u hc
  cases hq:H c with
  | none=>exact absurd hq ht.2
  | some o=>exact h3 c o hq ht.1
 exact {
  le:=h2
  tag:=fun c u hc=>⟨(hk c u hc).1,by rw [(hk c u hc).2]; exact(h.tag c u hc).2⟩
  own:=h.own.keep fun c hc=>(hk c _ (h.otag c hc)).2
  otag:=h.otag
  data:=fun i hi=>⟨(h.data i hi).1.mono h1,(h.data i hi).2.mono h1⟩
  fresh:=fun i hi=>(h.fresh i hi).keep fun c hc=>(hk c _ (h.ftag i hi c hc)).2
  ftag:=h.ftag }
theorem qJ.frame {H' : Hp} {b4 b5 b6 b7 bm : Nat} {th : Bool} {om : xD} (h : qJ H tg b4 b5 b6 b7 bm v th om G) (h3 : ∀ c u, tg c = some u → H' c = H c) : qJ H' tg b4 b5 b6 b7 bm v th om G :=
 ⟨(h3 _ _ h.t4).trans h.v4,(h3 _ _ h.t5).trans h.v5,(h3 _ _ h.t6).trans h.v6,(h3 _ _ h.t7).trans h.v7,(h3 _ _ h.tm).trans h.vm,h.t4,h.t5,h.t6,h.t7,h.tm,h.map⟩
theorem uU.frameV {K2 H' : Hp} (h : uU K H tg zn G v dv gv fv ob fb) (h3 : ∀ c o, H c = some o → K c = none → K2 c = none ∧ H' c = some o) : ∀ c u, tg c = some u → H' c = H c := fun c u hc => by
 have ht:=h.tag c u hc
 cases hq:H c with
 | none=>exact absurd hq ht.2
 | some o=>exact(h3 c o hq ht.1).2
theorem qJ.mono {H' : Hp} {b4 b5 b6 b7 bm : Nat} {th : Bool} {om : xD} (h : qJ H tg b4 b5 b6 b7 bm v th om G) (hl : H.le H') : qJ H' tg b4 b5 b6 b7 bm v th om G :=
 ⟨hl _ _ h.v4,hl _ _ h.v5,hl _ _ h.v6,hl _ _ h.v7,hl _ _ h.vm,h.t4,h.t5,h.t6,h.t7,h.tm,h.map⟩
def zAX (tg:Nat→Option Nat) (b' t:Nat) (ob:Option Nat):Nat→Option Nat:=fun c=>if c=b' then some t else if some c=ob then none else tg c
theorem zAK {b' t : Nat} {c u : Nat} (hc : tg c = some u) (h1 : c ≠ b') (h2 : some c ≠ ob) : zAX tg b' t ob c = some u := by
 unfold zAX; rw [if_neg h1,if_neg h2,hc]
theorem uU.ne_new (h : uU K H tg zn G v dv gv fv ob fb) {c u b' : Nat} {o' : Option Nat} {t : Nat} (hc : tg c = some u) (ho : ∀ b, o' = some b → tg b = some t) (hut : u ≠ t) (hnew : H b' = none ∨ some b' = o') : c ≠ b' ∧ some c ≠ o' := by
 have h2:some c≠o':=fun e=>by have:=ho c e.symm; rw [hc] at this; cases this; exact hut rfl
 refine⟨?_,h2⟩
 rintro rfl
 rcases hnew with hn | hn
 ·exact(h.tag _ _ hc).2 hn
 ·exact h2 hn
theorem uU.push (h : uU K H tg zn G v dv gv fv ob fb) {H' : Hp} {v' d0 g0 : Value} {b' : Nat} {t : Bs} {s : zF}
  (hO:xS H' 8 v' (G.length + 1) (xF zn (G ++ [(t,(s,[]))]) (yR dv G.length d0) (yR gv G.length g0) (yR fv G.length (.slice none 0 0))) (some b'))
  (hkeep:∀ c o,H c=some o→some c≠ob→H' c=some o) (hnew:H b'=none∨some b'=ob) (hd:xC K d0 s.data) (hg:xT K g0 s.sigs) :
  uU K H' (zAX tg b' 5 ob) zn (G ++ [(t,(s,[]))]) v' (yR dv G.length d0) (yR gv G.length g0) (yR fv G.length (.slice none 0 0)) (some b') (fun i=>if i=G.length then none else fb i) where
 le:=fun c o hc=>hkeep c o (h.le c o hc) fun e=>by have:=(h.tag c 5 (h.otag c e.symm)).1; rw [this] at hc; cases hc
 tag := fun c u hc => by
  unfold zAX at hc
  split at hc
  ·rename_i e
   subst e
   refine⟨?_,hO.some_at⟩
   rcases hnew with hn | hn
   ·cases hq:K c with
    | none=>rfl
    | some o=>rw [h.le c o hq] at hn; cases hn
   ·exact(h.tag c 5 (h.otag c hn.symm)).1
  ·split at hc
   ·cases hc
   ·rename_i h1 h2
    have ht:=h.tag c u hc
    refine⟨ht.1,?_⟩
    cases hq:H c with
    | none=>exact absurd hq ht.2
    | some o=>rw [hkeep c o hq h2]; simp
 own:=by rw [List.length_append]; exact hO
 otag:=fun b hb=>by cases hb; unfold zAX; rw [if_pos rfl]
 data := fun i hi => by
  by_cases e:i=G.length
  ·subst e
   have:(G ++ [(t,(s,([]:List zN)))]).getD G.length default=(t,(s,[])):=by simp
   simp only [yR,if_true,this]
   exact⟨hd,hg⟩
  ·have hi':i < G.length:=by simp at hi; omega
   have:(G ++ [(t,(s,([]:List zN)))]).getD i default=G.getD i default:=by simp [List.getElem?_append_left hi']
   simp only [yR,if_neg e,this]
   exact h.data i hi'
 fresh := fun i hi => by
  by_cases e:i=G.length
  ·subst e
   have:(G ++ [(t,(s,([]:List zN)))]).getD G.length default=(t,(s,[])):=by simp
   simp only [yR,if_true,this]
   exact⟨rfl,rfl⟩
  ·have hi':i < G.length:=by simp at hi; omega
   have:(G ++ [(t,(s,([]:List zN)))]).getD i default=G.getD i default:=by simp [List.getElem?_append_left hi']
   simp only [yR,if_neg e,this]
   refine(h.fresh i hi').keep fun c hc=>?_
   have hct:=h.ftag i hi' c hc
   have hne:=(h.ne_new hct h.otag (by omega) hnew).2
   cases hq:H c with
   | none=>exact absurd hq (h.tag c _ hct).2
   | some o=>exact hkeep c o hq hne
 ftag := fun i hi b hb => by
  by_cases e:i=G.length
  ·simp only [if_pos e] at hb; cases hb
  ·have hi':i < G.length:=by simp at hi; omega
   simp only [if_neg e] at hb
   have hct:=h.ftag i hi' b hb
   have hne:=h.ne_new hct h.otag (by omega) hnew
   exact zAK hct hne.1 hne.2
theorem qJ.push {G1 : yU} {w : Value} {b4 b5 b6 b7 bm : Nat} {th : Bool} {om : xD} (hV : qJ H tg b4 b5 b6 b7 bm w th om G1) (h : uU K H tg zn G v dv gv fv ob fb) {H' : Hp} {b' t : Nat} {o' : Option Nat} (h5 : 5 ≤ t)
  (ho:∀ b,o'=some b→tg b=some t) (hkeep:∀ c o,H c=some o→some c≠o'→H' c=some o) (hnew:H b'=none∨some b'=o'):qJ H' (zAX tg b' t o') b4 b5 b6 b7 bm w th om G1:=by
 have k : ∀ c u o, tg c = some u → u < 5 → H c = some o → H' c = some o ∧ zAX tg b' t o' c = some u := fun c u o hc hu hx => by
  have hne:=h.ne_new hc ho (by omega) hnew
  exact⟨hkeep c o hx hne.2,zAK hc hne.1 hne.2⟩
 exact ⟨(k _ _ _ hV.t4 (by omega) hV.v4).1, (k _ _ _ hV.t5 (by omega) hV.v5).1, (k _ _ _ hV.t6 (by omega) hV.v6).1, (k _ _ _ hV.t7 (by omega) hV.v7).1, (k _ _ _ hV.tm (by omega) hV.vm).1,
  (k _ _ _ hV.t4 (by omega) hV.v4).2,(k _ _ _ hV.t5 (by omega) hV.v5).2,(k _ _ _ hV.t6 (by omega) hV.v6).2,(k _ _ _ hV.t7 (by omega) hV.v7).2,(k _ _ _ hV.tm (by omega) hV.vm).2,hV.map⟩
theorem zCX {G:yU} {i:Nat} (hi:i < G.length) (x:Bs × (zF × List zN)):(G.set i x).getD i default=x:=by simp [hi]
theorem getD_set_ne {G : yU} {i j : Nat} (h : j ≠ i) (x : Bs × (zF × List zN)) : (G.set i x).getD j default = G.getD j default := by
 simp [Ne.symm h]
theorem zSm {i : Nat} (hi : i < G.length) (k : Bs) (l : List zN) (j : Nat) : xF zn (G.set i (k, ((G.getD i default).2.1, l))) dv gv fv j = xF zn G dv gv fv j := by
 unfold xF
 by_cases e:j=i
 ·subst e; rw [zCX hi]
 ·rw [getD_set_ne e]
theorem zEL {n i : Nat} (hi : i < n) (x : Value) : (flat n (xF zn G dv gv fv)).take (i * 8 + 6) ++ [x] ++ (flat n (xF zn G dv gv fv)).drop (i * 8 + 6 + 1) = flat n (xF zn G dv gv (yR fv i x)) := by
 rw [zAW (sz:=8) (fun _ _=>rfl) hi (by omega)]
 apply xZ
 intro j _
 by_cases e:j=i
 ·subst e; simp [xF,kA,yR]
 ·simp [xF,kA,yR,e]
theorem uU.pushF (h : uU K H tg zn G v dv gv fv ob fb) {H' : Hp} {v' : Value} {b' i b0 cap : Nat} {sp : zN} (hi : i < G.length) (hv : v = .slice (some ⟨b0, 0, none⟩) G.length cap) (hob : ob = some b0)
  (hO:xS H' 2 v' ((G.getD i default).2.2.length + 1) (yN ((G.getD i default).2.2 ++ [sp])) (some b')) (hkeep:∀ c o,H c=some o→some c≠fb i→H' c=some o) (hnew:H b'=none∨some b'=fb i) :
  uU K (H'.put b0 (.row (flat G.length (xF zn G dv gv (yR fv i v'))) (cap * 8) true)) (zAX tg b' (6 + i) (fb i)) zn (G.set i ((G.getD i default).1,((G.getD i default).2.1,(G.getD i default).2.2 ++ [sp]))) v dv gv (yR fv i v') ob (fun j=>if j=i then some b' else fb j):=by
 have hot:=h.otag b0 hob
 have h0n:=h.ne_new hot (h.ftag i hi) (by omega) hnew
 have hkle : ∀ c o, K c = some o → H' c = some o := fun c o hc => hkeep c o (h.le c o hc) fun e => by
  have:=(h.tag c _ (h.ftag i hi c e.symm)).1
  rw [this] at hc; cases hc
 exact {
  le := fun c o hc => by
   rw [Hp.put_ne]
   ·exact hkle c o hc
   ·rintro rfl
    rw [(h.tag _ _ hot).1] at hc; cases hc
  tag := fun c u hc => by
   have hput : H' c ≠ none → (H'.put b0 (.row (flat G.length (xF zn G dv gv (yR fv i v'))) (cap * 8) true)) c ≠ none := fun hx => by
    by_cases e:c=b0
    ·rw [e,Hp.put_same]; simp
    ·rw [Hp.put_ne _ _ e]; exact hx
   unfold zAX at hc
   split at hc
   ·rename_i e
    subst e
    refine⟨?_,hput hO.some_at⟩
    rcases hnew with hn | hn
    ·cases hq:K c with
     | none=>rfl
     | some o=>rw [h.le c o hq] at hn; cases hn
    ·exact(h.tag c _ (h.ftag i hi c hn.symm)).1
   ·split at hc
    ·cases hc
    ·rename_i h1 h2
     have ht:=h.tag c u hc
     refine⟨ht.1,hput ?_⟩
     cases hq:H c with
     | none=>exact absurd hq ht.2
     | some o=>rw [hkeep c o hq h2]; simp
  own := by
   subst hv; subst hob
   rw [List.length_set]
   refine⟨cap,rfl,?_⟩
   rw [Hp.put_same]
   congr 2
   exact(xZ fun j _=>zSm hi _ _ j).symm
  otag := fun b hb => by
   rw [hob] at hb; cases hb
   exact zAK hot h0n.1 h0n.2
  data := fun j hj => by
   rw [List.length_set] at hj
   by_cases e:j=i
   ·subst e; rw [zCX hi]; exact h.data j hi
   ·rw [getD_set_ne e]; exact h.data j hj
  fresh := fun j hj => by
   rw [List.length_set] at hj
   by_cases e:j=i
   ·subst e
    rw [zCX hi]
    simp only [yR,if_true,List.length_append,List.length_cons,List.length_nil,Nat.zero_add]
    refine hO.keep fun c hc=>?_
    cases hc
    exact Hp.put_ne _ _ (Ne.symm h0n.1)
   ·rw [getD_set_ne e]
    simp only [yR,if_neg e]
    refine(h.fresh j hj).keep fun c hc=>?_
    have hct:=h.ftag j hj c hc
    have hne:=h.ne_new hct (h.ftag i hi) (by omega) hnew
    rw [Hp.put_ne _ _ (wV hct hot (by omega))]
    cases hq:H c with
    | none=>exact absurd hq (h.tag c _ hct).2
    | some o=>exact hkeep c o hq hne.2
  ftag := fun j hj b hb => by
   rw [List.length_set] at hj
   by_cases e:j=i
   ·subst e
    simp only [if_true] at hb
    cases hb
    unfold zAX; rw [if_pos rfl]
   ·simp only [if_neg e] at hb
    have hct:=h.ftag j hj b hb
    have hne:=h.ne_new hct (h.ftag i hi) (by omega) hnew
    exact zAK hct hne.1 hne.2 }
end
end Go.SL
/- Contracts: what a zone published; plain parts and pieces of the state. -/
namespace Go.SL
open Go
variable {E:Env} {H:Hp}
theorem zSu {sp : zN} {G : yU} {s : zF} (h : yK (xW s) (ixs G) = none) :
  pG sp G s=(G ++ [(xW s,(s,[]))]).set G.length (xW s,(s,[] ++ [sp]))∧ixs (G ++ [(xW s,(s,[]))])=xU (xW s) G.length (ixs G):=by
 have hg:=zKP h
 refine⟨?_,?_⟩
 ·unfold pG
  rw [hg,zAy hg]
  simp
 ·rw [zAy h]
  unfold ixs
  rw [zHV,Nat.zero_add]
theorem zSp {sp : zN} {G : yU} {s : zF} {i : Nat} (h : yK (xW s) (ixs G) = some i) :
  i < G.length∧(G.getD i default).1=xW s∧pG sp G s=G.set i (xW s,((G.getD i default).2.1,(G.getD i default).2.2 ++ [sp])):=by
 obtain⟨j,hj,hjl,hk,hg,hp⟩:=zLh h
 rw [Nat.zero_add] at hj
 subst hj
 refine⟨hjl,hk,?_⟩
 unfold pG
 rw [hg,hp]
theorem yEo {G:yU} {i:Nat} (y:zF × List zN) {k:Bs} (h:(G.getD i default).1=k):ixs (G.set i (k,y))=ixs G:=zOQ k y 0 G i h
theorem zSy (sp : zN) (G : yU) (s : zF) : (pG sp G s).length ≤ G.length + 1 := by
 unfold pG
 have := zGd (xW s) (match yK (xW s) G with
  | some e=>(e.1,e.2 ++ [sp])
  | none=>(s,[sp])) G
 omega
theorem zEO (sp : zN) (G : yU) (ss : List zF) : ∀ k, (qA sp G ss k).length ≤ G.length + k
 | 0=>Nat.le_refl _
 | k + 1 => by
  have h1:=zEO sp G ss k
  have h2:=zSy sp (qA sp G ss k) (ss.getD k default)
  simp only [qA]; omega
theorem zFL {fs : List yE} {B : Nat} (h : ∀ i, i < fs.length → (fs.getD i default).sets.length ≤ B) : ∀ m, m ≤ fs.length → (jL fs m).length ≤ m * B
 | 0,_=>by simp [jL]
 | m + 1, hm => by
  have h1:=zFL h m (by omega)
  have h2:=zEO (xX (fs.getD m default)) (jL fs m) (fs.getD m default).sets (fs.getD m default).sets.length
  have h3:=h m (by omega)
  simp only [jL,Nat.succ_mul]; omega
def SpB (G:yU) (N:Nat):Prop:=∀ e∈G,e.2.2.length≤N
theorem yFH {sp : zN} {G : yU} {s : zF} {N : Nat} (h : SpB G N) : SpB (pG sp G s) (N + 1) := by
 intro e he
 unfold pG at he
 rcases pM he with rfl | he
 ·cases hg:yK (xW s) G with
  | none=>simp
  | some e0 =>
   have:=h _ (zBf hg)
   simp only [List.length_append,List.length_cons,List.length_nil] at this ⊢
   omega
 ·have:=h e he; omega
theorem zFG {sp : zN} {G : yU} {ss : List zF} {N : Nat} (h : SpB G N) : ∀ k, SpB (qA sp G ss k) (N + k)
 | 0=>h
 | k + 1=>by have:=yFH (sp:=sp) (s:=ss.getD k default) (zFG (sp:=sp) (ss:=ss) h k); exact this
theorem zWr {fs : List yE} {B : Nat} (h : ∀ i, i < fs.length → (fs.getD i default).sets.length ≤ B) : ∀ m, m ≤ fs.length → SpB (jL fs m) (m * B)
 | 0,_=>fun e he=>by simp [jL] at he
 | m + 1, hm => by
  have h1:=zFG (sp:=xX (fs.getD m default)) (ss:=(fs.getD m default).sets) (zWr h m (by omega)) (fs.getD m default).sets.length
  have h3:=h m (by omega)
  intro e he
  have:=h1 e he
  rw [Nat.succ_mul]; omega
section
variable {tg:Nat→Option Nat} {b4 b5 b6 b7 bm:Nat} {v:Value} {th:Bool} {om:xD} {G:yU}
theorem qJ.put {b t : Nat} (h : qJ H tg b4 b5 b6 b7 bm v th om G) (o : xD) (hb : tg b = some t) (h5 : 5 ≤ t) : qJ (H.put b o) tg b4 b5 b6 b7 bm v th om G :=
 ⟨(Hp.put_ne _ _ (wV h.t4 hb (by omega))).trans h.v4,(Hp.put_ne _ _ (wV h.t5 hb (by omega))).trans h.v5,(Hp.put_ne _ _ (wV h.t6 hb (by omega))).trans h.v6,(Hp.put_ne _ _ (wV h.t7 hb (by omega))).trans h.v7,(Hp.put_ne _ _ (wV h.tm hb (by omega))).trans h.vm,h.t4,h.t5,h.t6,h.t7,h.tm,h.map⟩
theorem qJ.upd {G1 : yU} (h : qJ H tg b4 b5 b6 b7 bm v th om G) {o : xD} (hm : ∀ H0 : Hp, uR (H0.put bm o) bm ((ixs G1).map fun e => (S e.1, .int .i64 (e.2 : Int)))) : qJ (H.put bm o) tg b4 b5 b6 b7 bm v th o G1 :=
 ⟨(Hp.put_ne _ _ (wV h.t4 h.tm (by omega))).trans h.v4,(Hp.put_ne _ _ (wV h.t5 h.tm (by omega))).trans h.v5,(Hp.put_ne _ _ (wV h.t6 h.tm (by omega))).trans h.v6,(Hp.put_ne _ _ (wV h.t7 h.tm (by omega))).trans h.v7,Hp.put_same ..,h.t4,h.t5,h.t6,h.t7,h.tm,hm⟩
theorem qJ.st6 (h : qJ H tg b4 b5 b6 b7 bm v th om G) (v' : Value) : qJ (H.put b6 (.row [v'] 1 true)) tg b4 b5 b6 b7 bm v' th om G :=
 ⟨(Hp.put_ne _ _ (wV h.t4 h.t6 (by omega))).trans h.v4,(Hp.put_ne _ _ (wV h.t5 h.t6 (by omega))).trans h.v5,Hp.put_same ..,(Hp.put_ne _ _ (wV h.t7 h.t6 (by omega))).trans h.v7,(Hp.put_ne _ _ (wV h.tm h.t6 (by omega))).trans h.vm,h.t4,h.t5,h.t6,h.t7,h.tm,h.map⟩
theorem qJ.st7 (h : qJ H tg b4 b5 b6 b7 bm v th om G) (q : Bool) : qJ (H.put b7 (.row [.bool q] 1 true)) tg b4 b5 b6 b7 bm v q om G :=
 ⟨(Hp.put_ne _ _ (wV h.t4 h.t7 (by omega))).trans h.v4,(Hp.put_ne _ _ (wV h.t5 h.t7 (by omega))).trans h.v5,(Hp.put_ne _ _ (wV h.t6 h.t7 (by omega))).trans h.v6,Hp.put_same ..,(Hp.put_ne _ _ (wV h.tm h.t7 (by omega))).trans h.vm,h.t4,h.t5,h.t6,h.t7,h.tm,h.map⟩
theorem qJ.congr {G1 : yU} (h : qJ H tg b4 b5 b6 b7 bm v th om G) (e : ixs G1 = ixs G) : qJ H tg b4 b5 b6 b7 bm v th om G1 :=
 ⟨h.v4,h.v5,h.v6,h.v7,h.vm,h.t4,h.t5,h.t6,h.t7,h.tm,by rw [e]; exact h.map⟩
end
def zCx (H0 : Hp) (zn : Bs) (b4 b5 b6 b7 bm : Nat) (G : yU) (th : Bool) (H : Hp) : Prop :=
 ∃ K tg v dv gv fv ob fb om,H0.le K∧uU K H tg zn G v dv gv fv ob fb∧qJ H tg b4 b5 b6 b7 bm v th om G
theorem zCx.le {H0 : Hp} {zn : Bs} {b4 b5 b6 b7 bm : Nat} {G : yU} {th : Bool} (h : zCx H0 zn b4 b5 b6 b7 bm G th H) : H0.le H := by
 obtain⟨K,tg,v,dv,gv,fv,ob,fb,om,h1,h2,_⟩:=h
 exact h1.trans h2.le
theorem zCx.st7 {H0 : Hp} {zn : Bs} {b4 b5 b6 b7 bm : Nat} {G : yU} {th : Bool} (h : zCx H0 zn b4 b5 b6 b7 bm G th H) (q : Bool) : zCx H0 zn b4 b5 b6 b7 bm G q (H.put b7 (.row [.bool q] 1 true)) := by
 obtain⟨K,tg,v,dv,gv,fv,ob,fb,om,h1,h2,h3⟩:=h
 exact⟨K,tg,v,dv,gv,fv,ob,fb,om,h1,h2.put _ h3.t7 (by omega),h3.st7 q⟩
theorem zIA (zn : Bs) (G : yU) (dv gv fv : Nat → Value) {n i : Nat} (hi : i < n) : (flat n (xF zn G dv gv fv)).getD (i * 8 + 6) undef = fv i := by
 rw [yPP (sz:=8) (fun _ _=>rfl) hi (by omega)]; rfl
end Go.SL
