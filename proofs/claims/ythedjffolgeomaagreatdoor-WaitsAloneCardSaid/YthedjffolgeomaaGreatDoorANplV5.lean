/- Contracts: sorting nothing; Normal. -/
import Derived.Test.YthedjffolgeomaaGreatDoorANplQ
import Derived.Test.YthedjffolgeomaaGreatDoorANplW3
import Derived.Test.YthedjffolgeomaaGreatDoorANplT2
import Derived.Test.YthedjffolgeomaaGreatDoorANplV8
import Derived.Test.YthedjffolgeomaaGreatDoorANplX18
import Derived.Test.YthedjffolgeomaaGreatDoorANplX19
namespace Go.SL
open Go
variable {E:Env} {H:Hp}
theorem wi0:IntKind.i64.wrap (0:Int)=0:=by decide
theorem yVS (h2 : xZ E) (v f : Value) : Fn E.P (E.fn 109) [v, .int .i64 0, .int .i64 0, f] H (fun _ H' => H' = H) := by
 refine Fn.of_vks h2.c109 (by simp [zHm]) ?_
 simp only [zHm,zJV,zJQ,zJD,zKy,zJX,zJU,zJG]
 simp only [go_sem,Nat.reduceEqDiff,Nat.reduceBEq,Nat.reduceAdd,reduceCtorEq,Int.reduceAdd,zC]
 refine zT 0 0 (fun _=>[(0,⟨true,.val v⟩),(1,⟨true,.val (.int .i64 0)⟩),(2,⟨true,.val (.int .i64 0)⟩),(3,⟨true,.val f⟩),(8,⟨true,.val (.int .i64 1)⟩)]) (fun _=>True) (Nat.le_refl _) rfl trivial ?_
 intro k hk _
 simp only [zGU,go_sem,Nat.reduceEqDiff,Nat.reduceBEq,reduceCtorEq,Int.reduceLT,zC]
theorem yYU (h2 : xZ E) (v f : Value) (m : Int) : Fn E.P (E.fn 86) [v, .int .i64 0, .int .i64 0, .int .i64 m, f] H (fun _ H' => H' = H) := by
 refine Fn.of_vks h2.c86 (by simp [zJL]) ?_
 simp only [zJL,zND,zRl,zOh,zOL,zNQ]
 simp only [go_sem,Nat.reduceEqDiff,Nat.reduceBEq,Nat.reduceAdd,reduceCtorEq]
 refine zT 0 0 (fun _=>[(0,⟨true,.val v⟩),(1,⟨true,.val (.int .i64 0)⟩),(2,⟨true,.val (.int .i64 0)⟩),(3,⟨true,.val (.int .i64 m)⟩),(4,⟨true,.val f⟩),(10,⟨true,.val (.bool true)⟩),(11,⟨true,.val (.bool true)⟩)]) (fun _=>True) (Nat.le_refl _) rfl trivial ?_
 intro k hk _
 simp only [wi0,zIk,go_sem,Nat.reduceEqDiff,Nat.reduceBEq,reduceCtorEq,Int.reduceLE,Int.reduceSub,zC]
 refine zM ?_ (yVS h2 v f) ?_
 ·simp only [go_sem,Nat.reduceEqDiff,reduceCtorEq]
 rintro u H' rfl
 simp only [go_sem,Nat.reduceBEq]
theorem yYf (hE : zX E) (h2 : xZ E) (f : Value) : Fn E.P (E.fn 87) [.slice none 0 0, f] H (fun _ H' => H' = H) := by
 refine Fn.of_vks hE.c87 (by simp [zJK]) ?_
 simp only [zJK,zRd,zPv]
 have e1:IntKind.u64.wrap (0:Int)=((0:Nat):Int):=by decide
 have cN:((0:Nat):Int)=0:=rfl
 simp only [cN,e1,go_sem,Nat.reduceEqDiff,Nat.reduceBEq,reduceCtorEq]
 refine zE _ ?_ (fun _=>⟨?_,zHj h2 0 (by omega)⟩) ?_<;>simp only [go_sem,Nat.reduceEqDiff,Nat.reduceBEq,reduceCtorEq]
 refine zM ?_ (yYU h2 _ f _) ?_
 ·simp only [go_sem,Nat.reduceEqDiff,reduceCtorEq]
 rintro u H' rfl
 simp only [go_sem,Nat.reduceBEq]
def yIB (l:List zO):Prop:=∀ s∈l,0≤s.from_∧s.from_≤s.till∧s.till≤20000000
set_option maxHeartbeats 1000000 in
theorem yTD (hE : zX E) (h2 : xZ E) (h3 : yW E) {v : Value} {l : List zO} (hl : wR H v l) (hn : l.length ≤ 12) (hok : yIB l) :
  Fn E.P (E.fn 129) [v] H (fun u H'=>∃ w ob,u = .tuple #[w,.int .i64 0]∧qR H' w (yC l) ob∧H.le H'∧∀ b,ob=some b→H b=none):=by
 have hl':=hl
 obtain⟨a,cap,rfl,hsp,hr⟩:=hl
 refine Fn.of_vks h3.c129 (by simp [zLQ]) ?_
 simp only [zLQ,yEp,zZF,yBe,zUu,yCE,yFh,zUR,yGf,yAs,yAP,zPl,zOJ]
 simp only [go_sem,Nat.reduceEqDiff,Nat.reduceBEq,reduceCtorEq,zC]
 have d1:decide ((l.length:Int) > 20000)=false:=by rw [decide_eq_false_iff_not]; omega
 simp only [d1,go_sem]
 refine zT l.length 0 (fun k=>[(0,⟨true,.val (.slice a l.length cap)⟩),(10,⟨true,.val (.slice a l.length cap)⟩),(11,⟨true,.val (.int .i64 l.length)⟩),(12,⟨true,.val (.int .i64 k)⟩)]) (fun _=>True) (Nat.zero_le _) rfl trivial ?_
 intro k hk _
 by_cases hlt:k < l.length
 ·have hd:decide ((k:Int) < (l.length:Int))=true:=by simpa using hlt
  have hr':=hr (by omega)
  obtain⟨b,o,vs,c,wr,ha,hb,hi⟩:=hr'
  subst ha
  have hi1:=(hi k hlt).1
  have hi2:=(hi k hlt).2
  have hx:=hok _ (yN hlt)
  have c1:decide ((l.getD k default).from_ < 0)=false:=by rw [decide_eq_false_iff_not]; omega
  have c2:decide ((l.getD k default).from_ > (l.getD k default).till)=false:=by rw [decide_eq_false_iff_not]; omega
  have c3:decide ((l.getD k default).till > 20000000)=false:=by rw [decide_eq_false_iff_not]; omega
  simp only [hd,hb,hi2,yM,c1,c2,c3,go_sem,Nat.reduceLeDiff,Nat.reduceEqDiff,Nat.reduceBEq,Nat.reduceAdd,reduceCtorEq,zC]
  refine⟨⟨by omega,by omega⟩,hi1,hlt,zR (by omega)⟩
 ·have hd:decide ((k:Int) < (l.length:Int))=false:=by simpa using hlt
  simp only [hd,go_sem,Nat.reduceEqDiff,Nat.reduceBEq,Nat.reduceAdd,reduceCtorEq,zC]
  refine zM ?_ (yYS h3 hl' (by omega)) ?_
  ·simp only [go_sem,Nat.reduceEqDiff,reduceCtorEq]
  rintro w H1 ⟨ob,hO,hle,hob⟩
  have hsl:=zIo l
  have fin : ∀ (H2 : Hp) (w2 : Value), w2 = w → H.le H2 → wR H2 w (pE (vF l)) →
    Fn E.P (E.fn 144) [w2] H2 (fun u H'=>∃ ob,qR H' u (yC l) ob∧H.le H'∧∀ b,ob=some b→H b=none):=by
   rintro H2 w2 rfl hle2 hs
   refine(yZu h3 hs (by rw [pE,vB]; omega)).mono ?_
   rintro u H' ⟨ob,h1,h2,h3⟩
   refine⟨ob,h1,hle2.trans h2,fun b hb=>?_⟩
   have:=h3 b hb
   cases hq:H b with
   | none=>rfl
   | some o=>rw [hle2 _ _ hq] at this; cases this
  cases ob with
  | none =>
   obtain⟨rfl,hnil⟩:=hO
   have hs:wR H1 (.slice none 0 0) (pE (vF l)):=by rw [hnil]; exact zG.nil
   simp only [go_sem,Nat.reduceEqDiff,Nat.reduceBEq,reduceCtorEq]
   refine zM ?_ (yYf hE h2 (.func (.func (E.fn 143)) #[] #[])) ?_
   ·simp only [go_sem,Nat.reduceEqDiff]
   rintro u H2 rfl
   simp only [go_sem,Nat.reduceEqDiff,Nat.reduceBEq]
   refine zM ?_ (fin _ _ rfl hle hs) ?_
   ·simp only [go_sem,Nat.reduceEqDiff]
   rintro u2 H3 ⟨ob,h1,h2,h3⟩
   obtain⟨_,_,hu2⟩:=h1.sl
   subst hu2
   simp only [go_sem,Nat.reduceEqDiff,Nat.reduceBEq]
   exact⟨_,ob,rfl,h1,h2,h3⟩
  | some b =>
   obtain⟨hne,cp,rfl,hrow⟩:=hO
   simp only [go_sem,Nat.reduceEqDiff,Nat.reduceBEq,reduceCtorEq]
   refine zM ?_ (yTq hE h2 (yVO hE h3) (vF l) (by omega) hrow) ?_
   ·simp only [go_sem,Nat.reduceEqDiff]
   rintro u H2 rfl
   have hs : wR (H1.put b (.row (flat (vF l).length (yM (pE (vF l)))) (cp * 2) true)) (.slice (some ⟨b, 0, none⟩) (vF l).length cp) (pE (vF l)) := by
    have e:(pE (vF l)).length=(vF l).length:=by rw [pE,vB]
    have:=zG.ofRow (H:=H1.put b (.row (flat (vF l).length (yM (pE (vF l)))) (cp * 2) true)) (sz:=2) (n:=(pE (vF l)).length) (cap:=cp) (c:=cp * 2) (row:=yM (pE (vF l))) (b:=b) (wr:=true) (fun i _=>rfl) (by rw [Hp.put_same,e])
    rw [e] at this
    unfold wR
    rw [e]
    exact this
   simp only [go_sem,Nat.reduceEqDiff,Nat.reduceBEq]
   refine zM ?_ (fin _ _ rfl (zH hle (hob b rfl) _) hs) ?_
   ·simp only [go_sem,Nat.reduceEqDiff]
   rintro u2 H3 ⟨ob,h1,h2,h3⟩
   obtain⟨_,_,hu2⟩:=h1.sl
   subst hu2
   simp only [go_sem,Nat.reduceEqDiff,Nat.reduceBEq]
   exact⟨_,ob,rfl,h1,h2,h3⟩
end Go.SL
/- Contracts: when a cache may use a set. -/
namespace Go.SL
open Go
variable {E:Env} {H:Hp}
structure zCC (d : Int) (s : zF) : Prop where
 d1:0≤d
 d2:d≤1000
 life:0≤s.life∧s.life≤100000
 sigs:∀ g∈s.sigs,0≤g.till∧g.till≤20000000
theorem yGz.grow {d:Int} {s:zF} (h:yGz s) (h1:0≤d) (h2:d≤1000):zCC d s:=⟨h1,h2,h.life,h.sigs⟩
def pF (zn:Bs) (s:zF) (dv gv fv sv:Value):List Value:=[S zn,S s.name,.int .i64 s.type,.int .i64 s.life,dv,gv,fv,sv]
set_option maxHeartbeats 1000000 in
theorem yZy (h3 : yW E) {b2 b3 c2 c3 : Nat} {w2 w3 : Bool} {zn : Bs} {s : zF} {dv gv fv sv : Value} {d : Int} {sp : zO} (ho : zCC d s) (hsp : 0 ≤ sp.till ∧ sp.till ≤ 10000000)
  (hx:H b2=some (.row (pF zn s dv gv fv sv) c2 w2)) (hd:H b3=some (.row [.int .i64 d] c3 w3)) (hg:xL H gv s.sigs) :
  yB E 140 [kF sp,.pointer (some ⟨b2,0,none⟩),.pointer (some ⟨b3,0,none⟩)] H (kF (jZ d s sp)):=by
 have hg':=hg
 obtain⟨a,cap,rfl,hs0,hr⟩:=hg
 have l1:=ho.life
 have l2:=ho.d1
 have l3:=ho.d2
 have w1:IntKind.i64.wrap (sp.till - 1)=sp.till - 1:=by rw [yZ]<;>omega
 have w2:IntKind.i64.wrap (2 * d)=2 * d:=by rw [yZ]<;>omega
 have w3:IntKind.i64.wrap (sp.till - 1 + max s.life 1)=sp.till - 1 + max s.life 1:=by rw [yZ]<;>omega
 have w4:IntKind.i64.wrap (sp.till - 1 + max s.life 1 + 2 * d)=sp.till - 1 + max s.life 1 + 2 * d:=by rw [yZ]<;>omega
 unfold kF jZ
 simp only [pF] at hx
 refine Fn.of_vks h3.c140 (by simp [zLv]) ?_
 simp only [zLv,zVy,zVS,zSV,zTH,zVo]
 rcases hsig:s.sigs with _ | ⟨g,r⟩
 ·have hge:wC d s sp.till=max sp.till (sp.till - 1 + max s.life 1 + 2 * d):=by unfold wC; rw [hsig]
  have cN:decide (((s.sigs.length:Nat):Int) > 0)=false:=by rw [hsig]; rfl
  clear hsig
  simp only [hx,hd,w1,w2,w3,w4,cN,go_sem,Nat.reduceLeDiff,Nat.reduceEqDiff,Nat.reduceBEq,Nat.reduceAdd,reduceCtorEq,zC]
  rw [hge]
 ·have hgm:=ho.sigs g (by rw [hsig]; exact List.mem_cons_self)
  have hge:wC d s sp.till=max sp.till (min (sp.till - 1 + max s.life 1 + 2 * d) (g.till + d + 1)):=by unfold wC; rw [hsig]
  have hpos:0 < s.sigs.length:=by rw [hsig]; simp
  have hg0:s.sigs.getD 0 default=g:=by rw [hsig]; rfl
  have hr':=hr hpos
  obtain⟨b,o,vs,c,wr,ha,hb,hi⟩:=hr'
  subst ha
  have hi1:=(hi 0 hpos).1
  have hi2:=(hi 0 hpos).2
  have v4:=zK (o:=o + 0 * 6) (sz:=6) (j:=4) hi2 (by omega)
  simp only [zAf,hg0,List.getD_cons_zero,List.getD_cons_succ,Nat.zero_mul,Nat.add_zero] at v4 hi1
  have w5:IntKind.i64.wrap (g.till + d)=g.till + d:=by rw [yZ]<;>omega
  have w6:IntKind.i64.wrap (g.till + d + 1)=g.till + d + 1:=by rw [yZ]<;>omega
  have cN:decide (((s.sigs.length:Nat):Int) > 0)=true:=by rw [decide_eq_true_eq]; omega
  clear hsig
  simp only [hx,hd,w1,w2,w3,w4,w5,w6,hb,v4,cN,go_sem,Nat.reduceLeDiff,Nat.reduceEqDiff,Nat.reduceBEq,Nat.reduceAdd,reduceCtorEq,Int.reduceToNat,Int.reduceLE,zC]
  exact⟨by omega,by omega,by rw [hge]⟩
theorem zIP {d : Int} {s : zF} {e : Int} (ho : zCC d s) (h : e ≤ 10000000) : wC d s e ≤ 20000000 := by
 have l1:=ho.life
 have l2:=ho.d1
 have l3:=ho.d2
 unfold wC
 split<;>omega
theorem zLn {α β : Type} [Inhabited α] (f : α → β) {l : List α} {k : Nat} (hk : k < l.length) : (l.take (k + 1)).map f = (l.take k).map f ++ [f (l.getD k default)] := by
 rw [List.take_add_one,List.getElem?_eq_getElem hk,List.getD_eq_getElem?_getD,List.getElem?_eq_getElem hk,List.map_append]; rfl
set_option maxHeartbeats 1000000 in
theorem yWZ (hE : zX E) (h2 : xZ E) (h3 : yW E) {zn : Bs} {s : zF} {dv gv fv sv : Value} {d : Int} {fresh : List zO} (ho : zCC d s) (hg : xL H gv s.sigs) (hf : wR H fv fresh) (hn : fresh.length ≤ 12)
  (hb:∀ sp∈fresh,0≤sp.from_∧sp.from_≤sp.till∧sp.till≤10000000) (_h1d:yV dv=true) (_h1s:yV sv=true) :
  Fn E.P (E.fn 138) [.agg #[S zn,S s.name,.int .i64 s.type,.int .i64 s.life,dv,gv,fv,sv],.int .i64 d] H (fun u H'=>∃ ob,qR H' u (kO d s fresh) ob∧H.le H'∧∀ b,ob=some b→H b=none):=by
 have h1g:=zG.one hg
 have h1f:=zG.one hf
 obtain⟨a,cap,rfl,hsp,hr⟩:=hf
 refine Fn.of_vks h3.c138 (by simp [zNm]) ?_
 simp only [zNm,yEL,zVF,yAq,zVm,zVr,zVd,zUO,zVB,yEr,yAM]
 simp only [go_sem,Nat.reduceEqDiff,Nat.reduceBEq,Nat.reduceAdd,reduceCtorEq]
 intro b2 hb2 b3 hb3
 obtain⟨G,hG⟩:∃ y,y=(H.put b2 (.row [S zn,S s.name,.int .i64 s.type,.int .i64 s.life,dv,gv,.slice a fresh.length cap,sv] 8 true)).put b3 (.row [.int .i64 d] 1 true):=⟨_,rfl⟩
 have hne:b2≠b3:=by rintro rfl; rw [Hp.put_same] at hb3; cases hb3
 have hG2:G b2=some (.row (pF zn s dv gv (.slice a fresh.length cap) sv) 8 true):=by rw [hG,Hp.put_ne _ _ hne,Hp.put_same]; rfl
 have hG3:G b3=some (.row [.int .i64 d] 1 true):=by rw [hG,Hp.put_same]
 have hGle:H.le G:=by rw [hG]; exact(zJ hb2 _).trans (zJ hb3 _)
 have hG2':=hG2
 simp only [pF] at hG2'
 rw [← hG]
 simp only [hG2',go_sem,Nat.reduceLeDiff,Nat.reduceEqDiff,Nat.reduceBEq,Nat.reduceAdd]
 refine yK fresh.length 0 (fun k fr' H' => ∃ u ob, fr' = [(5, ⟨true, .val (.func (.func (E.fn 140)) #[] #[.pointer (some ⟨b2, 0, none⟩), .pointer (some ⟨b3, 0, none⟩)])⟩), (6, ⟨true, .val u⟩), (11, ⟨true, .val (.slice a fresh.length cap)⟩), (12, ⟨true, .val (.int .i64 fresh.length)⟩), (13, ⟨true, .val (.int .i64 k)⟩)] ∧
  qR H' u ((fresh.take k).map (jZ d s)) ob∧G.le H'∧∀ b,ob=some b→G b=none) (Nat.zero_le _) ⟨_,none,rfl,⟨rfl,rfl⟩,Hp.le.refl _,fun b h=>by cases h⟩ ?_
 rintro k fr' H' hk ⟨u,ob,rfl,hO,hle,hob⟩
 by_cases hlt:k < fresh.length
 ·have hd:decide ((k:Int) < (fresh.length:Int))=true:=by simpa using hlt
  have hr':=hr (by omega)
  obtain⟨b,o,vs,c,wr,ha,hbb,hi⟩:=hr'
  subst ha
  have hb1:=hle _ _ (hGle _ _ hbb)
  have hi1:=(hi k hlt).1
  have hi2:=(hi k hlt).2
  have hsucc:=zLn (jZ d s) hlt
  have hlen:((fresh.take k).map (jZ d s)).length≤12:=by rw [List.length_map,List.length_take]; omega
  have hxm:=hb _ (yN hlt)
  obtain⟨x,hx⟩:∃ y,fresh.getD k default=y:=⟨_,rfl⟩
  rw [hx] at hsucc hxm
  have hfn:=yZy h3 (H:=H') (sp:=x) (zn:=zn) ho (by omega) (hle _ _ hG2) (hle _ _ hG3) (xL.mono hg (hGle.trans hle))
  simp only [hd,hb1,hi2,yM,hx,go_sem,Nat.reduceEqDiff,Nat.reduceBEq,Nat.reduceAdd,zC]
  refine⟨⟨by omega,by omega⟩,hi1,?_⟩
  refine xA ?_ ?_ (yP h3.e140 (Fn.same hfn)) ?_
  ·simp only [go_sem,Nat.reduceEqDiff]
  ·simp only [go_sem,Nat.reduceEqDiff]
  rintro w H'' ⟨rfl,rfl⟩
  simp only [kF,jZ,go_sem,Nat.reduceEqDiff,Nat.reduceBEq,Nat.reduceAdd]
  intro bs hbs
  have hO2 : qR (H''.put bs (.row [.int .i64 x.from_, .int .i64 (wC d s x.till)] 2 true)) u ((fresh.take k).map (jZ d s)) ob := hO.keep fun b hb => by
   rw [Hp.put_ne]
   rintro rfl
   subst hb
   obtain⟨_,_,_,hbb⟩:=hO
   rw [hbb] at hbs; cases hbs
  refine zDa (jZ d s x) ?_ ?_ ?_ ?_ (Hp.put_same ..) hO2 (by omega) ?_
  ·simp only [go_sem,Nat.reduceEqDiff]
  ·simp only [go_sem,Nat.reduceEqDiff]
  ·simp only [go_sem,Nat.reduceEqDiff]
  ·simp only [go_sem,Nat.reduceEqDiff]
  intro v' H3 b' hO3 hkeep hb'
  simp only [go_sem,Nat.reduceEqDiff,Nat.reduceBEq,zC]
  refine⟨hlt,v',some b',⟨rfl,zR (by omega)⟩,by rw [hsucc]; exact hO3,fun c o hc=>hkeep c o (zJ hbs _ _ _ (hle _ _ hc)) (fun e=>by rw [hob c e.symm] at hc; cases hc),?_⟩
  intro b2 e
  cases e
  rcases hb' with h | h
  ·cases hq:G b' with
   | none=>rfl
   | some o=>rw [zJ hbs _ _ _ (hle _ _ hq)] at h; cases h
  ·exact hob b' h.symm
 ·have hd:decide ((k:Int) < (fresh.length:Int))=false:=by simpa using hlt
  have:k=fresh.length:=by omega
  subst this
  rw [List.take_length] at hO
  have hok : yIB (fresh.map (jZ d s)) := by
   intro q hq
   obtain⟨sp,hsp,rfl⟩:=List.mem_map.1 hq
   have h1:=hb sp hsp
   have h2:=yHi d s sp.till
   have h3:=zIP ho h1.2.2
   exact⟨h1.1,by show sp.from_≤wC d s sp.till; omega,h3⟩
  simp only [hd,go_sem,Nat.reduceEqDiff,Nat.reduceBEq,Nat.reduceAdd,zC]
  refine zM ?_ (yTD hE h2 h3 hO.at (by rw [List.length_map]; exact hn) hok) ?_
  ·simp only [go_sem,Nat.reduceEqDiff]
  rintro w H2 ⟨w,ob2,rfl,q1,q2,q3⟩
  obtain⟨_,_,hw⟩:=q1.sl
  subst hw
  simp only [go_sem,Nat.reduceLT,Nat.reduceEqDiff,Nat.reduceBEq,Nat.reduceAdd]
  refine⟨ob2,q1,(hGle.trans hle).trans q2,fun b hb=>?_⟩
  have:=q3 b hb
  cases hq:H b with
  | none=>rfl
  | some o=>rw [hle _ _ (hGle _ _ hq)] at this; cases this
end Go.SL
/- Contracts: sorting few names. -/
namespace Go.SL
open Go
variable {E:Env} {H:Hp}
def kM (l:List Bs) (i:Nat):List Value:=[S (l.getD i [])]
def qZ (a b:Bs):Bool:=decide (uB a b < 0)
theorem yAU (l : List Bs) {k : Nat} (hk : k < l.length) : (flat l.length (kM l)).getD k undef = S (l.getD k []) := by
 have h:=pK (n:=l.length) (sz:=1) (row:=kM l) (fun i _=>rfl) k hk
 have:=zK (j:=0) h (by omega)
 simpa only [kM,List.getD_cons_zero,Nat.mul_one,Nat.add_zero] using this
theorem yGi (l : List Bs) {k : Nat} (hk : k < l.length) (x : Bs) : (flat l.length (kM l)).take k ++ [S x] ++ (flat l.length (kM l)).drop (k + 1) = flat l.length (kM (l.set k x)) := by
 have h:=zIj (n:=l.length) (sz:=1) (row:=kM l) (fun i _=>rfl) hk (r:=[S x]) rfl
 rw [Nat.mul_one] at h
 rw [h]
 apply xW
 intro i _
 by_cases e:i=k
 ·subst e; simp [kM,hk]
 ·simp [kM,e,Ne.symm e]
theorem yWB (hE : zX E) (h3 : yW E) (a b : Bs) : yB E 122 [S a, S b] H (.int .i64 (uB a b)) := by
 refine Fn.of_vks h3.c122 (by simp [zMe]) ?_
 simp only [zMe,zZh,zXH,zTl]
 simp only [go_sem,Nat.reduceEqDiff,Nat.reduceBEq,reduceCtorEq]
 refine zE _ ?_ (fun _=>⟨?_,yVQ hE a b⟩) ?_<;>simp only [go_sem,Nat.reduceLT,Nat.reduceEqDiff,Nat.reduceBEq,Nat.reduceAdd,reduceCtorEq]
theorem yVo (hE : zX E) (h3 : yW E) : zFS E (.func (.func (E.fn 122)) #[] #[]) S uB := fun _G a b =>
 yP h3.e122 (Fn.same (yWB hE h3 a b))
set_option maxHeartbeats 1000000 in
theorem yVJ (h3 : yW E) {f : Value} (hf : zFS E f S uB) {b cap capc : Nat} (l : List Bs) (hn : l.length ≤ 1000000) (hH : H b = some (.row (flat l.length (kM l)) capc true)) :
  Fn E.P (E.fn 147) [.slice (some ⟨b,0,none⟩) l.length cap,.int .i64 0,.int .i64 l.length,f] H (fun _ H'=>H'=H.put b (.row (flat l.length (kM (xG qZ l.length l))) capc true)):=by
 refine Fn.of_vks h3.c147 (by simp [zHq]) ?_
 simp only [zHq,zKu,zKd,zKe,zKg,zKj,zKi,zJH]
 simp only [go_sem,Nat.reduceEqDiff,Nat.reduceBEq,Nat.reduceAdd,reduceCtorEq,Int.reduceAdd,zC]
 refine yK (l.length - 1) 0 (fun k fr' H' => fr' = [(0, ⟨true, .val (.slice (some ⟨b, 0, none⟩) l.length cap)⟩), (1, ⟨true, .val (.int .i64 0)⟩), (2, ⟨true, .val (.int .i64 l.length)⟩), (3, ⟨true, .val f⟩), (8, ⟨true, .val (.int .i64 ((k + 1 : Nat) : Int))⟩)] ∧
  H'=H.put b (.row (flat l.length (kM (xG qZ (k + 1) l))) capc true)) (Nat.zero_le _) ⟨rfl,(zDV hH).symm⟩ ?_
 rintro k fr' H' hk ⟨rfl,rfl⟩
 by_cases hlt:k + 1 < l.length
 ·have hd:decide (((k + 1:Nat):Int) < (l.length:Int))=true:=by rw [decide_eq_true_eq]; omega
  simp only [hd,go_sem,Nat.reduceEqDiff,Nat.reduceBEq,reduceCtorEq,zC]
  refine pZ (fun m fr' H' => ∃ L : List Bs, L.length = l.length ∧ pI qZ m L = xG qZ (k + 2) l ∧ m ≤ k + 1 ∧
   fr' = [(0,⟨true,.val (.slice (some ⟨b,0,none⟩) l.length cap)⟩),(1,⟨true,.val (.int .i64 0)⟩),(2,⟨true,.val (.int .i64 l.length)⟩),(3,⟨true,.val f⟩),(8,⟨true,.val (.int .i64 ((k + 1:Nat):Int))⟩),(9,⟨true,.val (.int .i64 ((m:Nat):Int))⟩)] ∧
   H'=H.put b (.row (flat l.length (kM L)) capc true)) (k + 1) ⟨xG qZ (k + 1) l,vB _ _ _,rfl,Nat.le_refl _,rfl,rfl⟩ ?_
  rintro m fr' H' ⟨L,hL,hT,hm,rfl,rfl⟩
  have hGb:(H.put b (.row (flat l.length (kM L)) capc true)) b=some (.row (flat l.length (kM L)) capc true):=Hp.put_same ..
  have hfl:(flat l.length (kM L)).length=l.length:=by rw [xS (sz:=1) (fun i _=>rfl),Nat.mul_one]
  cases m with
  | zero =>
   have hT':L=xG qZ (k + 2) l:=hT
   have hd2:decide (((0:Nat):Int) > 0)=false:=by decide
   simp only [hd2,hGb,undef,go_sem,Nat.reduceEqDiff,Nat.reduceBEq,reduceCtorEq,zC]
   refine qY (by intro x h; cases h) (by intro f a h; cases h) ?_ (fun hg=>?_) (fun hg=>?_)
   ·simp only [go_sem,Nat.reduceEqDiff,reduceCtorEq]
   ·simp only [go_sem,Nat.reduceEqDiff,reduceCtorEq] at hg
   ·simp only [hGb,undef,↓vH,↓vU,↓yA,go_sem,Nat.reduceEqDiff,Nat.reduceBEq,reduceCtorEq,zC]
    rw [hT']
    refine⟨by omega,?_,?_⟩
    ·exact zR (by omega)
    ·rfl
  | succ j =>
   have hd2:decide (((j + 1:Nat):Int) > 0)=true:=by rw [decide_eq_true_eq]; omega
   have e1:IntKind.i64.wrap (((j + 1:Nat):Int) - 1)=(j:Int):=by rw [yZ]<;>omega
   have hj1:j + 1 < l.length:=by omega
   have g1:=yAU L (k:=j + 1) (by omega)
   have g0:=yAU L (k:=j) (by omega)
   rw [hL] at g1 g0
   simp only [hd2,e1,hGb,g1,g0,hfl,Nat.mul_one,go_sem,Nat.reduceEqDiff,Nat.reduceBEq,reduceCtorEq,zC]
   refine⟨⟨by omega,by omega⟩,by omega,⟨by omega,by omega⟩,by omega,?_⟩
   refine qY (by intro x h; cases h) (by intro f a h; cases h) ?_ (fun _=>⟨?_,?_,_,hf _ (L.getD (j + 1) []) (L.getD j []),?_⟩) (fun hg=>?_)
   ·simp only [go_sem,Nat.reduceEqDiff,reduceCtorEq]
   ·simp only [go_sem,Nat.reduceEqDiff,reduceCtorEq]
   ·simp only [go_sem,Nat.reduceEqDiff,reduceCtorEq]
   ·rintro v H'' ⟨rfl,rfl⟩
    simp only [hGb,go_sem,Nat.reduceEqDiff,Nat.reduceBEq,reduceCtorEq,zC]
    have hlt':qZ (L.getD (j + 1) []) (L.getD j [])=decide (uB (L.getD (j + 1) []) (L.getD j []) < 0):=rfl
    have hins:pI qZ (j + 1) L=if qZ (L.getD (j + 1) []) (L.getD j []) then pI qZ j (swp L j) else L:=rfl
    rw [hins] at hT
    refine⟨fun hc=>?_,fun hc=>?_⟩
    ·rw [hlt',hc,if_pos rfl] at hT
     have s1:=yGi L (k:=j + 1) (by omega) (L.getD j [])
     have s2:=yGi (L.set (j + 1) (L.getD j [])) (k:=j) (by simp; omega) (L.getD (j + 1) [])
     rw [hL] at s1
     rw [List.length_set,hL] at s2
     simp only [e1,hGb,g1,g0,hfl,Nat.mul_one,jW,go_sem,Nat.reduceEqDiff,Nat.reduceBEq,reduceCtorEq,zC]
     refine⟨⟨by omega,by omega⟩,by omega,⟨by omega,by omega⟩,by omega,⟨by omega,by omega⟩,by omega,⟨by omega,by omega⟩,?_⟩
     rw [s1,Hp.put_same]
     refine⟨by rw [xS (sz:=1) (fun i _=>rfl)]; omega,j,by omega,swp L j,by rw [zCn]; exact hL,hT,by omega,rfl,?_⟩
     rw [s2]; rfl
    ·rw [hlt',hc,if_neg (by simp)] at hT
     rw [hT]
     refine⟨by omega,?_,?_⟩
     ·exact zR (by omega)
     ·rfl
   ·simp only [go_sem,Nat.reduceEqDiff,reduceCtorEq] at hg
 ·have hd:decide (((k + 1:Nat):Int) < (l.length:Int))=false:=by rw [decide_eq_false_iff_not]; omega
  simp only [hd,go_sem,Nat.reduceEqDiff,Nat.reduceBEq,reduceCtorEq,zC]
  have e : xG qZ (k + 1) l = xG qZ l.length l := by
   rcases Nat.lt_or_ge 0 l.length with h | h
   ·rw [show k + 1=l.length by omega]
   ·have:l = []:=by simpa using h
    subst this
    have:k=0:=by simpa using hk
    subst this
    rfl
  rw [e]
end Go.SL
/- What a walk over published sets keeps: rows of their own, their tags. -/
namespace Go.SL
open Go
variable {E:Env} {H:Hp}
section
variable {fr:Fr} {d:Option Nat} {K:Fr→Hp→Prop}
theorem zGD {sz bytes n c : Nat} {zero cells : List Value} {s x : Arg} {v : Value} {row row' : Nat → List Value} {ob : Option Nat} {bs : Nat} {wr : Bool} (h1 : vok fr s) (h2 : vok fr x) (hs : vo E fr s = v) (hx : vo E fr x = .slice (some ⟨bs, 0, none⟩) 1 1)
  (hb:H bs=some (.row cells c wr)) (hc:cells.length=sz) (hc1:cells.all yV=true) (hB:xX H sz v n row ob) (hl:∀ i,i < n→(row i).length=sz) (hr:∀ i,i < n→row' i=row i) (hrn:row' n=cells)
  (hn1:(n + 1) * bytes≤140737488355328) (hn2:n + 1≤4611686018427387904) (hpos:1 * bytes≤140737488355328)
  (h:∀ v' H' b',xX H' sz v' (n + 1) row' (some b')→(∀ c o,H c=some o→some c≠ob→H' c=some o)→(H b'=none∨some b'=ob)→K (setD fr d ⟨true,.val v'⟩) H') :
  xU E (.app sz bytes zero s x) d fr H K:=by
 have e1:pG H sz (vo E fr x):=by rw [hx]; exact .inr ⟨rfl,by rw [hb]; show 0 + 1 * sz≤_; omega⟩
 have e2 : zN H sz (vo E fr x) = cells := by
  rw [hx]
  simp only [zN,hb,List.drop_zero,Nat.one_mul]
  exact List.take_of_length_le (by omega)
 have e3:zV (vo E fr x)=1:=by rw [hx]; rfl
 have e4:(zN H sz (vo E fr x)).all yV=true:=by rw [e2]; exact hc1
 have hfp:flat (n + 1) row'=flat n row ++ cells:=by rw [vT,hrn,xW hr]
 simp only [xU]
 refine⟨h1,h2,e1,e4,?_⟩
 cases ob with
 | none =>
  obtain⟨rfl,rfl⟩:=hB
  simp only [hs,e2,e3]
  refine⟨hpos,by omega,(fun h0=>by cases h0),fun _ b cap hbn=>?_⟩
  refine h _ _ b ⟨cap,rfl,?_⟩ (fun c o hc _=>zJ hbn _ _ _ hc) (.inl hbn)
  rw [Hp.put_same,hfp]; rfl
 | some b0 =>
  obtain⟨cap,rfl,hH⟩:=hB
  have hfl:=xS hl
  simp only [hs,hH,e2,e3]
  refine⟨hn1,hn2,hfl,trivial,fun b cap' hbn=>?_⟩
  refine h _ _ b ⟨cap',rfl,?_⟩ (fun c o hc hne=>?_) ?_
  ·rw [Hp.put_same,hfp]
  ·have hcb:c≠b0:=by rintro rfl; exact hne rfl
   refine zJ hbn _ _ _ ?_
   rw [Hp.del_ne _ hcb]; exact hc
  ·by_cases e:b=b0
   ·exact .inr (by rw [e])
   ·rw [Hp.del_ne _ e] at hbn; exact .inl hbn
end
def zCa : Nat → yR → List (Bs × Nat)
 | _,[]=>[]
 | n,e :: r=>(e.1,n) :: zCa (n + 1) r
theorem zHG (e : Bs × (zF × List zO)) : ∀ (n : Nat) (G : yR), zCa n (G ++ [e]) = zCa n G ++ [(e.1, n + G.length)]
 | n,[]=>rfl
 | n,x :: r=>by simp only [List.cons_append,zCa,zHG e (n + 1) r,List.length_cons]; rw [Nat.add_right_comm]; rfl
theorem zNT (k : Bs) (y : zF × List zO) : ∀ (n : Nat) (G : yR) (i : Nat), (G.getD i default).1 = k → zCa n (G.set i (k, y)) = zCa n G
 | n,[],i,h=>rfl
 | n, x :: r, 0, h => by
  have h':x.1=k:=h
  simp only [List.set_cons_zero,zCa,h']
 | n, x :: r, i + 1, h => by
  have h':(r.getD i default).1=k:=h
  simp only [List.set_cons_succ,zCa,zNT k y (n + 1) r i h']
theorem zLe {k : Bs} : ∀ {n : Nat} {G : yR}, yI k (zCa n G) = none → yI k G = none
 | n,[],h=>rfl
 | n, x :: r, h => by
  simp only [zCa,yI] at h
  split at h
  ·cases h
  ·rename_i hne
   have ih:=zLe h
   obtain⟨k',u⟩:=x
   simp only [yI,if_neg hne,ih]
theorem zKU {k : Bs} {i : Nat} : ∀ {n : Nat} {G : yR}, yI k (zCa n G) = some i → ∃ j, i = n + j ∧ j < G.length ∧ (G.getD j default).1 = k ∧ yI k G = some (G.getD j default).2 ∧ ∀ v, xV k v G = G.set j (k, v)
 | n,[],h=>by cases h
 | n, x :: r, h => by
  obtain⟨k',u⟩:=x
  simp only [zCa,yI] at h
  split at h
  ·rename_i he
   cases h
   exact⟨0,rfl,by simp,he.symm,by simp only [yI,if_pos he]; rfl,fun v=>by simp only [xV,if_pos he]; rfl⟩
  ·rename_i hne
   obtain⟨j,hj,hjl,hk,hg,hp⟩:=zKU h
   refine⟨j + 1,by omega,by simpa using hjl,hk,?_,fun v=>?_⟩
   ·simp only [yI,if_neg hne,hg]; rfl
   ·simp only [xV,if_neg hne,hp]; rfl
def ixs (G:yR):List (Bs × Nat):=zCa 0 G
def xE (zn:Bs) (G:yR) (dv gv fv:Nat→Value) (i:Nat):List Value:=pF zn (G.getD i default).2.1 (dv i) (gv i) (fv i) (.slice none 0 0)
structure uY (K H : Hp) (tg : Nat → Option Nat) (zn : Bs) (G : yR) (v : Value) (dv gv fv : Nat → Value) (ob : Option Nat) (fb : Nat → Option Nat) : Prop where
 le:K.le H
 tag:∀ b t,tg b=some t→K b=none∧H b≠none
 own:xX H 8 v G.length (xE zn G dv gv fv) ob
 otag:∀ b,ob=some b→tg b=some 5
 data:∀ i,i < G.length→xF K (dv i) (G.getD i default).2.1.data∧xL K (gv i) (G.getD i default).2.1.sigs
 fresh:∀ i,i < G.length→xX H 2 (fv i) (G.getD i default).2.2.length (yM (G.getD i default).2.2) (fb i)
 ftag:∀ i,i < G.length→∀ b,fb i=some b→tg b=some (6 + i)
structure qL (H : Hp) (tg : Nat → Option Nat) (b4 b5 b6 b7 bm : Nat) (v : Value) (th : Bool) (om : xI) (G : yR) : Prop where
 v4:H b4=some (.row [.slice none 0 0] 1 true)
 v5:H b5=some (.row [.int .i64 0] 1 true)
 v6:H b6=some (.row [v] 1 true)
 v7:H b7=some (.row [.bool th] 1 true)
 vm:H bm=some om
 t4:tg b4=some 0
 t5:tg b5=some 1
 t6:tg b6=some 2
 t7:tg b7=some 3
 tm:tg bm=some 4
 map:∀ H0:Hp,uI (H0.put bm om) bm ((ixs G).map fun e=>(S e.1,.int .i64 (e.2:Int)))
section
variable {K:Hp} {tg:Nat→Option Nat} {zn:Bs} {G:yR} {v:Value} {dv gv fv:Nat→Value} {ob:Option Nat} {fb:Nat→Option Nat}
theorem wX {b c t u : Nat} (h1 : tg b = some t) (h2 : tg c = some u) (h : t ≠ u) : b ≠ c := by
 rintro rfl; rw [h1] at h2; cases h2; exact h rfl
theorem uY.put (h : uY K H tg zn G v dv gv fv ob fb) {b t : Nat} (o : xI) (ht : tg b = some t) (h5 : t < 5) : uY K (H.put b o) tg zn G v dv gv fv ob fb where
 le:=zH h.le (h.tag b t ht).1 o
 tag := fun c u hc => ⟨(h.tag c u hc).1, by
  by_cases e:c=b
  ·rw [e,Hp.put_same]; simp
  ·rw [Hp.put_ne _ _ e]; exact(h.tag c u hc).2⟩
 own:=h.own.keep fun c hc=>Hp.put_ne _ _ (wX (h.otag c hc) ht (by omega))
 otag:=h.otag
 data:=h.data
 fresh:=fun i hi=>(h.fresh i hi).keep fun c hc=>Hp.put_ne _ _ (wX (h.ftag i hi c hc) ht (by omega))
 ftag:=h.ftag
theorem uY.mono {H' : Hp} (h : uY K H tg zn G v dv gv fv ob fb) (hl : H.le H') : uY K H' tg zn G v dv gv fv ob fb where
 le:=h.le.trans hl
 tag := fun c u hc => ⟨(h.tag c u hc).1, by
  cases hq:H c with
  | none=>exact absurd hq (h.tag c u hc).2
  | some o=>rw [hl c o hq]; simp⟩
 own:=h.own.mono hl
 otag:=h.otag
 data:=h.data
 fresh:=fun i hi=>(h.fresh i hi).mono hl
 ftag:=h.ftag
theorem uY.frame {K2 H' : Hp} (h : uY K H tg zn G v dv gv fv ob fb) (h1 : K.le K2) (h2 : K2.le H') (h3 : ∀ c o, H c = some o → K c = none → K2 c = none ∧ H' c = some o) : uY K2 H' tg zn G v dv gv fv ob fb := by
 have hk : ∀ c u, tg c = some u → K2 c = none ∧ H' c = H c := fun c u hc => by
  have ht:=h.tag c u hc
  cases hq:H c with
  | none=>exact absurd hq ht.2
  | some o=>exact h3 c o hq ht.1
 exact {
  le:=h2
  tag:=fun c u hc=>⟨(hk c u hc).1,by rw [(hk c u hc).2]; exact(h.tag c u hc).2⟩
  own:=h.own.keep fun c hc=>(hk c _ (h.otag c hc)).2
  otag:=h.otag
  data:=fun i hi=>⟨(h.data i hi).1.mono h1,(h.data i hi).2.mono h1⟩
  fresh:=fun i hi=>(h.fresh i hi).keep fun c hc=>(hk c _ (h.ftag i hi c hc)).2
  ftag:=h.ftag }
theorem qL.frame {H' : Hp} {b4 b5 b6 b7 bm : Nat} {th : Bool} {om : xI} (h : qL H tg b4 b5 b6 b7 bm v th om G) (h3 : ∀ c u, tg c = some u → H' c = H c) : qL H' tg b4 b5 b6 b7 bm v th om G :=
 ⟨(h3 _ _ h.t4).trans h.v4,(h3 _ _ h.t5).trans h.v5,(h3 _ _ h.t6).trans h.v6,(h3 _ _ h.t7).trans h.v7,(h3 _ _ h.tm).trans h.vm,h.t4,h.t5,h.t6,h.t7,h.tm,h.map⟩
theorem uY.frameV {K2 H' : Hp} (h : uY K H tg zn G v dv gv fv ob fb) (h3 : ∀ c o, H c = some o → K c = none → K2 c = none ∧ H' c = some o) : ∀ c u, tg c = some u → H' c = H c := fun c u hc => by
 have ht:=h.tag c u hc
 cases hq:H c with
 | none=>exact absurd hq ht.2
 | some o=>exact(h3 c o hq ht.1).2
theorem qL.mono {H' : Hp} {b4 b5 b6 b7 bm : Nat} {th : Bool} {om : xI} (h : qL H tg b4 b5 b6 b7 bm v th om G) (hl : H.le H') : qL H' tg b4 b5 b6 b7 bm v th om G :=
 ⟨hl _ _ h.v4,hl _ _ h.v5,hl _ _ h.v6,hl _ _ h.v7,hl _ _ h.vm,h.t4,h.t5,h.t6,h.t7,h.tm,h.map⟩
def zAS (tg:Nat→Option Nat) (b' t:Nat) (ob:Option Nat):Nat→Option Nat:=fun c=>if c=b' then some t else if some c=ob then none else tg c
theorem zAA {b' t : Nat} {c u : Nat} (hc : tg c = some u) (h1 : c ≠ b') (h2 : some c ≠ ob) : zAS tg b' t ob c = some u := by
 unfold zAS; rw [if_neg h1,if_neg h2,hc]
theorem uY.ne_new (h : uY K H tg zn G v dv gv fv ob fb) {c u b' : Nat} {o' : Option Nat} {t : Nat} (hc : tg c = some u) (ho : ∀ b, o' = some b → tg b = some t) (hut : u ≠ t) (hnew : H b' = none ∨ some b' = o') : c ≠ b' ∧ some c ≠ o' := by
 have h2:some c≠o':=fun e=>by have:=ho c e.symm; rw [hc] at this; cases this; exact hut rfl
 refine⟨?_,h2⟩
 rintro rfl
 rcases hnew with hn | hn
 ·exact(h.tag _ _ hc).2 hn
 ·exact h2 hn
theorem uY.push (h : uY K H tg zn G v dv gv fv ob fb) {H' : Hp} {v' d0 g0 : Value} {b' : Nat} {t : Bs} {s : zF}
  (hO:xX H' 8 v' (G.length + 1) (xE zn (G ++ [(t,(s,[]))]) (yX dv G.length d0) (yX gv G.length g0) (yX fv G.length (.slice none 0 0))) (some b'))
  (hkeep:∀ c o,H c=some o→some c≠ob→H' c=some o) (hnew:H b'=none∨some b'=ob) (hd:xF K d0 s.data) (hg:xL K g0 s.sigs) :
  uY K H' (zAS tg b' 5 ob) zn (G ++ [(t,(s,[]))]) v' (yX dv G.length d0) (yX gv G.length g0) (yX fv G.length (.slice none 0 0)) (some b') (fun i=>if i=G.length then none else fb i) where
 le:=fun c o hc=>hkeep c o (h.le c o hc) fun e=>by have:=(h.tag c 5 (h.otag c e.symm)).1; rw [this] at hc; cases hc
 tag := fun c u hc => by
  unfold zAS at hc
  split at hc
  ·rename_i e
   subst e
   refine⟨?_,hO.some_at⟩
   rcases hnew with hn | hn
   ·cases hq:K c with
    | none=>rfl
    | some o=>rw [h.le c o hq] at hn; cases hn
   ·exact(h.tag c 5 (h.otag c hn.symm)).1
  ·split at hc
   ·cases hc
   ·rename_i h1 h2
    have ht:=h.tag c u hc
    refine⟨ht.1,?_⟩
    cases hq:H c with
    | none=>exact absurd hq ht.2
    | some o=>rw [hkeep c o hq h2]; simp
 own:=by rw [List.length_append]; exact hO
 otag:=fun b hb=>by cases hb; unfold zAS; rw [if_pos rfl]
 data := fun i hi => by
  by_cases e:i=G.length
  ·subst e
   have:(G ++ [(t,(s,([]:List zO)))]).getD G.length default=(t,(s,[])):=by simp
   simp only [yX,if_true,this]
   exact⟨hd,hg⟩
  ·have hi':i < G.length:=by simp at hi; omega
   have:(G ++ [(t,(s,([]:List zO)))]).getD i default=G.getD i default:=by simp [List.getElem?_append_left hi']
   simp only [yX,if_neg e,this]
   exact h.data i hi'
 fresh := fun i hi => by
  by_cases e:i=G.length
  ·subst e
   have:(G ++ [(t,(s,([]:List zO)))]).getD G.length default=(t,(s,[])):=by simp
   simp only [yX,if_true,this]
   exact⟨rfl,rfl⟩
  ·have hi':i < G.length:=by simp at hi; omega
   have:(G ++ [(t,(s,([]:List zO)))]).getD i default=G.getD i default:=by simp [List.getElem?_append_left hi']
   simp only [yX,if_neg e,this]
   refine(h.fresh i hi').keep fun c hc=>?_
   have hct:=h.ftag i hi' c hc
   have hne:=(h.ne_new hct h.otag (by omega) hnew).2
   cases hq:H c with
   | none=>exact absurd hq (h.tag c _ hct).2
   | some o=>exact hkeep c o hq hne
 ftag := fun i hi b hb => by
  by_cases e:i=G.length
  ·simp only [if_pos e] at hb; cases hb
  ·have hi':i < G.length:=by simp at hi; omega
   simp only [if_neg e] at hb
   have hct:=h.ftag i hi' b hb
   have hne:=h.ne_new hct h.otag (by omega) hnew
   exact zAA hct hne.1 hne.2
theorem qL.push {G1 : yR} {w : Value} {b4 b5 b6 b7 bm : Nat} {th : Bool} {om : xI} (hV : qL H tg b4 b5 b6 b7 bm w th om G1) (h : uY K H tg zn G v dv gv fv ob fb) {H' : Hp} {b' t : Nat} {o' : Option Nat} (h5 : 5 ≤ t)
  (ho:∀ b,o'=some b→tg b=some t) (hkeep:∀ c o,H c=some o→some c≠o'→H' c=some o) (hnew:H b'=none∨some b'=o'):qL H' (zAS tg b' t o') b4 b5 b6 b7 bm w th om G1:=by
 have k : ∀ c u o, tg c = some u → u < 5 → H c = some o → H' c = some o ∧ zAS tg b' t o' c = some u := fun c u o hc hu hx => by
  have hne:=h.ne_new hc ho (by omega) hnew
  exact⟨hkeep c o hx hne.2,zAA hc hne.1 hne.2⟩
 exact ⟨(k _ _ _ hV.t4 (by omega) hV.v4).1, (k _ _ _ hV.t5 (by omega) hV.v5).1, (k _ _ _ hV.t6 (by omega) hV.v6).1, (k _ _ _ hV.t7 (by omega) hV.v7).1, (k _ _ _ hV.tm (by omega) hV.vm).1,
  (k _ _ _ hV.t4 (by omega) hV.v4).2,(k _ _ _ hV.t5 (by omega) hV.v5).2,(k _ _ _ hV.t6 (by omega) hV.v6).2,(k _ _ _ hV.t7 (by omega) hV.v7).2,(k _ _ _ hV.tm (by omega) hV.vm).2,hV.map⟩
theorem zCP {G:yR} {i:Nat} (hi:i < G.length) (x:Bs × (zF × List zO)):(G.set i x).getD i default=x:=by simp [hi]
theorem getD_set_ne {G : yR} {i j : Nat} (h : j ≠ i) (x : Bs × (zF × List zO)) : (G.set i x).getD j default = G.getD j default := by
 simp [Ne.symm h]
theorem zSk {i : Nat} (hi : i < G.length) (k : Bs) (l : List zO) (j : Nat) : xE zn (G.set i (k, ((G.getD i default).2.1, l))) dv gv fv j = xE zn G dv gv fv j := by
 unfold xE
 by_cases e:j=i
 ·subst e; rw [zCP hi]
 ·rw [getD_set_ne e]
theorem zEz {n i : Nat} (hi : i < n) (x : Value) : (flat n (xE zn G dv gv fv)).take (i * 8 + 6) ++ [x] ++ (flat n (xE zn G dv gv fv)).drop (i * 8 + 6 + 1) = flat n (xE zn G dv gv (yX fv i x)) := by
 rw [zAQ (sz:=8) (fun _ _=>rfl) hi (by omega)]
 apply xW
 intro j _
 by_cases e:j=i
 ·subst e; simp [xE,pF,yX]
 ·simp [xE,pF,yX,e]
theorem uY.pushF (h : uY K H tg zn G v dv gv fv ob fb) {H' : Hp} {v' : Value} {b' i b0 cap : Nat} {sp : zO} (hi : i < G.length) (hv : v = .slice (some ⟨b0, 0, none⟩) G.length cap) (hob : ob = some b0)
  (hO:xX H' 2 v' ((G.getD i default).2.2.length + 1) (yM ((G.getD i default).2.2 ++ [sp])) (some b')) (hkeep:∀ c o,H c=some o→some c≠fb i→H' c=some o) (hnew:H b'=none∨some b'=fb i) :
  uY K (H'.put b0 (.row (flat G.length (xE zn G dv gv (yX fv i v'))) (cap * 8) true)) (zAS tg b' (6 + i) (fb i)) zn (G.set i ((G.getD i default).1,((G.getD i default).2.1,(G.getD i default).2.2 ++ [sp]))) v dv gv (yX fv i v') ob (fun j=>if j=i then some b' else fb j):=by
 have hot:=h.otag b0 hob
 have h0n:=h.ne_new hot (h.ftag i hi) (by omega) hnew
 have hkle : ∀ c o, K c = some o → H' c = some o := fun c o hc => hkeep c o (h.le c o hc) fun e => by
  have:=(h.tag c _ (h.ftag i hi c e.symm)).1
  rw [this] at hc; cases hc
 exact {
  le := fun c o hc => by
   rw [Hp.put_ne]
   ·exact hkle c o hc
   ·rintro rfl
    rw [(h.tag _ _ hot).1] at hc; cases hc
  tag := fun c u hc => by
   have hput : H' c ≠ none → (H'.put b0 (.row (flat G.length (xE zn G dv gv (yX fv i v'))) (cap * 8) true)) c ≠ none := fun hx => by
    by_cases e:c=b0
    ·rw [e,Hp.put_same]; simp
    ·rw [Hp.put_ne _ _ e]; exact hx
   unfold zAS at hc
   split at hc
   ·rename_i e
    subst e
    refine⟨?_,hput hO.some_at⟩
    rcases hnew with hn | hn
    ·cases hq:K c with
     | none=>rfl
     | some o=>rw [h.le c o hq] at hn; cases hn
    ·exact(h.tag c _ (h.ftag i hi c hn.symm)).1
   ·split at hc
    ·cases hc
    ·rename_i h1 h2
     have ht:=h.tag c u hc
     refine⟨ht.1,hput ?_⟩
     cases hq:H c with
     | none=>exact absurd hq ht.2
     | some o=>rw [hkeep c o hq h2]; simp
  own := by
   subst hv; subst hob
   rw [List.length_set]
   refine⟨cap,rfl,?_⟩
   rw [Hp.put_same]
   congr 2
   exact(xW fun j _=>zSk hi _ _ j).symm
  otag := fun b hb => by
   rw [hob] at hb; cases hb
   exact zAA hot h0n.1 h0n.2
  data := fun j hj => by
   rw [List.length_set] at hj
   by_cases e:j=i
   ·subst e; rw [zCP hi]; exact h.data j hi
   ·rw [getD_set_ne e]; exact h.data j hj
  fresh := fun j hj => by
   rw [List.length_set] at hj
   by_cases e:j=i
   ·subst e
    rw [zCP hi]
    simp only [yX,if_true,List.length_append,List.length_cons,List.length_nil,Nat.zero_add]
    refine hO.keep fun c hc=>?_
    cases hc
    exact Hp.put_ne _ _ (Ne.symm h0n.1)
   ·rw [getD_set_ne e]
    simp only [yX,if_neg e]
    refine(h.fresh j hj).keep fun c hc=>?_
    have hct:=h.ftag j hj c hc
    have hne:=h.ne_new hct (h.ftag i hi) (by omega) hnew
    rw [Hp.put_ne _ _ (wX hct hot (by omega))]
    cases hq:H c with
    | none=>exact absurd hq (h.tag c _ hct).2
    | some o=>exact hkeep c o hq hne.2
  ftag := fun j hj b hb => by
   rw [List.length_set] at hj
   by_cases e:j=i
   ·subst e
    simp only [if_true] at hb
    cases hb
    unfold zAS; rw [if_pos rfl]
   ·simp only [if_neg e] at hb
    have hct:=h.ftag j hj b hb
    have hne:=h.ne_new hct (h.ftag i hi) (by omega) hnew
    exact zAA hct hne.1 hne.2 }
end
end Go.SL
/- Contracts: what a zone published; plain parts and pieces of the state. -/
namespace Go.SL
open Go
variable {E:Env} {H:Hp}
theorem zSq {sp : zO} {G : yR} {s : zF} (h : yI (xK s) (ixs G) = none) :
  pM sp G s=(G ++ [(xK s,(s,[]))]).set G.length (xK s,(s,[] ++ [sp]))∧ixs (G ++ [(xK s,(s,[]))])=xV (xK s) G.length (ixs G):=by
 have hg:=zLe h
 refine⟨?_,?_⟩
 ·unfold pM
  rw [hg,zAt hg]
  simp
 ·rw [zAt h]
  unfold ixs
  rw [zHG,Nat.zero_add]
theorem zSE {sp : zO} {G : yR} {s : zF} {i : Nat} (h : yI (xK s) (ixs G) = some i) :
  i < G.length∧(G.getD i default).1=xK s∧pM sp G s=G.set i (xK s,((G.getD i default).2.1,(G.getD i default).2.2 ++ [sp])):=by
 obtain⟨j,hj,hjl,hk,hg,hp⟩:=zKU h
 rw [Nat.zero_add] at hj
 subst hj
 refine⟨hjl,hk,?_⟩
 unfold pM
 rw [hg,hp]
theorem zXD {G:yR} {i:Nat} (y:zF × List zO) {k:Bs} (h:(G.getD i default).1=k):ixs (G.set i (k,y))=ixs G:=zNT k y 0 G i h
theorem zSy (sp : zO) (G : yR) (s : zF) : (pM sp G s).length ≤ G.length + 1 := by
 unfold pM
 have := zIn (xK s) (match yI (xK s) G with
  | some e=>(e.1,e.2 ++ [sp])
  | none=>(s,[sp])) G
 omega
theorem zEw (sp : zO) (G : yR) (ss : List zF) : ∀ k, (uS sp G ss k).length ≤ G.length + k
 | 0=>Nat.le_refl _
 | k + 1 => by
  have h1:=zEw sp G ss k
  have h2:=zSy sp (uS sp G ss k) (ss.getD k default)
  simp only [uS]; omega
theorem zFL {fs : List yE} {B : Nat} (h : ∀ i, i < fs.length → (fs.getD i default).sets.length ≤ B) : ∀ m, m ≤ fs.length → (kW fs m).length ≤ m * B
 | 0,_=>by simp [kW]
 | m + 1, hm => by
  have h1:=zFL h m (by omega)
  have h2:=zEw (xR (fs.getD m default)) (kW fs m) (fs.getD m default).sets (fs.getD m default).sets.length
  have h3:=h m (by omega)
  simp only [kW,Nat.succ_mul]; omega
def SpB (G:yR) (N:Nat):Prop:=∀ e∈G,e.2.2.length≤N
theorem yHc {sp : zO} {G : yR} {s : zF} {N : Nat} (h : SpB G N) : SpB (pM sp G s) (N + 1) := by
 intro e he
 unfold pM at he
 rcases qX he with rfl | he
 ·cases hg:yI (xK s) G with
  | none=>simp
  | some e0 =>
   have:=h _ (zAp hg)
   simp only [List.length_append,List.length_cons,List.length_nil] at this ⊢
   omega
 ·have:=h e he; omega
theorem zFO {sp : zO} {G : yR} {ss : List zF} {N : Nat} (h : SpB G N) : ∀ k, SpB (uS sp G ss k) (N + k)
 | 0=>h
 | k + 1=>by have:=yHc (sp:=sp) (s:=ss.getD k default) (zFO (sp:=sp) (ss:=ss) h k); exact this
theorem yDu {fs : List yE} {B : Nat} (h : ∀ i, i < fs.length → (fs.getD i default).sets.length ≤ B) : ∀ m, m ≤ fs.length → SpB (kW fs m) (m * B)
 | 0,_=>fun e he=>by simp [kW] at he
 | m + 1, hm => by
  have h1:=zFO (sp:=xR (fs.getD m default)) (ss:=(fs.getD m default).sets) (yDu h m (by omega)) (fs.getD m default).sets.length
  have h3:=h m (by omega)
  intro e he
  have:=h1 e he
  rw [Nat.succ_mul]; omega
section
variable {tg:Nat→Option Nat} {b4 b5 b6 b7 bm:Nat} {v:Value} {th:Bool} {om:xI} {G:yR}
theorem qL.put {b t : Nat} (h : qL H tg b4 b5 b6 b7 bm v th om G) (o : xI) (hb : tg b = some t) (h5 : 5 ≤ t) : qL (H.put b o) tg b4 b5 b6 b7 bm v th om G :=
 ⟨(Hp.put_ne _ _ (wX h.t4 hb (by omega))).trans h.v4,(Hp.put_ne _ _ (wX h.t5 hb (by omega))).trans h.v5,(Hp.put_ne _ _ (wX h.t6 hb (by omega))).trans h.v6,(Hp.put_ne _ _ (wX h.t7 hb (by omega))).trans h.v7,(Hp.put_ne _ _ (wX h.tm hb (by omega))).trans h.vm,h.t4,h.t5,h.t6,h.t7,h.tm,h.map⟩
theorem qL.upd {G1 : yR} (h : qL H tg b4 b5 b6 b7 bm v th om G) {o : xI} (hm : ∀ H0 : Hp, uI (H0.put bm o) bm ((ixs G1).map fun e => (S e.1, .int .i64 (e.2 : Int)))) : qL (H.put bm o) tg b4 b5 b6 b7 bm v th o G1 :=
 ⟨(Hp.put_ne _ _ (wX h.t4 h.tm (by omega))).trans h.v4,(Hp.put_ne _ _ (wX h.t5 h.tm (by omega))).trans h.v5,(Hp.put_ne _ _ (wX h.t6 h.tm (by omega))).trans h.v6,(Hp.put_ne _ _ (wX h.t7 h.tm (by omega))).trans h.v7,Hp.put_same ..,h.t4,h.t5,h.t6,h.t7,h.tm,hm⟩
theorem qL.st6 (h : qL H tg b4 b5 b6 b7 bm v th om G) (v' : Value) : qL (H.put b6 (.row [v'] 1 true)) tg b4 b5 b6 b7 bm v' th om G :=
 ⟨(Hp.put_ne _ _ (wX h.t4 h.t6 (by omega))).trans h.v4,(Hp.put_ne _ _ (wX h.t5 h.t6 (by omega))).trans h.v5,Hp.put_same ..,(Hp.put_ne _ _ (wX h.t7 h.t6 (by omega))).trans h.v7,(Hp.put_ne _ _ (wX h.tm h.t6 (by omega))).trans h.vm,h.t4,h.t5,h.t6,h.t7,h.tm,h.map⟩
theorem qL.st7 (h : qL H tg b4 b5 b6 b7 bm v th om G) (q : Bool) : qL (H.put b7 (.row [.bool q] 1 true)) tg b4 b5 b6 b7 bm v q om G :=
 ⟨(Hp.put_ne _ _ (wX h.t4 h.t7 (by omega))).trans h.v4,(Hp.put_ne _ _ (wX h.t5 h.t7 (by omega))).trans h.v5,(Hp.put_ne _ _ (wX h.t6 h.t7 (by omega))).trans h.v6,Hp.put_same ..,(Hp.put_ne _ _ (wX h.tm h.t7 (by omega))).trans h.vm,h.t4,h.t5,h.t6,h.t7,h.tm,h.map⟩
theorem qL.congr {G1 : yR} (h : qL H tg b4 b5 b6 b7 bm v th om G) (e : ixs G1 = ixs G) : qL H tg b4 b5 b6 b7 bm v th om G1 :=
 ⟨h.v4,h.v5,h.v6,h.v7,h.vm,h.t4,h.t5,h.t6,h.t7,h.tm,by rw [e]; exact h.map⟩
end
def zCv (H0 : Hp) (zn : Bs) (b4 b5 b6 b7 bm : Nat) (G : yR) (th : Bool) (H : Hp) : Prop :=
 ∃ K tg v dv gv fv ob fb om,H0.le K∧uY K H tg zn G v dv gv fv ob fb∧qL H tg b4 b5 b6 b7 bm v th om G
theorem zCv.le {H0 : Hp} {zn : Bs} {b4 b5 b6 b7 bm : Nat} {G : yR} {th : Bool} (h : zCv H0 zn b4 b5 b6 b7 bm G th H) : H0.le H := by
 obtain⟨K,tg,v,dv,gv,fv,ob,fb,om,h1,h2,_⟩:=h
 exact h1.trans h2.le
theorem zCv.st7 {H0 : Hp} {zn : Bs} {b4 b5 b6 b7 bm : Nat} {G : yR} {th : Bool} (h : zCv H0 zn b4 b5 b6 b7 bm G th H) (q : Bool) : zCv H0 zn b4 b5 b6 b7 bm G q (H.put b7 (.row [.bool q] 1 true)) := by
 obtain⟨K,tg,v,dv,gv,fv,ob,fb,om,h1,h2,h3⟩:=h
 exact⟨K,tg,v,dv,gv,fv,ob,fb,om,h1,h2.put _ h3.t7 (by omega),h3.st7 q⟩
theorem zIp (zn : Bs) (G : yR) (dv gv fv : Nat → Value) {n i : Nat} (hi : i < n) : (flat n (xE zn G dv gv fv)).getD (i * 8 + 6) undef = fv i := by
 rw [yQm (sz:=8) (fun _ _=>rfl) hi (by omega)]; rfl
end Go.SL
