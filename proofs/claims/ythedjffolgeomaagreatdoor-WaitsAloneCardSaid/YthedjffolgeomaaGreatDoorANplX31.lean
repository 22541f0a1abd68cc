/- Contracts: what a zone published. -/
import Derived.Test.YthedjffolgeomaaGreatDoorANplV5
namespace Go.SL
open Go
variable {E:Env} {H:Hp}
def wW (cs:List yE) (zn:Bs):List Nat:=zCO (fun c=>c.apex == zn) cs cs.length
def wD (cs:List yE) (zn:Bs):List yE:=(wW cs zn).map fun i=>cs.getD i default
def kN (cs:List yE) (zn:Bs):yR:=kW (wD cs zn) (wD cs zn).length
theorem zCT {cs : List yE} {zn : Bs} {m : Nat} (hm : m < (wW cs zn).length) : (wD cs zn).getD m default = cs.getD ((wW cs zn).getD m 0) default := by
 unfold wD
 simp [hm]
theorem zEq {cs : List yE} {zn : Bs} {m : Nat} (hm : m < (wW cs zn).length) : (wW cs zn).getD m 0 < cs.length := by
 have:(wW cs zn).getD m 0∈wW cs zn:=by rw [List.getD_eq_getElem?_getD,List.getElem?_eq_getElem hm]; exact List.getElem_mem _
 unfold wW zCO at this
 exact List.mem_range.1 (List.mem_filter.1 this).1
theorem zEg (cs:List yE) (zn:Bs):(wD cs zn).length=(wW cs zn).length:=by simp [wD]
def Hp.rest (H:Hp) (tg:Nat→Option Nat):Hp:=fun c=>if (tg c).isSome then none else H c
theorem yUk (H : Hp) (tg : Nat → Option Nat) : (Hp.rest H tg).le H := fun c o h => by
 unfold Hp.rest at h
 split at h
 ·cases h
 ·exact h
theorem yJh {H:Hp} {tg:Nat→Option Nat} {c t:Nat} (h:tg c=some t):Hp.rest H tg c=none:=by unfold Hp.rest; rw [h]; rfl
theorem zFj {H:Hp} {tg:Nat→Option Nat} {c:Nat} (h:tg c=none):Hp.rest H tg c=H c:=by unfold Hp.rest; rw [h]; rfl
def tg5 (b4 b5 b6 b7 bm:Nat):Nat→Option Nat:=fun c=>if c=b4 then some 0 else if c=b5 then some 1 else if c=b6 then some 2 else if c=b7 then some 3 else if c=bm then some 4 else none
theorem ySw {b4 b5 b6 b7 bm c : Nat} (h4 : c ≠ b4) (h5 : c ≠ b5) (h6 : c ≠ b6) (h7 : c ≠ b7) (hm : c ≠ bm) : tg5 b4 b5 b6 b7 bm c = none := by
 unfold tg5; rw [if_neg h4,if_neg h5,if_neg h6,if_neg h7,if_neg hm]
theorem yUu {l pre suf : List (List Value)} {x : List Value} (h : pre ++ x :: suf = l) : pre.length < l.length ∧ l.getD pre.length [] = x := by
 subst h
 refine⟨by simp,by simp⟩
theorem yGI (zn : Bs) (G : yR) (e : Bs × (zF × List zO)) (dv gv fv : Nat → Value) (a b c : Value) (i : Nat) (hi : i < G.length) : xE zn (G ++ [e]) (yX dv G.length a) (yX gv G.length b) (yX fv G.length c) i = xE zn G dv gv fv i := by
 have:(G ++ [e]).getD i default=G.getD i default:=by simp [List.getElem?_append_left hi]
 unfold xE
 rw [this]
 simp [yX,show i≠G.length by omega]
theorem zSo (zn : Bs) (G : yR) (e : Bs × (zF × List zO)) (dv gv fv : Nat → Value) (a b c : Value) : xE zn (G ++ [e]) (yX dv G.length a) (yX gv G.length b) (yX fv G.length c) G.length = pF zn e.2.1 a b c (.slice none 0 0) := by
 have:(G ++ [e]).getD G.length default=e:=by simp
 unfold xE
 rw [this]
 simp [yX]
theorem zSc (l : List zO) (x : zO) (i : Nat) (hi : i < l.length) : yM (l ++ [x]) i = yM l i := by
 simp [yM,List.getElem?_append_left hi]
theorem zKG (l:List zO) (x:zO):yM (l ++ [x]) l.length = [.int .i64 x.from_,.int .i64 x.till]:=by simp [yM]
structure zJf (cs : List yE) : Prop where
 num:cs.length≤12
 sets:∀ i,i < cs.length→(cs.getD i default).sets.length≤1000
 rng:∀ i,i < cs.length→∀ s∈(cs.getD i default).sets,zIb s
set_option maxRecDepth 4000 in
set_option maxHeartbeats 8000000 in
theorem yYN (hE : zX E) (h2 : xZ E) (h3 : yW E) (L : zBz E) (hB : qU E H) (hB2 : uD E H) {v : Value} {h : yO} (hh : vV H v h) (zn : Bs) (hn : h.copies.length ≤ 12)
  (hsz:yS h=true→zJf h.copies) (hsp:yS h=true→∀ e∈kN h.copies zn,e.2.2.length≤12∧yIB e.2.2) :
  Fn E.P (E.fn 130) [v, S zn] H (fun u H' => H.le H' ∧ ((yS h && zL zn) = false → u = .tuple #[.slice none 0 0, .int .i64 1]) ∧
   ((yS h && zL zn)=true→wW h.copies zn = []→u = .tuple #[.slice none 0 0,.int .i64 4]) ∧
   ((yS h && zL zn) = true → wW h.copies zn ≠ [] → ∃ vo dv gv fv, u = .tuple #[vo, .int .i64 0] ∧ zG H' 8 vo (kN h.copies zn).length (xE zn (kN h.copies zn) dv gv fv) ∧
    ∀ i,i < (kN h.copies zn).length→xF H' (dv i) ((kN h.copies zn).getD i default).2.1.data∧xL H' (gv i) ((kN h.copies zn).getD i default).2.1.sigs∧wR H' (fv i) (yC ((kN h.copies zn).getD i default).2.2))):=by
 have fv:=zHg hE h2 hB hh hn
 obtain⟨vh,vz,vd,vi,rfl,g1,g2,g3,g5⟩:=hh
 have o1:=zG.one g1
 have o2:=g2.one
 have o3:=zG.one g3
 have o5:=zG.one g5
 obtain⟨z,hvc,hdeep⟩:=g2
 have hz1:∀ i,i < h.copies.length→yV (z i)=true:=fun i hi=>by obtain⟨d,g,hx,_⟩:=hdeep i hi; exact zG.one hx
 obtain⟨ah,ch,rfl⟩:=zG.sl g1
 obtain⟨az,cz,rfl⟩:=zG.sl hvc
 obtain⟨ad,cd,rfl⟩:=zG.sl g3
 obtain⟨ai,ci,rfl⟩:=zG.sl g5
 refine Fn.of_vks h3.c130 (by simp [zMt]) ?_
 simp only [zMt,zWk,yEU,zZt,zWS,yDA,yGc,zSR,zVQ,yEN,zYI,zRT,zRQ,zPJ,zRE,zPO,zPH,zRY,zQz,zPS,zRW,zPk,zOQ,zPo,zOV,zQM,zQI,zOD]
 simp only [go_sem,Nat.reduceEqDiff,Nat.reduceBEq,Nat.reduceAdd,reduceCtorEq]
 intro b3 hb3 b4 hb4 b5 hb5
 obtain⟨HA,hHA⟩:∃ y,y=((H.put b3 (.row [S zn] 1 true)).put b4 (.row [.slice none 0 0] 1 true)).put b5 (.row [.int .i64 0] 1 true):=⟨_,rfl⟩
 have n34:b3≠b4:=by rintro rfl; rw [Hp.put_same] at hb4; cases hb4
 have n45:b4≠b5:=by rintro rfl; rw [Hp.put_same] at hb5; cases hb5
 have n35:b3≠b5:=by rintro rfl; rw [Hp.put_ne _ _ n34,Hp.put_same] at hb5; cases hb5
 have hH4:H b4=none:=by rw [← Hp.put_ne H (.row [S zn] 1 true) (Ne.symm n34)]; exact hb4
 have hH5:H b5=none:=by rw [Hp.put_ne _ _ (Ne.symm n45),Hp.put_ne _ _ (Ne.symm n35)] at hb5; exact hb5
 have hA3:HA b3=some (.row [S zn] 1 true):=by rw [hHA,Hp.put_ne _ _ n35,Hp.put_ne _ _ n34,Hp.put_same]
 have hA4:HA b4=some (.row [.slice none 0 0] 1 true):=by rw [hHA,Hp.put_ne _ _ n45,Hp.put_same]
 have hA5:HA b5=some (.row [.int .i64 0] 1 true):=by rw [hHA,Hp.put_same]
 have hleA:H.le HA:=by rw [hHA]; exact((zJ hb3 _).trans (zJ hb4 _)).trans (zJ hb5 _)
 have fvA : yB E 48 [.agg #[.slice ah h.hosts.length ch, .slice az h.copies.length cz, S h.aname, .int .i64 h.atype, .int .i64 h.alife, .slice ad h.adata.length cd, .slice ai h.hints.length ci, .int .i64 h.drift, .int .i64 h.end_]] HA (.bool (yS h)) :=
  zHg hE h2 (hB.mono hleA) ⟨_,_,_,_,rfl,qN.mono g1 hleA,⟨z,hvc.mono hleA,fun i hi=>(hdeep i hi).mono hleA⟩,xF.mono g3 hleA,wH.mono g5 hleA⟩ hn
 rw [← hHA]
 refine zE _ (by simp only [go_sem]) (fun _=>⟨by simp only [go_sem,Nat.reduceEqDiff],fvA⟩) ?_
 cases hv:yS h
 ·simp only [hA3,go_sem,Nat.reduceEqDiff,Nat.reduceBEq]
  refine zE (.bool false) (by simp only [go_sem,Nat.reduceEqDiff]) (fun hg=>by simp only [go_sem,Nat.reduceEqDiff] at hg) ?_
  simp only [hA4,hA5,↓yQ,yL,n45,Ne.symm n45,go_sem,Nat.reduceEqDiff,Nat.reduceBEq,Nat.reduceAdd]
  exact zH (zH hleA hH4 _) hH5 _
 simp only [hA3,go_sem,Nat.reduceEqDiff,Nat.reduceBEq]
 refine zE _ (by simp only [go_sem,Nat.reduceEqDiff]) (fun _=>⟨by simp only [go_sem,Nat.reduceEqDiff],zFy hE zn⟩) ?_
 cases hm:zL zn
 ·simp only [hA4,hA5,yL,n45,Ne.symm n45,go_sem,Nat.reduceEqDiff,Nat.reduceBEq,Nat.reduceAdd]
  exact zH (zH hleA hH4 _) hH5 _
 simp only [Hp.put_same,go_sem,Nat.reduceLeDiff,Nat.reduceEqDiff,Nat.reduceBEq,Nat.reduceAdd]
 intro b6 hb6 b7 hb7 bm hbm b8 hb8
 obtain⟨H1,hH1⟩:∃ y,y=HA.put b6 (.row [.slice none 0 0] 1 true):=⟨_,rfl⟩
 rw [← hH1] at hb7 hbm hb8
 obtain⟨H2,hH2⟩:∃ y,y=H1.put b7 (.row [.bool false] 1 true):=⟨_,rfl⟩
 rw [← hH2] at hbm hb8
 obtain⟨H3,hH3⟩:∃ y,y=H2.put bm (.obj (.map #[] 0)):=⟨_,rfl⟩
 rw [← hH3] at hb8
 obtain⟨H4,hH4'⟩:∃ y,y=H3.put b8 (.row [.map (some bm)] 1 true):=⟨_,rfl⟩
 rw [← hH1,← hH2,← hH3,← hH4']
 have le1:HA.le H1:=by rw [hH1]; exact zJ hb6 _
 have le2:H1.le H2:=by rw [hH2]; exact zJ hb7 _
 have le3:H2.le H3:=by rw [hH3]; exact zJ hbm _
 have le4:H3.le H4:=by rw [hH4']; exact zJ hb8 _
 have f16:H1 b6=some (.row [.slice none 0 0] 1 true):=by rw [hH1,Hp.put_same]
 have f27:H2 b7=some (.row [.bool false] 1 true):=by rw [hH2,Hp.put_same]
 have f3m:H3 bm=some (.obj (.map #[] 0)):=by rw [hH3,Hp.put_same]
 have f48:H4 b8=some (.row [.map (some bm)] 1 true):=by rw [hH4',Hp.put_same]
 refine zM ?_ (yXv h3 (cs:=[.slice ah h.hosts.length ch,.slice az h.copies.length cz,S h.aname,.int .i64 h.atype,.int .i64 h.alife,.slice ad h.adata.length cd,.slice ai h.hints.length ci,.int .i64 h.drift,.int .i64 h.end_]) rfl rfl (f:=.func (.func (E.fn 125)) #[] #[.pointer (some ⟨b3,0,none⟩)]) rfl) ?_
 ·simp only [go_sem,Nat.reduceEqDiff]
 rintro u HC0 ⟨bh,bf,hbh,hbf,hbfh,rfl,hHC⟩
 obtain⟨HC,hHC'⟩:∃ y,y=HC0:=⟨_,rfl⟩
 rw [← hHC'] at hHC ⊢
 clear hHC'
 have hbf':(H4.put bh (.row [.slice ah h.hosts.length ch,.slice az h.copies.length cz,S h.aname,.int .i64 h.atype,.int .i64 h.alife,.slice ad h.adata.length cd,.slice ai h.hints.length ci,.int .i64 h.drift,.int .i64 h.end_] 9 true)) bf=none:=by rw [Hp.put_ne _ _ hbfh]; exact hbf
 have le5:H4.le HC:=by rw [hHC]; exact(zJ hbh _).trans (zJ hbf' _)
 have fCh:HC bh=some (.row [.slice ah h.hosts.length ch,.slice az h.copies.length cz,S h.aname,.int .i64 h.atype,.int .i64 h.alife,.slice ad h.adata.length cd,.slice ai h.hints.length ci,.int .i64 h.drift,.int .i64 h.end_] 9 true):=by rw [hHC,Hp.put_ne _ _ (Ne.symm hbfh),Hp.put_same]
 have fCf:HC bf=some (.row [.func (.func (E.fn 125)) #[] #[.pointer (some ⟨b3,0,none⟩)]] 1 true):=by rw [hHC,Hp.put_same]
 have leAC:HA.le HC:=(((le1.trans le2).trans le3).trans le4).trans le5
 have c3:=leAC _ _ hA3
 have c4:=leAC _ _ hA4
 have c5:=leAC _ _ hA5
 have c6:=le5 _ _ (le4 _ _ (le3 _ _ (le2 _ _ f16)))
 have c7:=le5 _ _ (le4 _ _ (le3 _ _ f27))
 have cm:=le5 _ _ (le4 _ _ f3m)
 have c8:=le5 _ _ f48
 have nn:∀ {P:Hp} {a c:Nat} {o:xI},P a=some o→P c=none→a≠c:=fun h1 h2=>by rintro rfl; rw [h1] at h2; cases h2
 have x34:=n34
 have x36:=nn hA3 hb6
 have x37:=nn (le1 _ _ hA3) hb7
 have x3m:=nn (le2 _ _ (le1 _ _ hA3)) hbm
 have x46:=nn hA4 hb6
 have x47:=nn (le1 _ _ hA4) hb7
 have x4m:=nn (le2 _ _ (le1 _ _ hA4)) hbm
 have x56:=nn hA5 hb6
 have x57:=nn (le1 _ _ hA5) hb7
 have x5m:=nn (le2 _ _ (le1 _ _ hA5)) hbm
 have x67:=nn f16 hb7
 have x6m:=nn (le2 _ _ f16) hbm
 have x7m:=nn f27 hbm
 have x48:=nn (le3 _ _ (le2 _ _ (le1 _ _ hA4))) hb8
 have x58:=nn (le3 _ _ (le2 _ _ (le1 _ _ hA5))) hb8
 have x68:=nn (le3 _ _ (le2 _ _ f16)) hb8
 have x78:=nn (le3 _ _ f27) hb8
 have xm8:=nn f3m hb8
 have y4h:=nn (le4 _ _ (le3 _ _ (le2 _ _ (le1 _ _ hA4)))) hbh
 have y5h:=nn (le4 _ _ (le3 _ _ (le2 _ _ (le1 _ _ hA5)))) hbh
 have y6h:=nn (le4 _ _ (le3 _ _ (le2 _ _ f16))) hbh
 have y7h:=nn (le4 _ _ (le3 _ _ f27)) hbh
 have ymh:=nn (le4 _ _ f3m) hbh
 have y4f:=nn (le4 _ _ (le3 _ _ (le2 _ _ (le1 _ _ hA4)))) hbf
 have y5f:=nn (le4 _ _ (le3 _ _ (le2 _ _ (le1 _ _ hA5)))) hbf
 have y6f:=nn (le4 _ _ (le3 _ _ (le2 _ _ f16))) hbf
 have y7f:=nn (le4 _ _ (le3 _ _ f27)) hbf
 have ymf:=nn (le4 _ _ f3m) hbf
 obtain⟨tg,htg⟩:∃ y,y=tg5 b4 b5 b6 b7 bm:=⟨_,rfl⟩
 have t4:tg b4=some 0:=by rw [htg]; unfold tg5; rw [if_pos rfl]
 have t5:tg b5=some 1:=by rw [htg]; unfold tg5; rw [if_neg (Ne.symm n45),if_pos rfl]
 have t6:tg b6=some 2:=by rw [htg]; unfold tg5; rw [if_neg (Ne.symm x46),if_neg (Ne.symm x56),if_pos rfl]
 have t7:tg b7=some 3:=by rw [htg]; unfold tg5; rw [if_neg (Ne.symm x47),if_neg (Ne.symm x57),if_neg (Ne.symm x67),if_pos rfl]
 have tm:tg bm=some 4:=by rw [htg]; unfold tg5; rw [if_neg (Ne.symm x4m),if_neg (Ne.symm x5m),if_neg (Ne.symm x6m),if_neg (Ne.symm x7m),if_pos rfl]
 have tN:∀ c,c≠b4→c≠b5→c≠b6→c≠b7→c≠bm→tg c=none:=fun c h4 h5 h6 h7 hm=>by rw [htg]; exact ySw h4 h5 h6 h7 hm
 obtain⟨H0,hH0⟩:∃ y,y=Hp.rest HC tg:=⟨_,rfl⟩
 have le0:H0.le HC:=by rw [hH0]; exact yUk _ _
 have d3:H0 b3=some (.row [S zn] 1 true):=by rw [hH0,zFj (tN _ n34 n35 x36 x37 x3m)]; exact c3
 have d8:H0 b8=some (.row [.map (some bm)] 1 true):=by rw [hH0,zFj (tN _ (Ne.symm x48) (Ne.symm x58) (Ne.symm x68) (Ne.symm x78) (Ne.symm xm8))]; exact c8
 have dh:=(show H0 bh=HC bh by rw [hH0,zFj (tN _ (Ne.symm y4h) (Ne.symm y5h) (Ne.symm y6h) (Ne.symm y7h) (Ne.symm ymh))]).trans fCh
 have df:=(show H0 bf=HC bf by rw [hH0,zFj (tN _ (Ne.symm y4f) (Ne.symm y5f) (Ne.symm y6f) (Ne.symm y7f) (Ne.symm ymf))]).trans fCf
 have noH : ∀ {P : Hp} {c : Nat}, H.le P → P c = none → H c = none := fun hl hc => by
  cases hq:H _ with
  | none=>rfl
  | some o=>rw [hl _ _ hq] at hc; cases hc
 have k6:=noH hleA hb6
 have k7:=noH (hleA.trans le1) hb7
 have km:=noH ((hleA.trans le1).trans le2) hbm
 have leH0 : H.le H0 := fun c o hc => by
  rw [hH0,zFj (tN c (nn hc hH4) (nn hc hH5) (nn hc k6) (nn hc k7) (nn hc km))]
  exact(hleA.trans leAC) _ _ hc
 have st0 : zCv H0 zn b4 b5 b6 b7 bm [] false HC := by
  refine⟨H0,tg,.slice none 0 0,fun _=>undef,fun _=>undef,fun _=>undef,none,fun _=>none,.obj (.map #[] 0),Hp.le.refl _,⟨le0,fun b t ht=>⟨?_,?_⟩,⟨rfl,rfl⟩,fun b hb=>(by cases hb),fun i hi=>(by cases hi),fun i hi=>(by cases hi),fun i hi=>(by cases hi)⟩,⟨c4,c5,c6,c7,cm,t4,t5,t6,t7,tm,fun P=>⟨#[],0,Hp.put_same ..,rfl⟩⟩⟩
  ·rw [hH0]; exact yJh ht
  ·intro hn
   have:=tN b (fun e=>by rw [e,c4] at hn; cases hn) (fun e=>by rw [e,c5] at hn; cases hn) (fun e=>by rw [e,c6] at hn; cases hn) (fun e=>by rw [e,c7] at hn; cases hn) (fun e=>by rw [e,cm] at hn; cases hn)
   rw [this] at ht; cases ht
 have hsz':=hsz hv
 have hsp':=hsp hv
 have hvc0:=hvc.mono leH0
 have hdeep0:=fun i hi=>(hdeep i hi).mono leH0
 have hB20:=hB2.mono leH0
 have hit:=yXI h3 hvc0 hz1 (by omega) dh df (fun c=>c.apex == zn) (fun H' hl i hi=>yP h3.e125 (Fn.same (yXC h3 (hl _ _ d3) h.copies z i (hz1 i hi))))
 have hidx:itC (fun c=>c.apex == zn) h.copies z=(wW h.copies zn).map fun i=>[zBA h.copies z i]:=rfl
 simp only [go_sem,Nat.reduceEqDiff,Nat.reduceBEq]
 refine zAM H0 (fun xs=>xs=itC (fun c=>c.apex == zn) h.copies z) (fun pre H'=>zCv H0 zn b4 b5 b6 b7 bm (kW (wD h.copies zn) pre.length) (decide (0 < pre.length)) H') ?_ ?_ ?_ ?_ ?_ ?_ ?_ ?_
 ·simp only [go_sem,Nat.reduceEqDiff]
 ·simp only [go_sem,Nat.reduceEqDiff]; trivial
 ·simp only [go_sem,Nat.reduceEqDiff]; exact hit
 ·rintro xs rfl x hx
  rw [hidx] at hx
  obtain⟨i,_,rfl⟩:=List.mem_map.1 hx
  rfl
 ·exact st0
 ·intro pre H' hst
  exact hst.le
 ·rintro pre x H' ⟨suf,hS⟩ hst
  have hat:=yUu hS
  rw [hidx,List.length_map] at hat
  obtain⟨m,hm⟩:∃ m,m=pre.length:=⟨_,rfl⟩
  rw [← hm] at hat hst
  have hx : x = [zBA h.copies z ((wW h.copies zn).getD m 0)] := by
   rw [← hat.2]
   simp [hat.1]
  have hilt:=zEq hat.1
  have hfs:=zCT hat.1
  have hfl:=zEg h.copies zn
  have hnext:kW (wD h.copies zn) (m + 1)=uS (xR ((wD h.copies zn).getD m default)) (kW (wD h.copies zn) m) ((wD h.copies zn).getD m default).sets ((wD h.copies zn).getD m default).sets.length:=rfl
  rw [hfs] at hnext
  obtain⟨i0,hi0⟩:∃ i,i=(wW h.copies zn).getD m 0:=⟨_,rfl⟩
  rw [← hi0] at hx hilt hnext hfs
  have hzi:=hdeep0 i0 hilt
  have hz1i:=hz1 i0 hilt
  have hszi:=hsz'.sets i0 hilt
  have hrng:=hsz'.rng i0 hilt
  obtain⟨c,hc⟩:∃ c,h.copies.getD i0 default=c:=⟨_,rfl⟩
  rw [hc] at hzi hnext hszi hrng
  obtain⟨sd,sg,hsl,sdeep⟩:=hzi
  obtain⟨sa,sc,hzv⟩:=hsl.sl
  have hsl':=hsl
  rw [hzv] at hsl'
  subst hx
  obtain⟨K,tg1,v,dv,gv,fv,ob,fb,om,kl,hP,hV⟩:=hst
  have v7:=hV.v7
  have hV7:=hV.st7 true
  have hP7:=hP.put (.row [.bool true] 1 true) hV.t7 (by omega)
  obtain⟨H5,hH5e⟩:∃ y,y=H'.put b7 (.row [.bool true] 1 true):=⟨_,rfl⟩
  rw [← hH5e] at hV7 hP7
  have hst5:zCv H0 zn b4 b5 b6 b7 bm (kW (wD h.copies zn) m) true H5:=⟨K,tg1,v,dv,gv,fv,ob,fb,om,kl,hP7,hV7⟩
  clear hP hV hP7 hV7
  simp only [zBA,hc,hzv,v7,go_sem,Nat.reduceEqDiff,Nat.reduceBEq,Nat.reduceAdd]
  rw [← hH5e]
  have hGl : (kW (wD h.copies zn) m).length ≤ 12000 := by
   have:=zFL (B:=1000) (fs:=wD h.copies zn) (fun i hi=>by rw [zCT (by omega)]; exact hsz'.sets _ (zEq (by omega))) m (by omega)
   have : (wW h.copies zn).length ≤ 12 := by
    have h1:(wW h.copies zn).length≤(List.range h.copies.length).length:=List.length_filter_le _ _
    rw [List.length_range] at h1; omega
   omega
  have hGs : SpB (kW (wD h.copies zn) m) 12000 := by
   have h1:=yDu (B:=1000) (fs:=wD h.copies zn) (fun i hi=>by rw [zCT (by omega)]; exact hsz'.sets _ (zEq (by omega))) m (by omega)
   have : (wW h.copies zn).length ≤ 12 := by
    have h1:(wW h.copies zn).length≤(List.range h.copies.length).length:=List.length_filter_le _ _
    rw [List.length_range] at h1; omega
   intro e he
   have:=h1 e he
   omega
  obtain⟨Gm,hGm⟩:∃ y,y=kW (wD h.copies zn) m:=⟨_,rfl⟩
  rw [← hGm] at hst5 hnext hGl hGs
  refine yK c.sets.length 0 (fun j fr' H' => fr' = [(3, ⟨true, .val (.pointer (some ⟨b3, 0, none⟩))⟩), (4, ⟨true, .val (.pointer (some ⟨b4, 0, none⟩))⟩), (5, ⟨true, .val (.pointer (some ⟨b5, 0, none⟩))⟩), (6, ⟨true, .val (.pointer (some ⟨b6, 0, none⟩))⟩), (8, ⟨true, .val (.pointer (some ⟨b8, 0, none⟩))⟩), (9, ⟨true, .box [.int .i64 c.host, .int .i64 c.from_, .int .i64 c.till, S c.apex, .slice sa c.sets.length sc]⟩), (31, ⟨true, .val (.slice sa c.sets.length sc)⟩), (32, ⟨true, .val (.int .i64 c.sets.length)⟩), (33, ⟨true, .val (.int .i64 j)⟩)] ∧
   zCv H0 zn b4 b5 b6 b7 bm (uS (xR c) Gm c.sets j) true H') (Nat.zero_le _) ⟨rfl,hst5⟩ ?_
  rintro j fr' H6 hj ⟨rfl,hst6⟩
  by_cases hlj:j < c.sets.length
  ·have hdj:decide ((j:Int) < (c.sets.length:Int))=true:=by simpa using hlj
   have hle6:=hst6.le
   obtain⟨sa',sc',hve,_,hr⟩:=hsl'
   cases hve
   obtain⟨b,o,vs,cc,wr,ha,hbb,hi⟩:=hr (by omega)
   cases ha
   have hb1:=hle6 _ _ hbb
   have hi1:=(hi j hlj).1
   have hi2:=(hi j hlj).2
   have hdd:=(sdeep j hlj).1
   have hgg:=(sdeep j hlj).2
   have hd1:=zG.one hdd
   have hg1':=zG.one hgg
   have hrs:=hrng _ (yN hlj)
   have hstep:uS (xR c) Gm c.sets (j + 1)=pM (xR c) (uS (xR c) Gm c.sets j) (c.sets.getD j default):=rfl
   have hGlen:=zEw (xR c) Gm c.sets j
   have hGsp:=zFO (sp:=xR c) (ss:=c.sets) hGs j
   obtain⟨s,hs⟩:∃ s,c.sets.getD j default=s:=⟨_,rfl⟩
   rw [hs] at hdd hgg hrs hstep
   simp only [xD,hs] at hi2
   obtain⟨G,hG⟩:∃ y,y=uS (xR c) Gm c.sets j:=⟨_,rfl⟩
   rw [← hG] at hst6 hstep hGlen hGsp
   have hjs:IntKind.i64.wrap ((j:Int) + 1)=((j + 1:Nat):Int):=zR (by omega)
   have k8:=hle6 _ _ d8
   have k3:=hle6 _ _ d3
   simp only [hdj,hb1,hi2,hd1,hg1',go_sem,Nat.reduceEqDiff,Nat.reduceBEq,Nat.reduceAdd,reduceCtorEq,zC]
   refine⟨⟨by omega,by omega⟩,hi1,?_⟩
   refine zM ?_ (Fn.same (yWH h3 L (hB20.mono hle6) (xF.mono hdd hle6) (xL.mono hgg hle6) hrs)) ?_
   ·simp only [go_sem,Nat.reduceEqDiff]
   rintro u H7 ⟨rfl,rfl⟩
   obtain⟨K,tg1,v,dv,gv,fv,ob,fb,om,kl,hP,hV⟩:=hst6
   obtain⟨av,cv,hav⟩:=hP.own.sl
   subst hav
   have w6:=hV.v6
   obtain⟨t,ht⟩:∃ t,t=xK s:=⟨_,rfl⟩
   rw [← ht]
   simp only [k8,go_sem,Nat.reduceEqDiff,Nat.reduceBEq]
   refine zAd (enc:=fun x=>S x) (encv:=fun n:Nat=>.int .i64 (n:Int)) (l:=ixs G) (b:=bm) t zEH trivial ?_ ?_ ?_ ?_ (uI.of hV.map hV.vm) ?_
   ·simp only [go_sem,Nat.reduceEqDiff]
   ·simp only [go_sem,Nat.reduceEqDiff]
   ·simp only [go_sem,Nat.reduceEqDiff]
   ·simp only [go_sem,Nat.reduceEqDiff]
   cases hg:yI t (ixs G) with
   | none =>
    simp only [Option.map_none,Option.isSome_none,w6,k8,go_sem,Nat.reduceLT,Nat.reduceEqDiff,Nat.reduceBEq,Nat.reduceAdd,zC]
    refine zBv (enc:=fun x=>S x) (encv:=fun n:Nat=>.int .i64 (n:Int)) (l:=ixs G) (b:=bm) t G.length zEH trivial ?_ ?_ ?_ ?_ ?_ ?_ (uI.of hV.map hV.vm) ?_
    ·simp only [go_sem,Nat.reduceEqDiff]
    ·simp only [go_sem,Nat.reduceEqDiff]
    ·simp only [go_sem,Nat.reduceEqDiff]
    ·simp only [go_sem,Nat.reduceEqDiff]
    ·simp only [go_sem,Nat.reduceEqDiff]
    ·simp only [go_sem,Nat.reduceEqDiff]
    intro om' hom'
    have hpn:=zSq (sp:=xR c) (G:=G) (s:=s) (by rw [← ht]; exact hg)
    rw [← ht] at hpn
    have hVu:=hV.upd (G1:=G ++ [(t,(s,[]))]) (o:=om') (by rw [hpn.2]; exact hom')
    have hPu:=hP.put om' hV.tm (by omega)
    obtain⟨H8,hH8⟩:∃ y,y=H7.put bm om':=⟨_,rfl⟩
    rw [← hH8] at hVu hPu
    have k38:=(kl.trans hPu.le) _ _ d3
    have w68:=hVu.v6
    simp only [go_sem,Nat.reduceEqDiff]
    rw [← hH8]
    simp only [zNE,k38,w68,go_sem,Nat.reduceEqDiff,Nat.reduceBEq,Nat.reduceAdd]
    refine zEp ?_ ((yXZ hE h3 (xF.mono hdd kl) (xL.mono hgg kl) hrs.nd hrs.ng).frame hPu.le) ?_
    ·simp only [go_sem,Nat.reduceEqDiff]
    rintro u H9 ⟨K2,⟨dv',gv',hu,hd9,hg9,kle⟩,k2le,kfr⟩
    subst hu
    have hP9:=hPu.frame kle k2le kfr
    have hV9:=hVu.frame (hPu.frameV kfr)
    have w69:=hV9.v6
    have k39:=k2le _ _ (kle _ _ (kl _ _ d3))
    have od:=zG.one hd9
    have og:=zG.one hg9
    refine⟨?_,?_⟩
    ·simp only [w69,k39,go_sem,Nat.reduceEqDiff,Nat.reduceBEq,Nat.reduceAdd]
    simp only [zEh,go_sem,Nat.reduceLeDiff,Nat.reduceEqDiff,Nat.reduceBEq,Nat.reduceAdd]
    intro bs hbs
    have nb6:b6≠bs:=nn w69 hbs
    obtain⟨H10,hH10⟩:∃ y,y=H9.put bs (.row [S zn,S s.name,.int .i64 s.type,.int .i64 s.life,dv',gv',.slice none 0 0,.slice none 0 0] 8 true):=⟨_,rfl⟩
    have w610:=(show H10 b6=H9 b6 by rw [hH10,Hp.put_ne _ _ nb6]).trans w69
    have hbs10:H10 bs=some (.row (pF zn s dv' gv' (.slice none 0 0) (.slice none 0 0)) 8 true):=by rw [hH10,Hp.put_same]; rfl
    have hP10:uY K2 H10 tg1 zn G (.slice av G.length cv) dv gv fv ob fb:=by rw [hH10]; exact hP9.mono (zJ hbs _)
    have hV10:qL H10 tg1 b4 b5 b6 b7 bm (.slice av G.length cv) true om' (G ++ [(t,(s,[]))]):=by rw [hH10]; exact hV9.mono (zJ hbs _)
    rw [← hH10]
    refine⟨?_,?_⟩
    ·simp only [w610,go_sem]
    refine qY (by intro x h; cases h) (by intro f a h; cases h) (by simp only [go_sem]) (fun _=>zGD (n:=G.length) (row:=xE zn G dv gv fv) (row':=xE zn (G ++ [(t,(s,[]))]) (yX dv G.length dv') (yX gv G.length gv') (yX fv G.length (.slice none 0 0))) ?_ ?_ ?_ ?_ hbs10 rfl ?_ hP10.own (fun _ _=>rfl) (fun i hi=>yGI zn G _ dv gv fv _ _ _ i hi) (zSo zn G _ dv gv fv _ _ _) (by omega) (by omega) (by omega) ?_) (fun hg=>by simp only [go_sem] at hg)
    ·simp only [go_sem,Nat.reduceEqDiff]
    ·simp only [go_sem,Nat.reduceEqDiff]
    ·simp only [go_sem,Nat.reduceEqDiff]
    ·simp only [go_sem,Nat.reduceEqDiff]
    ·simp only [pF,od,og,go_sem]
    intro v' H11 b' hO11 hkeep hnew
    obtain⟨va,vc,hv'⟩:=hO11.sl
    subst hv'
    have hP11:=hP10.push hO11 hkeep hnew hd9 hg9
    have hV11:=hV10.push hP10 (t:=5) (by omega) hP10.otag hkeep hnew
    have w611:=hV11.v6
    have hP12:=hP11.put (.row [.slice va (G.length + 1) vc] 1 true) hV11.t6 (by omega)
    have hV12:=hV11.st6 (.slice va (G.length + 1) vc)
    have e21:decide (((G.length + 1:Nat):Int) > 20000)=false:=by rw [decide_eq_false_iff_not]; omega
    obtain⟨H12,hH12⟩:∃ y,y=H11.put b6 (.row [.slice va (G.length + 1) vc] 1 true):=⟨_,rfl⟩
    rw [← hH12] at hP12 hV12
    have w612:=hV12.v6
    simp only [w611,jW,go_sem,Nat.reduceLeDiff,Nat.reduceEqDiff,Nat.reduceBEq,Nat.reduceAdd,zC]
    rw [← hH12]
    simp only [w612,e21,go_sem,Nat.reduceEqDiff,Nat.reduceBEq]
    have hPX:=hP12
    have hVX:=hV12
    have hiX:G.length < (G ++ [(t,(s,[]))]).length:=by simp
    have hfS:=hPX.fresh G.length hiX
    obtain⟨fa,fc,hfv⟩:=hfS.sl
    have hspb:((G ++ [(t,(s,[]))]).getD G.length default).2.2.length≤14000:=by simp
    obtain ⟨b0, cap, hob, hve, hHb0⟩ : ∃ b0 cap, some b' = some b0 ∧ Value.slice va (G.length + 1) vc = .slice (some ⟨b0, 0, none⟩) (G ++ [(t, (s, []))]).length cap ∧ H12 b0 = some (.row (flat (G ++ [(t, (s, []))]).length (xE zn (G ++ [(t, (s, []))]) (yX dv G.length dv') (yX gv G.length gv') (yX fv G.length (.slice none 0 0)))) (cap * 8) true) := by
     have hown:=hPX.own
     cases hobb:(some b') with
     | none=>rw [hobb] at hown; have:=hown.2; omega
     | some b0 =>
      rw [hobb] at hown
      obtain⟨cap,h1,h2⟩:=hown
      exact⟨b0,cap,rfl,h1,h2⟩
    have hget:=zIp zn (G ++ [(t,(s,[]))]) (yX dv G.length dv') (yX gv G.length gv') (yX fv G.length (.slice none 0 0)) hiX
    have hfl8:=xS (n:=(G ++ [(t,(s,[]))]).length) (sz:=8) (row:=xE zn (G ++ [(t,(s,[]))]) (yX dv G.length dv') (yX gv G.length gv') (yX fv G.length (.slice none 0 0))) (fun _ _=>rfl)
    rw [hfv] at hget
    have w6X:=hVX.v6
    rw [hve] at w6X
    have b06:b0≠b6:=wX (hPX.otag b0 hob) hVX.t6 (by omega)
    obtain⟨FL,hFL⟩:∃ y,y=flat (G ++ [(t,(s,[]))]).length (xE zn (G ++ [(t,(s,[]))]) (yX dv G.length dv') (yX gv G.length gv') (yX fv G.length (.slice none 0 0))):=⟨_,rfl⟩
    rw [← hFL] at hHb0 hget hfl8
    simp only [zIh,w6X,hHb0,hget,toNat_ofNat',zEh,go_sem,Nat.reduceLeDiff,Nat.reduceEqDiff,Nat.reduceBEq,Nat.reduceAdd]
    refine⟨⟨by omega,by omega⟩,by omega,?_⟩
    intro bt hbt
    obtain⟨HY,hHY⟩:∃ y,y=(H12).put bt (.row [.int .i64 c.from_,.int .i64 c.till] 2 true):=⟨_,rfl⟩
    have leY:(H12).le HY:=by rw [hHY]; exact zJ hbt _
    have w6Y:=leY _ _ w6X
    have hY0:=leY _ _ hHb0
    have hYt:HY bt=some (.row [.int .i64 c.from_,.int .i64 c.till] 2 true):=by rw [hHY,Hp.put_same]
    have hPY:=hPX.mono leY
    have hVY:=hVX.mono leY
    have hfY:=hPY.fresh G.length hiX
    rw [hfv] at hfY
    rw [← hHY]
    refine⟨?_,?_⟩
    ·simp only [w6Y,hY0,hget,go_sem]
     omega
    refine qY (by intro x h; cases h) (by intro f a h; cases h) (by simp only [go_sem]) (fun _=>zGD (n:=((G ++ [(t,(s,[]))]).getD G.length default).2.2.length) (row:=yM ((G ++ [(t,(s,[]))]).getD G.length default).2.2) (row':=yM (((G ++ [(t,(s,[]))]).getD G.length default).2.2 ++ [xR c])) ?_ ?_ ?_ ?_ hYt rfl ?_ hfY (fun _ _=>rfl) (fun i hi=>zSc _ _ i hi) (zKG _ _) (by omega) (by omega) (by omega) ?_) (fun hg=>by simp only [go_sem] at hg)
    ·simp only [go_sem,Nat.reduceEqDiff]
    ·simp only [go_sem,Nat.reduceEqDiff]
    ·simp only [go_sem,Nat.reduceEqDiff]
    ·simp only [go_sem,Nat.reduceEqDiff]
    ·simp only [go_sem]
    intro vq HZ bq hOq hkeepq hnewq
    obtain⟨qa,qc,hvq⟩:=hOq.sl
    subst hvq
    have n0:=hPY.ne_new (hPY.otag b0 hob) (hPY.ftag G.length hiX) (by omega) hnewq
    have hZ0:=hkeepq b0 _ hY0 n0.2
    have n6:=hPY.ne_new hVY.t6 (hPY.ftag G.length hiX) (by omega) hnewq
    have w6Z:=hkeepq b6 _ w6Y n6.2
    have hPZ:=hPY.pushF hiX hve hob hOq hkeepq hnewq
    have hVZ:=(hVY.push hPY (t:=6 + G.length) (by omega) (hPY.ftag G.length hiX) hkeepq hnewq).put (.row (flat (G ++ [(t,(s,[]))]).length (xE zn (G ++ [(t,(s,[]))]) (yX dv G.length dv') (yX gv G.length gv') (yX (yX fv G.length (.slice none 0 0)) G.length (.slice qa (((G ++ [(t,(s,[]))]).getD G.length default).2.2.length + 1) qc)))) (cap * 8) true) (zAA (hPY.otag b0 hob) n0.1 n0.2) (by omega)
    have hspl:=zEz (zn:=zn) (G:=G ++ [(t,(s,[]))]) (dv:=yX dv G.length dv') (gv:=yX gv G.length gv') (fv:=yX fv G.length (.slice none 0 0)) hiX (.slice qa (((G ++ [(t,(s,[]))]).getD G.length default).2.2.length + 1) qc)
    rw [← hFL] at hspl
    have hb8:G.length * 8 + 6 + 1≤FL.length:=by omega
    simp only [w6Z,hZ0,jW,toNat_ofNat',hspl,hb8,go_sem,Nat.reduceLeDiff,Nat.reduceEqDiff,Nat.reduceBEq,Nat.reduceAdd,zC]
    refine⟨⟨by omega,by rw [List.length_append,List.length_singleton]; omega⟩,hlj,hjs,?_⟩
    have e1:(G ++ [(t,(s,([]:List zO)))]).getD G.length default=(t,(s,[])):=by simp
    have hGeq:(G ++ [(t,(s,([]:List zO)))]).set G.length (t,(s,[] ++ [xR c]))=(G ++ [(t,(s,[]))]).set G.length (((G ++ [(t,(s,[]))]).getD G.length default).1,(((G ++ [(t,(s,[]))]).getD G.length default).2.1,((G ++ [(t,(s,[]))]).getD G.length default).2.2 ++ [xR c])):=by rw [e1]
    rw [hstep,hpn.1,hGeq]
    exact⟨K2,_,_,_,_,_,_,_,om',kl.trans kle,hPZ,hVZ.congr (zXD _ rfl)⟩
   | some i =>
    have hpo:=zSE (sp:=xR c) (G:=G) (s:=s) (i:=i) (by rw [← ht]; exact hg)
    rw [← ht] at hpo
    have e20:decide ((G.length:Int) > 20000)=false:=by rw [decide_eq_false_iff_not]; omega
    simp only [Option.map_some,w6,k8,e20,go_sem,Nat.reduceLT,Nat.reduceEqDiff,Nat.reduceBEq,Nat.reduceAdd,zC]
    have hPX:=hP
    have hVX:=hV
    have hiX:i < (G).length:=hpo.1
    have hfS:=hPX.fresh i hiX
    obtain⟨fa,fc,hfv⟩:=hfS.sl
    have hspb:((G).getD i default).2.2.length≤14000:=Nat.le_trans (hGsp _ (yN hpo.1)) (by omega)
    obtain ⟨b0, cap, hob, hve, hHb0⟩ : ∃ b0 cap, ob = some b0 ∧ Value.slice av G.length cv = .slice (some ⟨b0, 0, none⟩) (G).length cap ∧ H7 b0 = some (.row (flat (G).length (xE zn (G) (dv) (gv) (fv))) (cap * 8) true) := by
     have hown:=hPX.own
     cases hobb:(ob) with
     | none=>rw [hobb] at hown; have:=hown.2; omega
     | some b0 =>
      rw [hobb] at hown
      obtain⟨cap,h1,h2⟩:=hown
      exact⟨b0,cap,rfl,h1,h2⟩
    have hget:=zIp zn (G) (dv) (gv) (fv) hiX
    have hfl8:=xS (n:=(G).length) (sz:=8) (row:=xE zn (G) (dv) (gv) (fv)) (fun _ _=>rfl)
    rw [hfv] at hget
    have w6X:=hVX.v6
    rw [hve] at w6X
    have b06:b0≠b6:=wX (hPX.otag b0 hob) hVX.t6 (by omega)
    obtain⟨FL,hFL⟩:∃ y,y=flat (G).length (xE zn (G) (dv) (gv) (fv)):=⟨_,rfl⟩
    rw [← hFL] at hHb0 hget hfl8
    simp only [zIh,w6X,hHb0,hget,toNat_ofNat',zEh,go_sem,Nat.reduceLeDiff,Nat.reduceEqDiff,Nat.reduceBEq,Nat.reduceAdd]
    refine⟨⟨by omega,by omega⟩,by omega,?_⟩
    intro bt hbt
    obtain⟨HY,hHY⟩:∃ y,y=(H7).put bt (.row [.int .i64 c.from_,.int .i64 c.till] 2 true):=⟨_,rfl⟩
    have leY:(H7).le HY:=by rw [hHY]; exact zJ hbt _
    have w6Y:=leY _ _ w6X
    have hY0:=leY _ _ hHb0
    have hYt:HY bt=some (.row [.int .i64 c.from_,.int .i64 c.till] 2 true):=by rw [hHY,Hp.put_same]
    have hPY:=hPX.mono leY
    have hVY:=hVX.mono leY
    have hfY:=hPY.fresh i hiX
    rw [hfv] at hfY
    rw [← hHY]
    refine⟨?_,?_⟩
    ·simp only [w6Y,hY0,hget,go_sem]
     omega
    refine qY (by intro x h; cases h) (by intro f a h; cases h) (by simp only [go_sem]) (fun _=>zGD (n:=((G).getD i default).2.2.length) (row:=yM ((G).getD i default).2.2) (row':=yM (((G).getD i default).2.2 ++ [xR c])) ?_ ?_ ?_ ?_ hYt rfl ?_ hfY (fun _ _=>rfl) (fun i hi=>zSc _ _ i hi) (zKG _ _) (by omega) (by omega) (by omega) ?_) (fun hg=>by simp only [go_sem] at hg)
    ·simp only [go_sem,Nat.reduceEqDiff]
    ·simp only [go_sem,Nat.reduceEqDiff]
    ·simp only [go_sem,Nat.reduceEqDiff]
    ·simp only [go_sem,Nat.reduceEqDiff]
    ·simp only [go_sem]
    intro vq HZ bq hOq hkeepq hnewq
    obtain⟨qa,qc,hvq⟩:=hOq.sl
    subst hvq
    have n0:=hPY.ne_new (hPY.otag b0 hob) (hPY.ftag i hiX) (by omega) hnewq
    have hZ0:=hkeepq b0 _ hY0 n0.2
    have n6:=hPY.ne_new hVY.t6 (hPY.ftag i hiX) (by omega) hnewq
    have w6Z:=hkeepq b6 _ w6Y n6.2
    have hPZ:=hPY.pushF hiX hve hob hOq hkeepq hnewq
    have hVZ:=(hVY.push hPY (t:=6 + i) (by omega) (hPY.ftag i hiX) hkeepq hnewq).put (.row (flat (G).length (xE zn (G) (dv) (gv) (yX (fv) i (.slice qa (((G).getD i default).2.2.length + 1) qc)))) (cap * 8) true) (zAA (hPY.otag b0 hob) n0.1 n0.2) (by omega)
    have hspl:=zEz (zn:=zn) (G:=G) (dv:=dv) (gv:=gv) (fv:=fv) hiX (.slice qa (((G).getD i default).2.2.length + 1) qc)
    rw [← hFL] at hspl
    have hb8:i * 8 + 6 + 1≤FL.length:=by omega
    simp only [w6Z,hZ0,jW,toNat_ofNat',hspl,hb8,go_sem,Nat.reduceLeDiff,Nat.reduceEqDiff,Nat.reduceBEq,Nat.reduceAdd,zC]
    refine⟨⟨by omega,by omega⟩,hlj,hjs,?_⟩
    rw [hstep,hpo.2.2,← hpo.2.1]
    exact⟨K,_,_,_,_,_,_,_,om,kl,hPZ,hVZ.congr (zXD _ rfl)⟩
  ·have hdj:decide ((j:Int) < (c.sets.length:Int))=false:=by simpa using hlj
   have:j=c.sets.length:=by omega
   subst this
   simp only [hdj,go_sem,Nat.reduceEqDiff,Nat.reduceBEq,Nat.reduceAdd,reduceCtorEq,zC]
   have hl1:∀ y:List Value,(pre ++ [y]).length=m + 1:=fun y=>by simp [hm]
   have hd1:decide (0 < m + 1)=true:=by simp
   rw [hl1,hnext,hd1]
   exact hst6
 ·rintro xs H' rfl hst
  have hil:(itC (fun c=>c.apex == zn) h.copies z).length=(wD h.copies zn).length:=by rw [hidx,List.length_map,zEg]
  rw [hil] at hst
  obtain⟨GX,hGX⟩:∃ y,y=kN h.copies zn:=⟨_,rfl⟩
  change zCv H0 zn b4 b5 b6 b7 bm (kN h.copies zn) _ H' at hst
  rw [← hGX] at hst hsp' ⊢
  obtain⟨K,tg1,v,dv,gv,fv,ob,fb,om,kl,hP,hV⟩:=hst
  obtain⟨av,cv,hav⟩:=hP.own.sl
  subst hav
  have w4:=hV.v4
  have w5:=hV.v5
  have w6:=hV.v6
  have w7:=hV.v7
  have kle:=leH0.trans kl
  have k4n:=(hP.tag _ _ hV.t4).1
  have k5n:=(hP.tag _ _ hV.t5).1
  have hfl:=zEg h.copies zn
  cases hq:decide (0 < (wD h.copies zn).length)
  ·have hnil : wW h.copies zn = [] := by
    rw [decide_eq_false_iff_not] at hq
    exact List.length_eq_zero_iff.1 (by omega)
   rw [hq] at w7
   simp only [w7,w4,w5,hnil,yL,n45,Ne.symm n45,go_sem,Nat.reduceEqDiff,Nat.reduceBEq]
   exact⟨zH (zH (kle.trans hP.le) hH4 _) hH5 _,fun h=>absurd rfl h⟩
  have hnn : wW h.copies zn ≠ [] := by
   rw [decide_eq_true_eq] at hq
   intro e
   rw [e,List.length_nil] at hfl
   omega
  rw [hq] at w7
  simp only [w7,w6,go_sem,Nat.reduceEqDiff,Nat.reduceBEq]
  obtain⟨K3,hK3⟩:∃ y:Hp,y=fun c=>if tg1 c=some 5∨tg1 c=some 0∨tg1 c=some 1 then none else H' c:=⟨_,rfl⟩
  have k3le : K3.le H' := fun c o hc => by
   rw [hK3] at hc
   simp only at hc
   split at hc
   ·cases hc
   ·exact hc
  have k3of : ∀ c, tg1 c ≠ some 5 → tg1 c ≠ some 0 → tg1 c ≠ some 1 → K3 c = H' c := fun c h1 h2 h3 => by
   rw [hK3]
   simp only
   rw [if_neg]
   rintro(h | h | h)
   ·exact h1 h
   ·exact h2 h
   ·exact h3 h
  have k3none : ∀ c t, tg1 c = some t → (t = 5 ∨ t = 0 ∨ t = 1) → K3 c = none := fun c t h1 h2 => by
   rw [hK3]
   simp only
   rw [if_pos]
   rcases h2 with rfl | rfl | rfl
   ·exact .inl h1
   ·exact .inr (.inl h1)
   ·exact .inr (.inr h1)
  have kK3 : K.le K3 := fun c o hc => by
   have hn:∀ t,tg1 c≠some t:=fun t ht=>by rw [(hP.tag _ _ ht).1] at hc; cases hc
   rw [k3of c (hn 5) (hn 0) (hn 1)]
   exact hP.le _ _ hc
  have k36 : K3 b6 = some (.row [.slice av GX.length cv] 1 true) := by
   rw [k3of b6 (by rw [hV.t6]; simp) (by rw [hV.t6]; simp) (by rw [hV.t6]; simp)]; exact w6
  have hfr : ∀ i, i < GX.length → wR K3 (fv i) (GX.getD i default).2.2 := fun i hi => by
   refine xX.at ((hP.fresh i hi).keep fun c hc=>?_) (fun _ _=>rfl)
   have:=hP.ftag i hi c hc
   exact k3of c (by rw [this]; intro h; have:=Option.some.inj h; omega) (by rw [this]; intro h; have:=Option.some.inj h; omega) (by rw [this]; intro h; have:=Option.some.inj h; omega)
  refine yK GX.length 0 (fun k fr' HX => fr' = [(4, ⟨true, .val (.pointer (some ⟨b4, 0, none⟩))⟩), (5, ⟨true, .val (.pointer (some ⟨b5, 0, none⟩))⟩), (6, ⟨true, .val (.pointer (some ⟨b6, 0, none⟩))⟩), (82, ⟨true, .val (.int .i64 GX.length)⟩), (83, ⟨true, .val (.int .i64 k)⟩)] ∧
   ∃ K4 fv', K3.le K4 ∧ K4.le HX ∧ (∀ b, ob = some b → K4 b = none) ∧ K4 b4 = none ∧ K4 b5 = none ∧ HX b4 = some (.row [.slice none 0 0] 1 true) ∧ HX b5 = some (.row [.int .i64 0] 1 true) ∧
    xX HX 8 (.slice av GX.length cv) GX.length (xE zn GX dv gv fv') ob∧∀ i,i < GX.length→wR K4 (fv' i) (if i < k then yC (GX.getD i default).2.2 else (GX.getD i default).2.2)) (Nat.zero_le _)
   ⟨rfl,K3,fv,Hp.le.refl _,k3le,fun b hb=>k3none b 5 (hP.otag b hb) (.inl rfl),k3none _ _ hV.t4 (.inr (.inl rfl)),k3none _ _ hV.t5 (.inr (.inr rfl)),w4,w5,hP.own,fun i hi=>by rw [if_neg (by omega)]; exact hfr i hi⟩ ?_
  rintro k fr' HX hk ⟨rfl,K4,fv',k34,k4le,k4ob,k44,k45,x4,x5,hown,hspan⟩
  have x6:=k4le _ _ (k34 _ _ k36)
  by_cases hlt:k < GX.length
  ·have hdk:decide ((k:Int) < (GX.length:Int))=true:=by simpa using hlt
   obtain ⟨b0, cap, hob, hve, hHb0⟩ : ∃ b0 cap, ob = some b0 ∧ Value.slice av GX.length cv = .slice (some ⟨b0, 0, none⟩) GX.length cap ∧ HX b0 = some (.row (flat GX.length (xE zn GX dv gv fv')) (cap * 8) true) := by
    cases hobb:ob with
    | none=>rw [hobb] at hown; have:=hown.2; omega
    | some b0 =>
     rw [hobb] at hown
     obtain⟨cap,h1,h2⟩:=hown
     exact⟨b0,cap,rfl,h1,h2⟩
   have hsk:=hspan k hlt
   rw [if_neg (Nat.lt_irrefl k)] at hsk
   obtain⟨fa,fc,hfv⟩:=zG.sl hsk
   have hget:=zIp zn GX dv gv fv' hlt
   rw [hfv] at hget
   have hspl:=fun x=>zEz (zn:=zn) (G:=GX) (dv:=dv) (gv:=gv) (fv:=fv') hlt x
   have hfl8:=xS (n:=GX.length) (sz:=8) (row:=xE zn GX dv gv fv') (fun _ _=>rfl)
   obtain⟨FL,hFL⟩:∃ y,y=flat GX.length (xE zn GX dv gv fv'):=⟨_,rfl⟩
   rw [← hFL] at hHb0 hget hfl8 hspl
   have hb8:k * 8 + 6 + 1≤FL.length:=by omega
   rw [hve] at x6
   have hks : IntKind.i64.wrap ((k : Int) + 1) = ((k + 1 : Nat) : Int) := zR (by
    have:=zFL (B:=1000) (fs:=wD h.copies zn) (fun i hi=>by rw [zCT (by omega)]; exact hsz'.sets _ (zEq (by omega))) (wD h.copies zn).length (Nat.le_refl _)
    have h1:(wW h.copies zn).length≤(List.range h.copies.length).length:=List.length_filter_le _ _
    rw [List.length_range] at h1
    have h2:GX.length=(kW (wD h.copies zn) (wD h.copies zn).length).length:=by rw [hGX]; rfl
    omega)
   have hspk:=hsp' _ (yN hlt)
   have hcall:=(yTD hE h2 h3 (by rw [hfv] at hsk; exact hsk) hspk.1 hspk.2).frame k4le
   simp only [hdk,go_sem,Nat.reduceEqDiff,Nat.reduceBEq,zC]
   simp only [zRf,x6,hHb0,hget,hb8,toNat_ofNat',go_sem,Nat.reduceEqDiff,Nat.reduceBEq]
   refine⟨⟨by omega,by omega⟩,?_⟩
   refine zEp (by simp only [go_sem,Nat.reduceEqDiff]) hcall ?_
   rintro u HY ⟨K5,⟨w,ob2,hu,q1,q2,q3⟩,k5le,kfr⟩
   subst hu
   obtain⟨wa,wc,hw⟩:=q1.sl
   subst hw
   have y6:=k5le _ _ (q2 _ _ (k34 _ _ k36))
   rw [hve] at y6
   have yb:=kfr b0 _ hHb0 (k4ob b0 hob)
   have y4:=kfr b4 _ x4 k44
   have y5:=kfr b5 _ x5 k45
   have y0:=yb.2
   have hspl':=hspl (.slice wa (yC (GX.getD k default).2.2).length wc)
   refine⟨?_,?_⟩
   ·simp only [y6,y0,hget,hb8,toNat_ofNat',go_sem,Nat.reduceEqDiff,Nat.reduceBEq]
   simp only [y0,hb8,jW,hspl',toNat_ofNat',go_sem,Nat.reduceLT,Nat.reduceEqDiff,Nat.reduceBEq,Nat.reduceAdd,zC]
   have z4 : (HY.put b0 (.row (flat GX.length (xE zn GX dv gv (yX fv' k (.slice wa (yC (GX.getD k default).2.2).length wc)))) (cap * 8) true)) b4 = HX b4 := by
    rw [Hp.put_ne _ _ (wX hV.t4 (hP.otag b0 hob) (by omega)),y4.2,x4]
   have z5 : (HY.put b0 (.row (flat GX.length (xE zn GX dv gv (yX fv' k (.slice wa (yC (GX.getD k default).2.2).length wc)))) (cap * 8) true)) b5 = HX b5 := by
    rw [Hp.put_ne _ _ (wX hV.t5 (hP.otag b0 hob) (by omega)),y5.2,x5]
   refine⟨⟨by omega,by omega⟩,hlt,hks,K5,yX fv' k (.slice wa (yC (GX.getD k default).2.2).length wc),k34.trans q2,zH k5le yb.1 _,?_,y4.1,y5.1,z4.trans x4,z5.trans x5,?_,?_⟩
   ·intro b hb
    rw [hob] at hb; cases hb
    exact yb.1
   ·rw [hve,hob]
    exact⟨cap,rfl,Hp.put_same ..⟩
   ·intro i hi
    by_cases e:i=k
    ·subst e
     rw [if_pos (by omega)]
     simp only [yX,if_true]
     exact q1.at
    ·have hsi:=(hspan i hi).mono q2
     simp only [yX,if_neg e]
     by_cases h1:i < k
     ·rw [if_pos h1] at hsi
      rw [if_pos (by omega)]; exact hsi
     ·rw [if_neg h1] at hsi
      rw [if_neg (by omega)]; exact hsi
  ·have hdk:decide ((k:Int) < (GX.length:Int))=false:=by simpa using hlt
   have:k=GX.length:=by omega
   subst this
   simp only [hdk,x6,x4,x5,yL,n45,Ne.symm n45,go_sem,Nat.reduceEqDiff,Nat.reduceBEq,zC]
   have kfin:K4.le ((HX.put b4 (.row [.slice av GX.length cv] 1 true)).put b5 (.row [.int .i64 0] 1 true)):=zH (zH k4le k44 _) k45 _
   refine⟨(kle.trans (kK3.trans k34)).trans kfin,fun e=>absurd e hnn,fun _=>⟨_,dv,gv,fv',rfl,?_,?_⟩⟩
   ·refine xX.at (hown.keep fun b hb=>?_) (fun _ _=>rfl)
    rw [Hp.put_ne _ _ (wX (hP.otag b hb) hV.t5 (by omega)),Hp.put_ne _ _ (wX (hP.otag b hb) hV.t4 (by omega))]
   ·intro i hi
    have hsi:=hspan i hi
    rw [if_pos hi] at hsi
    exact⟨xF.mono (hP.data i hi).1 ((kK3.trans k34).trans kfin),xL.mono (hP.data i hi).2 ((kK3.trans k34).trans kfin),zG.mono hsi kfin⟩
end Go.SL
